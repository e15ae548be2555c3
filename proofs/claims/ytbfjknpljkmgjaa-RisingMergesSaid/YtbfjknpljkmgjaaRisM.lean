/- One add more in the new span lets a key's New grow, plainly. -/
import Derived.Test.YtbfjknpljkmgjaaRisJ
namespace Go.Proofs.Ytbfjknpljkmgjaa
open Go.ChangeShapes Go.WideShapes Go.ChangeAt Go.RowKit Go.Shelf Go.Lib Go.Sort Go.Proofs
set_option linter.unusedVariables false
set_option linter.unusedSimpArgs false

theorem anyB_snoc {α : Type} (l : List α) (p : α → Bool) {k : Nat} (hk : k < l.length) : (l.take (k + 1)).any p = ((l.take k).any p || p l[k]) := by
  rw [List.take_succ_eq_append_getElem hk, List.any_append]
  simp
theorem span_div {wd b t : Int} (hw : 1 ≤ wd) (hb : b % wd = 0) : (b - wd * t) / wd = b / wd - t := by
  rw [show b - wd * t = b + wd * (-t) by rw [Int.mul_neg]; omega, Int.add_mul_ediv_left _ _ (by omega)]
  omega
theorem begB_mod {wd now : Int} (hw : 1 ≤ wd) : begB wd now % wd = 0 := by
  unfold begB
  rw [Int.sub_emod, Int.emod_emod_of_dvd _ (Int.dvd_refl _)]
  simp
theorem one_div {wd b : Int} (hw : 1 ≤ wd) (hb : b % wd = 0) : (b - 1) / wd = b / wd - 1 := by
  have h := Int.mul_ediv_add_emod b wd
  rw [hb, Int.add_zero] at h
  have e : b - 1 = (wd - 1) + wd * (b / wd - 1) := by rw [Int.mul_sub, h]; omega
  rw [e, Int.add_mul_ediv_left _ _ (by omega), Int.ediv_eq_zero_of_lt (by omega) (by omega)]
  rw [← h, Int.mul_ediv_cancel_left _ (by omega)]
  omega

theorem riseOf_grow {wd t b n : Int} (hw : 1 ≤ wd) (ht : 1 ≤ t) (hb : b % wd = 0) (hist : List AddD) (key k : ByteArray) :
    riseOf wd (hist ++ [⟨key, b - 1, n⟩]) (wd * t) b k = ⟨k, (riseOf wd hist (wd * t) b k).new + (if key = k then n else 0), (riseOf wd hist (wd * t) b k).old⟩ := by
  unfold riseOf
  rw [histTot_snoc, histTot_snoc]
  simp only [one_div hw hb, span_div hw hb]
  have e1 : (if key = k ∧ (b - 2 * (wd * t)) / wd ≤ b / wd - 1 ∧ b / wd - 1 < b / wd - t then n else 0) = 0 := if_neg (by omega)
  rw [e1, Int.add_zero]
  by_cases hk : key = k
  · rw [if_pos ⟨hk, by omega, by omega⟩, if_pos hk]
  · rw [if_neg (fun h => hk h.1), if_neg hk]

/-- What was told of the key. -/
def oldNew (was : List RiseV) (key : ByteArray) : Int := was.foldl (fun o r => if r.key = key then r.new else o) 0
theorem oldNew_snoc (was : List RiseV) (key : ByteArray) (r : RiseV) : oldNew (was ++ [r]) key = if r.key = key then r.new else oldNew was key := by
  unfold oldNew
  rw [List.foldl_append]
  rfl
theorem oldNew_none {key : ByteArray} : ∀ {was : List RiseV}, (∀ r ∈ was, r.key ≠ key) → oldNew was key = 0 := by
  intro was
  unfold oldNew
  generalize (0 : Int) = z
  induction was generalizing z with
  | nil => intro _; rfl
  | cons a l ih =>
    intro h
    rw [List.foldl_cons, if_neg (h a (by simp))]
    exact ih z (fun r hr => h r (by simp [hr]))
theorem oldNew_some {key : ByteArray} {N : Int} {was : List RiseV} (h : ∀ r ∈ was, r.key = key → r.new = N) (hx : ∃ r ∈ was, r.key = key) : oldNew was key = N := by
  unfold oldNew
  generalize (0 : Int) = z
  induction was generalizing z with
  | nil => obtain ⟨r, hr, _⟩ := hx; simp at hr
  | cons a l ih =>
    rw [List.foldl_cons]
    by_cases hl : ∃ r ∈ l, r.key = key
    · exact ih (fun r hr => h r (by simp [hr])) hl _
    · have : ∀ z : Int, l.foldl (fun o r => if r.key = key then r.new else o) z = z := by
        clear ih hx h
        intro z
        induction l generalizing z with
        | nil => rfl
        | cons c l ih2 =>
          rw [List.foldl_cons, if_neg (fun e => hl ⟨c, by simp, e⟩)]
          exact ih2 (fun ⟨r, hr, e⟩ => hl ⟨r, by simp [hr], e⟩) z
      rw [this]
      obtain ⟨r, hr, e⟩ := hx
      rw [List.mem_cons] at hr
      rcases hr with rfl | hr
      · rw [if_pos e]; exact h r (by simp) e
      · exact absurd ⟨r, hr, e⟩ hl

theorem grows_plain {wd t now n : Int} {hist : List AddD} {key : ByteArray} {was rs : List RiseV} (hw : 1 ≤ wd) (ht : 1 ≤ t) (hn : 1 ≤ n) (hB : ofB wd (wd * t) now = true) (hpos : ∀ k, 0 ≤ histTot wd hist k ((begB wd now - wd * t) / wd) (begB wd now / wd))
    (h : RisesOf wd hist (wd * t) now 0 was) (h' : RisesOf wd (hist ++ [⟨key, begB wd now - 1, n⟩]) (wd * t) now 0 rs) :
    (∀ r ∈ rs, r.key ≠ key → r ∈ was) ∧ (∀ r ∈ rs, r.key = key → r.new = oldNew was key + n) ∧ ∃ r ∈ rs, r.key = key := by
  unfold RisesOf at h h'
  rw [if_pos hB] at h h'
  have hg := riseOf_grow hw ht (begB_mod (now := now) hw) (n := n) hist key
  refine ⟨fun r hr hk => ?_, fun r hr hk => ?_, ?_⟩
  · obtain ⟨e, h1, h2⟩ := (h'.2 r).1 hr
    rw [hg, if_neg (fun e => hk e.symm), Int.add_zero] at e
    refine (h.2 r).2 ⟨?_, h1, by omega⟩
    exact e
  · obtain ⟨e, h1, h2⟩ := (h'.2 r).1 hr
    rw [hg, if_pos hk.symm] at e
    have e1 : r.new = (riseOf wd hist (wd * t) (begB wd now) r.key).new + n := congrArg RiseV.new e
    rw [e1]
    congr 1
    by_cases hz : 1 ≤ (riseOf wd hist (wd * t) (begB wd now) r.key).new
    · refine (oldNew_some (fun x hx hxk => ?_) ⟨riseOf wd hist (wd * t) (begB wd now) r.key, (h.2 _).2 ⟨rfl, hz, by omega⟩, hk⟩).symm
      have := congrArg RiseV.new ((h.2 x).1 hx).1
      rw [this, hxk, hk]
    · rw [oldNew_none]
      · have := hpos r.key
        have h3 : (riseOf wd hist (wd * t) (begB wd now) r.key).new = histTot wd hist r.key ((begB wd now - wd * t) / wd) (begB wd now / wd) := rfl
        omega
      · intro x hx hxk
        obtain ⟨ex, hx1, _⟩ := (h.2 x).1 hx
        have := congrArg RiseV.new ex
        rw [hxk, ← hk] at this
        omega
  · refine ⟨riseOf wd (hist ++ [⟨key, begB wd now - 1, n⟩]) (wd * t) (begB wd now) key, (h'.2 _).2 ⟨rfl, ?_, ?_⟩, rfl⟩
    all_goals
      rw [hg, if_pos rfl]
      have := hpos key
      show _ ≤ histTot wd hist key _ _ + n
      omega
end Go.Proofs.Ytbfjknpljkmgjaa
