/- The reference's rises, plainly: putting one into the row; all of them. -/
import Derived.Test.YtbfjknpljkmgjaaRisH
import Derived.Test.YtbfjknpljkmgjaaIns
namespace Go.Proofs.Ytbfjknpljkmgjaa
open Go.ChangeShapes Go.WideShapes Go.ChangeAt Go.RowKit Go.Shelf Go.Lib Go.Sort Go.Proofs
set_option linter.unusedVariables false
set_option linter.unusedSimpArgs false

def lessP (r y : RiseV) : Bool := !riseLt r y
def insR (r : RiseV) (l : List RiseV) : List RiseV := insV (lessP r) r l
/-- What the inner loop has made of the first ones. -/
def partR (r : RiseV) (xs : List RiseV) : List RiseV := if xs.any (riseLt r) = true then insR r xs else xs
theorem insR_any {r : RiseV} {ys : List RiseV} : ∀ {xs : List RiseV}, xs.any (riseLt r) = true → insR r (xs ++ ys) = insR r xs ++ ys
  | [], h => by simp at h
  | a :: xs, h => by
    unfold insR
    rw [List.cons_append, insV_cons, insV_cons]
    by_cases ha : riseLt r a = true
    · have : ¬ lessP r a = true := by simp [lessP, ha]
      rw [if_neg this, if_neg this]
      simp
    · have hp : lessP r a = true := by simp [lessP]; simpa using ha
      rw [if_pos hp, if_pos hp]
      have h' : xs.any (riseLt r) = true := by simpa [ha] using h
      have := insR_any (ys := ys) h'
      unfold insR at this
      rw [this]
      simp
theorem insR_end {r : RiseV} {ys : List RiseV} (hy : insR r ys = r :: ys) : ∀ {xs : List RiseV}, xs.any (riseLt r) = false → insR r (xs ++ ys) = xs ++ r :: ys
  | [], h => by simpa using hy
  | a :: xs, h => by
    rw [List.any_cons, Bool.or_eq_false_iff] at h
    have := insR_end hy h.2
    unfold insR at this ⊢
    rw [List.cons_append, insV_cons, if_pos (by simp [lessP, h.1]), this]
    simp
theorem insR_nil (r : RiseV) : insR r [] = [r] := by simp [insR, insV, insAt]
theorem partR_nil (r : RiseV) : partR r [] = [] := by simp [partR]
theorem partR_snoc (r y : RiseV) (xs : List RiseV) : partR r (xs ++ [y]) = partR r xs ++ (if (!xs.any (riseLt r) && riseLt r y) = true then [r] else []) ++ [y] := by
  unfold partR
  rw [List.any_append]
  by_cases h : xs.any (riseLt r) = true
  · rw [if_pos (by rw [h]; rfl), if_pos h, insR_any h, h]
    simp
  · have h' : xs.any (riseLt r) = false := by simpa using h
    by_cases hy : riseLt r y = true
    · have e : insR r [y] = [r, y] := by
        unfold insR
        rw [insV_cons, if_neg (by simp [lessP, hy])]
      rw [if_pos (by rw [h']; simp [hy]), if_neg h, insR_end e h', h', hy]
      simp
    · have hy' : riseLt r y = false := by simpa using hy
      rw [if_neg (by rw [h']; simp [hy']), if_neg h, h', hy']
      simp
theorem partR_fin (r : RiseV) (xs : List RiseV) : partR r xs ++ (if (!xs.any (riseLt r)) = true then [r] else []) = insR r xs := by
  unfold partR
  by_cases h : xs.any (riseLt r) = true
  · rw [if_pos h, if_neg (by rw [h]; simp), List.append_nil]
  · have h' : xs.any (riseLt r) = false := by simpa using h
    have := insR_end (insR_nil r) h'
    rw [List.append_nil] at this
    rw [if_neg h, if_pos (by rw [h']; rfl), this]
theorem partR_len (r : RiseV) (xs : List RiseV) : (partR r xs).length ≤ xs.length + 1 := by
  unfold partR
  split
  · unfold insR; rw [insV_len]; omega
  · omega
theorem insR_mem (r : RiseV) (l : List RiseV) (x : RiseV) : x ∈ insR r l ↔ x = r ∨ x ∈ l := by
  unfold insR
  rw [(insV_perm _ _ _).mem_iff, List.mem_cons]
theorem insR_len (r : RiseV) (l : List RiseV) : (insR r l).length = l.length + 1 := insV_len _ _ _

/-- The row, as far as the adds have been looked at. -/
def AllAt (wd : Int) (hist : List AddD) (span b floor : Int) (ks : List AddD) (out : List RiseV) : Prop :=
  out.Pairwise (fun x y => riseLt x y = true) ∧ (∀ r, r ∈ out ↔ (r = riseOf wd hist span b r.key ∧ 1 ≤ r.new ∧ floor ≤ r.new) ∧ ∃ a ∈ ks, a.key = r.key) ∧ out.length ≤ ks.length
theorem AllAt.nil (wd : Int) (hist : List AddD) (span b floor : Int) : AllAt wd hist span b floor [] [] := ⟨List.Pairwise.nil, fun r => by simp, by simp⟩
theorem AllAt.skip {wd : Int} {hist : List AddD} {span b floor : Int} {ks : List AddD} {out : List RiseV} (h : AllAt wd hist span b floor ks out) {a : AddD}
    (ha : (∃ x ∈ ks, x.key = a.key) ∨ (riseOf wd hist span b a.key).new < 1 ∨ (riseOf wd hist span b a.key).new < floor) : AllAt wd hist span b floor (ks ++ [a]) out := by
  refine ⟨h.1, fun r => ?_, by rw [List.length_append]; have := h.2.2; omega⟩
  rw [h.2.1]
  constructor
  · rintro ⟨h1, x, hx, e⟩; exact ⟨h1, x, by simp [hx], e⟩
  · rintro ⟨h1, x, hx, e⟩
    refine ⟨h1, ?_⟩
    rw [List.mem_append] at hx
    rcases hx with hx | hx
    · exact ⟨x, hx, e⟩
    · simp at hx
      subst hx
      rcases ha with ⟨y, hy, ey⟩ | ha
      · exact ⟨y, hy, ey.trans e⟩
      · exfalso
        have := congrArg RiseV.new h1.1
        rw [← e] at this
        omega
theorem AllAt.put {w : World} {pb : Nat} {F : Nat → Prop} {wd : Int} {hist : List AddD} {span b floor : Int} {ks : List AddD} {out : List RiseV} (hO : PaneObj w pb F wd hist) (h : AllAt wd hist span b floor ks out) {a : AddD}
    (h1 : ¬ ∃ x ∈ ks, x.key = a.key) (h2 : 1 ≤ (riseOf wd hist span b a.key).new) (h3 : floor ≤ (riseOf wd hist span b a.key).new) : AllAt wd hist span b floor (ks ++ [a]) (insR (riseOf wd hist span b a.key) out) := by
  have hok : ∀ r, r = riseOf wd hist span b r.key → 1 ≤ r.new → RiseOk r := by
    intro r e hr
    rw [e]
    refine riseOf_ok hO span b ?_
    have := congrArg RiseV.new e
    have e2 : (riseOf wd hist span b r.key).new = histTot wd hist r.key ((b - span) / wd) (b / wd) := rfl
    omega
  have hoka := hok (riseOf wd hist span b a.key) rfl h2
  refine ⟨?_, fun r => ?_, by rw [insR_len, List.length_append]; have := h.2.2; simp; omega⟩
  · obtain ⟨L, hL⟩ := okRise_map out (fun r hr => hok r ((h.2.1 r).1 hr).1.1 ((h.2.1 r).1 hr).1.2.1)
    have hs := h.1
    rw [← hL] at hs
    rw [List.pairwise_map] at hs
    have hq := insV_sorted (ltOf okCmp) okLt_tr (fun y => lessP (riseOf wd hist span b a.key) y.1) (⟨riseOf wd hist span b a.key, hoka⟩ : OkRise) L hs (fun y hy => by
      refine ⟨fun hp => ?_, fun hp => ?_⟩
      · have hp' : riseLt (riseOf wd hist span b a.key) y.1 = false := by simpa [lessP] using hp
        cases hc : ltOf okCmp y ⟨riseOf wd hist span b a.key, hoka⟩ with
        | true => rfl
        | false =>
          exfalso
          have e := okLt_tot y ⟨_, hoka⟩ hc hp'
          have hm : y.1 ∈ out := by rw [← hL]; exact List.mem_map_of_mem hy
          obtain ⟨_, x, hx, ex⟩ := (h.2.1 y.1).1 hm
          exact h1 ⟨x, hx, by rw [ex, e]; rfl⟩
      · have hp' : riseLt (riseOf wd hist span b a.key) y.1 = true := by simpa [lessP] using hp
        exact hp')
    have e : insR (riseOf wd hist span b a.key) out = (insV (fun y : OkRise => lessP (riseOf wd hist span b a.key) y.1) ⟨riseOf wd hist span b a.key, hoka⟩ L).map (·.1) := by
      rw [← hL]
      clear hq hs hL
      induction L with
      | nil => simp [insR, insV, insAt]
      | cons c L ih =>
        unfold insR at ih ⊢
        rw [List.map_cons, insV_cons, insV_cons, ih]
        split <;> simp
    rw [e, List.pairwise_map]
    exact hq
  · rw [insR_mem, h.2.1]
    constructor
    · rintro (rfl | ⟨h4, x, hx, e⟩)
      · exact ⟨⟨rfl, h2, h3⟩, a, by simp, rfl⟩
      · exact ⟨h4, x, by simp [hx], e⟩
    · rintro ⟨h4, x, hx, e⟩
      rw [List.mem_append] at hx
      rcases hx with hx | hx
      · exact .inr ⟨h4, x, hx, e⟩
      · simp at hx
        subst hx
        left
        rw [h4.1, e]
theorem AllAt.fin {wd : Int} {span now floor : Int} {l : List AddD} {out : List RiseV} (hB : ofB wd span now = true) (h : AllAt wd (l.filter rightB) span (begB wd now) floor l out) : RisesOf wd (l.filter rightB) span now floor out := by
  unfold RisesOf
  rw [if_pos hB]
  refine ⟨h.1, fun r => ?_⟩
  rw [h.2.1]
  constructor
  · rintro ⟨h1, _⟩; exact h1
  · intro h1
    refine ⟨h1, ?_⟩
    have e : r.new = histTot wd (l.filter rightB) r.key ((begB wd now - span) / wd) (begB wd now / wd) := congrArg RiseV.new h1.1
    obtain ⟨a, ha, ek, _⟩ := histTot_key (wd := wd) (hist := l.filter rightB) (key := r.key) (lo := (begB wd now - span) / wd) (hi := begB wd now / wd) (by omega)
    exact ⟨a, (List.mem_filter.1 ha).1, ek⟩

/-- Ticks and panes. -/
theorem pane_ge {wd x y : Int} (hw : 1 ≤ wd) (hx : x % wd = 0) : x / wd ≤ y / wd ↔ x ≤ y := by
  have h := Int.mul_ediv_add_emod x wd
  rw [hx, Int.add_zero] at h
  rw [Int.le_ediv_iff_mul_le (by omega), Int.mul_comm, h]
theorem pane_lt {wd x y : Int} (hw : 1 ≤ wd) (hx : x % wd = 0) : y / wd < x / wd ↔ y < x := by
  have := pane_ge (y := y) hw hx
  omega
end Go.Proofs.Ytbfjknpljkmgjaa
