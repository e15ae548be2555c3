/- Plain facts on the keys of panes. -/
import Derived.Test.YtmigjlceogofaaaPaneE
import Derived.Test.YtmigjlceogofaaaKitG
namespace Go.Proofs.Ytmigjlceogofaaa
open Go.ChangeShapes Go.WideShapes Go.ChangeAt Go.RowKit Go.Shelf Go.Lib Go.Sort Go.Proofs
set_option linter.unusedVariables false
set_option linter.unusedSimpArgs false

theorem tot_pos_iff (S : SumsL) (hp : ∀ p ∈ S, 0 < p.2) (key : ByteArray) (lo hi : Int) : 0 ≤ tot S key lo hi ∧ (0 < tot S key lo hi ↔ ∃ p ∈ S, p.1.1 = key ∧ lo ≤ p.1.2 ∧ p.1.2 < hi) := by
  induction S with
  | nil => simp [tot_nil]
  | cons p S ih =>
    have ih := ih (fun q hq => hp q (by simp [hq]))
    have h0 := hp p (by simp)
    rw [tot_cons]
    by_cases hc : p.1.1 = key ∧ lo ≤ p.1.2 ∧ p.1.2 < hi
    · rw [if_pos hc]
      exact ⟨by omega, ⟨fun _ => ⟨p, by simp, hc⟩, fun _ => by omega⟩⟩
    · rw [if_neg hc]
      refine ⟨by omega, ?_⟩
      rw [Int.zero_add, ih.2]
      constructor
      · rintro ⟨q, hq, r⟩; exact ⟨q, by simp [hq], r⟩
      · rintro ⟨q, hq, r⟩
        rcases List.mem_cons.1 hq with rfl | hq
        · exact absurd r hc
        · exact ⟨q, hq, r⟩

def inR (lo hi n : Int) : Bool := decide (lo ≤ n) && decide (n < hi)

section
variable {wd : Int} {S : SumsL} {R : RowsL} {hist : List AddD}
theorem row_any (h : PaneInv wd S R hist) {p : ByteArray × RowV} (hp : p ∈ R) (lo hi : Int) : p.2.ns.any (inR lo hi) = true ↔ 0 < histTot wd hist p.1 lo hi := by
  rw [← h.same, (tot_pos_iff S h.pos p.1 lo hi).2, List.any_eq_true]
  constructor
  · rintro ⟨n, hn, hb⟩
    have hs := (h.rowM p hp n).1 hn
    obtain ⟨q, hq, e⟩ := mget_isSome_iff.1 hs
    simp [inR] at hb
    exact ⟨q, hq, by rw [e], by rw [e]; exact hb.1, by rw [e]; exact hb.2⟩
  · rintro ⟨q, hq, e, h1, h2⟩
    exact ⟨q.1.2, (h.rowM p hp _).2 (mget_isSome_iff.2 ⟨q, hq, by rw [← e]⟩), by simp [inR, h1, h2]⟩
theorem keys_mem (h : PaneInv wd S R hist) (lo hi : Int) (k : ByteArray) : k ∈ (R.filter (fun p => p.2.ns.any (inR lo hi))).map (·.1) ↔ 0 < histTot wd hist k lo hi := by
  constructor
  · intro hk
    obtain ⟨p, hp, rfl⟩ := List.mem_map.1 hk
    rw [List.mem_filter] at hp
    exact (row_any h hp.1 lo hi).1 hp.2
  · intro hk
    have hk' := hk
    rw [← h.same, (tot_pos_iff S h.pos k lo hi).2] at hk'
    obtain ⟨q, hq, e, _⟩ := hk'
    have hs := h.rowS q hq
    rw [e] at hs
    obtain ⟨p, hp, e2⟩ := mget_isSome_iff.1 hs
    exact List.mem_map.2 ⟨p, List.mem_filter.2 ⟨hp, (row_any h hp lo hi).2 (by rw [e2]; exact hk)⟩, e2⟩
theorem keys_nodup (h : PaneInv wd S R hist) (q : ByteArray × RowV → Bool) : ((R.filter q).map (·.1)).Nodup := h.nodR.sublist ((List.filter_sublist).map _)
end

theorem histTot_key {wd : Int} : ∀ {hist : List AddD} {key : ByteArray} {lo hi : Int}, histTot wd hist key lo hi ≠ 0 → ∃ a ∈ hist, a.key = key ∧ lo ≤ a.at_ / wd ∧ a.at_ / wd < hi := by
  intro hist key lo hi h
  unfold histTot at h
  cases hl : hist.filter (fun a => decide (a.key = key) && (decide (lo ≤ a.at_ / wd) && decide (a.at_ / wd < hi))) with
  | nil => rw [hl] at h; exact absurd rfl h
  | cons a l =>
    have ha : a ∈ hist.filter (fun a => decide (a.key = key) && (decide (lo ≤ a.at_ / wd) && decide (a.at_ / wd < hi))) := by rw [hl]; simp
    rw [List.mem_filter] at ha
    simp at ha
    exact ⟨a, ha.1, ha.2.1, ha.2.2.1, ha.2.2.2⟩

/-- The keys of which there is something in panes from lo up to hi, rising. -/
def KeysOf (wd : Int) (hist : List AddD) (lo hi : Int) (ks : List ByteArray) : Prop := ks.Pairwise (fun x y => sLt x y = true) ∧ ∀ k, k ∈ ks ↔ 0 < histTot wd hist k lo hi
theorem sLt_nodup {ks : List ByteArray} (h : ks.Pairwise (fun x y => sLt x y = true)) : ks.Nodup := h.imp (fun {x y} h e => by subst e; rw [sLt_irrefl] at h; cases h)
theorem nodup_le {α : Type} [DecidableEq α] : ∀ {l m : List α}, l.Nodup → (∀ x ∈ l, x ∈ m) → l.length ≤ m.length
  | [], m, _, _ => by simp
  | a :: l, m, hn, h => by
    rw [List.nodup_cons] at hn
    have h1 := nodup_le (l := l) (m := m.erase a) hn.2 (fun x hx => (List.mem_erase_of_ne (fun e => hn.1 (by rw [← e]; exact hx))).2 (h x (by simp [hx])))
    have h2 := List.length_erase_of_mem (h a (by simp))
    have h3 : 0 < m.length := List.length_pos_of_mem (h a (by simp))
    simp
    omega
theorem KeysOf.len {wd : Int} {hist : List AddD} {lo hi : Int} {ks : List ByteArray} (h : KeysOf wd hist lo hi ks) : ks.length ≤ hist.length := by
  have := nodup_le (l := ks) (m := hist.map (·.key)) (sLt_nodup h.1) (fun x hx => by
    obtain ⟨a, ha, e, _⟩ := histTot_key (wd := wd) (hist := hist) (key := x) (lo := lo) (hi := hi) (by have := (h.2 x).1 hx; omega)
    exact List.mem_map.2 ⟨a, ha, e⟩)
  simpa using this
theorem perm_of_mem {α : Type} [DecidableEq α] {l m : List α} (hl : l.Nodup) (hm : m.Nodup) (h : ∀ x, x ∈ l ↔ x ∈ m) : l.Perm m := by
  rw [List.perm_iff_count]
  intro a
  rw [hl.count, hm.count]
  simp [h a]
theorem KeysOf.uniq {wd : Int} {hist : List AddD} {lo hi : Int} {ks ls : List ByteArray} (h : KeysOf wd hist lo hi ks) (h' : KeysOf wd hist lo hi ls) : ks = ls :=
  sorted_unique sLt sLt_irrefl (fun x y z => sLt_trans) (perm_of_mem (sLt_nodup h.1) (sLt_nodup h'.1) (fun a => (h.2 a).trans (h'.2 a).symm)) h.1 h'.1
end Go.Proofs.Ytmigjlceogofaaa
