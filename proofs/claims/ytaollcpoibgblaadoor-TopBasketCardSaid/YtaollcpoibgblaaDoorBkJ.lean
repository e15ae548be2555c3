/- The plain law of TopBasket: the people, those who bought neither, the fractions. -/
import Derived.Test.YtaollcpoibgblaaDoorBkG
import Derived.Test.YtaollcpoibgblaaDoorBkH
namespace Go.Proofs.YtaollcpoibgblaaDoor
set_option linter.unusedVariables false
set_option linter.unusedSimpArgs false

instance decMemB (x : ByteArray) (l : List ByteArray) : Decidable (x ∈ l) := decidable_of_iff (∃ y ∈ l, y = x) (by simp)
theorem peL_nodup : peL.Nodup := by decide
theorem mem_peL {p : Int} (h0 : 0 ≤ p) (h3 : p ≤ 3) : nm 112 p ∈ peL := by
  have : p = 0 ∨ p = 1 ∨ p = 2 ∨ p = 3 := by omega
  rcases this with rfl | rfl | rfl | rfl <;> decide
theorem pers_in {E : List EvV} (hE : ∀ e ∈ E, BuyE e) {p : ByteArray} (h : rowB (buysOf E) p ≠ []) : p ∈ peL := by
  rw [rowB_buys] at h
  have h2 : rowsE E p ≠ [] := by simpa using h
  obtain ⟨e, he⟩ := List.exists_mem_of_ne_nil _ h2
  unfold rowsE at he
  rw [List.mem_filter] at he
  simp at he
  obtain ⟨pn, im, h0, h3, -, -, hp, -⟩ := (hE e he.1).bought he.2.1
  rw [← he.2.2, hp]
  exact mem_peL h0 h3
/-- All of a row of events, person by person. -/
noncomputable def xB (gap : Int) (E : List EvV) : BkS := sumP gap (buysOf E) peL
theorem xB_of {gap : Int} {E : List EvV} (hE : ∀ e ∈ E, BuyE e) {ks : List ByteArray} (hk : ks.Nodup) (hm : ∀ p, p ∈ ks ↔ rowB (buysOf E) p ≠ []) : sumP gap (buysOf E) ks = xB gap E :=
  sumP_of _ hk peL_nodup (fun p => ⟨fun h => ⟨pers_in hE ((hm p).1 h), (hm p).1 h⟩, fun h => (hm p).2 h.2⟩)
theorem xB_perm {gap : Int} (hg : 0 ≤ gap) {E O : List EvV} (h : O.Perm E) : xB gap O = xB gap E := sumP_perm hg ((h.filter _).map _) _
theorem xB_ok (gap : Int) {E : List EvV} (h : E.length ≤ 60) : BkOk (xB gap E) 3660 := sumP_bd60 gap h (by decide)

/-- Who bought one of two things. -/
def hitB (a c p : ByteArray) (e : EvV) : Bool := decide (e.person = p) && decide (e.kind = 3) && (decide (e.item = a) || decide (e.item = c))
def gotB (E : List EvV) (a c p : ByteArray) : Bool := E.any (hitB a c p)
def mineE (E : List EvV) (p : ByteArray) : List EvV := E.filter (fun e => decide (e.person = p))
def lessP (E : List EvV) (a c p : ByteArray) : List EvV := if gotB E a c p then mineE E p else []
def lessE (E : List EvV) (a c : ByteArray) (ps : List ByteArray) : List EvV := ps.flatMap (lessP E a c)
theorem lessE_snoc (E : List EvV) (a c : ByteArray) (ps : List ByteArray) (p : ByteArray) : lessE E a c (ps ++ [p]) = lessE E a c ps ++ lessP E a c p := by unfold lessE; simp
theorem lessP_sub {E : List EvV} {a c p : ByteArray} {e : EvV} (h : e ∈ lessP E a c p) : e ∈ E ∧ e.person = p := by
  unfold lessP at h
  split at h
  · unfold mineE at h
    rw [List.mem_filter] at h
    exact ⟨h.1, by simpa using h.2⟩
  · cases h
theorem lessE_sub {E : List EvV} {a c : ByteArray} {ps : List ByteArray} {e : EvV} (h : e ∈ lessE E a c ps) : e ∈ E := by
  unfold lessE at h
  obtain ⟨p, -, hp⟩ := List.mem_flatMap.1 h
  exact (lessP_sub hp).1
theorem rows_mine (E : List EvV) (p : ByteArray) : rowsE (mineE E p) p = rowsE E p := by
  unfold rowsE mineE
  rw [List.filter_filter]
  apply List.filter_congr
  intro e _
  cases decide (e.kind = 3) <;> cases decide (e.person = p) <;> rfl
theorem rows_none {E : List EvV} {p q : ByteArray} (h : ∀ e ∈ E, e.person = q) (hne : q ≠ p) : rowsE E p = [] := by
  unfold rowsE
  rw [List.filter_eq_nil_iff]
  intro e he
  simp [h e he, hne]
theorem rowsE_append (E F : List EvV) (p : ByteArray) : rowsE (E ++ F) p = rowsE E p ++ rowsE F p := by unfold rowsE; rw [List.filter_append]
theorem rows_less (E : List EvV) (a c : ByteArray) {ps : List ByteArray} (hn : ps.Nodup) (p : ByteArray) : rowsE (lessE E a c ps) p = if p ∈ ps ∧ gotB E a c p = true then rowsE E p else [] := by
  induction ps with
  | nil => simp [lessE, rowsE]
  | cons q ps ih =>
    have ih := ih (List.nodup_cons.1 hn).2
    have e1 : lessE E a c (q :: ps) = lessP E a c q ++ lessE E a c ps := by unfold lessE; simp
    rw [e1, rowsE_append, ih]
    by_cases hq : q = p
    · subst hq
      have hnm : ¬ q ∈ ps := (List.nodup_cons.1 hn).1
      rw [if_neg (fun h => hnm h.1), List.append_nil]
      unfold lessP
      by_cases hg : gotB E a c q = true
      · rw [if_pos hg, if_pos ⟨List.mem_cons_self .., hg⟩, rows_mine]
      · rw [if_neg hg, if_neg (fun h => hg h.2)]; rfl
    · rw [rows_none (q := q) (fun e he => (lessP_sub he).2) hq, List.nil_append]
      have : (p ∈ q :: ps) ↔ p ∈ ps := by simp [Ne.symm hq]
      simp only [this]
theorem mine_len (E : List EvV) {q : ByteArray} {ps : List ByteArray} (hnm : ¬ q ∈ ps) : (mineE E q).length + (E.filter (fun e => decide (e.person ∉ q :: ps))).length ≤ (E.filter (fun e => decide (e.person ∉ ps))).length := by
  unfold mineE
  induction E with
  | nil => simp
  | cons e E ihE =>
    by_cases hq : e.person = q
    · have h3 : e.person ∉ ps := by rw [hq]; exact hnm
      simp [hq, hnm] at ihE ⊢
      omega
    · by_cases hp : e.person ∈ ps
      · simp [hq, hp] at ihE ⊢
        exact ihE
      · simp [hq, hp] at ihE ⊢
        omega
theorem lessE_len (E : List EvV) (a c : ByteArray) {ps : List ByteArray} (hn : ps.Nodup) : (lessE E a c ps).length + (E.filter (fun e => decide (e.person ∉ ps))).length ≤ E.length := by
  induction ps with
  | nil => simp [lessE]; exact List.length_filter_le _ _
  | cons q ps ih =>
    have ih := ih (List.nodup_cons.1 hn).2
    have hnm : ¬ q ∈ ps := (List.nodup_cons.1 hn).1
    have e1 : lessE E a c (q :: ps) = lessP E a c q ++ lessE E a c ps := by unfold lessE; simp
    have h1 : (lessP E a c q).length ≤ (mineE E q).length := by unfold lessP; split <;> simp
    have h2 := mine_len E hnm
    rw [e1, List.length_append]
    omega
theorem less_len (E : List EvV) (a c : ByteArray) (ps : List ByteArray) (hn : ps.Nodup) : (lessE E a c ps).length ≤ E.length := by have := lessE_len E a c hn; omega
theorem xB_less (gap : Int) (E : List EvV) (a c : ByteArray) : (xB gap (lessE E a c peL)).ct a c = (xB gap E).ct a c ∧ (xB gap (lessE E a c peL)).sg a = (xB gap E).sg a := by
  unfold xB
  refine sumP_less gap (buysOf E) (buysOf (lessE E a c peL)) a c peL (fun p hp => ?_)
  rw [rowB_buys, rowB_buys, rows_less E a c peL_nodup p]
  by_cases hg : gotB E a c p = true
  · left; rw [if_pos ⟨hp, hg⟩]
  · right
    rw [if_neg (fun h => hg h.2)]
    refine ⟨rfl, fun e he => ?_⟩
    obtain ⟨ev, hev, rfl⟩ := List.mem_map.1 he
    unfold rowsE at hev
    rw [List.mem_filter] at hev
    obtain ⟨h1, h2⟩ := hev
    simp at h2
    simp only
    constructor
    · intro h
      exact hg (List.any_eq_true.2 ⟨ev, h1, by simp [hitB, h2, h]⟩)
    · intro h
      exact hg (List.any_eq_true.2 ⟨ev, h1, by simp [hitB, h2, h]⟩)

/-! ### Fractions -/
theorem cf_bd {b : BkS} (h : BkOk b 3660) (a c : ByteArray) : 0 ≤ cfN b a c ∧ cfN b a c ≤ cfD b a ∧ 1 ≤ cfD b a ∧ cfD b a ≤ 3660 := by
  have h1 := h.a0
  have h2 := h.s0 a
  have h3 := h.c0 a c
  unfold cfN cfD
  split <;> omega
theorem cf_same {b d : BkS} {a c : ByteArray} (h1 : d.ct a c = b.ct a c) (h2 : d.sg a = b.sg a) : cfN d a c = cfN b a c ∧ cfD d a = cfD b a := by unfold cfN cfD; rw [h1, h2]; exact ⟨rfl, rfl⟩
end Go.Proofs.YtaollcpoibgblaaDoor
