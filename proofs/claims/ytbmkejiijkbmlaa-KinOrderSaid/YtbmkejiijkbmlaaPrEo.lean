/- Pairs as objects: how often a thing, and how often two, are of a session; who shares a table. -/
import Derived.Test.YtbmkejiijkbmlaaPrB
import Derived.Test.YtbmkejiijkbmlaaKitC
namespace Go.Proofs.Ytbmkejiijkbmlaa
open Go.ChangeShapes Go.WideShapes Go.ChangeAt Go.RowKit Go.Lib Go.Proofs
set_option linter.unusedVariables false
set_option linter.unusedSimpArgs false

def cnt1 (L : List (List ByteArray)) (a : ByteArray) : Int := (L.countP (fun s => decide (a ∈ s)) : Nat)
def cnt2 (L : List (List ByteArray)) (a b : ByteArray) : Int := (L.countP (fun s => decide (a ∈ s ∧ b ∈ s)) : Nat)
def pairF (L : List (List ByteArray)) (a b : ByteArray) : Int := if a = b then 0 else cnt2 L a b
theorem cnt1_snoc (L : List (List ByteArray)) (s T : List ByteArray) (hT : ∀ x, x ∈ T ↔ x ∈ s) : addF (cnt1 L) T 1 = cnt1 (L ++ [s]) := by
  funext a
  unfold addF cnt1
  rw [List.countP_append]
  by_cases h : a ∈ s <;> simp [hT a, h]
theorem pairF_snoc (L : List (List ByteArray)) (s T : List ByteArray) (hT : ∀ x, x ∈ T ↔ x ∈ s) : addG (pairF L) T T 1 = pairF (L ++ [s]) := by
  funext a b
  unfold addG pairF cnt2
  by_cases e : a = b
  · subst e; simp
  · rw [List.countP_append]
    by_cases h : a ∈ s <;> by_cases h2 : b ∈ s <;> simp [hT a, hT b, h, h2, e]
theorem cnt1_le (L : List (List ByteArray)) (a : ByteArray) : 0 ≤ cnt1 L a ∧ cnt1 L a ≤ L.length := by
  have := List.countP_le_length (p := fun s => decide (a ∈ s)) (l := L)
  unfold cnt1; omega
theorem cnt2_le (L : List (List ByteArray)) (a b : ByteArray) : 0 ≤ cnt2 L a b ∧ cnt2 L a b ≤ L.length := by
  have := List.countP_le_length (p := fun s => decide (a ∈ s ∧ b ∈ s)) (l := L)
  unfold cnt2; omega
theorem pairF_le (L : List (List ByteArray)) (a b : ByteArray) : 0 ≤ pairF L a b ∧ pairF L a b ≤ L.length := by
  have := cnt2_le L a b
  unfold pairF
  split <;> omega
theorem cnt1_nil : cnt1 [] = fun _ => 0 := rfl
theorem nodup_len {α : Type} [DecidableEq α] : ∀ {l m : List α}, l.Nodup → (∀ x ∈ l, x ∈ m) → l.length ≤ m.length
  | [], _, _, _ => Nat.zero_le _
  | a :: l, m, hn, hs => by
    simp only [List.nodup_cons] at hn
    have ha := hs a (by simp)
    have ih := nodup_len (l := l) (m := m.erase a) hn.2 (fun x hx => by
      have hne : x ≠ a := fun e => hn.1 (e ▸ hx)
      exact (List.mem_erase_of_ne hne).2 (hs x (by simp [hx])))
    rw [List.length_erase_of_mem ha] at ih
    have : 0 < m.length := List.length_pos_of_mem ha
    simp only [List.length_cons]
    omega
theorem pairF_nil : pairF [] = fun _ _ => 0 := by funext a b; simp [pairF, cnt2]
theorem cnt2_self (L : List (List ByteArray)) (a : ByteArray) : cnt2 L a a = cnt1 L a := by simp [cnt2, cnt1]

def PAt (w : World) (pb tb : Nat) (sh : Bool) : Prop := w.heap[pb]? = some (.cells #[.pointer (some ⟨tb, 0, none⟩), .bool sh] 64 (0, 0))
/-- Pairs that nobody shares. -/
def PairO (w : World) (pb : Nat) (F : Nat → Prop) (L : List (List ByteArray)) : Prop :=
  ∃ tb G, PAt w pb tb false ∧ TabObj w tb G (cnt1 L) (pairF L) ∧ ¬ G pb ∧ F = fun k => k = pb ∨ G k
/-- Pairs, shared or not, as they read. -/
def PRd (w : World) (pb : Nat) (F : Nat → Prop) (L : List (List ByteArray)) : Prop :=
  ∃ tb sh G, PAt w pb tb sh ∧ TabObj w tb G (cnt1 L) (pairF L) ∧ F = fun k => k = pb ∨ G k
section
variable {w w' : World} {pb tb : Nat} {sh : Bool} {F G : Nat → Prop} {L : List (List ByteArray)}
theorem PAt.cells (h : PAt w pb tb sh) : w.cell? ⟨pb, 0, none⟩ = some (.pointer (some ⟨tb, 0, none⟩)) ∧ w.cell? ⟨pb, 1, none⟩ = some (.bool sh) := by
  refine ⟨?_, ?_⟩ <;> (rw [cell_of_row w pb _ _ _ _ h]; rfl)
theorem PAt.lt (h : PAt w pb tb sh) : pb < w.heap.size := (Array.getElem?_eq_some_iff.1 h).1
theorem PAt.keep (h : PAt w pb tb sh) (hk : Keeps G w w') (hG : ¬ G pb) : PAt w' pb tb sh := (hk.block pb h.lt hG).trans h
theorem PairO.rd (h : PairO w pb F L) : PRd w pb F L := by
  obtain ⟨tb, G, h1, h2, h3, rfl⟩ := h
  exact ⟨tb, false, G, h1, h2, rfl⟩
theorem PRd.own (pb : Nat) (L : List (List ByteArray)) : Own1 (fun w F => PRd w pb F L) where
  keep := fun h hk hG => by
    obtain ⟨tb, sh, G, h1, h2, rfl⟩ := h
    exact ⟨tb, sh, G, h1.keep hk (hG _ (.inl rfl)), (TabObj.own _ _ _).keep h2 hk (fun k hk' => hG k (.inr hk')), rfl⟩
  lt := fun h => by
    obtain ⟨tb, sh, G, h1, h2, rfl⟩ := h
    rintro k (rfl | hk)
    · exact h1.lt
    · exact (TabObj.own _ _ _).lt h2 k hk
theorem PairO.own (pb : Nat) (L : List (List ByteArray)) : Own1 (fun w F => PairO w pb F L) where
  keep := fun h hk hG => by
    obtain ⟨tb, G, h1, h2, h3, rfl⟩ := h
    exact ⟨tb, G, h1.keep hk (hG _ (.inl rfl)), (TabObj.own _ _ _).keep h2 hk (fun k hk' => hG k (.inr hk')), h3, rfl⟩
  lt := fun h => (PRd.own pb L).lt h.rd
end
end Go.Proofs.Ytbmkejiijkbmlaa
