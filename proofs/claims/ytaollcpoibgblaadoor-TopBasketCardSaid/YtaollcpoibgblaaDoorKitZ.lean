/- Texts in memory. Lemmas over any program. -/
import Derived.Test.YtaollcpoibgblaaDoorKitO
import Derived.Test.YtaollcpoibgblaaDoorKitV
namespace Go.Proofs.YtaollcpoibgblaaDoor
open Go.ChangeShapes Go.WideShapes Go.ChangeAt Go.RowKit
set_option linter.unusedVariables false
set_option linter.unusedSimpArgs false

/-- Texts in memory. -/
def StrsAt (w : World) (B : Nat) (A : Option Addr) (l : List ByteArray) : Prop := Reads w B 1 A l.length (l.map Value.string) ∧ ∀ s ∈ l, s.size ≤ maxLen
theorem StrsAt.one {w : World} {B : Nat} {A : Option Addr} {l : List ByteArray} (h : StrsAt w B A l) {k : Nat} (hk : k < l.length) :
    ∃ b o, A = some ⟨b, o, none⟩ ∧ b < B ∧ w.cell? ⟨b, o + k, none⟩ = some (.string l[k]) ∧ (l[k].size : Int) ≤ 9223372036854775807 := by
  obtain ⟨b, o, e, hb, hc⟩ := h.1.one hk
  have := h.2 l[k] (List.getElem_mem hk)
  unfold maxLen at this
  exact ⟨b, o, e, hb, hc, by omega⟩
theorem StrsAt.below {w w' : World} {B : Nat} {A : Option Addr} {l : List ByteArray} (h : StrsAt w B A l) (hb : Below B w w') : StrsAt w' B A l := ⟨h.1.below hb, h.2⟩
theorem StrsAt.more {w : World} {B B' : Nat} {A : Option Addr} {l : List ByteArray} (h : StrsAt w B A l) (hB : B ≤ B') : StrsAt w B' A l := ⟨h.1.more hB, h.2⟩


theorem StrsAt.keep {F : Nat → Prop} {w w' : World} {B : Nat} {A : Option Addr} {l : List ByteArray} (h : StrsAt w B A l) (hk : Keeps F w w') (hB : B ≤ w.heap.size) (hF : ∀ b o sp, A = some ⟨b, o, sp⟩ → ¬ F b) : StrsAt w' B A l := ⟨hk.reads h.1 hB hF, h.2⟩
theorem StrsAt.of_own {w : World} {base : Nat} {e : TypeId} {A : Option Addr} {c : Nat} {l : List ByteArray} (h : w.ownsRow base e 1 (.slice A l.length c) l.length (l.map Value.string)) (hs : ∀ s ∈ l, s.size ≤ maxLen) : StrsAt w w.heap.size A l := ⟨Reads.of_own h, hs⟩
theorem StrsAt.nil (w : World) (B : Nat) (A : Option Addr) : StrsAt w B A [] := ⟨Reads.none_, by simp⟩
theorem StrsAt.take {w : World} {B : Nat} {A : Option Addr} {l : List ByteArray} (h : StrsAt w B A l) (n : Nat) : StrsAt w B A (l.take n) := by
  refine ⟨⟨by simp, fun hn => ?_⟩, fun s hs => h.2 s (List.take_subset _ _ hs)⟩
  obtain ⟨b, o, e, hb, hc⟩ := h.1.2 (by simp at hn; omega)
  refine ⟨b, o, e, hb, fun j u hu => hc j u ?_⟩
  rw [List.map_take, List.getElem?_take] at hu
  split at hu
  · exact hu
  · cases hu
end Go.Proofs.YtaollcpoibgblaaDoor
