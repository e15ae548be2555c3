/- An argument that is a slice of texts. -/
import Derived.Test.YtbmkejiijkbmlaaKitT
import Derived.Test.YtbmkejiijkbmlaaKitZ
import Derived.Test.YtbmkejiijkbmlaaProg
namespace Go.Proofs.Ytbmkejiijkbmlaa
open Go.ChangeShapes Go.WideShapes Go.ChangeAt Go.RowKit
theorem dec_strs {H : Type} {enc : TypeId × Value → H} {w : World} : Dec enc Try.prog w 32 (slCells (α := ByteArray)) (SlEx w 1 (fun s : ByteArray => [.string s]) (fun s => s.size ≤ maxLen)) :=
  dec_slice Try.underlying32 (by omega) (by kernel_rfl) (fun _ => rfl) (dec_string Try.underlying9)
theorem flat_one (l : List ByteArray) : l.flatMap (fun s => [Value.string s]) = l.map Value.string := by
  induction l with
  | nil => rfl
  | cons a l ih => rw [List.flatMap_cons, ih]; rfl
theorem strs_of {w : World} {A : Option Addr} {l : List ByteArray} (h : Reads w w.heap.size 1 A l.length (l.flatMap (fun s => [Value.string s]))) (hs : ∀ s ∈ l, s.size ≤ maxLen) : StrsAt w w.heap.size A l := by
  rw [flat_one] at h
  exact ⟨h, hs⟩
end Go.Proofs.Ytbmkejiijkbmlaa
