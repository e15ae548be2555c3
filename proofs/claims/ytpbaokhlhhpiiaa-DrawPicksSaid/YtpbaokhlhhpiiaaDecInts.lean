/- An argument that is a slice of ints. -/
import Derived.Test.YtpbaokhlhhpiiaaKitT
import Derived.Test.YtpbaokhlhhpiiaaProg
namespace Go.Proofs.Ytpbaokhlhhpiiaa
open Go.ChangeShapes Go.WideShapes Go.ChangeAt Go.RowKit
theorem dec_ints {H : Type} {enc : TypeId × Value → H} {w : World} : Dec enc Try.prog w 39 (slCells (α := Int)) (SlEx w 1 (fun n : Int => [.int .i64 n]) (fun n => (Lit.int .i64 n).wf = true)) :=
  dec_slice Try.underlying39 (by omega) (by kernel_rfl) (fun _ => rfl) (dec_int Try.underlying3)
theorem ints_of {w : World} {A : Option Addr} {l : List Int} (h : Reads w w.heap.size 1 A l.length (l.flatMap (fun n => [Value.int .i64 n]))) : Reads w w.heap.size 1 A l.length (l.map (Value.int .i64)) := by
  have e : l.flatMap (fun n => [Value.int .i64 n]) = l.map (Value.int .i64) := by
    clear h
    induction l with
    | nil => rfl
    | cons a l ih => rw [List.flatMap_cons, ih]; rfl
  rw [e] at h
  exact h
end Go.Proofs.Ytpbaokhlhhpiiaa
