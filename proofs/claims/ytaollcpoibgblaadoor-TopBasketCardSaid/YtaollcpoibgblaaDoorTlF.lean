/- Bytes as an argument; contract of the closure of tale.Parse that reads one. -/
import Derived.Test.YtaollcpoibgblaaDoorTlD
import Derived.Test.YtaollcpoibgblaaDoorKitT
namespace Go.Proofs.YtaollcpoibgblaaDoor
open Go.ChangeShapes Go.WideShapes Go.ChangeAt Go.RowKit
set_option linter.unusedVariables false
set_option linter.unusedSimpArgs false

theorem dec_u8s {H : Type} {enc : TypeId × Value → H} {w : World} : Dec enc Tryd.prog w 22 (slCells (α := Int)) (SlEx w 1 (fun n : Int => [.int .u8 n]) (fun n => 0 ≤ n ∧ n ≤ 255)) :=
  dec_slice Tryd.underlying22 (by omega) (by kernel_rfl) (fun _ => rfl) ((dec_int Tryd.underlying5).map id (fun a => rfl) (fun a h => bounds_u8 h))
def U8At (w : World) (B : Nat) (A : Option Addr) (l : List Int) : Prop := Reads w B 1 A l.length (l.map (Value.int .u8)) ∧ ∀ n ∈ l, 0 ≤ n ∧ n ≤ 255
theorem u8s_of {w : World} {A : Option Addr} {l : List Int} (h : Reads w w.heap.size 1 A l.length (l.flatMap (fun n => [Value.int .u8 n]))) (hx : ∀ n ∈ l, 0 ≤ n ∧ n ≤ 255) : U8At w w.heap.size A l := by
  have e : l.flatMap (fun n => [Value.int .u8 n]) = l.map (Value.int .u8) := by
    clear h hx
    induction l with
    | nil => rfl
    | cons a l ih => rw [List.flatMap_cons, ih]; rfl
  rw [e] at h
  exact ⟨h, hx⟩
theorem U8At.below {w w' : World} {B : Nat} {A : Option Addr} {l : List Int} (h : U8At w B A l) (hb : Below B w w') : U8At w' B A l := ⟨h.1.below hb, h.2⟩

def AtNew (w : World) (e : Ending) (w' : World) : Prop := ∃ n : Int, e = .returned (.int .i64 n) ∧ 0 ≤ n ∧ n ≤ 255 ∧ w' = w
set_option maxRecDepth 20000 in
set_option maxHeartbeats 1000000 in
theorem at_any (bb B c : Nat) (A : Option Addr) (l : List Int) (i : Nat) (w : World) (h : w.cell? ⟨bb, 0, none⟩ = some (.slice A l.length c)) (hr : U8At w B A l) :
    Calls Tryd.prog 23 #[.int .i64 i, .pointer (some ⟨bb, 0, none⟩)] w (AtNew w) := by
  by_cases hi : i < l.length
  · obtain ⟨b, o, rfl, hb, hc⟩ := hr.1.2 (by omega)
    have hx := hc i (.int .u8 l[i]) (by rw [List.getElem?_map, List.getElem?_eq_getElem hi]; rfl)
    have hbd := hr.2 l[i] (List.getElem_mem hi)
    have hi2 : (i : Int) < (l.length : Int) := by omega
    generalize l[i] = x at *
    clear hc hr
    have hw : IntKind.i64.wrap x = x := IntWalk.i64_in _ (by omega)
    go_enter Tryd.func23, Tryd.ntmps23
    go_wp2
    go_ret
    exact ⟨x, rfl, hbd.1, hbd.2, rfl⟩
  · have hi2 : ¬ (i : Int) < (l.length : Int) := by omega
    clear hr
    go_enter Tryd.func23, Tryd.ntmps23
    go_wp2
    go_ret
    exact ⟨0, rfl, by omega, by omega, rfl⟩
end Go.Proofs.YtaollcpoibgblaaDoor
