/- What a tale tells, plainly: events as values and their cells, and what holds of all that a tale tells. -/
import Derived.Test.YtaollcpoibgblaaDoorTlB
import Derived.Test.YtaollcpoibgblaaDoorKitAg
import Derived.Test.YtaollcpoibgblaaDoorKitM
import Derived.Lib.Join
namespace Go.Proofs.YtaollcpoibgblaaDoor
open Go.ChangeShapes Go.WideShapes Go.ChangeAt Go.RowKit
set_option linter.unusedVariables false
set_option linter.unusedSimpArgs false

/-- An event. -/
structure EvV where
  src : ByteArray
  num : Int
  at_ : Int
  kind : Int
  person : ByteArray
  item : ByteArray
  value : Int
  text : ByteArray
def evCells (e : EvV) : List Value := [.string e.src, .int .i64 e.num, .int .i64 e.at_, .int .i64 e.kind, .string e.person, .string e.item, .int .i64 e.value, .string e.text]
def evVal (e : EvV) : Value := .agg (evCells e).toArray
def noT : ByteArray := ⟨#[]⟩
/-- The tags of a listing's text; its text. -/
def tagsL (x y z : Bool) : List ByteArray := (if x then [nm 116 0] else []) ++ (if y then [nm 116 1] else []) ++ (if z then [nm 116 2] else [])
def lstT (m : Int) (x y z : Bool) : ByteArray := (nm 109 m ++ ⟨#[59]⟩) ++ ⟨(Lib.join ((tagsL x y z).map (·.data.toList)) [44]).toArray⟩
def ShapeE (e : EvV) : Prop :=
  ((e.kind = 7 ∨ e.kind = 9) ∧ (∃ n, 0 ≤ n ∧ n ≤ 3 ∧ e.person = nm 112 n) ∧ e.item = noT ∧ e.value = 0 ∧ ∃ n, 0 ≤ n ∧ n ≤ 2 ∧ e.text = nm 109 n) ∨
  (e.kind = 11 ∧ e.person = noT ∧ (∃ n, 0 ≤ n ∧ n ≤ 5 ∧ e.item = nm 105 n) ∧ (0 ≤ e.value ∧ e.value ≤ 255) ∧ ∃ m x y z, 0 ≤ m ∧ m ≤ 2 ∧ e.text = lstT m x y z) ∨
  (e.kind = 12 ∧ e.person = noT ∧ (∃ n, 0 ≤ n ∧ n ≤ 5 ∧ e.item = nm 105 n) ∧ (0 ≤ e.value ∧ e.value ≤ 2) ∧ e.text = noT) ∨
  (e.kind = 13 ∧ e.person = noT ∧ (∃ n, 0 ≤ n ∧ n ≤ 5 ∧ e.item = nm 105 n) ∧ e.value = 0 ∧ e.text = noT) ∨
  (e.kind = 4 ∧ (∃ n, 0 ≤ n ∧ n ≤ 3 ∧ e.person = nm 112 n) ∧ (∃ n, 0 ≤ n ∧ n ≤ 5 ∧ e.item = nm 105 n) ∧ (1 ≤ e.value ∧ e.value ≤ 5) ∧ e.text = noT) ∨
  ((e.kind = 0 ∨ e.kind = 1 ∨ e.kind = 2 ∨ e.kind = 3 ∨ e.kind = 5 ∨ e.kind = 6) ∧ (∃ n, 0 ≤ n ∧ n ≤ 3 ∧ e.person = nm 112 n) ∧ (∃ n, 0 ≤ n ∧ n ≤ 5 ∧ e.item = nm 105 n) ∧ e.value = 0 ∧ e.text = noT)
/-- The table of kinds lies there. -/
def kdL : List Int := [1, 2, 3, 4, 0, 5, 6, 7, 9, 11, 11, 12, 13]
def KdAt (w : World) : Prop := 0 < w.heap.size ∧ ∀ j, j < 13 → w.cell? ⟨0, j, none⟩ = some (.int .i64 (kdL.getD j 0))
theorem KdAt.below {w w' : World} (h : KdAt w) (hb : Below w.heap.size w w') : KdAt w' := ⟨Nat.lt_of_lt_of_le h.1 hb.size, fun j hj => (hb.cell (p := ⟨_, j, none⟩) h.1).trans (h.2 j hj)⟩
theorem KdAt.keep {w w' : World} {F : Nat → Prop} (h : KdAt w) (hk : Keeps F w w') (hF : ¬ F 0) : KdAt w' := ⟨Nat.lt_of_lt_of_le h.1 hk.size, fun j hj => (hk.cell (p := ⟨_, j, none⟩) h.1 hF).trans (h.2 j hj)⟩
end Go.Proofs.YtaollcpoibgblaaDoor
