/- The cells of rows of events. -/
import Derived.Test.YtaollcpoibgblaaDoorTlA
import Derived.Test.YtaollcpoibgblaaDoorProg
namespace Go.Proofs.YtaollcpoibgblaaDoor
open Go.ChangeShapes Go.WideShapes Go.ChangeAt Go.RowKit
set_option linter.unusedVariables false
set_option linter.unusedSimpArgs false

def evsCells (E : List EvV) : List Value := E.flatMap evCells
theorem evsCells_len (E : List EvV) : (evsCells E).length = E.length * 8 := by
  unfold evsCells
  induction E with
  | nil => rfl
  | cons s E ih => rw [List.flatMap_cons, List.length_append, ih, List.length_cons]; simp [evCells]; omega
theorem evsCells_snoc (E : List EvV) (e : EvV) : evsCells (E ++ [e]) = evsCells E ++ evCells e := by unfold evsCells; rw [List.flatMap_append]; simp
theorem evCells_one (e : EvV) : ∀ u ∈ evCells e, u.oneCell' = true := by
  intro u hu
  simp [evCells] at hu
  rcases hu with rfl | rfl | rfl | rfl | rfl | rfl | rfl | rfl <;> rfl
theorem ev_info : (Tryd.prog.info? 51).map (fun i => (i.zero, i.size, i.bytes)) = some (some (.agg #[.string ⟨#[]⟩, .int .i64 0, .int .i64 0, .int .i64 0, .string ⟨#[]⟩, .string ⟨#[]⟩, .int .i64 0, .string ⟨#[]⟩]), 8, 96) := by kernel_rfl
theorem own_none {w : World} {base n c size : Nat} {e : TypeId} {A : Option Addr} {xs : List Value} (h : w.ownsRow base e size (.slice A n c) n xs) (hA : A = none) : c = 0 := by
  rcases h.2 with ⟨h1, -⟩ | ⟨g, cap, cur, h1, -⟩
  · injection h1 with _ _ h3
  · injection h1 with h1
    rw [hA] at h1
    cases h1
end Go.Proofs.YtaollcpoibgblaaDoor
