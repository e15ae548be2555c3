/- maps.Clone in the words of MapIs. Over any program. -/
import Derived.Test.YtmigjlceogofaaaKitM
import Derived.Shelf.SlMaps.Clone
namespace Go.Proofs.Ytmigjlceogofaaa
open Go.ChangeShapes Go.WideShapes Go.ChangeAt Go.RowKit
set_option linter.unusedVariables false
set_option linter.unusedSimpArgs false

/-- maps.Clone in the words of MapIs. -/
theorem mapsClone_any {P : Program} {ρ : Go.Shelf.Ren} (L : SlLaysW.n5 P ρ) {κ υ : Type} {kf : κ → Value} {vf : υ → Value} {Ok : κ → Prop} {b : Nat} {l : List (κ × υ)} {w : World} (h : MapIs w kf vf Ok b l) :
    Calls P (ρ.f 5) #[.map (some b)] w fun e w' => e = .returned (.map (some w.heap.size)) ∧ MapIs w' kf vf Ok w.heap.size l ∧ Below w.heap.size w w' ∧ w'.heap.size = w.heap.size + 1 := by
  obtain ⟨es, clock, hb, rest⟩ := h
  refine (AnyW.maps_Clone L b es clock w hb).mono ?_
  rintro e w' ⟨rfl, rfl⟩
  exact ⟨rfl, ⟨es, clock, heap_alloc_new w _, rest⟩, (Below.refl _ _).alloc (Nat.le_refl _) _, by simp⟩

end Go.Proofs.Ytmigjlceogofaaa
