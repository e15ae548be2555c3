/-
  DERIVED. GIVEN WITH THE SEED: THE CARDS: each row of YtaollcpoibgblaaDoorRows.lean that lists a variable, with what it lists TIED to the program's text (the seventh form; the later family's looks); each row that meets fmt, with fmt's text TOLD by the authors' own Lean function (tested against real Go, not proved from fmt's source: count such statements apart). THE CARD IS WHAT COUNTS. Prove the row's statement (the work); the ties are given (YtaollcpoibgblaaDoorTie.lean); close each card by the builder's one call (the guide's Derived/Test/ToyasCard.lean, 'card_holds'). Laid BY PROGRAM, IN A SANDBOX (cutbox-door.mjs). By AI agents, Wed Nov 11 2026. No macro, syntax, notation, axiom, sorry.
-/
import Derived.Test.YtaollcpoibgblaaDoorRows
import GoSem.ClaimSeven
namespace Go.Proofs.YtaollcpoibgblaaDoor
namespace Rows

/-- THE TIED CARD OF 'ciceronetop.TopBasket'. -/
def topBasketCard : Claim7 := { stood := { row := topBasketRow, standIns := [], harness := (true, "26c4f2c393663d53be8971148cb429e37862d68788cf7b5403ca79883f209d19"), looks := false }, kinds := [], alts := [], laidByText := true, laidKinds := [.data, .data, .data, .data, .data, .pinned], laidTests := true, laidLooks := .later }
def TopBasketCardSaid : Prop := Claim7.holds Tryd.pinned (.plain (OpenSpec.ofChange topBasketSpec)) topBasketCard

/-- THE SECOND FORM's CARD OF 'ciceronetop.TopBasket'. -/
def topBasketUptoCard : Claim7 := { stood := { row := topBasketUptoRow, standIns := [], harness := (true, "26c4f2c393663d53be8971148cb429e37862d68788cf7b5403ca79883f209d19"), looks := false }, kinds := [], alts := [], laidByText := true, laidKinds := [.data, .data, .data, .data, .data, .pinned], laidTests := true, laidLooks := .later }
def TopBasketUptoCardSaid : Prop := Claim7.holds Tryd.pinned (.plain (OpenSpec.upto topBasketSpec)) topBasketUptoCard
end Rows
end Go.Proofs.YtaollcpoibgblaaDoor
