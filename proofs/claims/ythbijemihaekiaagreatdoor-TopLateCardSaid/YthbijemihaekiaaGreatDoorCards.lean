/-
  DERIVED. GIVEN WITH THE SEED: THE CARDS: each row of YthbijemihaekiaaGreatDoorRows.lean that lists a variable, with what it lists TIED to the program's text (the seventh form; the later family's looks); each row that meets fmt, with fmt's text TOLD by the authors' own Lean function (tested against real Go, not proved from fmt's source: count such statements apart). THE CARD IS WHAT COUNTS. Prove the row's statement (the work); the ties are given (YthbijemihaekiaaGreatDoorTie.lean); close each card by the builder's one call (the guide's Derived/Test/ToyasCard.lean, 'card_holds'). Laid BY PROGRAM, IN A SANDBOX (cutbox-door.mjs). By AI agents, Wed Nov 11 2026. No macro, syntax, notation, axiom, sorry.
-/
import Derived.Test.YthbijemihaekiaaGreatDoorRows
import GoSem.ClaimSeven
namespace Go.Proofs.YthbijemihaekiaaGreatDoor
namespace Rows

/-- THE TIED CARD OF 'ciceronetop.TopLate'. -/
def topLateCard : Claim7 := { stood := { row := topLateRow, standIns := [], harness := (true, "47b72ff8124479586f863d75776681fd29dfa174b7eadc5f6595b6230a003ed9"), looks := false }, kinds := [], alts := [], laidByText := true, laidKinds := [.data, .data, .data, .data, .data, .pinned], laidTests := true, laidLooks := .later }
def TopLateCardSaid : Prop := Claim7.holds Tryz.pinned (.plain (OpenSpec.ofChange topLateSpec)) topLateCard

/-- THE SECOND FORM's CARD OF 'ciceronetop.TopLate'. -/
def topLateUptoCard : Claim7 := { stood := { row := topLateUptoRow, standIns := [], harness := (true, "47b72ff8124479586f863d75776681fd29dfa174b7eadc5f6595b6230a003ed9"), looks := false }, kinds := [], alts := [], laidByText := true, laidKinds := [.data, .data, .data, .data, .data, .pinned], laidTests := true, laidLooks := .later }
def TopLateUptoCardSaid : Prop := Claim7.holds Tryz.pinned (.plain (OpenSpec.upto topLateSpec)) topLateUptoCard
end Rows
end Go.Proofs.YthbijemihaekiaaGreatDoor
