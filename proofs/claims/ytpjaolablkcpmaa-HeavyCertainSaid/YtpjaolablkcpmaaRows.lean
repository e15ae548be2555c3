/-
  No cell of these rows narrows 'for every input' (looked for: loops, veiled, ifaces, maps, wideKeys, modest, calm, conditions, laid).
  DERIVED. THE GIVEN ROWS OF THIS SEAT. 4 by the template 'for every input the law returns true; each argument reads behind the call as it read before'; 0 by the template 'total and deterministic' (their statements: YtpjaolablkcpmaaTotals.lean).
  GIVEN WITH THE SEED: the statements are not yours to turn. If you find one false, say at which input.
  Laid BY PROGRAM, IN A SANDBOX (cutbox-rows.mjs): the forced cells as the released guide's own fill.sh prints them over the translation e5c320ec35bdc2ec… (all of the seat's roots in one cut). By AI agents, Wed Nov 11 2026. No macro, syntax, notation, axiom, sorry.
-/
import Derived.Test.YtpjaolablkcpmaaChecked
import GoSem.Claim
import GoSem.ClaimJoined
import GoSem.ClaimMapViews
import Derived.JoinedTies
import Derived.KernelRfl
namespace Go.Proofs.Ytpjaolablkcpmaa
/- THE CELL 'sum', in the pinned program and in every row, IS THE sha256 OF THE DUMP (.gsa) THAT YtpjaolablkcpmaaProg.lean LOADS. Nothing in Lean hashes anything: it is a label: what it is worth is what the hold of that sum in a sandbox is worth. -/
noncomputable def Try.pinned : Pinned := { name := "ytpjaolablkcpmaa", sum := "e5c320ec35bdc2ec180377455cfe8775545f97970568a2296b47bc1cefd6b556", checked := Try.checked }
namespace Rows
def none {H : Type} : Left H := { results := [], args := [] }

/-- 'ciceronelaw14.HeavyCertain': WHATEVER THE INPUT: true; the input reads as it did. -/
def heavyCertainSpec : ChangeSpec := { name := "heavyCertain", fn := fun _ => fun
  | [d1, d2, d3] => { results := [.lit (.bool true)], args := [d1, d2, d3] }
  | _ => none }
def heavyCertainRow : OpenClaim := { program := "ytpjaolablkcpmaa", sum := "e5c320ec35bdc2ec180377455cfe8775545f97970568a2296b47bc1cefd6b556", func := "cicerone/ciceronelaw14.HeavyCertain", spec := "heavyCertain", unfollowed := true, recurses := true, apart := false }
def HeavyCertainSaid : Prop := heavyCertainRow.holds Try.pinned (OpenSpec.ofChange heavyCertainSpec)

/-- ITS FALSE NEIGHBOUR: 'it returns false'. Refute it at one input. -/
def heavyCertainWrong : ChangeSpec := { name := "heavyCertain", fn := fun _ => fun
  | [d1, d2, d3] => { results := [.lit (.bool false)], args := [d1, d2, d3] }
  | _ => none }
def HeavyCertainWrongFalsely : Prop := heavyCertainRow.holds Try.pinned (OpenSpec.ofChange heavyCertainWrong)

/-- 'ciceronelaw14.HeavyPlays': WHATEVER THE INPUT: true; the input reads as it did. -/
def heavyPlaysSpec : ChangeSpec := { name := "heavyPlays", fn := fun _ => fun
  | [d1, d2, d3, d4, d5] => { results := [.lit (.bool true)], args := [d1, d2, d3, d4, d5] }
  | _ => none }
def heavyPlaysRow : OpenClaim := { program := "ytpjaolablkcpmaa", sum := "e5c320ec35bdc2ec180377455cfe8775545f97970568a2296b47bc1cefd6b556", func := "cicerone/ciceronelaw14.HeavyPlays", spec := "heavyPlays", unfollowed := true, recurses := true, apart := false }
def HeavyPlaysSaid : Prop := heavyPlaysRow.holds Try.pinned (OpenSpec.ofChange heavyPlaysSpec)

/-- ITS FALSE NEIGHBOUR: 'it returns false'. Refute it at one input. -/
def heavyPlaysWrong : ChangeSpec := { name := "heavyPlays", fn := fun _ => fun
  | [d1, d2, d3, d4, d5] => { results := [.lit (.bool false)], args := [d1, d2, d3, d4, d5] }
  | _ => none }
def HeavyPlaysWrongFalsely : Prop := heavyPlaysRow.holds Try.pinned (OpenSpec.ofChange heavyPlaysWrong)

/-- 'ciceronelaw14.HeavyBounds': WHATEVER THE INPUT: true; the input reads as it did. -/
def heavyBoundsSpec : ChangeSpec := { name := "heavyBounds", fn := fun _ => fun
  | [d1, d2, d3, d4] => { results := [.lit (.bool true)], args := [d1, d2, d3, d4] }
  | _ => none }
def heavyBoundsRow : OpenClaim := { program := "ytpjaolablkcpmaa", sum := "e5c320ec35bdc2ec180377455cfe8775545f97970568a2296b47bc1cefd6b556", func := "cicerone/ciceronelaw14.HeavyBounds", spec := "heavyBounds", unfollowed := true, recurses := true, apart := false }
def HeavyBoundsSaid : Prop := heavyBoundsRow.holds Try.pinned (OpenSpec.ofChange heavyBoundsSpec)

/-- ITS FALSE NEIGHBOUR: 'it returns false'. Refute it at one input. -/
def heavyBoundsWrong : ChangeSpec := { name := "heavyBounds", fn := fun _ => fun
  | [d1, d2, d3, d4] => { results := [.lit (.bool false)], args := [d1, d2, d3, d4] }
  | _ => none }
def HeavyBoundsWrongFalsely : Prop := heavyBoundsRow.holds Try.pinned (OpenSpec.ofChange heavyBoundsWrong)

/-- 'ciceronelaw14.HeavyMerges': WHATEVER THE INPUT: true; the input reads as it did. -/
def heavyMergesSpec : ChangeSpec := { name := "heavyMerges", fn := fun _ => fun
  | [d1, d2, d3, d4, d5] => { results := [.lit (.bool true)], args := [d1, d2, d3, d4, d5] }
  | _ => none }
def heavyMergesRow : OpenClaim := { program := "ytpjaolablkcpmaa", sum := "e5c320ec35bdc2ec180377455cfe8775545f97970568a2296b47bc1cefd6b556", func := "cicerone/ciceronelaw14.HeavyMerges", spec := "heavyMerges", inPlace := ["maps.clone"], unfollowed := true, recurses := true, apart := false }
def HeavyMergesSaid : Prop := heavyMergesRow.holds Try.pinned (OpenSpec.ofChange heavyMergesSpec)

/-- ITS FALSE NEIGHBOUR: 'it returns false'. Refute it at one input. -/
def heavyMergesWrong : ChangeSpec := { name := "heavyMerges", fn := fun _ => fun
  | [d1, d2, d3, d4, d5] => { results := [.lit (.bool false)], args := [d1, d2, d3, d4, d5] }
  | _ => none }
def HeavyMergesWrongFalsely : Prop := heavyMergesRow.holds Try.pinned (OpenSpec.ofChange heavyMergesWrong)

/- THE SECOND FORM. 'bulk': how many values and letters a reading holds, each counted each time it is reached (what is shared counts as often as it is met; a slice's spare places count too). A statement '..UptoSaid' is the law's where the arguments, and the package variables that the reading takes, are together of bulk at most 1048576: NARROWER than '..Said'. Prove '..Said' where nothing that the law and all that it calls make is longer than what came in: it says more and counts as full. Else prove '..UptoSaid'. A law counts once. -/
mutual
def uptoBulk {H : Type} : DataW H → Nat
  | .lit (.string bytes) => bytes.length + 1
  | .lit _ => 1
  | .nil => 1
  | .ptr d => uptoBulk d + 1
  | .slice elems spare => uptoBulkAll elems + uptoBulkAll spare + 1
  | .agg parts => uptoBulkAll parts + 1
  | .iface _ d => uptoBulk d + 1
  | .map entries => uptoBulkEntries entries + 1
  | .held _ => 1
def uptoBulkAll {H : Type} : List (DataW H) → Nat
  | [] => 0
  | d :: r => uptoBulk d + uptoBulkAll r
def uptoBulkEntries {H : Type} : List (Lit × DataW H) → Nat
  | [] => 0
  | x :: r => uptoBulkEntry x + uptoBulkEntries r
def uptoBulkEntry {H : Type} : Lit × DataW H → Nat
  | (.string bytes, d) => bytes.length + uptoBulk d + 1
  | (_, d) => uptoBulk d + 1
 end
def uptoSmall : (H : Type) → List (DataW H) → Bool := fun _ ds => decide (uptoBulkAll ds ≤ 1048576)
def OpenSpec.upto (s : _root_.Go.ChangeSpec) : _root_.Go.OpenSpec := { _root_.Go.OpenSpec.ofChange s with cond := some uptoSmall }

/-- 'ciceronelaw14.HeavyCertain', WHERE WHAT IT READS IS OF BULK AT MOST 1048576: true; the input reads as it did. -/
def heavyCertainUptoRow : OpenClaim := { program := "ytpjaolablkcpmaa", sum := "e5c320ec35bdc2ec180377455cfe8775545f97970568a2296b47bc1cefd6b556", func := "cicerone/ciceronelaw14.HeavyCertain", spec := "heavyCertain", unfollowed := true, recurses := true, apart := false, narrowed := true }
def HeavyCertainUptoSaid : Prop := heavyCertainUptoRow.holds Try.pinned (OpenSpec.upto heavyCertainSpec)

/-- 'ciceronelaw14.HeavyPlays', WHERE WHAT IT READS IS OF BULK AT MOST 1048576: true; the input reads as it did. -/
def heavyPlaysUptoRow : OpenClaim := { program := "ytpjaolablkcpmaa", sum := "e5c320ec35bdc2ec180377455cfe8775545f97970568a2296b47bc1cefd6b556", func := "cicerone/ciceronelaw14.HeavyPlays", spec := "heavyPlays", unfollowed := true, recurses := true, apart := false, narrowed := true }
def HeavyPlaysUptoSaid : Prop := heavyPlaysUptoRow.holds Try.pinned (OpenSpec.upto heavyPlaysSpec)

/-- 'ciceronelaw14.HeavyBounds', WHERE WHAT IT READS IS OF BULK AT MOST 1048576: true; the input reads as it did. -/
def heavyBoundsUptoRow : OpenClaim := { program := "ytpjaolablkcpmaa", sum := "e5c320ec35bdc2ec180377455cfe8775545f97970568a2296b47bc1cefd6b556", func := "cicerone/ciceronelaw14.HeavyBounds", spec := "heavyBounds", unfollowed := true, recurses := true, apart := false, narrowed := true }
def HeavyBoundsUptoSaid : Prop := heavyBoundsUptoRow.holds Try.pinned (OpenSpec.upto heavyBoundsSpec)

/-- 'ciceronelaw14.HeavyMerges', WHERE WHAT IT READS IS OF BULK AT MOST 1048576: true; the input reads as it did. -/
def heavyMergesUptoRow : OpenClaim := { program := "ytpjaolablkcpmaa", sum := "e5c320ec35bdc2ec180377455cfe8775545f97970568a2296b47bc1cefd6b556", func := "cicerone/ciceronelaw14.HeavyMerges", spec := "heavyMerges", inPlace := ["maps.clone"], unfollowed := true, recurses := true, apart := false, narrowed := true }
def HeavyMergesUptoSaid : Prop := heavyMergesUptoRow.holds Try.pinned (OpenSpec.upto heavyMergesSpec)

end Rows
end Go.Proofs.Ytpjaolablkcpmaa
