/-
  No cell of these rows narrows 'for every input' (looked for: loops, veiled, ifaces, maps, wideKeys, modest, calm, conditions, laid).
  DERIVED. THE GIVEN ROWS OF THIS SEAT. 5 by the template 'for every input the law returns true; each argument reads behind the call as it read before'; 0 by the template 'total and deterministic' (their statements: YtbmkejiijkbmlaaTotals.lean).
  GIVEN WITH THE SEED: the statements are not yours to turn. If you find one false, say at which input.
  Laid BY PROGRAM, IN A SANDBOX (cutbox-rows.mjs): the forced cells as the released guide's own fill.sh prints them over the translation 0d2c09509a90aa20… (all of the seat's roots in one cut). By AI agents, Wed Nov 11 2026. No macro, syntax, notation, axiom, sorry.
-/
import Derived.Test.YtbmkejiijkbmlaaChecked
import GoSem.Claim
import GoSem.ClaimJoined
import GoSem.ClaimMapViews
import Derived.JoinedTies
import Derived.KernelRfl
namespace Go.Proofs.Ytbmkejiijkbmlaa
/- THE CELL 'sum', in the pinned program and in every row, IS THE sha256 OF THE DUMP (.gsa) THAT YtbmkejiijkbmlaaProg.lean LOADS. Nothing in Lean hashes anything: it is a label: what it is worth is what the hold of that sum in a sandbox is worth. -/
noncomputable def Try.pinned : Pinned := { name := "ytbmkejiijkbmlaa", sum := "0d2c09509a90aa2006073c4857ac1e2effc2a6bb47ca76431df557b5c5d13246", checked := Try.checked }
namespace Rows
def none {H : Type} : Left H := { results := [], args := [] }

/-- 'ciceronelaw18.KinBounds': WHATEVER THE INPUT: true; the input reads as it did. -/
def kinBoundsSpec : ChangeSpec := { name := "kinBounds", fn := fun _ => fun
  | [d1, d2, d3] => { results := [.lit (.bool true)], args := [d1, d2, d3] }
  | _ => none }
def kinBoundsRow : OpenClaim := { program := "ytbmkejiijkbmlaa", sum := "0d2c09509a90aa2006073c4857ac1e2effc2a6bb47ca76431df557b5c5d13246", func := "cicerone/ciceronelaw18.KinBounds", spec := "kinBounds", inPlace := ["maps.clone"], unfollowed := true, recurses := true, apart := false }
def KinBoundsSaid : Prop := kinBoundsRow.holds Try.pinned (OpenSpec.ofChange kinBoundsSpec)

/-- ITS FALSE NEIGHBOUR: 'it returns false'. Refute it at one input. -/
def kinBoundsWrong : ChangeSpec := { name := "kinBounds", fn := fun _ => fun
  | [d1, d2, d3] => { results := [.lit (.bool false)], args := [d1, d2, d3] }
  | _ => none }
def KinBoundsWrongFalsely : Prop := kinBoundsRow.holds Try.pinned (OpenSpec.ofChange kinBoundsWrong)

/-- 'ciceronelaw18.KinApart': WHATEVER THE INPUT: true; the input reads as it did. -/
def kinApartSpec : ChangeSpec := { name := "kinApart", fn := fun _ => fun
  | [d1, d2, d3, d4] => { results := [.lit (.bool true)], args := [d1, d2, d3, d4] }
  | _ => none }
def kinApartRow : OpenClaim := { program := "ytbmkejiijkbmlaa", sum := "0d2c09509a90aa2006073c4857ac1e2effc2a6bb47ca76431df557b5c5d13246", func := "cicerone/ciceronelaw18.KinApart", spec := "kinApart", inPlace := ["maps.clone"], unfollowed := true, recurses := true, apart := false }
def KinApartSaid : Prop := kinApartRow.holds Try.pinned (OpenSpec.ofChange kinApartSpec)

/-- ITS FALSE NEIGHBOUR: 'it returns false'. Refute it at one input. -/
def kinApartWrong : ChangeSpec := { name := "kinApart", fn := fun _ => fun
  | [d1, d2, d3, d4] => { results := [.lit (.bool false)], args := [d1, d2, d3, d4] }
  | _ => none }
def KinApartWrongFalsely : Prop := kinApartRow.holds Try.pinned (OpenSpec.ofChange kinApartWrong)

/-- 'ciceronelaw18.KinJoins': WHATEVER THE INPUT: true; the input reads as it did. -/
def kinJoinsSpec : ChangeSpec := { name := "kinJoins", fn := fun _ => fun
  | [d1, d2, d3, d4] => { results := [.lit (.bool true)], args := [d1, d2, d3, d4] }
  | _ => none }
def kinJoinsRow : OpenClaim := { program := "ytbmkejiijkbmlaa", sum := "0d2c09509a90aa2006073c4857ac1e2effc2a6bb47ca76431df557b5c5d13246", func := "cicerone/ciceronelaw18.KinJoins", spec := "kinJoins", inPlace := ["maps.clone"], unfollowed := true, recurses := true, apart := false }
def KinJoinsSaid : Prop := kinJoinsRow.holds Try.pinned (OpenSpec.ofChange kinJoinsSpec)

/-- ITS FALSE NEIGHBOUR: 'it returns false'. Refute it at one input. -/
def kinJoinsWrong : ChangeSpec := { name := "kinJoins", fn := fun _ => fun
  | [d1, d2, d3, d4] => { results := [.lit (.bool false)], args := [d1, d2, d3, d4] }
  | _ => none }
def KinJoinsWrongFalsely : Prop := kinJoinsRow.holds Try.pinned (OpenSpec.ofChange kinJoinsWrong)

/-- 'ciceronelaw18.KinOrder': WHATEVER THE INPUT: true; the input reads as it did. -/
def kinOrderSpec : ChangeSpec := { name := "kinOrder", fn := fun _ => fun
  | [d1, d2, d3, d4, d5] => { results := [.lit (.bool true)], args := [d1, d2, d3, d4, d5] }
  | _ => none }
def kinOrderRow : OpenClaim := { program := "ytbmkejiijkbmlaa", sum := "0d2c09509a90aa2006073c4857ac1e2effc2a6bb47ca76431df557b5c5d13246", func := "cicerone/ciceronelaw18.KinOrder", spec := "kinOrder", inPlace := ["maps.clone"], unfollowed := true, recurses := true, apart := false }
def KinOrderSaid : Prop := kinOrderRow.holds Try.pinned (OpenSpec.ofChange kinOrderSpec)

/-- ITS FALSE NEIGHBOUR: 'it returns false'. Refute it at one input. -/
def kinOrderWrong : ChangeSpec := { name := "kinOrder", fn := fun _ => fun
  | [d1, d2, d3, d4, d5] => { results := [.lit (.bool false)], args := [d1, d2, d3, d4, d5] }
  | _ => none }
def KinOrderWrongFalsely : Prop := kinOrderRow.holds Try.pinned (OpenSpec.ofChange kinOrderWrong)

/-- 'ciceronelaw18.KinAsked': WHATEVER THE INPUT: true; the input reads as it did. -/
def kinAskedSpec : ChangeSpec := { name := "kinAsked", fn := fun _ => fun
  | [d1, d2, d3, d4] => { results := [.lit (.bool true)], args := [d1, d2, d3, d4] }
  | _ => none }
def kinAskedRow : OpenClaim := { program := "ytbmkejiijkbmlaa", sum := "0d2c09509a90aa2006073c4857ac1e2effc2a6bb47ca76431df557b5c5d13246", func := "cicerone/ciceronelaw18.KinAsked", spec := "kinAsked", inPlace := ["maps.clone"], unfollowed := true, recurses := true, apart := false }
def KinAskedSaid : Prop := kinAskedRow.holds Try.pinned (OpenSpec.ofChange kinAskedSpec)

/-- ITS FALSE NEIGHBOUR: 'it returns false'. Refute it at one input. -/
def kinAskedWrong : ChangeSpec := { name := "kinAsked", fn := fun _ => fun
  | [d1, d2, d3, d4] => { results := [.lit (.bool false)], args := [d1, d2, d3, d4] }
  | _ => none }
def KinAskedWrongFalsely : Prop := kinAskedRow.holds Try.pinned (OpenSpec.ofChange kinAskedWrong)

/- THE SECOND FORM. 'bulk': how many values and letters a reading holds, each counted each time it is reached (what is shared counts as often as it is met; a slice's spare places count too). A statement '..UptoSaid' is the law's where the arguments, and the package variables that the reading takes, are together of bulk at most 1048576: NARROWER than '..Said'. Prove '..Said' where nothing that the law and all that it calls make is longer than what came in: it says more and counts as full. Else prove '..UptoSaid'. A law counts once. -/
mutual
def uptoBulk {H : Type} : DataW H → Nat
  | .lit (.string bytes) => bytes.length + 1
  | .lit _ => 1
  | .nil => 1
  | .ptr d => uptoBulk d + 1
  | .slice elems spare => uptoBulkAll elems + uptoBulkAll spare + 1
  | .agg parts => uptoBulkAll parts + 1
  | .iface _ d => uptoBulk d + 1
  | .map entries => uptoBulkEntries entries + 1
  | .held _ => 1
def uptoBulkAll {H : Type} : List (DataW H) → Nat
  | [] => 0
  | d :: r => uptoBulk d + uptoBulkAll r
def uptoBulkEntries {H : Type} : List (Lit × DataW H) → Nat
  | [] => 0
  | x :: r => uptoBulkEntry x + uptoBulkEntries r
def uptoBulkEntry {H : Type} : Lit × DataW H → Nat
  | (.string bytes, d) => bytes.length + uptoBulk d + 1
  | (_, d) => uptoBulk d + 1
 end
def uptoSmall : (H : Type) → List (DataW H) → Bool := fun _ ds => decide (uptoBulkAll ds ≤ 1048576)
def OpenSpec.upto (s : _root_.Go.ChangeSpec) : _root_.Go.OpenSpec := { _root_.Go.OpenSpec.ofChange s with cond := some uptoSmall }

/-- 'ciceronelaw18.KinBounds', WHERE WHAT IT READS IS OF BULK AT MOST 1048576: true; the input reads as it did. -/
def kinBoundsUptoRow : OpenClaim := { program := "ytbmkejiijkbmlaa", sum := "0d2c09509a90aa2006073c4857ac1e2effc2a6bb47ca76431df557b5c5d13246", func := "cicerone/ciceronelaw18.KinBounds", spec := "kinBounds", inPlace := ["maps.clone"], unfollowed := true, recurses := true, apart := false, narrowed := true }
def KinBoundsUptoSaid : Prop := kinBoundsUptoRow.holds Try.pinned (OpenSpec.upto kinBoundsSpec)

/-- 'ciceronelaw18.KinApart', WHERE WHAT IT READS IS OF BULK AT MOST 1048576: true; the input reads as it did. -/
def kinApartUptoRow : OpenClaim := { program := "ytbmkejiijkbmlaa", sum := "0d2c09509a90aa2006073c4857ac1e2effc2a6bb47ca76431df557b5c5d13246", func := "cicerone/ciceronelaw18.KinApart", spec := "kinApart", inPlace := ["maps.clone"], unfollowed := true, recurses := true, apart := false, narrowed := true }
def KinApartUptoSaid : Prop := kinApartUptoRow.holds Try.pinned (OpenSpec.upto kinApartSpec)

/-- 'ciceronelaw18.KinJoins', WHERE WHAT IT READS IS OF BULK AT MOST 1048576: true; the input reads as it did. -/
def kinJoinsUptoRow : OpenClaim := { program := "ytbmkejiijkbmlaa", sum := "0d2c09509a90aa2006073c4857ac1e2effc2a6bb47ca76431df557b5c5d13246", func := "cicerone/ciceronelaw18.KinJoins", spec := "kinJoins", inPlace := ["maps.clone"], unfollowed := true, recurses := true, apart := false, narrowed := true }
def KinJoinsUptoSaid : Prop := kinJoinsUptoRow.holds Try.pinned (OpenSpec.upto kinJoinsSpec)

/-- 'ciceronelaw18.KinOrder', WHERE WHAT IT READS IS OF BULK AT MOST 1048576: true; the input reads as it did. -/
def kinOrderUptoRow : OpenClaim := { program := "ytbmkejiijkbmlaa", sum := "0d2c09509a90aa2006073c4857ac1e2effc2a6bb47ca76431df557b5c5d13246", func := "cicerone/ciceronelaw18.KinOrder", spec := "kinOrder", inPlace := ["maps.clone"], unfollowed := true, recurses := true, apart := false, narrowed := true }
def KinOrderUptoSaid : Prop := kinOrderUptoRow.holds Try.pinned (OpenSpec.upto kinOrderSpec)

/-- 'ciceronelaw18.KinAsked', WHERE WHAT IT READS IS OF BULK AT MOST 1048576: true; the input reads as it did. -/
def kinAskedUptoRow : OpenClaim := { program := "ytbmkejiijkbmlaa", sum := "0d2c09509a90aa2006073c4857ac1e2effc2a6bb47ca76431df557b5c5d13246", func := "cicerone/ciceronelaw18.KinAsked", spec := "kinAsked", inPlace := ["maps.clone"], unfollowed := true, recurses := true, apart := false, narrowed := true }
def KinAskedUptoSaid : Prop := kinAskedUptoRow.holds Try.pinned (OpenSpec.upto kinAskedSpec)

end Rows
end Go.Proofs.Ytbmkejiijkbmlaa
