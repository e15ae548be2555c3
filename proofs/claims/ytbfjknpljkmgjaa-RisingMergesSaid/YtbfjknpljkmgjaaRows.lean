/-
  No cell of these rows narrows 'for every input' (looked for: loops, veiled, ifaces, maps, wideKeys, modest, calm, conditions, laid).
  DERIVED. THE GIVEN ROWS OF THIS SEAT. 8 by the template 'for every input the law returns true; each argument reads behind the call as it read before'; 0 by the template 'total and deterministic' (their statements: YtbfjknpljkmgjaaTotals.lean).
  GIVEN WITH THE SEED: the statements are not yours to turn. If you find one false, say at which input.
  Laid BY PROGRAM, IN A SANDBOX (cutbox-rows.mjs): the forced cells as the released guide's own fill.sh prints them over the translation c9d5c57e1882d8b4… (all of the seat's roots in one cut). By AI agents, Wed Nov 11 2026. No macro, syntax, notation, axiom, sorry.
-/
import Derived.Test.YtbfjknpljkmgjaaChecked
import GoSem.Claim
import GoSem.ClaimJoined
import GoSem.ClaimMapViews
import Derived.JoinedTies
import Derived.KernelRfl
namespace Go.Proofs.Ytbfjknpljkmgjaa
/- THE CELL 'sum', in the pinned program and in every row, IS THE sha256 OF THE DUMP (.gsa) THAT YtbfjknpljkmgjaaProg.lean LOADS. Nothing in Lean hashes anything: it is a label: what it is worth is what the hold of that sum in a sandbox is worth. -/
noncomputable def Try.pinned : Pinned := { name := "ytbfjknpljkmgjaa", sum := "c9d5c57e1882d8b4c02e5c33ebab8b8b47465be4016d41023be6bce54185016c", checked := Try.checked }
namespace Rows
def none {H : Type} : Left H := { results := [], args := [] }

/-- 'ciceronelaw19.RisingOf': WHATEVER THE INPUT: true; the input reads as it did. -/
def risingOfSpec : ChangeSpec := { name := "risingOf", fn := fun _ => fun
  | [d1, d2, d3, d4, d5] => { results := [.lit (.bool true)], args := [d1, d2, d3, d4, d5] }
  | _ => none }
def risingOfRow : OpenClaim := { program := "ytbfjknpljkmgjaa", sum := "c9d5c57e1882d8b4c02e5c33ebab8b8b47465be4016d41023be6bce54185016c", func := "cicerone/ciceronelaw19.RisingOf", spec := "risingOf", unfollowed := true, recurses := true, plainKeys := false, apart := false }
def RisingOfSaid : Prop := risingOfRow.holds Try.pinned (OpenSpec.ofChange risingOfSpec)

/-- ITS FALSE NEIGHBOUR: 'it returns false'. Refute it at one input. -/
def risingOfWrong : ChangeSpec := { name := "risingOf", fn := fun _ => fun
  | [d1, d2, d3, d4, d5] => { results := [.lit (.bool false)], args := [d1, d2, d3, d4, d5] }
  | _ => none }
def RisingOfWrongFalsely : Prop := risingOfRow.holds Try.pinned (OpenSpec.ofChange risingOfWrong)

/-- 'ciceronelaw19.RisingRatios': WHATEVER THE INPUT: true; the input reads as it did. -/
def risingRatiosSpec : ChangeSpec := { name := "risingRatios", fn := fun _ => fun
  | [d] => { results := [.lit (.bool true)], args := [d] }
  | _ => none }
def risingRatiosRow : OpenClaim := { program := "ytbfjknpljkmgjaa", sum := "c9d5c57e1882d8b4c02e5c33ebab8b8b47465be4016d41023be6bce54185016c", func := "cicerone/ciceronelaw19.RisingRatios", spec := "risingRatios", unfollowed := true, recurses := true, plainKeys := false, apart := false }
def RisingRatiosSaid : Prop := risingRatiosRow.holds Try.pinned (OpenSpec.ofChange risingRatiosSpec)

/-- ITS FALSE NEIGHBOUR: 'it returns false'. Refute it at one input. -/
def risingRatiosWrong : ChangeSpec := { name := "risingRatios", fn := fun _ => fun
  | [d] => { results := [.lit (.bool false)], args := [d] }
  | _ => none }
def RisingRatiosWrongFalsely : Prop := risingRatiosRow.holds Try.pinned (OpenSpec.ofChange risingRatiosWrong)

/-- 'ciceronelaw19.RisingOrders': WHATEVER THE INPUT: true; the input reads as it did. -/
def risingOrdersSpec : ChangeSpec := { name := "risingOrders", fn := fun _ => fun
  | [d1, d2, d3, d4, d5] => { results := [.lit (.bool true)], args := [d1, d2, d3, d4, d5] }
  | _ => none }
def risingOrdersRow : OpenClaim := { program := "ytbfjknpljkmgjaa", sum := "c9d5c57e1882d8b4c02e5c33ebab8b8b47465be4016d41023be6bce54185016c", func := "cicerone/ciceronelaw19.RisingOrders", spec := "risingOrders", unfollowed := true, recurses := true, plainKeys := false, apart := false }
def RisingOrdersSaid : Prop := risingOrdersRow.holds Try.pinned (OpenSpec.ofChange risingOrdersSpec)

/-- ITS FALSE NEIGHBOUR: 'it returns false'. Refute it at one input. -/
def risingOrdersWrong : ChangeSpec := { name := "risingOrders", fn := fun _ => fun
  | [d1, d2, d3, d4, d5] => { results := [.lit (.bool false)], args := [d1, d2, d3, d4, d5] }
  | _ => none }
def RisingOrdersWrongFalsely : Prop := risingOrdersRow.holds Try.pinned (OpenSpec.ofChange risingOrdersWrong)

/-- 'ciceronelaw19.RisingPane': WHATEVER THE INPUT: true; the input reads as it did. -/
def risingPaneSpec : ChangeSpec := { name := "risingPane", fn := fun _ => fun
  | [d1, d2, d3, d4, d5] => { results := [.lit (.bool true)], args := [d1, d2, d3, d4, d5] }
  | _ => none }
def risingPaneRow : OpenClaim := { program := "ytbfjknpljkmgjaa", sum := "c9d5c57e1882d8b4c02e5c33ebab8b8b47465be4016d41023be6bce54185016c", func := "cicerone/ciceronelaw19.RisingPane", spec := "risingPane", unfollowed := true, recurses := true, plainKeys := false, apart := false }
def RisingPaneSaid : Prop := risingPaneRow.holds Try.pinned (OpenSpec.ofChange risingPaneSpec)

/-- ITS FALSE NEIGHBOUR: 'it returns false'. Refute it at one input. -/
def risingPaneWrong : ChangeSpec := { name := "risingPane", fn := fun _ => fun
  | [d1, d2, d3, d4, d5] => { results := [.lit (.bool false)], args := [d1, d2, d3, d4, d5] }
  | _ => none }
def RisingPaneWrongFalsely : Prop := risingPaneRow.holds Try.pinned (OpenSpec.ofChange risingPaneWrong)

/-- 'ciceronelaw19.RisingFloors': WHATEVER THE INPUT: true; the input reads as it did. -/
def risingFloorsSpec : ChangeSpec := { name := "risingFloors", fn := fun _ => fun
  | [d1, d2, d3, d4, d5, d6] => { results := [.lit (.bool true)], args := [d1, d2, d3, d4, d5, d6] }
  | _ => none }
def risingFloorsRow : OpenClaim := { program := "ytbfjknpljkmgjaa", sum := "c9d5c57e1882d8b4c02e5c33ebab8b8b47465be4016d41023be6bce54185016c", func := "cicerone/ciceronelaw19.RisingFloors", spec := "risingFloors", unfollowed := true, recurses := true, plainKeys := false, apart := false }
def RisingFloorsSaid : Prop := risingFloorsRow.holds Try.pinned (OpenSpec.ofChange risingFloorsSpec)

/-- ITS FALSE NEIGHBOUR: 'it returns false'. Refute it at one input. -/
def risingFloorsWrong : ChangeSpec := { name := "risingFloors", fn := fun _ => fun
  | [d1, d2, d3, d4, d5, d6] => { results := [.lit (.bool false)], args := [d1, d2, d3, d4, d5, d6] }
  | _ => none }
def RisingFloorsWrongFalsely : Prop := risingFloorsRow.holds Try.pinned (OpenSpec.ofChange risingFloorsWrong)

/-- 'ciceronelaw19.RisingGrows': WHATEVER THE INPUT: true; the input reads as it did. -/
def risingGrowsSpec : ChangeSpec := { name := "risingGrows", fn := fun _ => fun
  | [d1, d2, d3, d4, d5, d6] => { results := [.lit (.bool true)], args := [d1, d2, d3, d4, d5, d6] }
  | _ => none }
def risingGrowsRow : OpenClaim := { program := "ytbfjknpljkmgjaa", sum := "c9d5c57e1882d8b4c02e5c33ebab8b8b47465be4016d41023be6bce54185016c", func := "cicerone/ciceronelaw19.RisingGrows", spec := "risingGrows", unfollowed := true, recurses := true, plainKeys := false, apart := false }
def RisingGrowsSaid : Prop := risingGrowsRow.holds Try.pinned (OpenSpec.ofChange risingGrowsSpec)

/-- ITS FALSE NEIGHBOUR: 'it returns false'. Refute it at one input. -/
def risingGrowsWrong : ChangeSpec := { name := "risingGrows", fn := fun _ => fun
  | [d1, d2, d3, d4, d5, d6] => { results := [.lit (.bool false)], args := [d1, d2, d3, d4, d5, d6] }
  | _ => none }
def RisingGrowsWrongFalsely : Prop := risingGrowsRow.holds Try.pinned (OpenSpec.ofChange risingGrowsWrong)

/-- 'ciceronelaw19.RisingTop': WHATEVER THE INPUT: true; the input reads as it did. -/
def risingTopSpec : ChangeSpec := { name := "risingTop", fn := fun _ => fun
  | [d1, d2, d3, d4, d5, d6] => { results := [.lit (.bool true)], args := [d1, d2, d3, d4, d5, d6] }
  | _ => none }
def risingTopRow : OpenClaim := { program := "ytbfjknpljkmgjaa", sum := "c9d5c57e1882d8b4c02e5c33ebab8b8b47465be4016d41023be6bce54185016c", func := "cicerone/ciceronelaw19.RisingTop", spec := "risingTop", unfollowed := true, recurses := true, plainKeys := false, apart := false }
def RisingTopSaid : Prop := risingTopRow.holds Try.pinned (OpenSpec.ofChange risingTopSpec)

/-- ITS FALSE NEIGHBOUR: 'it returns false'. Refute it at one input. -/
def risingTopWrong : ChangeSpec := { name := "risingTop", fn := fun _ => fun
  | [d1, d2, d3, d4, d5, d6] => { results := [.lit (.bool false)], args := [d1, d2, d3, d4, d5, d6] }
  | _ => none }
def RisingTopWrongFalsely : Prop := risingTopRow.holds Try.pinned (OpenSpec.ofChange risingTopWrong)

/-- 'ciceronelaw19.RisingMerges': WHATEVER THE INPUT: true; the input reads as it did. -/
def risingMergesSpec : ChangeSpec := { name := "risingMerges", fn := fun _ => fun
  | [d1, d2, d3, d4, d5] => { results := [.lit (.bool true)], args := [d1, d2, d3, d4, d5] }
  | _ => none }
def risingMergesRow : OpenClaim := { program := "ytbfjknpljkmgjaa", sum := "c9d5c57e1882d8b4c02e5c33ebab8b8b47465be4016d41023be6bce54185016c", func := "cicerone/ciceronelaw19.RisingMerges", spec := "risingMerges", inPlace := ["maps.clone"], unfollowed := true, recurses := true, plainKeys := false, apart := false }
def RisingMergesSaid : Prop := risingMergesRow.holds Try.pinned (OpenSpec.ofChange risingMergesSpec)

/-- ITS FALSE NEIGHBOUR: 'it returns false'. Refute it at one input. -/
def risingMergesWrong : ChangeSpec := { name := "risingMerges", fn := fun _ => fun
  | [d1, d2, d3, d4, d5] => { results := [.lit (.bool false)], args := [d1, d2, d3, d4, d5] }
  | _ => none }
def RisingMergesWrongFalsely : Prop := risingMergesRow.holds Try.pinned (OpenSpec.ofChange risingMergesWrong)

/- THE SECOND FORM. 'bulk': how many values and letters a reading holds, each counted each time it is reached (what is shared counts as often as it is met; a slice's spare places count too). A statement '..UptoSaid' is the law's where the arguments, and the package variables that the reading takes, are together of bulk at most 1048576: NARROWER than '..Said'. Prove '..Said' where nothing that the law and all that it calls make is longer than what came in: it says more and counts as full. Else prove '..UptoSaid'. A law counts once. -/
mutual
def uptoBulk {H : Type} : DataW H → Nat
  | .lit (.string bytes) => bytes.length + 1
  | .lit _ => 1
  | .nil => 1
  | .ptr d => uptoBulk d + 1
  | .slice elems spare => uptoBulkAll elems + uptoBulkAll spare + 1
  | .agg parts => uptoBulkAll parts + 1
  | .iface _ d => uptoBulk d + 1
  | .map entries => uptoBulkEntries entries + 1
  | .held _ => 1
def uptoBulkAll {H : Type} : List (DataW H) → Nat
  | [] => 0
  | d :: r => uptoBulk d + uptoBulkAll r
def uptoBulkEntries {H : Type} : List (Lit × DataW H) → Nat
  | [] => 0
  | x :: r => uptoBulkEntry x + uptoBulkEntries r
def uptoBulkEntry {H : Type} : Lit × DataW H → Nat
  | (.string bytes, d) => bytes.length + uptoBulk d + 1
  | (_, d) => uptoBulk d + 1
 end
def uptoSmall : (H : Type) → List (DataW H) → Bool := fun _ ds => decide (uptoBulkAll ds ≤ 1048576)
def OpenSpec.upto (s : _root_.Go.ChangeSpec) : _root_.Go.OpenSpec := { _root_.Go.OpenSpec.ofChange s with cond := some uptoSmall }

/-- 'ciceronelaw19.RisingOf', WHERE WHAT IT READS IS OF BULK AT MOST 1048576: true; the input reads as it did. -/
def risingOfUptoRow : OpenClaim := { program := "ytbfjknpljkmgjaa", sum := "c9d5c57e1882d8b4c02e5c33ebab8b8b47465be4016d41023be6bce54185016c", func := "cicerone/ciceronelaw19.RisingOf", spec := "risingOf", unfollowed := true, recurses := true, plainKeys := false, apart := false, narrowed := true }
def RisingOfUptoSaid : Prop := risingOfUptoRow.holds Try.pinned (OpenSpec.upto risingOfSpec)

/-- 'ciceronelaw19.RisingRatios', WHERE WHAT IT READS IS OF BULK AT MOST 1048576: true; the input reads as it did. -/
def risingRatiosUptoRow : OpenClaim := { program := "ytbfjknpljkmgjaa", sum := "c9d5c57e1882d8b4c02e5c33ebab8b8b47465be4016d41023be6bce54185016c", func := "cicerone/ciceronelaw19.RisingRatios", spec := "risingRatios", unfollowed := true, recurses := true, plainKeys := false, apart := false, narrowed := true }
def RisingRatiosUptoSaid : Prop := risingRatiosUptoRow.holds Try.pinned (OpenSpec.upto risingRatiosSpec)

/-- 'ciceronelaw19.RisingOrders', WHERE WHAT IT READS IS OF BULK AT MOST 1048576: true; the input reads as it did. -/
def risingOrdersUptoRow : OpenClaim := { program := "ytbfjknpljkmgjaa", sum := "c9d5c57e1882d8b4c02e5c33ebab8b8b47465be4016d41023be6bce54185016c", func := "cicerone/ciceronelaw19.RisingOrders", spec := "risingOrders", unfollowed := true, recurses := true, plainKeys := false, apart := false, narrowed := true }
def RisingOrdersUptoSaid : Prop := risingOrdersUptoRow.holds Try.pinned (OpenSpec.upto risingOrdersSpec)

/-- 'ciceronelaw19.RisingPane', WHERE WHAT IT READS IS OF BULK AT MOST 1048576: true; the input reads as it did. -/
def risingPaneUptoRow : OpenClaim := { program := "ytbfjknpljkmgjaa", sum := "c9d5c57e1882d8b4c02e5c33ebab8b8b47465be4016d41023be6bce54185016c", func := "cicerone/ciceronelaw19.RisingPane", spec := "risingPane", unfollowed := true, recurses := true, plainKeys := false, apart := false, narrowed := true }
def RisingPaneUptoSaid : Prop := risingPaneUptoRow.holds Try.pinned (OpenSpec.upto risingPaneSpec)

/-- 'ciceronelaw19.RisingFloors', WHERE WHAT IT READS IS OF BULK AT MOST 1048576: true; the input reads as it did. -/
def risingFloorsUptoRow : OpenClaim := { program := "ytbfjknpljkmgjaa", sum := "c9d5c57e1882d8b4c02e5c33ebab8b8b47465be4016d41023be6bce54185016c", func := "cicerone/ciceronelaw19.RisingFloors", spec := "risingFloors", unfollowed := true, recurses := true, plainKeys := false, apart := false, narrowed := true }
def RisingFloorsUptoSaid : Prop := risingFloorsUptoRow.holds Try.pinned (OpenSpec.upto risingFloorsSpec)

/-- 'ciceronelaw19.RisingGrows', WHERE WHAT IT READS IS OF BULK AT MOST 1048576: true; the input reads as it did. -/
def risingGrowsUptoRow : OpenClaim := { program := "ytbfjknpljkmgjaa", sum := "c9d5c57e1882d8b4c02e5c33ebab8b8b47465be4016d41023be6bce54185016c", func := "cicerone/ciceronelaw19.RisingGrows", spec := "risingGrows", unfollowed := true, recurses := true, plainKeys := false, apart := false, narrowed := true }
def RisingGrowsUptoSaid : Prop := risingGrowsUptoRow.holds Try.pinned (OpenSpec.upto risingGrowsSpec)

/-- 'ciceronelaw19.RisingTop', WHERE WHAT IT READS IS OF BULK AT MOST 1048576: true; the input reads as it did. -/
def risingTopUptoRow : OpenClaim := { program := "ytbfjknpljkmgjaa", sum := "c9d5c57e1882d8b4c02e5c33ebab8b8b47465be4016d41023be6bce54185016c", func := "cicerone/ciceronelaw19.RisingTop", spec := "risingTop", unfollowed := true, recurses := true, plainKeys := false, apart := false, narrowed := true }
def RisingTopUptoSaid : Prop := risingTopUptoRow.holds Try.pinned (OpenSpec.upto risingTopSpec)

/-- 'ciceronelaw19.RisingMerges', WHERE WHAT IT READS IS OF BULK AT MOST 1048576: true; the input reads as it did. -/
def risingMergesUptoRow : OpenClaim := { program := "ytbfjknpljkmgjaa", sum := "c9d5c57e1882d8b4c02e5c33ebab8b8b47465be4016d41023be6bce54185016c", func := "cicerone/ciceronelaw19.RisingMerges", spec := "risingMerges", inPlace := ["maps.clone"], unfollowed := true, recurses := true, plainKeys := false, apart := false, narrowed := true }
def RisingMergesUptoSaid : Prop := risingMergesUptoRow.holds Try.pinned (OpenSpec.upto risingMergesSpec)

end Rows
end Go.Proofs.Ytbfjknpljkmgjaa
