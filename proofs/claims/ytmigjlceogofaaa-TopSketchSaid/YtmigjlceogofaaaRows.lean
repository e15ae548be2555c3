/-
  No cell of these rows narrows 'for every input' (looked for: loops, veiled, ifaces, maps, wideKeys, modest, calm, conditions, laid).
  DERIVED. THE GIVEN ROWS OF THIS SEAT. 4 by the template 'for every input the law returns true; each argument reads behind the call as it read before'; 0 by the template 'total and deterministic' (their statements: YtmigjlceogofaaaTotals.lean).
  GIVEN WITH THE SEED: the statements are not yours to turn. If you find one false, say at which input.
  Laid BY PROGRAM, IN A SANDBOX (cutbox-rows.mjs): the forced cells as the released guide's own fill.sh prints them over the translation 211f99b454102b23… (all of the seat's roots in one cut). By AI agents, Wed Nov 11 2026. No macro, syntax, notation, axiom, sorry.
-/
import Derived.Test.YtmigjlceogofaaaChecked
import GoSem.Claim
import GoSem.ClaimJoined
import GoSem.ClaimMapViews
import Derived.JoinedTies
import Derived.KernelRfl
namespace Go.Proofs.Ytmigjlceogofaaa
/- THE CELL 'sum', in the pinned program and in every row, IS THE sha256 OF THE DUMP (.gsa) THAT YtmigjlceogofaaaProg.lean LOADS. Nothing in Lean hashes anything: it is a label: what it is worth is what the hold of that sum in a sandbox is worth. -/
noncomputable def Try.pinned : Pinned := { name := "ytmigjlceogofaaa", sum := "211f99b454102b23e8b4e307bf7d3fbed314616b9897fdc06c65373a1e2a17f8", checked := Try.checked }
namespace Rows
def none {H : Type} : Left H := { results := [], args := [] }

/-- 'ciceronetop.TopDecay': WHATEVER THE INPUT: true; the input reads as it did. -/
def topDecaySpec : ChangeSpec := { name := "topDecay", fn := fun _ => fun
  | [d1, d2, d3, d4, d5] => { results := [.lit (.bool true)], args := [d1, d2, d3, d4, d5] }
  | _ => none }
def topDecayRow : OpenClaim := { program := "ytmigjlceogofaaa", sum := "211f99b454102b23e8b4e307bf7d3fbed314616b9897fdc06c65373a1e2a17f8", func := "cicerone/ciceronetop.TopDecay", spec := "topDecay", inPlace := ["maps.clone"], unfollowed := true, recurses := true, plainKeys := false, apart := false }
def TopDecaySaid : Prop := topDecayRow.holds Try.pinned (OpenSpec.ofChange topDecaySpec)

/-- ITS FALSE NEIGHBOUR: 'it returns false'. Refute it at one input. -/
def topDecayWrong : ChangeSpec := { name := "topDecay", fn := fun _ => fun
  | [d1, d2, d3, d4, d5] => { results := [.lit (.bool false)], args := [d1, d2, d3, d4, d5] }
  | _ => none }
def TopDecayWrongFalsely : Prop := topDecayRow.holds Try.pinned (OpenSpec.ofChange topDecayWrong)

/-- 'ciceronetop.TopCache': WHATEVER THE INPUT: true; the input reads as it did. -/
def topCacheSpec : ChangeSpec := { name := "topCache", fn := fun _ => fun
  | [d1, d2, d3] => { results := [.lit (.bool true)], args := [d1, d2, d3] }
  | _ => none }
def topCacheRow : OpenClaim := { program := "ytmigjlceogofaaa", sum := "211f99b454102b23e8b4e307bf7d3fbed314616b9897fdc06c65373a1e2a17f8", func := "cicerone/ciceronetop.TopCache", spec := "topCache", inPlace := ["internal/abi.NoEscape", "internal/bytealg.MakeNoZero"], unfollowed := true, recurses := true, plainKeys := false, apart := false }
def TopCacheSaid : Prop := topCacheRow.holds Try.pinned (OpenSpec.ofChange topCacheSpec)

/-- ITS FALSE NEIGHBOUR: 'it returns false'. Refute it at one input. -/
def topCacheWrong : ChangeSpec := { name := "topCache", fn := fun _ => fun
  | [d1, d2, d3] => { results := [.lit (.bool false)], args := [d1, d2, d3] }
  | _ => none }
def TopCacheWrongFalsely : Prop := topCacheRow.holds Try.pinned (OpenSpec.ofChange topCacheWrong)

/-- 'ciceronetop.TopSketch': WHATEVER THE INPUT: true; the input reads as it did. -/
def topSketchSpec : ChangeSpec := { name := "topSketch", fn := fun _ => fun
  | [d1, d2, d3] => { results := [.lit (.bool true)], args := [d1, d2, d3] }
  | _ => none }
def topSketchRow : OpenClaim := { program := "ytmigjlceogofaaa", sum := "211f99b454102b23e8b4e307bf7d3fbed314616b9897fdc06c65373a1e2a17f8", func := "cicerone/ciceronetop.TopSketch", spec := "topSketch", inPlace := ["slices.overlaps[uint64]", "maps.clone"], unfollowed := true, recurses := true, plainKeys := false, apart := false }
def TopSketchSaid : Prop := topSketchRow.holds Try.pinned (OpenSpec.ofChange topSketchSpec)

/-- ITS FALSE NEIGHBOUR: 'it returns false'. Refute it at one input. -/
def topSketchWrong : ChangeSpec := { name := "topSketch", fn := fun _ => fun
  | [d1, d2, d3] => { results := [.lit (.bool false)], args := [d1, d2, d3] }
  | _ => none }
def TopSketchWrongFalsely : Prop := topSketchRow.holds Try.pinned (OpenSpec.ofChange topSketchWrong)

/-- 'ciceronetop.TopRising': WHATEVER THE INPUT: true; the input reads as it did. -/
def topRisingSpec : ChangeSpec := { name := "topRising", fn := fun _ => fun
  | [d1, d2, d3, d4, d5] => { results := [.lit (.bool true)], args := [d1, d2, d3, d4, d5] }
  | _ => none }
def topRisingRow : OpenClaim := { program := "ytmigjlceogofaaa", sum := "211f99b454102b23e8b4e307bf7d3fbed314616b9897fdc06c65373a1e2a17f8", func := "cicerone/ciceronetop.TopRising", spec := "topRising", unfollowed := true, recurses := true, plainKeys := false, apart := false }
def TopRisingSaid : Prop := topRisingRow.holds Try.pinned (OpenSpec.ofChange topRisingSpec)

/-- ITS FALSE NEIGHBOUR: 'it returns false'. Refute it at one input. -/
def topRisingWrong : ChangeSpec := { name := "topRising", fn := fun _ => fun
  | [d1, d2, d3, d4, d5] => { results := [.lit (.bool false)], args := [d1, d2, d3, d4, d5] }
  | _ => none }
def TopRisingWrongFalsely : Prop := topRisingRow.holds Try.pinned (OpenSpec.ofChange topRisingWrong)

/- THE SECOND FORM. 'bulk': how many values and letters a reading holds, each counted each time it is reached (what is shared counts as often as it is met; a slice's spare places count too). A statement '..UptoSaid' is the law's where the arguments, and the package variables that the reading takes, are together of bulk at most 1048576: NARROWER than '..Said'. Prove '..Said' where nothing that the law and all that it calls make is longer than what came in: it says more and counts as full. Else prove '..UptoSaid'. A law counts once. -/
mutual
def uptoBulk {H : Type} : DataW H → Nat
  | .lit (.string bytes) => bytes.length + 1
  | .lit _ => 1
  | .nil => 1
  | .ptr d => uptoBulk d + 1
  | .slice elems spare => uptoBulkAll elems + uptoBulkAll spare + 1
  | .agg parts => uptoBulkAll parts + 1
  | .iface _ d => uptoBulk d + 1
  | .map entries => uptoBulkEntries entries + 1
  | .held _ => 1
def uptoBulkAll {H : Type} : List (DataW H) → Nat
  | [] => 0
  | d :: r => uptoBulk d + uptoBulkAll r
def uptoBulkEntries {H : Type} : List (Lit × DataW H) → Nat
  | [] => 0
  | x :: r => uptoBulkEntry x + uptoBulkEntries r
def uptoBulkEntry {H : Type} : Lit × DataW H → Nat
  | (.string bytes, d) => bytes.length + uptoBulk d + 1
  | (_, d) => uptoBulk d + 1
 end
def uptoSmall : (H : Type) → List (DataW H) → Bool := fun _ ds => decide (uptoBulkAll ds ≤ 1048576)
def OpenSpec.upto (s : _root_.Go.ChangeSpec) : _root_.Go.OpenSpec := { _root_.Go.OpenSpec.ofChange s with cond := some uptoSmall }

/-- 'ciceronetop.TopDecay', WHERE WHAT IT READS IS OF BULK AT MOST 1048576: true; the input reads as it did. -/
def topDecayUptoRow : OpenClaim := { program := "ytmigjlceogofaaa", sum := "211f99b454102b23e8b4e307bf7d3fbed314616b9897fdc06c65373a1e2a17f8", func := "cicerone/ciceronetop.TopDecay", spec := "topDecay", inPlace := ["maps.clone"], unfollowed := true, recurses := true, plainKeys := false, apart := false, narrowed := true }
def TopDecayUptoSaid : Prop := topDecayUptoRow.holds Try.pinned (OpenSpec.upto topDecaySpec)

/-- 'ciceronetop.TopCache', WHERE WHAT IT READS IS OF BULK AT MOST 1048576: true; the input reads as it did. -/
def topCacheUptoRow : OpenClaim := { program := "ytmigjlceogofaaa", sum := "211f99b454102b23e8b4e307bf7d3fbed314616b9897fdc06c65373a1e2a17f8", func := "cicerone/ciceronetop.TopCache", spec := "topCache", inPlace := ["internal/abi.NoEscape", "internal/bytealg.MakeNoZero"], unfollowed := true, recurses := true, plainKeys := false, apart := false, narrowed := true }
def TopCacheUptoSaid : Prop := topCacheUptoRow.holds Try.pinned (OpenSpec.upto topCacheSpec)

/-- 'ciceronetop.TopSketch', WHERE WHAT IT READS IS OF BULK AT MOST 1048576: true; the input reads as it did. -/
def topSketchUptoRow : OpenClaim := { program := "ytmigjlceogofaaa", sum := "211f99b454102b23e8b4e307bf7d3fbed314616b9897fdc06c65373a1e2a17f8", func := "cicerone/ciceronetop.TopSketch", spec := "topSketch", inPlace := ["slices.overlaps[uint64]", "maps.clone"], unfollowed := true, recurses := true, plainKeys := false, apart := false, narrowed := true }
def TopSketchUptoSaid : Prop := topSketchUptoRow.holds Try.pinned (OpenSpec.upto topSketchSpec)

/-- 'ciceronetop.TopRising', WHERE WHAT IT READS IS OF BULK AT MOST 1048576: true; the input reads as it did. -/
def topRisingUptoRow : OpenClaim := { program := "ytmigjlceogofaaa", sum := "211f99b454102b23e8b4e307bf7d3fbed314616b9897fdc06c65373a1e2a17f8", func := "cicerone/ciceronetop.TopRising", spec := "topRising", unfollowed := true, recurses := true, plainKeys := false, apart := false, narrowed := true }
def TopRisingUptoSaid : Prop := topRisingUptoRow.holds Try.pinned (OpenSpec.upto topRisingSpec)

end Rows
end Go.Proofs.Ytmigjlceogofaaa
