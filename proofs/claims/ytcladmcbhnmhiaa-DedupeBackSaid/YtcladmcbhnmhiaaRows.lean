/-
  No cell of these rows narrows 'for every input' (looked for: loops, veiled, ifaces, maps, wideKeys, modest, calm, conditions, laid).
  DERIVED. THE GIVEN ROWS OF THIS SEAT. 7 by the template 'for every input the law returns true; each argument reads behind the call as it read before'; 0 by the template 'total and deterministic' (their statements: YtcladmcbhnmhiaaTotals.lean).
  GIVEN WITH THE SEED: the statements are not yours to turn. If you find one false, say at which input.
  Laid BY PROGRAM, IN A SANDBOX (cutbox-rows.mjs): the forced cells as the released guide's own fill.sh prints them over the translation 6a74be29a7f63f07… (all of the seat's roots in one cut). By AI agents, Wed Nov 11 2026. No macro, syntax, notation, axiom, sorry.
-/
import Derived.Test.YtcladmcbhnmhiaaChecked
import GoSem.Claim
import GoSem.ClaimJoined
import GoSem.ClaimMapViews
import Derived.JoinedTies
import Derived.KernelRfl
namespace Go.Proofs.Ytcladmcbhnmhiaa
/- THE CELL 'sum', in the pinned program and in every row, IS THE sha256 OF THE DUMP (.gsa) THAT YtcladmcbhnmhiaaProg.lean LOADS. Nothing in Lean hashes anything: it is a label: what it is worth is what the hold of that sum in a sandbox is worth. -/
noncomputable def Try.pinned : Pinned := { name := "ytcladmcbhnmhiaa", sum := "6a74be29a7f63f07e4ca02a088d4afa5ca2a0ca342cac4df30bbff9142d566d5", checked := Try.checked }
namespace Rows
def none {H : Type} : Left H := { results := [], args := [] }

/-- 'ciceronelaw07.DedupePuts': WHATEVER THE INPUT: true; the input reads as it did. -/
def dedupePutsSpec : ChangeSpec := { name := "dedupePuts", fn := fun _ => fun
  | [d1, d2, d3] => { results := [.lit (.bool true)], args := [d1, d2, d3] }
  | _ => none }
def dedupePutsRow : OpenClaim := { program := "ytcladmcbhnmhiaa", sum := "6a74be29a7f63f07e4ca02a088d4afa5ca2a0ca342cac4df30bbff9142d566d5", func := "cicerone/ciceronelaw07.DedupePuts", spec := "dedupePuts", inPlace := ["slices.overlaps[cicerone/dedupe.Range]"], unfollowed := true, recurses := true, apart := false }
def DedupePutsSaid : Prop := dedupePutsRow.holds Try.pinned (OpenSpec.ofChange dedupePutsSpec)

/-- ITS FALSE NEIGHBOUR: 'it returns false'. Refute it at one input. -/
def dedupePutsWrong : ChangeSpec := { name := "dedupePuts", fn := fun _ => fun
  | [d1, d2, d3] => { results := [.lit (.bool false)], args := [d1, d2, d3] }
  | _ => none }
def DedupePutsWrongFalsely : Prop := dedupePutsRow.holds Try.pinned (OpenSpec.ofChange dedupePutsWrong)

/-- 'ciceronelaw07.DedupeNext': WHATEVER THE INPUT: true; the input reads as it did. -/
def dedupeNextSpec : ChangeSpec := { name := "dedupeNext", fn := fun _ => fun
  | [d1, d2] => { results := [.lit (.bool true)], args := [d1, d2] }
  | _ => none }
def dedupeNextRow : OpenClaim := { program := "ytcladmcbhnmhiaa", sum := "6a74be29a7f63f07e4ca02a088d4afa5ca2a0ca342cac4df30bbff9142d566d5", func := "cicerone/ciceronelaw07.DedupeNext", spec := "dedupeNext", inPlace := ["slices.overlaps[cicerone/dedupe.Range]"], unfollowed := true, recurses := true, apart := false }
def DedupeNextSaid : Prop := dedupeNextRow.holds Try.pinned (OpenSpec.ofChange dedupeNextSpec)

/-- ITS FALSE NEIGHBOUR: 'it returns false'. Refute it at one input. -/
def dedupeNextWrong : ChangeSpec := { name := "dedupeNext", fn := fun _ => fun
  | [d1, d2] => { results := [.lit (.bool false)], args := [d1, d2] }
  | _ => none }
def DedupeNextWrongFalsely : Prop := dedupeNextRow.holds Try.pinned (OpenSpec.ofChange dedupeNextWrong)

/-- 'ciceronelaw07.DedupeRanges': WHATEVER THE INPUT: true; the input reads as it did. -/
def dedupeRangesSpec : ChangeSpec := { name := "dedupeRanges", fn := fun _ => fun
  | [d] => { results := [.lit (.bool true)], args := [d] }
  | _ => none }
def dedupeRangesRow : OpenClaim := { program := "ytcladmcbhnmhiaa", sum := "6a74be29a7f63f07e4ca02a088d4afa5ca2a0ca342cac4df30bbff9142d566d5", func := "cicerone/ciceronelaw07.DedupeRanges", spec := "dedupeRanges", inPlace := ["slices.overlaps[cicerone/dedupe.Range]"], unfollowed := true, recurses := true, apart := false }
def DedupeRangesSaid : Prop := dedupeRangesRow.holds Try.pinned (OpenSpec.ofChange dedupeRangesSpec)

/-- ITS FALSE NEIGHBOUR: 'it returns false'. Refute it at one input. -/
def dedupeRangesWrong : ChangeSpec := { name := "dedupeRanges", fn := fun _ => fun
  | [d] => { results := [.lit (.bool false)], args := [d] }
  | _ => none }
def DedupeRangesWrongFalsely : Prop := dedupeRangesRow.holds Try.pinned (OpenSpec.ofChange dedupeRangesWrong)

/-- 'ciceronelaw07.DedupeApart': WHATEVER THE INPUT: true; the input reads as it did. -/
def dedupeApartSpec : ChangeSpec := { name := "dedupeApart", fn := fun _ => fun
  | [d1, d2] => { results := [.lit (.bool true)], args := [d1, d2] }
  | _ => none }
def dedupeApartRow : OpenClaim := { program := "ytcladmcbhnmhiaa", sum := "6a74be29a7f63f07e4ca02a088d4afa5ca2a0ca342cac4df30bbff9142d566d5", func := "cicerone/ciceronelaw07.DedupeApart", spec := "dedupeApart", inPlace := ["slices.overlaps[cicerone/dedupe.Range]"], unfollowed := true, recurses := true, apart := false }
def DedupeApartSaid : Prop := dedupeApartRow.holds Try.pinned (OpenSpec.ofChange dedupeApartSpec)

/-- ITS FALSE NEIGHBOUR: 'it returns false'. Refute it at one input. -/
def dedupeApartWrong : ChangeSpec := { name := "dedupeApart", fn := fun _ => fun
  | [d1, d2] => { results := [.lit (.bool false)], args := [d1, d2] }
  | _ => none }
def DedupeApartWrongFalsely : Prop := dedupeApartRow.holds Try.pinned (OpenSpec.ofChange dedupeApartWrong)

/-- 'ciceronelaw07.DedupeBack': WHATEVER THE INPUT: true; the input reads as it did. -/
def dedupeBackSpec : ChangeSpec := { name := "dedupeBack", fn := fun _ => fun
  | [d1, d2] => { results := [.lit (.bool true)], args := [d1, d2] }
  | _ => none }
def dedupeBackRow : OpenClaim := { program := "ytcladmcbhnmhiaa", sum := "6a74be29a7f63f07e4ca02a088d4afa5ca2a0ca342cac4df30bbff9142d566d5", func := "cicerone/ciceronelaw07.DedupeBack", spec := "dedupeBack", inPlace := ["slices.overlaps[cicerone/dedupe.Range]"], unfollowed := true, recurses := true, apart := false }
def DedupeBackSaid : Prop := dedupeBackRow.holds Try.pinned (OpenSpec.ofChange dedupeBackSpec)

/-- ITS FALSE NEIGHBOUR: 'it returns false'. Refute it at one input. -/
def dedupeBackWrong : ChangeSpec := { name := "dedupeBack", fn := fun _ => fun
  | [d1, d2] => { results := [.lit (.bool false)], args := [d1, d2] }
  | _ => none }
def DedupeBackWrongFalsely : Prop := dedupeBackRow.holds Try.pinned (OpenSpec.ofChange dedupeBackWrong)

/-- 'ciceronelaw07.DedupeOrders': WHATEVER THE INPUT: true; the input reads as it did. -/
def dedupeOrdersSpec : ChangeSpec := { name := "dedupeOrders", fn := fun _ => fun
  | [d1, d2] => { results := [.lit (.bool true)], args := [d1, d2] }
  | _ => none }
def dedupeOrdersRow : OpenClaim := { program := "ytcladmcbhnmhiaa", sum := "6a74be29a7f63f07e4ca02a088d4afa5ca2a0ca342cac4df30bbff9142d566d5", func := "cicerone/ciceronelaw07.DedupeOrders", spec := "dedupeOrders", inPlace := ["slices.overlaps[cicerone/dedupe.Range]"], unfollowed := true, recurses := true, apart := false }
def DedupeOrdersSaid : Prop := dedupeOrdersRow.holds Try.pinned (OpenSpec.ofChange dedupeOrdersSpec)

/-- ITS FALSE NEIGHBOUR: 'it returns false'. Refute it at one input. -/
def dedupeOrdersWrong : ChangeSpec := { name := "dedupeOrders", fn := fun _ => fun
  | [d1, d2] => { results := [.lit (.bool false)], args := [d1, d2] }
  | _ => none }
def DedupeOrdersWrongFalsely : Prop := dedupeOrdersRow.holds Try.pinned (OpenSpec.ofChange dedupeOrdersWrong)

/-- 'ciceronelaw07.DedupeMerges': WHATEVER THE INPUT: true; the input reads as it did. -/
def dedupeMergesSpec : ChangeSpec := { name := "dedupeMerges", fn := fun _ => fun
  | [d1, d2] => { results := [.lit (.bool true)], args := [d1, d2] }
  | _ => none }
def dedupeMergesRow : OpenClaim := { program := "ytcladmcbhnmhiaa", sum := "6a74be29a7f63f07e4ca02a088d4afa5ca2a0ca342cac4df30bbff9142d566d5", func := "cicerone/ciceronelaw07.DedupeMerges", spec := "dedupeMerges", inPlace := ["slices.overlaps[cicerone/dedupe.Range]"], unfollowed := true, recurses := true, apart := false }
def DedupeMergesSaid : Prop := dedupeMergesRow.holds Try.pinned (OpenSpec.ofChange dedupeMergesSpec)

/-- ITS FALSE NEIGHBOUR: 'it returns false'. Refute it at one input. -/
def dedupeMergesWrong : ChangeSpec := { name := "dedupeMerges", fn := fun _ => fun
  | [d1, d2] => { results := [.lit (.bool false)], args := [d1, d2] }
  | _ => none }
def DedupeMergesWrongFalsely : Prop := dedupeMergesRow.holds Try.pinned (OpenSpec.ofChange dedupeMergesWrong)

/- THE SECOND FORM. 'bulk': how many values and letters a reading holds, each counted each time it is reached (what is shared counts as often as it is met; a slice's spare places count too). A statement '..UptoSaid' is the law's where the arguments, and the package variables that the reading takes, are together of bulk at most 1048576: NARROWER than '..Said'. Prove '..Said' where nothing that the law and all that it calls make is longer than what came in: it says more and counts as full. Else prove '..UptoSaid'. A law counts once. -/
mutual
def uptoBulk {H : Type} : DataW H → Nat
  | .lit (.string bytes) => bytes.length + 1
  | .lit _ => 1
  | .nil => 1
  | .ptr d => uptoBulk d + 1
  | .slice elems spare => uptoBulkAll elems + uptoBulkAll spare + 1
  | .agg parts => uptoBulkAll parts + 1
  | .iface _ d => uptoBulk d + 1
  | .map entries => uptoBulkEntries entries + 1
  | .held _ => 1
def uptoBulkAll {H : Type} : List (DataW H) → Nat
  | [] => 0
  | d :: r => uptoBulk d + uptoBulkAll r
def uptoBulkEntries {H : Type} : List (Lit × DataW H) → Nat
  | [] => 0
  | x :: r => uptoBulkEntry x + uptoBulkEntries r
def uptoBulkEntry {H : Type} : Lit × DataW H → Nat
  | (.string bytes, d) => bytes.length + uptoBulk d + 1
  | (_, d) => uptoBulk d + 1
 end
def uptoSmall : (H : Type) → List (DataW H) → Bool := fun _ ds => decide (uptoBulkAll ds ≤ 1048576)
def OpenSpec.upto (s : _root_.Go.ChangeSpec) : _root_.Go.OpenSpec := { _root_.Go.OpenSpec.ofChange s with cond := some uptoSmall }

/-- 'ciceronelaw07.DedupePuts', WHERE WHAT IT READS IS OF BULK AT MOST 1048576: true; the input reads as it did. -/
def dedupePutsUptoRow : OpenClaim := { program := "ytcladmcbhnmhiaa", sum := "6a74be29a7f63f07e4ca02a088d4afa5ca2a0ca342cac4df30bbff9142d566d5", func := "cicerone/ciceronelaw07.DedupePuts", spec := "dedupePuts", inPlace := ["slices.overlaps[cicerone/dedupe.Range]"], unfollowed := true, recurses := true, apart := false, narrowed := true }
def DedupePutsUptoSaid : Prop := dedupePutsUptoRow.holds Try.pinned (OpenSpec.upto dedupePutsSpec)

/-- 'ciceronelaw07.DedupeNext', WHERE WHAT IT READS IS OF BULK AT MOST 1048576: true; the input reads as it did. -/
def dedupeNextUptoRow : OpenClaim := { program := "ytcladmcbhnmhiaa", sum := "6a74be29a7f63f07e4ca02a088d4afa5ca2a0ca342cac4df30bbff9142d566d5", func := "cicerone/ciceronelaw07.DedupeNext", spec := "dedupeNext", inPlace := ["slices.overlaps[cicerone/dedupe.Range]"], unfollowed := true, recurses := true, apart := false, narrowed := true }
def DedupeNextUptoSaid : Prop := dedupeNextUptoRow.holds Try.pinned (OpenSpec.upto dedupeNextSpec)

/-- 'ciceronelaw07.DedupeRanges', WHERE WHAT IT READS IS OF BULK AT MOST 1048576: true; the input reads as it did. -/
def dedupeRangesUptoRow : OpenClaim := { program := "ytcladmcbhnmhiaa", sum := "6a74be29a7f63f07e4ca02a088d4afa5ca2a0ca342cac4df30bbff9142d566d5", func := "cicerone/ciceronelaw07.DedupeRanges", spec := "dedupeRanges", inPlace := ["slices.overlaps[cicerone/dedupe.Range]"], unfollowed := true, recurses := true, apart := false, narrowed := true }
def DedupeRangesUptoSaid : Prop := dedupeRangesUptoRow.holds Try.pinned (OpenSpec.upto dedupeRangesSpec)

/-- 'ciceronelaw07.DedupeApart', WHERE WHAT IT READS IS OF BULK AT MOST 1048576: true; the input reads as it did. -/
def dedupeApartUptoRow : OpenClaim := { program := "ytcladmcbhnmhiaa", sum := "6a74be29a7f63f07e4ca02a088d4afa5ca2a0ca342cac4df30bbff9142d566d5", func := "cicerone/ciceronelaw07.DedupeApart", spec := "dedupeApart", inPlace := ["slices.overlaps[cicerone/dedupe.Range]"], unfollowed := true, recurses := true, apart := false, narrowed := true }
def DedupeApartUptoSaid : Prop := dedupeApartUptoRow.holds Try.pinned (OpenSpec.upto dedupeApartSpec)

/-- 'ciceronelaw07.DedupeBack', WHERE WHAT IT READS IS OF BULK AT MOST 1048576: true; the input reads as it did. -/
def dedupeBackUptoRow : OpenClaim := { program := "ytcladmcbhnmhiaa", sum := "6a74be29a7f63f07e4ca02a088d4afa5ca2a0ca342cac4df30bbff9142d566d5", func := "cicerone/ciceronelaw07.DedupeBack", spec := "dedupeBack", inPlace := ["slices.overlaps[cicerone/dedupe.Range]"], unfollowed := true, recurses := true, apart := false, narrowed := true }
def DedupeBackUptoSaid : Prop := dedupeBackUptoRow.holds Try.pinned (OpenSpec.upto dedupeBackSpec)

/-- 'ciceronelaw07.DedupeOrders', WHERE WHAT IT READS IS OF BULK AT MOST 1048576: true; the input reads as it did. -/
def dedupeOrdersUptoRow : OpenClaim := { program := "ytcladmcbhnmhiaa", sum := "6a74be29a7f63f07e4ca02a088d4afa5ca2a0ca342cac4df30bbff9142d566d5", func := "cicerone/ciceronelaw07.DedupeOrders", spec := "dedupeOrders", inPlace := ["slices.overlaps[cicerone/dedupe.Range]"], unfollowed := true, recurses := true, apart := false, narrowed := true }
def DedupeOrdersUptoSaid : Prop := dedupeOrdersUptoRow.holds Try.pinned (OpenSpec.upto dedupeOrdersSpec)

/-- 'ciceronelaw07.DedupeMerges', WHERE WHAT IT READS IS OF BULK AT MOST 1048576: true; the input reads as it did. -/
def dedupeMergesUptoRow : OpenClaim := { program := "ytcladmcbhnmhiaa", sum := "6a74be29a7f63f07e4ca02a088d4afa5ca2a0ca342cac4df30bbff9142d566d5", func := "cicerone/ciceronelaw07.DedupeMerges", spec := "dedupeMerges", inPlace := ["slices.overlaps[cicerone/dedupe.Range]"], unfollowed := true, recurses := true, apart := false, narrowed := true }
def DedupeMergesUptoSaid : Prop := dedupeMergesUptoRow.holds Try.pinned (OpenSpec.upto dedupeMergesSpec)

end Rows
end Go.Proofs.Ytcladmcbhnmhiaa
