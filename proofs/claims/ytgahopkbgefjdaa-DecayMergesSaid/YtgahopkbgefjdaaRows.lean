/-
  No cell of these rows narrows 'for every input' (looked for: loops, veiled, ifaces, maps, wideKeys, modest, calm, conditions, laid).
  DERIVED. THE GIVEN ROWS OF THIS SEAT. 6 by the template 'for every input the law returns true; each argument reads behind the call as it read before'; 0 by the template 'total and deterministic' (their statements: YtgahopkbgefjdaaTotals.lean).
  GIVEN WITH THE SEED: the statements are not yours to turn. If you find one false, say at which input.
  Laid BY PROGRAM, IN A SANDBOX (cutbox-rows.mjs): the forced cells as the released guide's own fill.sh prints them over the translation 4df3dec574e461cd… (all of the seat's roots in one cut). By AI agents, Wed Nov 11 2026. No macro, syntax, notation, axiom, sorry.
-/
import Derived.Test.YtgahopkbgefjdaaChecked
import GoSem.Claim
import GoSem.ClaimJoined
import GoSem.ClaimMapViews
import Derived.JoinedTies
import Derived.KernelRfl
namespace Go.Proofs.Ytgahopkbgefjdaa
/- THE CELL 'sum', in the pinned program and in every row, IS THE sha256 OF THE DUMP (.gsa) THAT YtgahopkbgefjdaaProg.lean LOADS. Nothing in Lean hashes anything: it is a label: what it is worth is what the hold of that sum in a sandbox is worth. -/
noncomputable def Try.pinned : Pinned := { name := "ytgahopkbgefjdaa", sum := "4df3dec574e461cd451eaf177ae34b1a3600e00547bc6017e500d6e5d4357a65", checked := Try.checked }
namespace Rows
def none {H : Type} : Left H := { results := [], args := [] }

/-- 'ciceronelaw11.DecayWeight': WHATEVER THE INPUT: true; the input reads as it did. -/
def decayWeightSpec : ChangeSpec := { name := "decayWeight", fn := fun _ => fun
  | [d1, d2] => { results := [.lit (.bool true)], args := [d1, d2] }
  | _ => none }
def decayWeightRow : OpenClaim := { program := "ytgahopkbgefjdaa", sum := "4df3dec574e461cd451eaf177ae34b1a3600e00547bc6017e500d6e5d4357a65", func := "cicerone/ciceronelaw11.DecayWeight", spec := "decayWeight", apart := false }
def DecayWeightSaid : Prop := decayWeightRow.holds Try.pinned (OpenSpec.ofChange decayWeightSpec)

/-- ITS FALSE NEIGHBOUR: 'it returns false'. Refute it at one input. -/
def decayWeightWrong : ChangeSpec := { name := "decayWeight", fn := fun _ => fun
  | [d1, d2] => { results := [.lit (.bool false)], args := [d1, d2] }
  | _ => none }
def DecayWeightWrongFalsely : Prop := decayWeightRow.holds Try.pinned (OpenSpec.ofChange decayWeightWrong)

/-- 'ciceronelaw11.DecayHalves': WHATEVER THE INPUT: true; the input reads as it did. -/
def decayHalvesSpec : ChangeSpec := { name := "decayHalves", fn := fun _ => fun
  | [d1, d2, d3, d4] => { results := [.lit (.bool true)], args := [d1, d2, d3, d4] }
  | _ => none }
def decayHalvesRow : OpenClaim := { program := "ytgahopkbgefjdaa", sum := "4df3dec574e461cd451eaf177ae34b1a3600e00547bc6017e500d6e5d4357a65", func := "cicerone/ciceronelaw11.DecayHalves", spec := "decayHalves", apart := false }
def DecayHalvesSaid : Prop := decayHalvesRow.holds Try.pinned (OpenSpec.ofChange decayHalvesSpec)

/-- ITS FALSE NEIGHBOUR: 'it returns false'. Refute it at one input. -/
def decayHalvesWrong : ChangeSpec := { name := "decayHalves", fn := fun _ => fun
  | [d1, d2, d3, d4] => { results := [.lit (.bool false)], args := [d1, d2, d3, d4] }
  | _ => none }
def DecayHalvesWrongFalsely : Prop := decayHalvesRow.holds Try.pinned (OpenSpec.ofChange decayHalvesWrong)

/-- 'ciceronelaw11.DecayMerges': WHATEVER THE INPUT: true; the input reads as it did. -/
def decayMergesSpec : ChangeSpec := { name := "decayMerges", fn := fun _ => fun
  | [d1, d2, d3, d4] => { results := [.lit (.bool true)], args := [d1, d2, d3, d4] }
  | _ => none }
def decayMergesRow : OpenClaim := { program := "ytgahopkbgefjdaa", sum := "4df3dec574e461cd451eaf177ae34b1a3600e00547bc6017e500d6e5d4357a65", func := "cicerone/ciceronelaw11.DecayMerges", spec := "decayMerges", inPlace := ["maps.clone"], unfollowed := true, recurses := true, apart := false }
def DecayMergesSaid : Prop := decayMergesRow.holds Try.pinned (OpenSpec.ofChange decayMergesSpec)

/-- ITS FALSE NEIGHBOUR: 'it returns false'. Refute it at one input. -/
def decayMergesWrong : ChangeSpec := { name := "decayMerges", fn := fun _ => fun
  | [d1, d2, d3, d4] => { results := [.lit (.bool false)], args := [d1, d2, d3, d4] }
  | _ => none }
def DecayMergesWrongFalsely : Prop := decayMergesRow.holds Try.pinned (OpenSpec.ofChange decayMergesWrong)

/-- 'ciceronelaw11.DecayPlays': WHATEVER THE INPUT: true; the input reads as it did. -/
def decayPlaysSpec : ChangeSpec := { name := "decayPlays", fn := fun _ => fun
  | [d1, d2, d3, d4, d5] => { results := [.lit (.bool true)], args := [d1, d2, d3, d4, d5] }
  | _ => none }
def decayPlaysRow : OpenClaim := { program := "ytgahopkbgefjdaa", sum := "4df3dec574e461cd451eaf177ae34b1a3600e00547bc6017e500d6e5d4357a65", func := "cicerone/ciceronelaw11.DecayPlays", spec := "decayPlays", unfollowed := true, recurses := true, apart := false }
def DecayPlaysSaid : Prop := decayPlaysRow.holds Try.pinned (OpenSpec.ofChange decayPlaysSpec)

/-- ITS FALSE NEIGHBOUR: 'it returns false'. Refute it at one input. -/
def decayPlaysWrong : ChangeSpec := { name := "decayPlays", fn := fun _ => fun
  | [d1, d2, d3, d4, d5] => { results := [.lit (.bool false)], args := [d1, d2, d3, d4, d5] }
  | _ => none }
def DecayPlaysWrongFalsely : Prop := decayPlaysRow.holds Try.pinned (OpenSpec.ofChange decayPlaysWrong)

/-- 'ciceronelaw11.DecayTrims': WHATEVER THE INPUT: true; the input reads as it did. -/
def decayTrimsSpec : ChangeSpec := { name := "decayTrims", fn := fun _ => fun
  | [d1, d2, d3, d4] => { results := [.lit (.bool true)], args := [d1, d2, d3, d4] }
  | _ => none }
def decayTrimsRow : OpenClaim := { program := "ytgahopkbgefjdaa", sum := "4df3dec574e461cd451eaf177ae34b1a3600e00547bc6017e500d6e5d4357a65", func := "cicerone/ciceronelaw11.DecayTrims", spec := "decayTrims", unfollowed := true, recurses := true, apart := false }
def DecayTrimsSaid : Prop := decayTrimsRow.holds Try.pinned (OpenSpec.ofChange decayTrimsSpec)

/-- ITS FALSE NEIGHBOUR: 'it returns false'. Refute it at one input. -/
def decayTrimsWrong : ChangeSpec := { name := "decayTrims", fn := fun _ => fun
  | [d1, d2, d3, d4] => { results := [.lit (.bool false)], args := [d1, d2, d3, d4] }
  | _ => none }
def DecayTrimsWrongFalsely : Prop := decayTrimsRow.holds Try.pinned (OpenSpec.ofChange decayTrimsWrong)

/-- 'ciceronelaw11.DecayCopies': WHATEVER THE INPUT: true; the input reads as it did. -/
def decayCopiesSpec : ChangeSpec := { name := "decayCopies", fn := fun _ => fun
  | [d1, d2, d3, d4, d5] => { results := [.lit (.bool true)], args := [d1, d2, d3, d4, d5] }
  | _ => none }
def decayCopiesRow : OpenClaim := { program := "ytgahopkbgefjdaa", sum := "4df3dec574e461cd451eaf177ae34b1a3600e00547bc6017e500d6e5d4357a65", func := "cicerone/ciceronelaw11.DecayCopies", spec := "decayCopies", inPlace := ["maps.clone"], unfollowed := true, recurses := true, apart := false }
def DecayCopiesSaid : Prop := decayCopiesRow.holds Try.pinned (OpenSpec.ofChange decayCopiesSpec)

/-- ITS FALSE NEIGHBOUR: 'it returns false'. Refute it at one input. -/
def decayCopiesWrong : ChangeSpec := { name := "decayCopies", fn := fun _ => fun
  | [d1, d2, d3, d4, d5] => { results := [.lit (.bool false)], args := [d1, d2, d3, d4, d5] }
  | _ => none }
def DecayCopiesWrongFalsely : Prop := decayCopiesRow.holds Try.pinned (OpenSpec.ofChange decayCopiesWrong)

/- THE SECOND FORM. 'bulk': how many values and letters a reading holds, each counted each time it is reached (what is shared counts as often as it is met; a slice's spare places count too). A statement '..UptoSaid' is the law's where the arguments, and the package variables that the reading takes, are together of bulk at most 1048576: NARROWER than '..Said'. Prove '..Said' where nothing that the law and all that it calls make is longer than what came in: it says more and counts as full. Else prove '..UptoSaid'. A law counts once. -/
mutual
def uptoBulk {H : Type} : DataW H → Nat
  | .lit (.string bytes) => bytes.length + 1
  | .lit _ => 1
  | .nil => 1
  | .ptr d => uptoBulk d + 1
  | .slice elems spare => uptoBulkAll elems + uptoBulkAll spare + 1
  | .agg parts => uptoBulkAll parts + 1
  | .iface _ d => uptoBulk d + 1
  | .map entries => uptoBulkEntries entries + 1
  | .held _ => 1
def uptoBulkAll {H : Type} : List (DataW H) → Nat
  | [] => 0
  | d :: r => uptoBulk d + uptoBulkAll r
def uptoBulkEntries {H : Type} : List (Lit × DataW H) → Nat
  | [] => 0
  | x :: r => uptoBulkEntry x + uptoBulkEntries r
def uptoBulkEntry {H : Type} : Lit × DataW H → Nat
  | (.string bytes, d) => bytes.length + uptoBulk d + 1
  | (_, d) => uptoBulk d + 1
 end
def uptoSmall : (H : Type) → List (DataW H) → Bool := fun _ ds => decide (uptoBulkAll ds ≤ 1048576)
def OpenSpec.upto (s : _root_.Go.ChangeSpec) : _root_.Go.OpenSpec := { _root_.Go.OpenSpec.ofChange s with cond := some uptoSmall }

/-- 'ciceronelaw11.DecayWeight', WHERE WHAT IT READS IS OF BULK AT MOST 1048576: true; the input reads as it did. -/
def decayWeightUptoRow : OpenClaim := { program := "ytgahopkbgefjdaa", sum := "4df3dec574e461cd451eaf177ae34b1a3600e00547bc6017e500d6e5d4357a65", func := "cicerone/ciceronelaw11.DecayWeight", spec := "decayWeight", apart := false, narrowed := true }
def DecayWeightUptoSaid : Prop := decayWeightUptoRow.holds Try.pinned (OpenSpec.upto decayWeightSpec)

/-- 'ciceronelaw11.DecayHalves', WHERE WHAT IT READS IS OF BULK AT MOST 1048576: true; the input reads as it did. -/
def decayHalvesUptoRow : OpenClaim := { program := "ytgahopkbgefjdaa", sum := "4df3dec574e461cd451eaf177ae34b1a3600e00547bc6017e500d6e5d4357a65", func := "cicerone/ciceronelaw11.DecayHalves", spec := "decayHalves", apart := false, narrowed := true }
def DecayHalvesUptoSaid : Prop := decayHalvesUptoRow.holds Try.pinned (OpenSpec.upto decayHalvesSpec)

/-- 'ciceronelaw11.DecayMerges', WHERE WHAT IT READS IS OF BULK AT MOST 1048576: true; the input reads as it did. -/
def decayMergesUptoRow : OpenClaim := { program := "ytgahopkbgefjdaa", sum := "4df3dec574e461cd451eaf177ae34b1a3600e00547bc6017e500d6e5d4357a65", func := "cicerone/ciceronelaw11.DecayMerges", spec := "decayMerges", inPlace := ["maps.clone"], unfollowed := true, recurses := true, apart := false, narrowed := true }
def DecayMergesUptoSaid : Prop := decayMergesUptoRow.holds Try.pinned (OpenSpec.upto decayMergesSpec)

/-- 'ciceronelaw11.DecayPlays', WHERE WHAT IT READS IS OF BULK AT MOST 1048576: true; the input reads as it did. -/
def decayPlaysUptoRow : OpenClaim := { program := "ytgahopkbgefjdaa", sum := "4df3dec574e461cd451eaf177ae34b1a3600e00547bc6017e500d6e5d4357a65", func := "cicerone/ciceronelaw11.DecayPlays", spec := "decayPlays", unfollowed := true, recurses := true, apart := false, narrowed := true }
def DecayPlaysUptoSaid : Prop := decayPlaysUptoRow.holds Try.pinned (OpenSpec.upto decayPlaysSpec)

/-- 'ciceronelaw11.DecayTrims', WHERE WHAT IT READS IS OF BULK AT MOST 1048576: true; the input reads as it did. -/
def decayTrimsUptoRow : OpenClaim := { program := "ytgahopkbgefjdaa", sum := "4df3dec574e461cd451eaf177ae34b1a3600e00547bc6017e500d6e5d4357a65", func := "cicerone/ciceronelaw11.DecayTrims", spec := "decayTrims", unfollowed := true, recurses := true, apart := false, narrowed := true }
def DecayTrimsUptoSaid : Prop := decayTrimsUptoRow.holds Try.pinned (OpenSpec.upto decayTrimsSpec)

/-- 'ciceronelaw11.DecayCopies', WHERE WHAT IT READS IS OF BULK AT MOST 1048576: true; the input reads as it did. -/
def decayCopiesUptoRow : OpenClaim := { program := "ytgahopkbgefjdaa", sum := "4df3dec574e461cd451eaf177ae34b1a3600e00547bc6017e500d6e5d4357a65", func := "cicerone/ciceronelaw11.DecayCopies", spec := "decayCopies", inPlace := ["maps.clone"], unfollowed := true, recurses := true, apart := false, narrowed := true }
def DecayCopiesUptoSaid : Prop := decayCopiesUptoRow.holds Try.pinned (OpenSpec.upto decayCopiesSpec)

end Rows
end Go.Proofs.Ytgahopkbgefjdaa
