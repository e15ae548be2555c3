/-
  No cell of these rows narrows 'for every input' (looked for: loops, veiled, ifaces, maps, wideKeys, modest, calm, conditions, laid).
  DERIVED. THE GIVEN ROWS OF THIS SEAT. 6 by the template 'for every input the law returns true; each argument reads behind the call as it read before'; 0 by the template 'total and deterministic' (their statements: YtpbaokhlhhpiiaaTotals.lean).
  GIVEN WITH THE SEED: the statements are not yours to turn. If you find one false, say at which input.
  Laid BY PROGRAM, IN A SANDBOX (cutbox-rows.mjs): the forced cells as the released guide's own fill.sh prints them over the translation c1a8666e1f7fc36a… (all of the seat's roots in one cut). By AI agents, Wed Nov 11 2026. No macro, syntax, notation, axiom, sorry.
-/
import Derived.Test.YtpbaokhlhhpiiaaChecked
import GoSem.Claim
import GoSem.ClaimJoined
import GoSem.ClaimMapViews
import Derived.JoinedTies
import Derived.KernelRfl
namespace Go.Proofs.Ytpbaokhlhhpiiaa
/- THE CELL 'sum', in the pinned program and in every row, IS THE sha256 OF THE DUMP (.gsa) THAT YtpbaokhlhhpiiaaProg.lean LOADS. Nothing in Lean hashes anything: it is a label: what it is worth is what the hold of that sum in a sandbox is worth. -/
noncomputable def Try.pinned : Pinned := { name := "ytpbaokhlhhpiiaa", sum := "c1a8666e1f7fc36aeded8fe40174a5ae009e6f174b2dfcb9e04bf235827080ee", checked := Try.checked }
namespace Rows
def none {H : Type} : Left H := { results := [], args := [] }

/-- 'ciceronelaw26.DrawHash': WHATEVER THE INPUT: true; the input reads as it did. -/
def drawHashSpec : ChangeSpec := { name := "drawHash", fn := fun _ => fun
  | [d1, d2, d3] => { results := [.lit (.bool true)], args := [d1, d2, d3] }
  | _ => none }
def drawHashRow : OpenClaim := { program := "ytpbaokhlhhpiiaa", sum := "c1a8666e1f7fc36aeded8fe40174a5ae009e6f174b2dfcb9e04bf235827080ee", func := "cicerone/ciceronelaw26.DrawHash", spec := "drawHash", unfollowed := true, recurses := true, apart := false }
def DrawHashSaid : Prop := drawHashRow.holds Try.pinned (OpenSpec.ofChange drawHashSpec)

/-- ITS FALSE NEIGHBOUR: 'it returns false'. Refute it at one input. -/
def drawHashWrong : ChangeSpec := { name := "drawHash", fn := fun _ => fun
  | [d1, d2, d3] => { results := [.lit (.bool false)], args := [d1, d2, d3] }
  | _ => none }
def DrawHashWrongFalsely : Prop := drawHashRow.holds Try.pinned (OpenSpec.ofChange drawHashWrong)

/-- 'ciceronelaw26.DrawBelow': WHATEVER THE INPUT: true; the input reads as it did. -/
def drawBelowSpec : ChangeSpec := { name := "drawBelow", fn := fun _ => fun
  | [d1, d2, d3] => { results := [.lit (.bool true)], args := [d1, d2, d3] }
  | _ => none }
def drawBelowRow : OpenClaim := { program := "ytpbaokhlhhpiiaa", sum := "c1a8666e1f7fc36aeded8fe40174a5ae009e6f174b2dfcb9e04bf235827080ee", func := "cicerone/ciceronelaw26.DrawBelow", spec := "drawBelow", unfollowed := true, recurses := true, apart := false }
def DrawBelowSaid : Prop := drawBelowRow.holds Try.pinned (OpenSpec.ofChange drawBelowSpec)

/-- ITS FALSE NEIGHBOUR: 'it returns false'. Refute it at one input. -/
def drawBelowWrong : ChangeSpec := { name := "drawBelow", fn := fun _ => fun
  | [d1, d2, d3] => { results := [.lit (.bool false)], args := [d1, d2, d3] }
  | _ => none }
def DrawBelowWrongFalsely : Prop := drawBelowRow.holds Try.pinned (OpenSpec.ofChange drawBelowWrong)

/-- 'ciceronelaw26.DrawSamples': WHATEVER THE INPUT: true; the input reads as it did. -/
def drawSamplesSpec : ChangeSpec := { name := "drawSamples", fn := fun _ => fun
  | [d1, d2, d3] => { results := [.lit (.bool true)], args := [d1, d2, d3] }
  | _ => none }
def drawSamplesRow : OpenClaim := { program := "ytpbaokhlhhpiiaa", sum := "c1a8666e1f7fc36aeded8fe40174a5ae009e6f174b2dfcb9e04bf235827080ee", func := "cicerone/ciceronelaw26.DrawSamples", spec := "drawSamples", unfollowed := true, recurses := true, apart := false }
def DrawSamplesSaid : Prop := drawSamplesRow.holds Try.pinned (OpenSpec.ofChange drawSamplesSpec)

/-- ITS FALSE NEIGHBOUR: 'it returns false'. Refute it at one input. -/
def drawSamplesWrong : ChangeSpec := { name := "drawSamples", fn := fun _ => fun
  | [d1, d2, d3] => { results := [.lit (.bool false)], args := [d1, d2, d3] }
  | _ => none }
def DrawSamplesWrongFalsely : Prop := drawSamplesRow.holds Try.pinned (OpenSpec.ofChange drawSamplesWrong)

/-- 'ciceronelaw26.DrawMixes': WHATEVER THE INPUT: true; the input reads as it did. -/
def drawMixesSpec : ChangeSpec := { name := "drawMixes", fn := fun _ => fun
  | [d1, d2, d3, d4] => { results := [.lit (.bool true)], args := [d1, d2, d3, d4] }
  | _ => none }
def drawMixesRow : OpenClaim := { program := "ytpbaokhlhhpiiaa", sum := "c1a8666e1f7fc36aeded8fe40174a5ae009e6f174b2dfcb9e04bf235827080ee", func := "cicerone/ciceronelaw26.DrawMixes", spec := "drawMixes", unfollowed := true, recurses := true, apart := false }
def DrawMixesSaid : Prop := drawMixesRow.holds Try.pinned (OpenSpec.ofChange drawMixesSpec)

/-- ITS FALSE NEIGHBOUR: 'it returns false'. Refute it at one input. -/
def drawMixesWrong : ChangeSpec := { name := "drawMixes", fn := fun _ => fun
  | [d1, d2, d3, d4] => { results := [.lit (.bool false)], args := [d1, d2, d3, d4] }
  | _ => none }
def DrawMixesWrongFalsely : Prop := drawMixesRow.holds Try.pinned (OpenSpec.ofChange drawMixesWrong)

/-- 'ciceronelaw26.DrawKeeps': WHATEVER THE INPUT: true; the input reads as it did. -/
def drawKeepsSpec : ChangeSpec := { name := "drawKeeps", fn := fun _ => fun
  | [d1, d2, d3, d4] => { results := [.lit (.bool true)], args := [d1, d2, d3, d4] }
  | _ => none }
def drawKeepsRow : OpenClaim := { program := "ytpbaokhlhhpiiaa", sum := "c1a8666e1f7fc36aeded8fe40174a5ae009e6f174b2dfcb9e04bf235827080ee", func := "cicerone/ciceronelaw26.DrawKeeps", spec := "drawKeeps", unfollowed := true, recurses := true, apart := false }
def DrawKeepsSaid : Prop := drawKeepsRow.holds Try.pinned (OpenSpec.ofChange drawKeepsSpec)

/-- ITS FALSE NEIGHBOUR: 'it returns false'. Refute it at one input. -/
def drawKeepsWrong : ChangeSpec := { name := "drawKeeps", fn := fun _ => fun
  | [d1, d2, d3, d4] => { results := [.lit (.bool false)], args := [d1, d2, d3, d4] }
  | _ => none }
def DrawKeepsWrongFalsely : Prop := drawKeepsRow.holds Try.pinned (OpenSpec.ofChange drawKeepsWrong)

/-- 'ciceronelaw26.DrawPicks': WHATEVER THE INPUT: true; the input reads as it did. -/
def drawPicksSpec : ChangeSpec := { name := "drawPicks", fn := fun _ => fun
  | [d1, d2, d3] => { results := [.lit (.bool true)], args := [d1, d2, d3] }
  | _ => none }
def drawPicksRow : OpenClaim := { program := "ytpbaokhlhhpiiaa", sum := "c1a8666e1f7fc36aeded8fe40174a5ae009e6f174b2dfcb9e04bf235827080ee", func := "cicerone/ciceronelaw26.DrawPicks", spec := "drawPicks", unfollowed := true, recurses := true, apart := false }
def DrawPicksSaid : Prop := drawPicksRow.holds Try.pinned (OpenSpec.ofChange drawPicksSpec)

/-- ITS FALSE NEIGHBOUR: 'it returns false'. Refute it at one input. -/
def drawPicksWrong : ChangeSpec := { name := "drawPicks", fn := fun _ => fun
  | [d1, d2, d3] => { results := [.lit (.bool false)], args := [d1, d2, d3] }
  | _ => none }
def DrawPicksWrongFalsely : Prop := drawPicksRow.holds Try.pinned (OpenSpec.ofChange drawPicksWrong)

/- THE SECOND FORM. 'bulk': how many values and letters a reading holds, each counted each time it is reached (what is shared counts as often as it is met; a slice's spare places count too). A statement '..UptoSaid' is the law's where the arguments, and the package variables that the reading takes, are together of bulk at most 1048576: NARROWER than '..Said'. Prove '..Said' where nothing that the law and all that it calls make is longer than what came in: it says more and counts as full. Else prove '..UptoSaid'. A law counts once. -/
mutual
def uptoBulk {H : Type} : DataW H → Nat
  | .lit (.string bytes) => bytes.length + 1
  | .lit _ => 1
  | .nil => 1
  | .ptr d => uptoBulk d + 1
  | .slice elems spare => uptoBulkAll elems + uptoBulkAll spare + 1
  | .agg parts => uptoBulkAll parts + 1
  | .iface _ d => uptoBulk d + 1
  | .map entries => uptoBulkEntries entries + 1
  | .held _ => 1
def uptoBulkAll {H : Type} : List (DataW H) → Nat
  | [] => 0
  | d :: r => uptoBulk d + uptoBulkAll r
def uptoBulkEntries {H : Type} : List (Lit × DataW H) → Nat
  | [] => 0
  | x :: r => uptoBulkEntry x + uptoBulkEntries r
def uptoBulkEntry {H : Type} : Lit × DataW H → Nat
  | (.string bytes, d) => bytes.length + uptoBulk d + 1
  | (_, d) => uptoBulk d + 1
 end
def uptoSmall : (H : Type) → List (DataW H) → Bool := fun _ ds => decide (uptoBulkAll ds ≤ 1048576)
def OpenSpec.upto (s : _root_.Go.ChangeSpec) : _root_.Go.OpenSpec := { _root_.Go.OpenSpec.ofChange s with cond := some uptoSmall }

/-- 'ciceronelaw26.DrawHash', WHERE WHAT IT READS IS OF BULK AT MOST 1048576: true; the input reads as it did. -/
def drawHashUptoRow : OpenClaim := { program := "ytpbaokhlhhpiiaa", sum := "c1a8666e1f7fc36aeded8fe40174a5ae009e6f174b2dfcb9e04bf235827080ee", func := "cicerone/ciceronelaw26.DrawHash", spec := "drawHash", unfollowed := true, recurses := true, apart := false, narrowed := true }
def DrawHashUptoSaid : Prop := drawHashUptoRow.holds Try.pinned (OpenSpec.upto drawHashSpec)

/-- 'ciceronelaw26.DrawBelow', WHERE WHAT IT READS IS OF BULK AT MOST 1048576: true; the input reads as it did. -/
def drawBelowUptoRow : OpenClaim := { program := "ytpbaokhlhhpiiaa", sum := "c1a8666e1f7fc36aeded8fe40174a5ae009e6f174b2dfcb9e04bf235827080ee", func := "cicerone/ciceronelaw26.DrawBelow", spec := "drawBelow", unfollowed := true, recurses := true, apart := false, narrowed := true }
def DrawBelowUptoSaid : Prop := drawBelowUptoRow.holds Try.pinned (OpenSpec.upto drawBelowSpec)

/-- 'ciceronelaw26.DrawSamples', WHERE WHAT IT READS IS OF BULK AT MOST 1048576: true; the input reads as it did. -/
def drawSamplesUptoRow : OpenClaim := { program := "ytpbaokhlhhpiiaa", sum := "c1a8666e1f7fc36aeded8fe40174a5ae009e6f174b2dfcb9e04bf235827080ee", func := "cicerone/ciceronelaw26.DrawSamples", spec := "drawSamples", unfollowed := true, recurses := true, apart := false, narrowed := true }
def DrawSamplesUptoSaid : Prop := drawSamplesUptoRow.holds Try.pinned (OpenSpec.upto drawSamplesSpec)

/-- 'ciceronelaw26.DrawMixes', WHERE WHAT IT READS IS OF BULK AT MOST 1048576: true; the input reads as it did. -/
def drawMixesUptoRow : OpenClaim := { program := "ytpbaokhlhhpiiaa", sum := "c1a8666e1f7fc36aeded8fe40174a5ae009e6f174b2dfcb9e04bf235827080ee", func := "cicerone/ciceronelaw26.DrawMixes", spec := "drawMixes", unfollowed := true, recurses := true, apart := false, narrowed := true }
def DrawMixesUptoSaid : Prop := drawMixesUptoRow.holds Try.pinned (OpenSpec.upto drawMixesSpec)

/-- 'ciceronelaw26.DrawKeeps', WHERE WHAT IT READS IS OF BULK AT MOST 1048576: true; the input reads as it did. -/
def drawKeepsUptoRow : OpenClaim := { program := "ytpbaokhlhhpiiaa", sum := "c1a8666e1f7fc36aeded8fe40174a5ae009e6f174b2dfcb9e04bf235827080ee", func := "cicerone/ciceronelaw26.DrawKeeps", spec := "drawKeeps", unfollowed := true, recurses := true, apart := false, narrowed := true }
def DrawKeepsUptoSaid : Prop := drawKeepsUptoRow.holds Try.pinned (OpenSpec.upto drawKeepsSpec)

/-- 'ciceronelaw26.DrawPicks', WHERE WHAT IT READS IS OF BULK AT MOST 1048576: true; the input reads as it did. -/
def drawPicksUptoRow : OpenClaim := { program := "ytpbaokhlhhpiiaa", sum := "c1a8666e1f7fc36aeded8fe40174a5ae009e6f174b2dfcb9e04bf235827080ee", func := "cicerone/ciceronelaw26.DrawPicks", spec := "drawPicks", unfollowed := true, recurses := true, apart := false, narrowed := true }
def DrawPicksUptoSaid : Prop := drawPicksUptoRow.holds Try.pinned (OpenSpec.upto drawPicksSpec)

end Rows
end Go.Proofs.Ytpbaokhlhhpiiaa
