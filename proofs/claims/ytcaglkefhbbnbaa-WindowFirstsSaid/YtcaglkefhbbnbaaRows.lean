/-
  No cell of these rows narrows 'for every input' (looked for: loops, veiled, ifaces, maps, wideKeys, modest, calm, conditions, laid).
  DERIVED. THE GIVEN ROWS OF THIS SEAT. 8 by the template 'for every input the law returns true; each argument reads behind the call as it read before'; 0 by the template 'total and deterministic' (their statements: YtcaglkefhbbnbaaTotals.lean).
  GIVEN WITH THE SEED: the statements are not yours to turn. If you find one false, say at which input.
  Laid BY PROGRAM, IN A SANDBOX (cutbox-rows.mjs): the forced cells as the released guide's own fill.sh prints them over the translation 3228a306f1fcc3a5… (all of the seat's roots in one cut). By AI agents, Wed Nov 11 2026. No macro, syntax, notation, axiom, sorry.
-/
import Derived.Test.YtcaglkefhbbnbaaChecked
import GoSem.Claim
import GoSem.ClaimJoined
import GoSem.ClaimMapViews
import Derived.JoinedTies
import Derived.KernelRfl
namespace Go.Proofs.Ytcaglkefhbbnbaa
/- THE CELL 'sum', in the pinned program and in every row, IS THE sha256 OF THE DUMP (.gsa) THAT YtcaglkefhbbnbaaProg.lean LOADS. Nothing in Lean hashes anything: it is a label: what it is worth is what the hold of that sum in a sandbox is worth. -/
noncomputable def Try.pinned : Pinned := { name := "ytcaglkefhbbnbaa", sum := "3228a306f1fcc3a505beed2963e0c8836aec436e1c46d6607e287fc33cc22017", checked := Try.checked }
namespace Rows
def none {H : Type} : Left H := { results := [], args := [] }

/-- 'ciceronelaw10.WindowMays': WHATEVER THE INPUT: true; the input reads as it did. -/
def windowMaysSpec : ChangeSpec := { name := "windowMays", fn := fun _ => fun
  | [d1, d2, d3, d4] => { results := [.lit (.bool true)], args := [d1, d2, d3, d4] }
  | _ => none }
def windowMaysRow : OpenClaim := { program := "ytcaglkefhbbnbaa", sum := "3228a306f1fcc3a505beed2963e0c8836aec436e1c46d6607e287fc33cc22017", func := "cicerone/ciceronelaw10.WindowMays", spec := "windowMays", unfollowed := true, recurses := true, plainKeys := false, apart := false }
def WindowMaysSaid : Prop := windowMaysRow.holds Try.pinned (OpenSpec.ofChange windowMaysSpec)

/-- ITS FALSE NEIGHBOUR: 'it returns false'. Refute it at one input. -/
def windowMaysWrong : ChangeSpec := { name := "windowMays", fn := fun _ => fun
  | [d1, d2, d3, d4] => { results := [.lit (.bool false)], args := [d1, d2, d3, d4] }
  | _ => none }
def WindowMaysWrongFalsely : Prop := windowMaysRow.holds Try.pinned (OpenSpec.ofChange windowMaysWrong)

/-- 'ciceronelaw10.WindowHolds': WHATEVER THE INPUT: true; the input reads as it did. -/
def windowHoldsSpec : ChangeSpec := { name := "windowHolds", fn := fun _ => fun
  | [d1, d2] => { results := [.lit (.bool true)], args := [d1, d2] }
  | _ => none }
def windowHoldsRow : OpenClaim := { program := "ytcaglkefhbbnbaa", sum := "3228a306f1fcc3a505beed2963e0c8836aec436e1c46d6607e287fc33cc22017", func := "cicerone/ciceronelaw10.WindowHolds", spec := "windowHolds", unfollowed := true, recurses := true, plainKeys := false, apart := false }
def WindowHoldsSaid : Prop := windowHoldsRow.holds Try.pinned (OpenSpec.ofChange windowHoldsSpec)

/-- ITS FALSE NEIGHBOUR: 'it returns false'. Refute it at one input. -/
def windowHoldsWrong : ChangeSpec := { name := "windowHolds", fn := fun _ => fun
  | [d1, d2] => { results := [.lit (.bool false)], args := [d1, d2] }
  | _ => none }
def WindowHoldsWrongFalsely : Prop := windowHoldsRow.holds Try.pinned (OpenSpec.ofChange windowHoldsWrong)

/-- 'ciceronelaw10.WindowAts': WHATEVER THE INPUT: true; the input reads as it did. -/
def windowAtsSpec : ChangeSpec := { name := "windowAts", fn := fun _ => fun
  | [d1, d2, d3, d4, d5] => { results := [.lit (.bool true)], args := [d1, d2, d3, d4, d5] }
  | _ => none }
def windowAtsRow : OpenClaim := { program := "ytcaglkefhbbnbaa", sum := "3228a306f1fcc3a505beed2963e0c8836aec436e1c46d6607e287fc33cc22017", func := "cicerone/ciceronelaw10.WindowAts", spec := "windowAts", unfollowed := true, recurses := true, plainKeys := false, apart := false }
def WindowAtsSaid : Prop := windowAtsRow.holds Try.pinned (OpenSpec.ofChange windowAtsSpec)

/-- ITS FALSE NEIGHBOUR: 'it returns false'. Refute it at one input. -/
def windowAtsWrong : ChangeSpec := { name := "windowAts", fn := fun _ => fun
  | [d1, d2, d3, d4, d5] => { results := [.lit (.bool false)], args := [d1, d2, d3, d4, d5] }
  | _ => none }
def WindowAtsWrongFalsely : Prop := windowAtsRow.holds Try.pinned (OpenSpec.ofChange windowAtsWrong)

/-- 'ciceronelaw10.WindowCounts': WHATEVER THE INPUT: true; the input reads as it did. -/
def windowCountsSpec : ChangeSpec := { name := "windowCounts", fn := fun _ => fun
  | [d1, d2, d3, d4] => { results := [.lit (.bool true)], args := [d1, d2, d3, d4] }
  | _ => none }
def windowCountsRow : OpenClaim := { program := "ytcaglkefhbbnbaa", sum := "3228a306f1fcc3a505beed2963e0c8836aec436e1c46d6607e287fc33cc22017", func := "cicerone/ciceronelaw10.WindowCounts", spec := "windowCounts", unfollowed := true, recurses := true, plainKeys := false, apart := false }
def WindowCountsSaid : Prop := windowCountsRow.holds Try.pinned (OpenSpec.ofChange windowCountsSpec)

/-- ITS FALSE NEIGHBOUR: 'it returns false'. Refute it at one input. -/
def windowCountsWrong : ChangeSpec := { name := "windowCounts", fn := fun _ => fun
  | [d1, d2, d3, d4] => { results := [.lit (.bool false)], args := [d1, d2, d3, d4] }
  | _ => none }
def WindowCountsWrongFalsely : Prop := windowCountsRow.holds Try.pinned (OpenSpec.ofChange windowCountsWrong)

/-- 'ciceronelaw10.WindowTumbles': WHATEVER THE INPUT: true; the input reads as it did. -/
def windowTumblesSpec : ChangeSpec := { name := "windowTumbles", fn := fun _ => fun
  | [d1, d2, d3, d4] => { results := [.lit (.bool true)], args := [d1, d2, d3, d4] }
  | _ => none }
def windowTumblesRow : OpenClaim := { program := "ytcaglkefhbbnbaa", sum := "3228a306f1fcc3a505beed2963e0c8836aec436e1c46d6607e287fc33cc22017", func := "cicerone/ciceronelaw10.WindowTumbles", spec := "windowTumbles", unfollowed := true, recurses := true, plainKeys := false, apart := false }
def WindowTumblesSaid : Prop := windowTumblesRow.holds Try.pinned (OpenSpec.ofChange windowTumblesSpec)

/-- ITS FALSE NEIGHBOUR: 'it returns false'. Refute it at one input. -/
def windowTumblesWrong : ChangeSpec := { name := "windowTumbles", fn := fun _ => fun
  | [d1, d2, d3, d4] => { results := [.lit (.bool false)], args := [d1, d2, d3, d4] }
  | _ => none }
def WindowTumblesWrongFalsely : Prop := windowTumblesRow.holds Try.pinned (OpenSpec.ofChange windowTumblesWrong)

/-- 'ciceronelaw10.WindowSlides': WHATEVER THE INPUT: true; the input reads as it did. -/
def windowSlidesSpec : ChangeSpec := { name := "windowSlides", fn := fun _ => fun
  | [d1, d2, d3, d4, d5] => { results := [.lit (.bool true)], args := [d1, d2, d3, d4, d5] }
  | _ => none }
def windowSlidesRow : OpenClaim := { program := "ytcaglkefhbbnbaa", sum := "3228a306f1fcc3a505beed2963e0c8836aec436e1c46d6607e287fc33cc22017", func := "cicerone/ciceronelaw10.WindowSlides", spec := "windowSlides", unfollowed := true, recurses := true, plainKeys := false, apart := false }
def WindowSlidesSaid : Prop := windowSlidesRow.holds Try.pinned (OpenSpec.ofChange windowSlidesSpec)

/-- ITS FALSE NEIGHBOUR: 'it returns false'. Refute it at one input. -/
def windowSlidesWrong : ChangeSpec := { name := "windowSlides", fn := fun _ => fun
  | [d1, d2, d3, d4, d5] => { results := [.lit (.bool false)], args := [d1, d2, d3, d4, d5] }
  | _ => none }
def WindowSlidesWrongFalsely : Prop := windowSlidesRow.holds Try.pinned (OpenSpec.ofChange windowSlidesWrong)

/-- 'ciceronelaw10.WindowTops': WHATEVER THE INPUT: true; the input reads as it did. -/
def windowTopsSpec : ChangeSpec := { name := "windowTops", fn := fun _ => fun
  | [d1, d2, d3, d4, d5] => { results := [.lit (.bool true)], args := [d1, d2, d3, d4, d5] }
  | _ => none }
def windowTopsRow : OpenClaim := { program := "ytcaglkefhbbnbaa", sum := "3228a306f1fcc3a505beed2963e0c8836aec436e1c46d6607e287fc33cc22017", func := "cicerone/ciceronelaw10.WindowTops", spec := "windowTops", unfollowed := true, recurses := true, plainKeys := false, apart := false }
def WindowTopsSaid : Prop := windowTopsRow.holds Try.pinned (OpenSpec.ofChange windowTopsSpec)

/-- ITS FALSE NEIGHBOUR: 'it returns false'. Refute it at one input. -/
def windowTopsWrong : ChangeSpec := { name := "windowTops", fn := fun _ => fun
  | [d1, d2, d3, d4, d5] => { results := [.lit (.bool false)], args := [d1, d2, d3, d4, d5] }
  | _ => none }
def WindowTopsWrongFalsely : Prop := windowTopsRow.holds Try.pinned (OpenSpec.ofChange windowTopsWrong)

/-- 'ciceronelaw10.WindowFirsts': WHATEVER THE INPUT: true; the input reads as it did. -/
def windowFirstsSpec : ChangeSpec := { name := "windowFirsts", fn := fun _ => fun
  | [d1, d2, d3, d4, d5] => { results := [.lit (.bool true)], args := [d1, d2, d3, d4, d5] }
  | _ => none }
def windowFirstsRow : OpenClaim := { program := "ytcaglkefhbbnbaa", sum := "3228a306f1fcc3a505beed2963e0c8836aec436e1c46d6607e287fc33cc22017", func := "cicerone/ciceronelaw10.WindowFirsts", spec := "windowFirsts", unfollowed := true, recurses := true, plainKeys := false, apart := false }
def WindowFirstsSaid : Prop := windowFirstsRow.holds Try.pinned (OpenSpec.ofChange windowFirstsSpec)

/-- ITS FALSE NEIGHBOUR: 'it returns false'. Refute it at one input. -/
def windowFirstsWrong : ChangeSpec := { name := "windowFirsts", fn := fun _ => fun
  | [d1, d2, d3, d4, d5] => { results := [.lit (.bool false)], args := [d1, d2, d3, d4, d5] }
  | _ => none }
def WindowFirstsWrongFalsely : Prop := windowFirstsRow.holds Try.pinned (OpenSpec.ofChange windowFirstsWrong)

/- THE SECOND FORM. 'bulk': how many values and letters a reading holds, each counted each time it is reached (what is shared counts as often as it is met; a slice's spare places count too). A statement '..UptoSaid' is the law's where the arguments, and the package variables that the reading takes, are together of bulk at most 1048576: NARROWER than '..Said'. Prove '..Said' where nothing that the law and all that it calls make is longer than what came in: it says more and counts as full. Else prove '..UptoSaid'. A law counts once. -/
mutual
def uptoBulk {H : Type} : DataW H → Nat
  | .lit (.string bytes) => bytes.length + 1
  | .lit _ => 1
  | .nil => 1
  | .ptr d => uptoBulk d + 1
  | .slice elems spare => uptoBulkAll elems + uptoBulkAll spare + 1
  | .agg parts => uptoBulkAll parts + 1
  | .iface _ d => uptoBulk d + 1
  | .map entries => uptoBulkEntries entries + 1
  | .held _ => 1
def uptoBulkAll {H : Type} : List (DataW H) → Nat
  | [] => 0
  | d :: r => uptoBulk d + uptoBulkAll r
def uptoBulkEntries {H : Type} : List (Lit × DataW H) → Nat
  | [] => 0
  | x :: r => uptoBulkEntry x + uptoBulkEntries r
def uptoBulkEntry {H : Type} : Lit × DataW H → Nat
  | (.string bytes, d) => bytes.length + uptoBulk d + 1
  | (_, d) => uptoBulk d + 1
 end
def uptoSmall : (H : Type) → List (DataW H) → Bool := fun _ ds => decide (uptoBulkAll ds ≤ 1048576)
def OpenSpec.upto (s : _root_.Go.ChangeSpec) : _root_.Go.OpenSpec := { _root_.Go.OpenSpec.ofChange s with cond := some uptoSmall }

/-- 'ciceronelaw10.WindowMays', WHERE WHAT IT READS IS OF BULK AT MOST 1048576: true; the input reads as it did. -/
def windowMaysUptoRow : OpenClaim := { program := "ytcaglkefhbbnbaa", sum := "3228a306f1fcc3a505beed2963e0c8836aec436e1c46d6607e287fc33cc22017", func := "cicerone/ciceronelaw10.WindowMays", spec := "windowMays", unfollowed := true, recurses := true, plainKeys := false, apart := false, narrowed := true }
def WindowMaysUptoSaid : Prop := windowMaysUptoRow.holds Try.pinned (OpenSpec.upto windowMaysSpec)

/-- 'ciceronelaw10.WindowHolds', WHERE WHAT IT READS IS OF BULK AT MOST 1048576: true; the input reads as it did. -/
def windowHoldsUptoRow : OpenClaim := { program := "ytcaglkefhbbnbaa", sum := "3228a306f1fcc3a505beed2963e0c8836aec436e1c46d6607e287fc33cc22017", func := "cicerone/ciceronelaw10.WindowHolds", spec := "windowHolds", unfollowed := true, recurses := true, plainKeys := false, apart := false, narrowed := true }
def WindowHoldsUptoSaid : Prop := windowHoldsUptoRow.holds Try.pinned (OpenSpec.upto windowHoldsSpec)

/-- 'ciceronelaw10.WindowAts', WHERE WHAT IT READS IS OF BULK AT MOST 1048576: true; the input reads as it did. -/
def windowAtsUptoRow : OpenClaim := { program := "ytcaglkefhbbnbaa", sum := "3228a306f1fcc3a505beed2963e0c8836aec436e1c46d6607e287fc33cc22017", func := "cicerone/ciceronelaw10.WindowAts", spec := "windowAts", unfollowed := true, recurses := true, plainKeys := false, apart := false, narrowed := true }
def WindowAtsUptoSaid : Prop := windowAtsUptoRow.holds Try.pinned (OpenSpec.upto windowAtsSpec)

/-- 'ciceronelaw10.WindowCounts', WHERE WHAT IT READS IS OF BULK AT MOST 1048576: true; the input reads as it did. -/
def windowCountsUptoRow : OpenClaim := { program := "ytcaglkefhbbnbaa", sum := "3228a306f1fcc3a505beed2963e0c8836aec436e1c46d6607e287fc33cc22017", func := "cicerone/ciceronelaw10.WindowCounts", spec := "windowCounts", unfollowed := true, recurses := true, plainKeys := false, apart := false, narrowed := true }
def WindowCountsUptoSaid : Prop := windowCountsUptoRow.holds Try.pinned (OpenSpec.upto windowCountsSpec)

/-- 'ciceronelaw10.WindowTumbles', WHERE WHAT IT READS IS OF BULK AT MOST 1048576: true; the input reads as it did. -/
def windowTumblesUptoRow : OpenClaim := { program := "ytcaglkefhbbnbaa", sum := "3228a306f1fcc3a505beed2963e0c8836aec436e1c46d6607e287fc33cc22017", func := "cicerone/ciceronelaw10.WindowTumbles", spec := "windowTumbles", unfollowed := true, recurses := true, plainKeys := false, apart := false, narrowed := true }
def WindowTumblesUptoSaid : Prop := windowTumblesUptoRow.holds Try.pinned (OpenSpec.upto windowTumblesSpec)

/-- 'ciceronelaw10.WindowSlides', WHERE WHAT IT READS IS OF BULK AT MOST 1048576: true; the input reads as it did. -/
def windowSlidesUptoRow : OpenClaim := { program := "ytcaglkefhbbnbaa", sum := "3228a306f1fcc3a505beed2963e0c8836aec436e1c46d6607e287fc33cc22017", func := "cicerone/ciceronelaw10.WindowSlides", spec := "windowSlides", unfollowed := true, recurses := true, plainKeys := false, apart := false, narrowed := true }
def WindowSlidesUptoSaid : Prop := windowSlidesUptoRow.holds Try.pinned (OpenSpec.upto windowSlidesSpec)

/-- 'ciceronelaw10.WindowTops', WHERE WHAT IT READS IS OF BULK AT MOST 1048576: true; the input reads as it did. -/
def windowTopsUptoRow : OpenClaim := { program := "ytcaglkefhbbnbaa", sum := "3228a306f1fcc3a505beed2963e0c8836aec436e1c46d6607e287fc33cc22017", func := "cicerone/ciceronelaw10.WindowTops", spec := "windowTops", unfollowed := true, recurses := true, plainKeys := false, apart := false, narrowed := true }
def WindowTopsUptoSaid : Prop := windowTopsUptoRow.holds Try.pinned (OpenSpec.upto windowTopsSpec)

/-- 'ciceronelaw10.WindowFirsts', WHERE WHAT IT READS IS OF BULK AT MOST 1048576: true; the input reads as it did. -/
def windowFirstsUptoRow : OpenClaim := { program := "ytcaglkefhbbnbaa", sum := "3228a306f1fcc3a505beed2963e0c8836aec436e1c46d6607e287fc33cc22017", func := "cicerone/ciceronelaw10.WindowFirsts", spec := "windowFirsts", unfollowed := true, recurses := true, plainKeys := false, apart := false, narrowed := true }
def WindowFirstsUptoSaid : Prop := windowFirstsUptoRow.holds Try.pinned (OpenSpec.upto windowFirstsSpec)

end Rows
end Go.Proofs.Ytcaglkefhbbnbaa
