/-
  No cell of these rows narrows 'for every input' (looked for: loops, veiled, ifaces, maps, wideKeys, modest, calm, conditions, laid).
  DERIVED. THE GIVEN ROWS OF THIS SEAT. 3 by the template 'for every input the law returns true; each argument reads behind the call as it read before'; 0 by the template 'total and deterministic' (their statements: YtjfknojkiiileaaTotals.lean).
  GIVEN WITH THE SEED: the statements are not yours to turn. If you find one false, say at which input.
  Laid BY PROGRAM, IN A SANDBOX (cutbox-rows.mjs): the forced cells as the released guide's own fill.sh prints them over the translation a45a20c503beb9e8… (all of the seat's roots in one cut). By AI agents, Wed Nov 11 2026. No macro, syntax, notation, axiom, sorry.
-/
import Derived.Test.YtjfknojkiiileaaChecked
import GoSem.Claim
import GoSem.ClaimJoined
import GoSem.ClaimMapViews
import Derived.JoinedTies
import Derived.KernelRfl
namespace Go.Proofs.Ytjfknojkiiileaa
/- THE CELL 'sum', in the pinned program and in every row, IS THE sha256 OF THE DUMP (.gsa) THAT YtjfknojkiiileaaProg.lean LOADS. Nothing in Lean hashes anything: it is a label: what it is worth is what the hold of that sum in a sandbox is worth. -/
noncomputable def Try.pinned : Pinned := { name := "ytjfknojkiiileaa", sum := "a45a20c503beb9e85ecf93e9adb6a9246d57492f00be159f70fe8f36908cf9dc", checked := Try.checked }
namespace Rows
def none {H : Type} : Left H := { results := [], args := [] }

/-- 'ciceronelaw29.CacheFresh': WHATEVER THE INPUT: true; the input reads as it did. -/
def cacheFreshSpec : ChangeSpec := { name := "cacheFresh", fn := fun _ => fun
  | [d1, d2, d3] => { results := [.lit (.bool true)], args := [d1, d2, d3] }
  | _ => none }
def cacheFreshRow : OpenClaim := { program := "ytjfknojkiiileaa", sum := "a45a20c503beb9e85ecf93e9adb6a9246d57492f00be159f70fe8f36908cf9dc", func := "cicerone/ciceronelaw29.CacheFresh", spec := "cacheFresh", unfollowed := true, recurses := true, apart := false }
def CacheFreshSaid : Prop := cacheFreshRow.holds Try.pinned (OpenSpec.ofChange cacheFreshSpec)

/-- ITS FALSE NEIGHBOUR: 'it returns false'. Refute it at one input. -/
def cacheFreshWrong : ChangeSpec := { name := "cacheFresh", fn := fun _ => fun
  | [d1, d2, d3] => { results := [.lit (.bool false)], args := [d1, d2, d3] }
  | _ => none }
def CacheFreshWrongFalsely : Prop := cacheFreshRow.holds Try.pinned (OpenSpec.ofChange cacheFreshWrong)

/-- 'ciceronelaw29.CachePlays': WHATEVER THE INPUT: true; the input reads as it did. -/
def cachePlaysSpec : ChangeSpec := { name := "cachePlays", fn := fun _ => fun
  | [d1, d2] => { results := [.lit (.bool true)], args := [d1, d2] }
  | _ => none }
def cachePlaysRow : OpenClaim := { program := "ytjfknojkiiileaa", sum := "a45a20c503beb9e85ecf93e9adb6a9246d57492f00be159f70fe8f36908cf9dc", func := "cicerone/ciceronelaw29.CachePlays", spec := "cachePlays", unfollowed := true, recurses := true, apart := false }
def CachePlaysSaid : Prop := cachePlaysRow.holds Try.pinned (OpenSpec.ofChange cachePlaysSpec)

/-- ITS FALSE NEIGHBOUR: 'it returns false'. Refute it at one input. -/
def cachePlaysWrong : ChangeSpec := { name := "cachePlays", fn := fun _ => fun
  | [d1, d2] => { results := [.lit (.bool false)], args := [d1, d2] }
  | _ => none }
def CachePlaysWrongFalsely : Prop := cachePlaysRow.holds Try.pinned (OpenSpec.ofChange cachePlaysWrong)

/-- 'ciceronelaw29.CacheRow': WHATEVER THE INPUT: true; the input reads as it did. -/
def cacheRowSpec : ChangeSpec := { name := "cacheRow", fn := fun _ => fun
  | [d1, d2] => { results := [.lit (.bool true)], args := [d1, d2] }
  | _ => none }
def cacheRowRow : OpenClaim := { program := "ytjfknojkiiileaa", sum := "a45a20c503beb9e85ecf93e9adb6a9246d57492f00be159f70fe8f36908cf9dc", func := "cicerone/ciceronelaw29.CacheRow", spec := "cacheRow", unfollowed := true, recurses := true, apart := false }
def CacheRowSaid : Prop := cacheRowRow.holds Try.pinned (OpenSpec.ofChange cacheRowSpec)

/-- ITS FALSE NEIGHBOUR: 'it returns false'. Refute it at one input. -/
def cacheRowWrong : ChangeSpec := { name := "cacheRow", fn := fun _ => fun
  | [d1, d2] => { results := [.lit (.bool false)], args := [d1, d2] }
  | _ => none }
def CacheRowWrongFalsely : Prop := cacheRowRow.holds Try.pinned (OpenSpec.ofChange cacheRowWrong)

/- THE SECOND FORM. 'bulk': how many values and letters a reading holds, each counted each time it is reached (what is shared counts as often as it is met; a slice's spare places count too). A statement '..UptoSaid' is the law's where the arguments, and the package variables that the reading takes, are together of bulk at most 1048576: NARROWER than '..Said'. Prove '..Said' where nothing that the law and all that it calls make is longer than what came in: it says more and counts as full. Else prove '..UptoSaid'. A law counts once. -/
mutual
def uptoBulk {H : Type} : DataW H → Nat
  | .lit (.string bytes) => bytes.length + 1
  | .lit _ => 1
  | .nil => 1
  | .ptr d => uptoBulk d + 1
  | .slice elems spare => uptoBulkAll elems + uptoBulkAll spare + 1
  | .agg parts => uptoBulkAll parts + 1
  | .iface _ d => uptoBulk d + 1
  | .map entries => uptoBulkEntries entries + 1
  | .held _ => 1
def uptoBulkAll {H : Type} : List (DataW H) → Nat
  | [] => 0
  | d :: r => uptoBulk d + uptoBulkAll r
def uptoBulkEntries {H : Type} : List (Lit × DataW H) → Nat
  | [] => 0
  | x :: r => uptoBulkEntry x + uptoBulkEntries r
def uptoBulkEntry {H : Type} : Lit × DataW H → Nat
  | (.string bytes, d) => bytes.length + uptoBulk d + 1
  | (_, d) => uptoBulk d + 1
 end
def uptoSmall : (H : Type) → List (DataW H) → Bool := fun _ ds => decide (uptoBulkAll ds ≤ 1048576)
def OpenSpec.upto (s : _root_.Go.ChangeSpec) : _root_.Go.OpenSpec := { _root_.Go.OpenSpec.ofChange s with cond := some uptoSmall }

/-- 'ciceronelaw29.CacheFresh', WHERE WHAT IT READS IS OF BULK AT MOST 1048576: true; the input reads as it did. -/
def cacheFreshUptoRow : OpenClaim := { program := "ytjfknojkiiileaa", sum := "a45a20c503beb9e85ecf93e9adb6a9246d57492f00be159f70fe8f36908cf9dc", func := "cicerone/ciceronelaw29.CacheFresh", spec := "cacheFresh", unfollowed := true, recurses := true, apart := false, narrowed := true }
def CacheFreshUptoSaid : Prop := cacheFreshUptoRow.holds Try.pinned (OpenSpec.upto cacheFreshSpec)

/-- 'ciceronelaw29.CachePlays', WHERE WHAT IT READS IS OF BULK AT MOST 1048576: true; the input reads as it did. -/
def cachePlaysUptoRow : OpenClaim := { program := "ytjfknojkiiileaa", sum := "a45a20c503beb9e85ecf93e9adb6a9246d57492f00be159f70fe8f36908cf9dc", func := "cicerone/ciceronelaw29.CachePlays", spec := "cachePlays", unfollowed := true, recurses := true, apart := false, narrowed := true }
def CachePlaysUptoSaid : Prop := cachePlaysUptoRow.holds Try.pinned (OpenSpec.upto cachePlaysSpec)

/-- 'ciceronelaw29.CacheRow', WHERE WHAT IT READS IS OF BULK AT MOST 1048576: true; the input reads as it did. -/
def cacheRowUptoRow : OpenClaim := { program := "ytjfknojkiiileaa", sum := "a45a20c503beb9e85ecf93e9adb6a9246d57492f00be159f70fe8f36908cf9dc", func := "cicerone/ciceronelaw29.CacheRow", spec := "cacheRow", unfollowed := true, recurses := true, apart := false, narrowed := true }
def CacheRowUptoSaid : Prop := cacheRowUptoRow.holds Try.pinned (OpenSpec.upto cacheRowSpec)

end Rows
end Go.Proofs.Ytjfknojkiiileaa
