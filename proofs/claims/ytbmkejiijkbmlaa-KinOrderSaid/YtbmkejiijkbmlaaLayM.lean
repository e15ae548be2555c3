/-
  DERIVED: THE SHELF's CONTRACTS AT THIS DUMP, IN PLAIN WORDS (tools/lay-plain.mjs out of 'YtbmkejiijkbmlaaLayMTry.lean', which tools/lay-shelf.mjs wrote): THE SAME DECLARATIONS UNDER THE SAME NAMES: 'import', 'namespace', 'open', 'def', 'theorem' AND NOTHING ELSE: no command of the shelf's: FOR A HAND-IN. Each laying: the table of numbers ('.._ren') and one theorem, a field a fact of the dump's own or the kernel's comparison; each contract: ONE APPLICATION.
-/
import Derived.Shelf.Spec.SearchS
import Derived.Ground.Names2Prog
import Derived.Test.YtbmkejiijkbmlaaProg
namespace Go.Proofs
open Go.Shelf
def Try.binS_ren : Go.Shelf.Ren := ⟨fun | 26 => 33 | 33 => 41 | 34 => 42 | 38 => 53 | n => n, fun | 24 => 32 | 9 => 9 | 3 => 3 | 4 => 4 | 40 => 78 | 0 => 0 | n => n, fun | n => n⟩
theorem Try.binS : Go.Proofs.Lays2.n26 Try.prog Try.binS_ren := {
  mixed := by kernel_rfl
  f26 := Try.func33.trans (congrArg some (by kernel_rfl))
  f33 := Try.func41.trans (congrArg some (by kernel_rfl))
  f34 := Try.func42.trans (congrArg some (by kernel_rfl))
  f38 := Try.func53.trans (congrArg some (by kernel_rfl))
  t0 := Try.underlying0
  a0 := Try.isAgg0
  z0 := Try.sizeOf0
  v0 := Try.zeroValue0
  t3 := Try.underlying3
  a3 := Try.isAgg3
  z3 := Try.sizeOf3
  v3 := Try.zeroValue3
  t4 := Try.underlying4
  a4 := Try.isAgg4
  z4 := Try.sizeOf4
  v4 := Try.zeroValue4
  t9 := Try.underlying9
  a9 := Try.isAgg9
  z9 := Try.sizeOf9
  v9 := Try.zeroValue9
  t24 := Try.underlying32
  a24 := Try.isAgg32
  z24 := Try.sizeOf32
  v24 := Try.zeroValue32
  t40 := Try.underlying78
  a40 := Try.isAgg78
  z40 := Try.sizeOf78
  v40 := Try.zeroValue78 }
end Go.Proofs
