/-
  DERIVED: THE SHELF's CONTRACTS AT THIS DUMP, IN PLAIN WORDS (tools/lay-plain.mjs out of 'YtmigjlceogofaaaLayTry.lean', which tools/lay-shelf.mjs wrote): THE SAME DECLARATIONS UNDER THE SAME NAMES: 'import', 'namespace', 'open', 'def', 'theorem' AND NOTHING ELSE: no command of the shelf's: FOR A HAND-IN. Each laying: the table of numbers ('.._ren') and one theorem, a field a fact of the dump's own or the kernel's comparison; each contract: ONE APPLICATION.
-/
import Derived.Shelf.SlicesE.Clone
import Derived.Ground.SlgnProg
import Derived.Shelf.SlicesE.IndexFunc
import Derived.Ground.SlgfProg
import Derived.Test.YtmigjlceogofaaaProg
namespace Go.Proofs
open Go.Shelf
def Try.cloneS_ren : Go.Shelf.Ren := ⟨fun | 41 => 53 | n => n, fun | 22 => 42 | 23 => 9 | 4 => 4 | n => n, fun | n => n⟩
theorem Try.cloneS : Go.Proofs.SlLaysE0.n41 Try.prog Try.cloneS_ren := {
  mixed := by kernel_rfl
  f41 := ⟨Try.f53.name, by decide, Try.func53.trans (congrArg some (by kernel_rfl))⟩
  t4 := Try.underlying4
  a4 := Try.isAgg4
  z4 := Try.sizeOf4
  v4 := Try.zeroValue4
  t22 := Try.underlying42
  a22 := Try.isAgg42
  z22 := Try.sizeOf42
  v22 := Try.zeroValue42 }
def Try.cfS_ren : Go.Shelf.Ren := ⟨fun | 8 => 57 | 6 => 91 | n => n, fun | 22 => 42 | 23 => 9 | 25 => 38 | 4 => 4 | 3 => 3 | 0 => 0 | n => n, fun | n => n⟩
theorem Try.cfS : Go.Proofs.SlLaysH.n8 Try.prog Try.cfS_ren := {
  mixed := by kernel_rfl
  f6 := ⟨Try.f91.name, by decide, Try.func91.trans (congrArg some (by kernel_rfl))⟩
  f8 := ⟨Try.f57.name, by decide, Try.func57.trans (congrArg some (by kernel_rfl))⟩
  t0 := Try.underlying0
  a0 := Try.isAgg0
  z0 := Try.sizeOf0
  v0 := Try.zeroValue0
  t3 := Try.underlying3
  a3 := Try.isAgg3
  z3 := Try.sizeOf3
  v3 := Try.zeroValue3
  t4 := Try.underlying4
  a4 := Try.isAgg4
  z4 := Try.sizeOf4
  v4 := Try.zeroValue4
  t22 := Try.underlying42
  a22 := Try.isAgg42
  z22 := Try.sizeOf42
  v22 := Try.zeroValue42
  a23 := Try.isAgg9
  z23 := Try.sizeOf9
  t25 := Try.underlying38
  a25 := Try.isAgg38
  z25 := Try.sizeOf38
  v25 := Try.zeroValue38 }
end Go.Proofs
