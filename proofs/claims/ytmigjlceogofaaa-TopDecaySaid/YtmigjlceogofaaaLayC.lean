/-
  DERIVED: THE SHELF's CONTRACTS AT THIS DUMP, IN PLAIN WORDS (tools/lay-plain.mjs out of 'YtmigjlceogofaaaLayCTry.lean', which tools/lay-shelf.mjs wrote): THE SAME DECLARATIONS UNDER THE SAME NAMES: 'import', 'namespace', 'open', 'def', 'theorem' AND NOTHING ELSE: no command of the shelf's: FOR A HAND-IN. Each laying: the table of numbers ('.._ren') and one theorem, a field a fact of the dump's own or the kernel's comparison; each contract: ONE APPLICATION.
-/
import Derived.Shelf.SlIter.Nil
import Derived.Shelf.SlIterI.Nil
import Derived.Shelf.SlMaps.Clone
import Derived.Ground.GgzProg
import Derived.Ground.SlmcProg
import Derived.Test.YtmigjlceogofaaaProg
namespace Go.Proofs
open Go.Shelf
def Try.keysM_ren : Go.Shelf.Ren := ⟨fun | 7 => 42 | 10 => 82 | n => n, fun | 23 => 78 | 26 => 9 | 3 => 86 | 28 => 84 | 0 => 0 | 27 => 83 | 33 => 38 | 4 => 4 | n => n, fun | n => n⟩
theorem Try.keysM : Go.Proofs.SlLaysZ.n7 Try.prog Try.keysM_ren := {
  mixed := by kernel_rfl
  f7 := ⟨Try.f42.name, by decide, Try.func42.trans (congrArg some (by kernel_rfl))⟩
  f10 := ⟨Try.f82.name, by decide, Try.func82.trans (congrArg some (by kernel_rfl))⟩
  t0 := Try.underlying0
  a0 := Try.isAgg0
  z0 := Try.sizeOf0
  v0 := Try.zeroValue0
  t4 := Try.underlying4
  a4 := Try.isAgg4
  z4 := Try.sizeOf4
  v4 := Try.zeroValue4
  t23 := Try.underlying78
  a23 := Try.isAgg78
  z23 := Try.sizeOf78
  v23 := Try.zeroValue78
  t26 := Try.underlying9
  a26 := Try.isAgg9
  z26 := Try.sizeOf9
  v26 := Try.zeroValue9
  t27 := Try.underlying83
  a27 := Try.isAgg83
  z27 := Try.sizeOf83
  v27 := Try.zeroValue83
  t28 := Try.underlying84
  a28 := Try.isAgg84
  z28 := Try.sizeOf84
  v28 := Try.zeroValue84
  t33 := Try.underlying38
  a33 := Try.isAgg38
  z33 := Try.sizeOf38
  v33 := Try.zeroValue38 }
def Try.collS_ren : Go.Shelf.Ren := ⟨fun | 8 => 41 | 11 => 81 | n => n, fun | 26 => 9 | 28 => 84 | 24 => 42 | 0 => 0 | 33 => 38 | 4 => 4 | n => n, fun | n => n⟩
theorem Try.collS : Go.Proofs.SlLaysZ.n8 Try.prog Try.collS_ren := {
  mixed := by kernel_rfl
  f8 := ⟨Try.f41.name, by decide, Try.func41.trans (congrArg some (by kernel_rfl))⟩
  f11 := ⟨Try.f81.name, by decide, Try.func81.trans (congrArg some (by kernel_rfl))⟩
  t0 := Try.underlying0
  a0 := Try.isAgg0
  z0 := Try.sizeOf0
  v0 := Try.zeroValue0
  t24 := Try.underlying42
  a24 := Try.isAgg42
  z24 := Try.sizeOf42
  v24 := Try.zeroValue42
  t26 := Try.underlying9
  a26 := Try.isAgg9
  z26 := Try.sizeOf9
  v26 := Try.zeroValue9
  t28 := Try.underlying84
  a28 := Try.isAgg84
  z28 := Try.sizeOf84
  v28 := Try.zeroValue84
  i26 := by kernel_rfl }
def Try.keysI_ren : Go.Shelf.Ren := ⟨fun | 7 => 44 | 10 => 84 | n => n, fun | 23 => 86 | 26 => 3 | 3 => 2 | 28 => 90 | 0 => 0 | 27 => 89 | 33 => 159 | 4 => 4 | n => n, fun | n => n⟩
theorem Try.keysI : Go.Proofs.SlLaysZI.n7 Try.prog Try.keysI_ren := {
  mixed := by kernel_rfl
  f7 := ⟨Try.f44.name, by decide, Try.func44.trans (congrArg some (by kernel_rfl))⟩
  f10 := ⟨Try.f84.name, by decide, Try.func84.trans (congrArg some (by kernel_rfl))⟩
  t0 := Try.underlying0
  a0 := Try.isAgg0
  z0 := Try.sizeOf0
  v0 := Try.zeroValue0
  t4 := Try.underlying4
  a4 := Try.isAgg4
  z4 := Try.sizeOf4
  v4 := Try.zeroValue4
  t23 := Try.underlying86
  a23 := Try.isAgg86
  z23 := Try.sizeOf86
  v23 := Try.zeroValue86
  t26 := Try.underlying3
  a26 := Try.isAgg3
  z26 := Try.sizeOf3
  v26 := Try.zeroValue3
  t27 := Try.underlying89
  a27 := Try.isAgg89
  z27 := Try.sizeOf89
  v27 := Try.zeroValue89
  t28 := Try.underlying90
  a28 := Try.isAgg90
  z28 := Try.sizeOf90
  v28 := Try.zeroValue90
  t33 := Try.underlying159
  a33 := Try.isAgg159
  z33 := Try.sizeOf159
  v33 := Try.zeroValue159 }
def Try.collI_ren : Go.Shelf.Ren := ⟨fun | 8 => 43 | 11 => 83 | n => n, fun | 26 => 3 | 28 => 90 | 24 => 87 | 0 => 0 | 33 => 159 | 4 => 4 | n => n, fun | n => n⟩
theorem Try.collI : Go.Proofs.SlLaysZI.n8 Try.prog Try.collI_ren := {
  mixed := by kernel_rfl
  f8 := ⟨Try.f43.name, by decide, Try.func43.trans (congrArg some (by kernel_rfl))⟩
  f11 := ⟨Try.f83.name, by decide, Try.func83.trans (congrArg some (by kernel_rfl))⟩
  t0 := Try.underlying0
  a0 := Try.isAgg0
  z0 := Try.sizeOf0
  v0 := Try.zeroValue0
  t24 := Try.underlying87
  a24 := Try.isAgg87
  z24 := Try.sizeOf87
  v24 := Try.zeroValue87
  t26 := Try.underlying3
  a26 := Try.isAgg3
  z26 := Try.sizeOf3
  v26 := Try.zeroValue3
  t28 := Try.underlying90
  a28 := Try.isAgg90
  z28 := Try.sizeOf90
  v28 := Try.zeroValue90
  i26 := by kernel_rfl }
def Try.cloI_ren : Go.Shelf.Ren := ⟨fun | 5 => 46 | 7 => 85 | n => n, fun | 23 => 86 | 25 => 3 | 3 => 2 | 4 => 4 | 20 => 20 | n => n, fun | n => n⟩
theorem Try.cloI : Go.Proofs.SlLaysW.n5 Try.prog Try.cloI_ren := {
  mixed := by kernel_rfl
  f5 := ⟨Try.f46.name, by decide, Try.func46.trans (congrArg some (by kernel_rfl))⟩
  f7 := Try.func85.trans (congrArg some (by kernel_rfl))
  t4 := Try.underlying4
  a4 := Try.isAgg4
  z4 := Try.sizeOf4
  v4 := Try.zeroValue4
  t20 := Try.underlying20
  a20 := Try.isAgg20
  z20 := Try.sizeOf20
  v20 := Try.zeroValue20
  t23 := Try.underlying86
  a23 := Try.isAgg86
  z23 := Try.sizeOf86
  v23 := Try.zeroValue86 }
def Try.cloM_ren : Go.Shelf.Ren := ⟨fun | 5 => 45 | 7 => 85 | n => n, fun | 23 => 78 | 25 => 9 | 3 => 86 | 4 => 4 | 20 => 20 | n => n, fun | n => n⟩
theorem Try.cloM : Go.Proofs.SlLaysW.n5 Try.prog Try.cloM_ren := {
  mixed := by kernel_rfl
  f5 := ⟨Try.f45.name, by decide, Try.func45.trans (congrArg some (by kernel_rfl))⟩
  f7 := Try.func85.trans (congrArg some (by kernel_rfl))
  t4 := Try.underlying4
  a4 := Try.isAgg4
  z4 := Try.sizeOf4
  v4 := Try.zeroValue4
  t20 := Try.underlying20
  a20 := Try.isAgg20
  z20 := Try.sizeOf20
  v20 := Try.zeroValue20
  t23 := Try.underlying78
  a23 := Try.isAgg78
  z23 := Try.sizeOf78
  v23 := Try.zeroValue78 }
end Go.Proofs
