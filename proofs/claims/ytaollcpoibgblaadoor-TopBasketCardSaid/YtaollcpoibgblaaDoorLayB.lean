/-
  DERIVED: THE SHELF's CONTRACTS AT THIS DUMP, IN PLAIN WORDS (tools/lay-plain.mjs out of 'YtaollcpoibgblaaDoorLayBTry.lean', which tools/lay-shelf.mjs wrote): THE SAME DECLARATIONS UNDER THE SAME NAMES: 'import', 'namespace', 'open', 'def', 'theorem' AND NOTHING ELSE: no command of the shelf's: FOR A HAND-IN. Each laying: the table of numbers ('.._ren') and one theorem, a field a fact of the dump's own or the kernel's comparison; each contract: ONE APPLICATION.
-/
import Derived.Shelf.SlSortCmp.NoneTotal
import Derived.Ground.SlsfProg
import Derived.Test.YtaollcpoibgblaaDoorProg
namespace Go.Proofs
open Go.Shelf
def Tryd.sortE_ren : Go.Shelf.Ren := ⟨fun | 6 => 18 | 15 => 30 | 14 => 29 | 28 => 44 | 29 => 45 | 20 => 36 | 21 => 37 | 22 => 38 | 23 => 39 | 24 => 40 | 25 => 41 | 26 => 42 | 27 => 43 | 46 => 50 | 47 => 51 | 48 => 52 | 49 => 53 | 50 => 54 | 57 => 61 | n => n, fun | 22 => 23 | 24 => 51 | 25 => 68 | 3 => 3 | 39 => 84 | 0 => 0 | 53 => 100 | 55 => 30 | 4 => 4 | 46 => 94 | 45 => 93 | 50 => 70 | 5 => 5 | 9 => 9 | 66 => 105 | 70 => 109 | 76 => 122 | 77 => 123 | n => n, fun | n => n⟩
theorem Tryd.sortE : Go.Proofs.SlLaysF0.n6 Tryd.prog Tryd.sortE_ren := {
  mixed := by kernel_rfl
  f6 := ⟨Tryd.f18.name, by decide, Tryd.func18.trans (congrArg some (by kernel_rfl))⟩
  f14 := ⟨Tryd.f29.name, by decide, Tryd.func29.trans (congrArg some (by kernel_rfl))⟩
  f15 := Tryd.func30.trans (congrArg some (by kernel_rfl))
  f20 := ⟨Tryd.f36.name, by decide, Tryd.func36.trans (congrArg some (by kernel_rfl))⟩
  f21 := ⟨Tryd.f37.name, by decide, Tryd.func37.trans (congrArg some (by kernel_rfl))⟩
  f22 := ⟨Tryd.f38.name, by decide, Tryd.func38.trans (congrArg some (by kernel_rfl))⟩
  f23 := ⟨Tryd.f39.name, by decide, Tryd.func39.trans (congrArg some (by kernel_rfl))⟩
  f24 := ⟨Tryd.f40.name, by decide, Tryd.func40.trans (congrArg some (by kernel_rfl))⟩
  f25 := ⟨Tryd.f41.name, by decide, Tryd.func41.trans (congrArg some (by kernel_rfl))⟩
  f26 := ⟨Tryd.f42.name, by decide, Tryd.func42.trans (congrArg some (by kernel_rfl))⟩
  f27 := ⟨Tryd.f43.name, by decide, Tryd.func43.trans (congrArg some (by kernel_rfl))⟩
  f28 := Tryd.func44.trans (congrArg some (by kernel_rfl))
  f29 := Tryd.func45.trans (congrArg some (by kernel_rfl))
  f46 := ⟨Tryd.f50.name, by decide, Tryd.func50.trans (congrArg some (by kernel_rfl))⟩
  f47 := Tryd.func51.trans (congrArg some (by kernel_rfl))
  f48 := Tryd.func52.trans (congrArg some (by kernel_rfl))
  f49 := ⟨Tryd.f53.name, by decide, Tryd.func53.trans (congrArg some (by kernel_rfl))⟩
  f50 := ⟨Tryd.f54.name, by decide, Tryd.func54.trans (congrArg some (by kernel_rfl))⟩
  f57 := ⟨Tryd.f61.name, by decide, Tryd.func61.trans (congrArg some (by kernel_rfl))⟩
  t0 := Tryd.underlying0
  a0 := Tryd.isAgg0
  z0 := Tryd.sizeOf0
  v0 := Tryd.zeroValue0
  t3 := Tryd.underlying3
  a3 := Tryd.isAgg3
  z3 := Tryd.sizeOf3
  v3 := Tryd.zeroValue3
  t4 := Tryd.underlying4
  a4 := Tryd.isAgg4
  z4 := Tryd.sizeOf4
  v4 := Tryd.zeroValue4
  t5 := Tryd.underlying5
  a5 := Tryd.isAgg5
  z5 := Tryd.sizeOf5
  v5 := Tryd.zeroValue5
  t9 := Tryd.underlying9
  a9 := Tryd.isAgg9
  z9 := Tryd.sizeOf9
  v9 := Tryd.zeroValue9
  t22 := Tryd.underlying23
  a22 := Tryd.isAgg23
  z22 := Tryd.sizeOf23
  v22 := Tryd.zeroValue23
  t25 := Tryd.underlying68
  a25 := Tryd.isAgg68
  z25 := Tryd.sizeOf68
  v25 := Tryd.zeroValue68
  t39 := Tryd.underlying84
  a39 := Tryd.isAgg84
  z39 := Tryd.sizeOf84
  v39 := Tryd.zeroValue84
  t45 := Tryd.underlying93
  a45 := Tryd.isAgg93
  z45 := Tryd.sizeOf93
  v45 := Tryd.zeroValue93
  t46 := Tryd.underlying94
  a46 := Tryd.isAgg94
  z46 := Tryd.sizeOf94
  v46 := Tryd.zeroValue94
  t50 := Tryd.underlying70
  a50 := Tryd.isAgg70
  z50 := Tryd.sizeOf70
  v50 := Tryd.zeroValue70
  t53 := Tryd.underlying100
  a53 := Tryd.isAgg100
  z53 := Tryd.sizeOf100
  v53 := Tryd.zeroValue100
  t55 := Tryd.underlying30
  a55 := Tryd.isAgg30
  z55 := Tryd.sizeOf30
  v55 := Tryd.zeroValue30
  t66 := Tryd.underlying105
  a66 := Tryd.isAgg105
  z66 := Tryd.sizeOf105
  v66 := Tryd.zeroValue105
  t70 := Tryd.underlying109
  a70 := Tryd.isAgg109
  z70 := Tryd.sizeOf109
  v70 := Tryd.zeroValue109
  t76 := Tryd.underlying122
  a76 := Tryd.isAgg122
  z76 := Tryd.sizeOf122
  v76 := Tryd.zeroValue122
  t77 := Tryd.underlying123
  a77 := Tryd.isAgg123
  z77 := Tryd.sizeOf123
  v77 := Tryd.zeroValue123 }
end Go.Proofs
