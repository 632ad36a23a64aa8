/-
  DERIVED: THE SHELF's CONTRACTS AT THIS DUMP, IN PLAIN WORDS (tools/lay-plain.mjs out of 'YtckgjiiogmcbmaaShelf.lean', which tools/lay-shelf.mjs wrote): THE SAME DECLARATIONS UNDER THE SAME NAMES: 'import', 'namespace', 'open', 'def', 'theorem' AND NOTHING ELSE: no command of the shelf's: FOR A HAND-IN. Each laying: the table of numbers ('.._ren') and one theorem, a field a fact of the dump's own or the kernel's comparison; each contract: ONE APPLICATION.
-/
import Derived.Shelf.SlGeneric
import Derived.Shelf.SlSortCmp.NoneTotal
import Derived.Ground.SlsfProg
import Derived.Test.YtckgjiiogmcbmaaProg
namespace Go.Proofs
open Go.Shelf
def Try.sortDue_ren : Go.Shelf.Ren := ⟨fun | 6 => 17 | 15 => 23 | 14 => 22 | 28 => 34 | 29 => 35 | 20 => 26 | 21 => 27 | 22 => 28 | 23 => 29 | 24 => 30 | 25 => 31 | 26 => 32 | 27 => 33 | 46 => 36 | 47 => 37 | 48 => 38 | 49 => 39 | 50 => 40 | 57 => 41 | n => n, fun | 22 => 50 | 24 => 52 | 25 => 57 | 3 => 3 | 39 => 61 | 0 => 0 | 53 => 24 | 55 => 72 | 4 => 4 | 46 => 65 | 45 => 64 | 50 => 58 | 5 => 5 | 9 => 9 | 66 => 73 | 70 => 77 | 76 => 79 | 77 => 80 | n => n, fun | n => n⟩
theorem Try.sortDue : Go.Proofs.SlLaysF0.n6 Try.prog Try.sortDue_ren := {
  mixed := by kernel_rfl
  f6 := ⟨Try.f17.name, by decide, Try.func17.trans (congrArg some (by kernel_rfl))⟩
  f14 := ⟨Try.f22.name, by decide, Try.func22.trans (congrArg some (by kernel_rfl))⟩
  f15 := Try.func23.trans (congrArg some (by kernel_rfl))
  f20 := ⟨Try.f26.name, by decide, Try.func26.trans (congrArg some (by kernel_rfl))⟩
  f21 := ⟨Try.f27.name, by decide, Try.func27.trans (congrArg some (by kernel_rfl))⟩
  f22 := ⟨Try.f28.name, by decide, Try.func28.trans (congrArg some (by kernel_rfl))⟩
  f23 := ⟨Try.f29.name, by decide, Try.func29.trans (congrArg some (by kernel_rfl))⟩
  f24 := ⟨Try.f30.name, by decide, Try.func30.trans (congrArg some (by kernel_rfl))⟩
  f25 := ⟨Try.f31.name, by decide, Try.func31.trans (congrArg some (by kernel_rfl))⟩
  f26 := ⟨Try.f32.name, by decide, Try.func32.trans (congrArg some (by kernel_rfl))⟩
  f27 := ⟨Try.f33.name, by decide, Try.func33.trans (congrArg some (by kernel_rfl))⟩
  f28 := Try.func34.trans (congrArg some (by kernel_rfl))
  f29 := Try.func35.trans (congrArg some (by kernel_rfl))
  f46 := ⟨Try.f36.name, by decide, Try.func36.trans (congrArg some (by kernel_rfl))⟩
  f47 := Try.func37.trans (congrArg some (by kernel_rfl))
  f48 := Try.func38.trans (congrArg some (by kernel_rfl))
  f49 := ⟨Try.f39.name, by decide, Try.func39.trans (congrArg some (by kernel_rfl))⟩
  f50 := ⟨Try.f40.name, by decide, Try.func40.trans (congrArg some (by kernel_rfl))⟩
  f57 := ⟨Try.f41.name, by decide, Try.func41.trans (congrArg some (by kernel_rfl))⟩
  t0 := Try.underlying0
  a0 := Try.isAgg0
  z0 := Try.sizeOf0
  v0 := Try.zeroValue0
  t3 := Try.underlying3
  a3 := Try.isAgg3
  z3 := Try.sizeOf3
  v3 := Try.zeroValue3
  t4 := Try.underlying4
  a4 := Try.isAgg4
  z4 := Try.sizeOf4
  v4 := Try.zeroValue4
  t5 := Try.underlying5
  a5 := Try.isAgg5
  z5 := Try.sizeOf5
  v5 := Try.zeroValue5
  t9 := Try.underlying9
  a9 := Try.isAgg9
  z9 := Try.sizeOf9
  v9 := Try.zeroValue9
  t22 := Try.underlying50
  a22 := Try.isAgg50
  z22 := Try.sizeOf50
  v22 := Try.zeroValue50
  t25 := Try.underlying57
  a25 := Try.isAgg57
  z25 := Try.sizeOf57
  v25 := Try.zeroValue57
  t39 := Try.underlying61
  a39 := Try.isAgg61
  z39 := Try.sizeOf61
  v39 := Try.zeroValue61
  t45 := Try.underlying64
  a45 := Try.isAgg64
  z45 := Try.sizeOf64
  v45 := Try.zeroValue64
  t46 := Try.underlying65
  a46 := Try.isAgg65
  z46 := Try.sizeOf65
  v46 := Try.zeroValue65
  t50 := Try.underlying58
  a50 := Try.isAgg58
  z50 := Try.sizeOf58
  v50 := Try.zeroValue58
  t53 := Try.underlying24
  a53 := Try.isAgg24
  z53 := Try.sizeOf24
  v53 := Try.zeroValue24
  t55 := Try.underlying72
  a55 := Try.isAgg72
  z55 := Try.sizeOf72
  v55 := Try.zeroValue72
  t66 := Try.underlying73
  a66 := Try.isAgg73
  z66 := Try.sizeOf73
  v66 := Try.zeroValue73
  t70 := Try.underlying77
  a70 := Try.isAgg77
  z70 := Try.sizeOf77
  v70 := Try.zeroValue77
  t76 := Try.underlying79
  a76 := Try.isAgg79
  z76 := Try.sizeOf79
  v76 := Try.zeroValue79
  t77 := Try.underlying80
  a77 := Try.isAgg80
  z77 := Try.sizeOf80
  v77 := Try.zeroValue80 }
end Go.Proofs
