/-
  DERIVED: THE SHELF's CONTRACTS AT THIS DUMP, IN PLAIN WORDS (tools/lay-plain.mjs out of 'YtgdialknnjnehaaShelfG0.lean', which tools/lay-shelf.mjs wrote): THE SAME DECLARATIONS UNDER THE SAME NAMES: 'import', 'namespace', 'open', 'def', 'theorem' AND NOTHING ELSE: no command of the shelf's: FOR A HAND-IN. Each laying: the table of numbers ('.._ren') and one theorem, a field a fact of the dump's own or the kernel's comparison; each contract: ONE APPLICATION.
-/
import Derived.Test.YtgdialknnjnehaaProg
import Derived.Shelf.SlSortCmp.NoneTotal
import Derived.Ground.SlsfProg
import Derived.Shelf.SlGeneric
namespace Go.Proofs
open Go.Shelf
def Ytgdialknnjnehaa.sortG_ren : Go.Shelf.Ren := ⟨fun | 6 => 68 | 15 => 82 | 14 => 81 | 28 => 95 | 29 => 96 | 20 => 87 | 21 => 88 | 22 => 89 | 23 => 90 | 24 => 91 | 25 => 92 | 26 => 93 | 27 => 94 | 46 => 114 | 47 => 115 | 48 => 116 | 49 => 117 | 50 => 118 | 57 => 125 | n => n, fun | 22 => 49 | 24 => 27 | 25 => 71 | 3 => 3 | 39 => 81 | 0 => 0 | 53 => 95 | 55 => 97 | 4 => 4 | 46 => 88 | 45 => 87 | 50 => 92 | 5 => 5 | 9 => 9 | 66 => 108 | 70 => 112 | 76 => 118 | 77 => 119 | n => n, fun | n => n⟩
theorem Ytgdialknnjnehaa.sortG : Go.Proofs.SlLaysF0.n6 Try.prog Ytgdialknnjnehaa.sortG_ren := {
  mixed := by kernel_rfl
  f6 := ⟨Try.f68.name, by decide, Try.func68.trans (congrArg some (by kernel_rfl))⟩
  f14 := ⟨Try.f81.name, by decide, Try.func81.trans (congrArg some (by kernel_rfl))⟩
  f15 := Try.func82.trans (congrArg some (by kernel_rfl))
  f20 := ⟨Try.f87.name, by decide, Try.func87.trans (congrArg some (by kernel_rfl))⟩
  f21 := ⟨Try.f88.name, by decide, Try.func88.trans (congrArg some (by kernel_rfl))⟩
  f22 := ⟨Try.f89.name, by decide, Try.func89.trans (congrArg some (by kernel_rfl))⟩
  f23 := ⟨Try.f90.name, by decide, Try.func90.trans (congrArg some (by kernel_rfl))⟩
  f24 := ⟨Try.f91.name, by decide, Try.func91.trans (congrArg some (by kernel_rfl))⟩
  f25 := ⟨Try.f92.name, by decide, Try.func92.trans (congrArg some (by kernel_rfl))⟩
  f26 := ⟨Try.f93.name, by decide, Try.func93.trans (congrArg some (by kernel_rfl))⟩
  f27 := ⟨Try.f94.name, by decide, Try.func94.trans (congrArg some (by kernel_rfl))⟩
  f28 := Try.func95.trans (congrArg some (by kernel_rfl))
  f29 := Try.func96.trans (congrArg some (by kernel_rfl))
  f46 := ⟨Try.f114.name, by decide, Try.func114.trans (congrArg some (by kernel_rfl))⟩
  f47 := Try.func115.trans (congrArg some (by kernel_rfl))
  f48 := Try.func116.trans (congrArg some (by kernel_rfl))
  f49 := ⟨Try.f117.name, by decide, Try.func117.trans (congrArg some (by kernel_rfl))⟩
  f50 := ⟨Try.f118.name, by decide, Try.func118.trans (congrArg some (by kernel_rfl))⟩
  f57 := ⟨Try.f125.name, by decide, Try.func125.trans (congrArg some (by kernel_rfl))⟩
  t0 := Try.underlying0
  a0 := Try.isAgg0
  z0 := Try.sizeOf0
  v0 := Try.zeroValue0
  t3 := Try.underlying3
  a3 := Try.isAgg3
  z3 := Try.sizeOf3
  v3 := Try.zeroValue3
  t4 := Try.underlying4
  a4 := Try.isAgg4
  z4 := Try.sizeOf4
  v4 := Try.zeroValue4
  t5 := Try.underlying5
  a5 := Try.isAgg5
  z5 := Try.sizeOf5
  v5 := Try.zeroValue5
  t9 := Try.underlying9
  a9 := Try.isAgg9
  z9 := Try.sizeOf9
  v9 := Try.zeroValue9
  t22 := Try.underlying49
  a22 := Try.isAgg49
  z22 := Try.sizeOf49
  v22 := Try.zeroValue49
  t25 := Try.underlying71
  a25 := Try.isAgg71
  z25 := Try.sizeOf71
  v25 := Try.zeroValue71
  t39 := Try.underlying81
  a39 := Try.isAgg81
  z39 := Try.sizeOf81
  v39 := Try.zeroValue81
  t45 := Try.underlying87
  a45 := Try.isAgg87
  z45 := Try.sizeOf87
  v45 := Try.zeroValue87
  t46 := Try.underlying88
  a46 := Try.isAgg88
  z46 := Try.sizeOf88
  v46 := Try.zeroValue88
  t50 := Try.underlying92
  a50 := Try.isAgg92
  z50 := Try.sizeOf92
  v50 := Try.zeroValue92
  t53 := Try.underlying95
  a53 := Try.isAgg95
  z53 := Try.sizeOf95
  v53 := Try.zeroValue95
  t55 := Try.underlying97
  a55 := Try.isAgg97
  z55 := Try.sizeOf97
  v55 := Try.zeroValue97
  t66 := Try.underlying108
  a66 := Try.isAgg108
  z66 := Try.sizeOf108
  v66 := Try.zeroValue108
  t70 := Try.underlying112
  a70 := Try.isAgg112
  z70 := Try.sizeOf112
  v70 := Try.zeroValue112
  t76 := Try.underlying118
  a76 := Try.isAgg118
  z76 := Try.sizeOf118
  v76 := Try.zeroValue118
  t77 := Try.underlying119
  a77 := Try.isAgg119
  z77 := Try.sizeOf119
  v77 := Try.zeroValue119 }
end Go.Proofs
