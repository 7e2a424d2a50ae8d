/-
  DERIVED: THE SHELF's CONTRACTS AT THIS DUMP, IN PLAIN WORDS (tools/lay-plain.mjs out of 'YtkidohohiihbaaaShelfG0.lean', which tools/lay-shelf.mjs wrote): THE SAME DECLARATIONS UNDER THE SAME NAMES: 'import', 'namespace', 'open', 'def', 'theorem' AND NOTHING ELSE: no command of the shelf's: FOR A HAND-IN. Each laying: the table of numbers ('.._ren') and one theorem, a field a fact of the dump's own or the kernel's comparison; each contract: ONE APPLICATION.
-/
import Derived.Test.YtkidohohiihbaaaProg
import Derived.Shelf.SlSortCmp.NoneTotal
import Derived.Ground.SlsfProg
import Derived.Shelf.SlGeneric
namespace Go.Proofs
open Go.Shelf
def Ytkidohohiihbaaa.sortG_ren : Go.Shelf.Ren := ⟨fun | 6 => 143 | 15 => 184 | 14 => 183 | 28 => 211 | 29 => 212 | 20 => 203 | 21 => 204 | 22 => 205 | 23 => 206 | 24 => 207 | 25 => 208 | 26 => 209 | 27 => 210 | 46 => 225 | 47 => 226 | 48 => 227 | 49 => 228 | 50 => 229 | 57 => 233 | n => n, fun | 22 => 81 | 24 => 37 | 25 => 135 | 3 => 3 | 39 => 102 | 0 => 0 | 53 => 177 | 55 => 43 | 4 => 4 | 46 => 170 | 45 => 169 | 50 => 174 | 5 => 5 | 9 => 9 | 66 => 188 | 70 => 192 | 76 => 196 | 77 => 197 | n => n, fun | n => n⟩
theorem Ytkidohohiihbaaa.sortG : Go.Proofs.SlLaysF0.n6 Try.prog Ytkidohohiihbaaa.sortG_ren := {
  mixed := by kernel_rfl
  f6 := ⟨Try.f143.name, by decide, Try.func143.trans (congrArg some (by kernel_rfl))⟩
  f14 := ⟨Try.f183.name, by decide, Try.func183.trans (congrArg some (by kernel_rfl))⟩
  f15 := Try.func184.trans (congrArg some (by kernel_rfl))
  f20 := ⟨Try.f203.name, by decide, Try.func203.trans (congrArg some (by kernel_rfl))⟩
  f21 := ⟨Try.f204.name, by decide, Try.func204.trans (congrArg some (by kernel_rfl))⟩
  f22 := ⟨Try.f205.name, by decide, Try.func205.trans (congrArg some (by kernel_rfl))⟩
  f23 := ⟨Try.f206.name, by decide, Try.func206.trans (congrArg some (by kernel_rfl))⟩
  f24 := ⟨Try.f207.name, by decide, Try.func207.trans (congrArg some (by kernel_rfl))⟩
  f25 := ⟨Try.f208.name, by decide, Try.func208.trans (congrArg some (by kernel_rfl))⟩
  f26 := ⟨Try.f209.name, by decide, Try.func209.trans (congrArg some (by kernel_rfl))⟩
  f27 := ⟨Try.f210.name, by decide, Try.func210.trans (congrArg some (by kernel_rfl))⟩
  f28 := Try.func211.trans (congrArg some (by kernel_rfl))
  f29 := Try.func212.trans (congrArg some (by kernel_rfl))
  f46 := ⟨Try.f225.name, by decide, Try.func225.trans (congrArg some (by kernel_rfl))⟩
  f47 := Try.func226.trans (congrArg some (by kernel_rfl))
  f48 := Try.func227.trans (congrArg some (by kernel_rfl))
  f49 := ⟨Try.f228.name, by decide, Try.func228.trans (congrArg some (by kernel_rfl))⟩
  f50 := ⟨Try.f229.name, by decide, Try.func229.trans (congrArg some (by kernel_rfl))⟩
  f57 := ⟨Try.f233.name, by decide, Try.func233.trans (congrArg some (by kernel_rfl))⟩
  t0 := Try.underlying0
  a0 := Try.isAgg0
  z0 := Try.sizeOf0
  v0 := Try.zeroValue0
  t3 := Try.underlying3
  a3 := Try.isAgg3
  z3 := Try.sizeOf3
  v3 := Try.zeroValue3
  t4 := Try.underlying4
  a4 := Try.isAgg4
  z4 := Try.sizeOf4
  v4 := Try.zeroValue4
  t5 := Try.underlying5
  a5 := Try.isAgg5
  z5 := Try.sizeOf5
  v5 := Try.zeroValue5
  t9 := Try.underlying9
  a9 := Try.isAgg9
  z9 := Try.sizeOf9
  v9 := Try.zeroValue9
  t22 := Try.underlying81
  a22 := Try.isAgg81
  z22 := Try.sizeOf81
  v22 := Try.zeroValue81
  t25 := Try.underlying135
  a25 := Try.isAgg135
  z25 := Try.sizeOf135
  v25 := Try.zeroValue135
  t39 := Try.underlying102
  a39 := Try.isAgg102
  z39 := Try.sizeOf102
  v39 := Try.zeroValue102
  t45 := Try.underlying169
  a45 := Try.isAgg169
  z45 := Try.sizeOf169
  v45 := Try.zeroValue169
  t46 := Try.underlying170
  a46 := Try.isAgg170
  z46 := Try.sizeOf170
  v46 := Try.zeroValue170
  t50 := Try.underlying174
  a50 := Try.isAgg174
  z50 := Try.sizeOf174
  v50 := Try.zeroValue174
  t53 := Try.underlying177
  a53 := Try.isAgg177
  z53 := Try.sizeOf177
  v53 := Try.zeroValue177
  t55 := Try.underlying43
  a55 := Try.isAgg43
  z55 := Try.sizeOf43
  v55 := Try.zeroValue43
  t66 := Try.underlying188
  a66 := Try.isAgg188
  z66 := Try.sizeOf188
  v66 := Try.zeroValue188
  t70 := Try.underlying192
  a70 := Try.isAgg192
  z70 := Try.sizeOf192
  v70 := Try.zeroValue192
  t76 := Try.underlying196
  a76 := Try.isAgg196
  z76 := Try.sizeOf196
  v76 := Try.zeroValue196
  t77 := Try.underlying197
  a77 := Try.isAgg197
  z77 := Try.sizeOf197
  v77 := Try.zeroValue197 }
end Go.Proofs
