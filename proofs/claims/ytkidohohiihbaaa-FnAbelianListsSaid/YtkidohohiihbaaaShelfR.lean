/-
  DERIVED: THE SHELF's CONTRACTS AT THIS DUMP, IN PLAIN WORDS (tools/lay-plain.mjs out of 'YtkidohohiihbaaaShelfR0.lean', which tools/lay-shelf.mjs wrote): THE SAME DECLARATIONS UNDER THE SAME NAMES: 'import', 'namespace', 'open', 'def', 'theorem' AND NOTHING ELSE: no command of the shelf's: FOR A HAND-IN. Each laying: the table of numbers ('.._ren') and one theorem, a field a fact of the dump's own or the kernel's comparison; each contract: ONE APPLICATION.
-/
import Derived.Test.YtkidohohiihbaaaProg
import Derived.Shelf.SortM.Plain
import Derived.Shelf.SortM.SortNone
import Derived.Shelf.SlicesE.Reverse
import Derived.Ground.SlgmProg
import Derived.Ground.SlgnProg
import Derived.Shelf.SlGeneric
namespace Go.Proofs
open Go.Shelf
def Ytkidohohiihbaaa.sortO_ren : Go.Shelf.Ren := ⟨fun | 5 => 181 | 8 => 184 | 7 => 202 | 19 => 211 | 20 => 212 | 10 => 216 | 11 => 217 | 12 => 218 | 13 => 219 | 14 => 220 | 15 => 221 | 16 => 222 | 17 => 223 | 18 => 224 | 30 => 230 | 31 => 226 | 32 => 227 | 33 => 231 | 34 => 232 | 35 => 185 | 40 => 234 | n => n, fun | 23 => 25 | 25 => 2 | 3 => 3 | 32 => 102 | 22 => 25 | 0 => 0 | 44 => 177 | 46 => 43 | 4 => 4 | 36 => 170 | 35 => 169 | 41 => 174 | 5 => 5 | 9 => 9 | 53 => 188 | 57 => 192 | 63 => 196 | 64 => 197 | n => n, fun | n => n⟩
theorem Ytkidohohiihbaaa.sortO : Go.Proofs.SlLaysM.n5 Try.prog Ytkidohohiihbaaa.sortO_ren := {
  mixed := by kernel_rfl
  f5 := ⟨Try.f181.name, by decide, Try.func181.trans (congrArg some (by kernel_rfl))⟩
  f7 := ⟨Try.f202.name, by decide, Try.func202.trans (congrArg some (by kernel_rfl))⟩
  f8 := Try.func184.trans (congrArg some (by kernel_rfl))
  f10 := ⟨Try.f216.name, by decide, Try.func216.trans (congrArg some (by kernel_rfl))⟩
  f11 := ⟨Try.f217.name, by decide, Try.func217.trans (congrArg some (by kernel_rfl))⟩
  f12 := ⟨Try.f218.name, by decide, Try.func218.trans (congrArg some (by kernel_rfl))⟩
  f13 := ⟨Try.f219.name, by decide, Try.func219.trans (congrArg some (by kernel_rfl))⟩
  f14 := ⟨Try.f220.name, by decide, Try.func220.trans (congrArg some (by kernel_rfl))⟩
  f15 := ⟨Try.f221.name, by decide, Try.func221.trans (congrArg some (by kernel_rfl))⟩
  f16 := ⟨Try.f222.name, by decide, Try.func222.trans (congrArg some (by kernel_rfl))⟩
  f17 := ⟨Try.f223.name, by decide, Try.func223.trans (congrArg some (by kernel_rfl))⟩
  f18 := ⟨Try.f224.name, by decide, Try.func224.trans (congrArg some (by kernel_rfl))⟩
  f19 := Try.func211.trans (congrArg some (by kernel_rfl))
  f20 := Try.func212.trans (congrArg some (by kernel_rfl))
  f30 := ⟨Try.f230.name, by decide, Try.func230.trans (congrArg some (by kernel_rfl))⟩
  f31 := Try.func226.trans (congrArg some (by kernel_rfl))
  f32 := Try.func227.trans (congrArg some (by kernel_rfl))
  f33 := ⟨Try.f231.name, by decide, Try.func231.trans (congrArg some (by kernel_rfl))⟩
  f34 := ⟨Try.f232.name, by decide, Try.func232.trans (congrArg some (by kernel_rfl))⟩
  f35 := ⟨Try.f185.name, by decide, Try.func185.trans (congrArg some (by kernel_rfl))⟩
  f40 := ⟨Try.f234.name, by decide, Try.func234.trans (congrArg some (by kernel_rfl))⟩
  t0 := Try.underlying0
  a0 := Try.isAgg0
  z0 := Try.sizeOf0
  v0 := Try.zeroValue0
  t3 := Try.underlying3
  a3 := Try.isAgg3
  z3 := Try.sizeOf3
  v3 := Try.zeroValue3
  t4 := Try.underlying4
  a4 := Try.isAgg4
  z4 := Try.sizeOf4
  v4 := Try.zeroValue4
  t5 := Try.underlying5
  a5 := Try.isAgg5
  z5 := Try.sizeOf5
  v5 := Try.zeroValue5
  t9 := Try.underlying9
  a9 := Try.isAgg9
  z9 := Try.sizeOf9
  v9 := Try.zeroValue9
  t22 := Try.underlying25
  a22 := Try.isAgg25
  z22 := Try.sizeOf25
  v22 := Try.zeroValue25
  t23 := Try.underlying25
  a23 := Try.isAgg25
  z23 := Try.sizeOf25
  v23 := Try.zeroValue25
  t25 := Try.underlying2
  a25 := Try.isAgg2
  z25 := Try.sizeOf2
  v25 := Try.zeroValue2
  t32 := Try.underlying102
  a32 := Try.isAgg102
  z32 := Try.sizeOf102
  v32 := Try.zeroValue102
  t35 := Try.underlying169
  a35 := Try.isAgg169
  z35 := Try.sizeOf169
  v35 := Try.zeroValue169
  t36 := Try.underlying170
  a36 := Try.isAgg170
  z36 := Try.sizeOf170
  v36 := Try.zeroValue170
  t41 := Try.underlying174
  a41 := Try.isAgg174
  z41 := Try.sizeOf174
  v41 := Try.zeroValue174
  t44 := Try.underlying177
  a44 := Try.isAgg177
  z44 := Try.sizeOf177
  v44 := Try.zeroValue177
  t46 := Try.underlying43
  a46 := Try.isAgg43
  z46 := Try.sizeOf43
  v46 := Try.zeroValue43
  t53 := Try.underlying188
  a53 := Try.isAgg188
  z53 := Try.sizeOf188
  v53 := Try.zeroValue188
  t57 := Try.underlying192
  a57 := Try.isAgg192
  z57 := Try.sizeOf192
  v57 := Try.zeroValue192
  t63 := Try.underlying196
  a63 := Try.isAgg196
  z63 := Try.sizeOf196
  v63 := Try.zeroValue196
  t64 := Try.underlying197
  a64 := Try.isAgg197
  z64 := Try.sizeOf197
  v64 := Try.zeroValue197 }
def Ytkidohohiihbaaa.revI_ren : Go.Shelf.Ren := ⟨fun | 35 => 182 | n => n, fun | 22 => 25 | 23 => 2 | 3 => 3 | 4 => 4 | 0 => 0 | n => n, fun | n => n⟩
theorem Ytkidohohiihbaaa.revI : Go.Proofs.SlLaysE.n35 Try.prog Ytkidohohiihbaaa.revI_ren := {
  mixed := by kernel_rfl
  f35 := ⟨Try.f182.name, by decide, Try.func182.trans (congrArg some (by kernel_rfl))⟩
  t0 := Try.underlying0
  a0 := Try.isAgg0
  z0 := Try.sizeOf0
  v0 := Try.zeroValue0
  t3 := Try.underlying3
  a3 := Try.isAgg3
  z3 := Try.sizeOf3
  v3 := Try.zeroValue3
  t4 := Try.underlying4
  a4 := Try.isAgg4
  z4 := Try.sizeOf4
  v4 := Try.zeroValue4
  t22 := Try.underlying25
  a22 := Try.isAgg25
  z22 := Try.sizeOf25
  v22 := Try.zeroValue25
  a23 := Try.isAgg2
  z23 := Try.sizeOf2 }
end Go.Proofs
