/-
  DERIVED: THE SHELF's CONTRACTS AT THIS DUMP, IN PLAIN WORDS (tools/lay-plain.mjs out of 'YtendnkklbeiegaaGreatDoorShelfYX.lean', which tools/lay-shelf.mjs wrote): THE SAME DECLARATIONS UNDER THE SAME NAMES: 'import', 'namespace', 'open', 'def', 'theorem' AND NOTHING ELSE: no command of the shelf's: FOR A HAND-IN. Each laying: the table of numbers ('.._ren') and one theorem, a field a fact of the dump's own or the kernel's comparison; each contract: ONE APPLICATION.
-/
import Derived.Shelf.LaysM
import Derived.Shelf.LaysC
import Derived.Shelf.SlSortCmp.WholeK
import Derived.Ground.SlsfProg
import Derived.Ground.NamesProg
import Derived.Test.YtendnkklbeiegaaGreatDoorProg
namespace Go.Proofs
open Go.Shelf
def Tryz.sortSpan_ren : Go.Shelf.Ren := ⟨fun | 6 => 48 | 15 => 99 | 14 => 98 | 28 => 142 | 29 => 143 | 20 => 134 | 21 => 135 | 22 => 136 | 23 => 137 | 24 => 138 | 25 => 139 | 26 => 140 | 27 => 141 | 46 => 172 | 47 => 173 | 48 => 174 | 49 => 175 | 50 => 176 | 57 => 207 | n => n, fun | 22 => 60 | 24 => 65 | 25 => 133 | 3 => 3 | 39 => 195 | 0 => 0 | 53 => 208 | 55 => 207 | 4 => 4 | 46 => 232 | 45 => 231 | 50 => 128 | 5 => 5 | 9 => 9 | 66 => 260 | 70 => 264 | 76 => 288 | 77 => 91 | n => n, fun | n => n⟩
theorem Tryz.sortSpan : Go.Proofs.SlLaysF0.n6 Tryz.prog Tryz.sortSpan_ren := {
  mixed := by kernel_rfl
  f6 := ⟨Tryz.f48.name, by decide, Tryz.func48.trans (congrArg some (by kernel_rfl))⟩
  f14 := ⟨Tryz.f98.name, by decide, Tryz.func98.trans (congrArg some (by kernel_rfl))⟩
  f15 := Tryz.func99.trans (congrArg some (by kernel_rfl))
  f20 := ⟨Tryz.f134.name, by decide, Tryz.func134.trans (congrArg some (by kernel_rfl))⟩
  f21 := ⟨Tryz.f135.name, by decide, Tryz.func135.trans (congrArg some (by kernel_rfl))⟩
  f22 := ⟨Tryz.f136.name, by decide, Tryz.func136.trans (congrArg some (by kernel_rfl))⟩
  f23 := ⟨Tryz.f137.name, by decide, Tryz.func137.trans (congrArg some (by kernel_rfl))⟩
  f24 := ⟨Tryz.f138.name, by decide, Tryz.func138.trans (congrArg some (by kernel_rfl))⟩
  f25 := ⟨Tryz.f139.name, by decide, Tryz.func139.trans (congrArg some (by kernel_rfl))⟩
  f26 := ⟨Tryz.f140.name, by decide, Tryz.func140.trans (congrArg some (by kernel_rfl))⟩
  f27 := ⟨Tryz.f141.name, by decide, Tryz.func141.trans (congrArg some (by kernel_rfl))⟩
  f28 := Tryz.func142.trans (congrArg some (by kernel_rfl))
  f29 := Tryz.func143.trans (congrArg some (by kernel_rfl))
  f46 := ⟨Tryz.f172.name, by decide, Tryz.func172.trans (congrArg some (by kernel_rfl))⟩
  f47 := Tryz.func173.trans (congrArg some (by kernel_rfl))
  f48 := Tryz.func174.trans (congrArg some (by kernel_rfl))
  f49 := ⟨Tryz.f175.name, by decide, Tryz.func175.trans (congrArg some (by kernel_rfl))⟩
  f50 := ⟨Tryz.f176.name, by decide, Tryz.func176.trans (congrArg some (by kernel_rfl))⟩
  f57 := ⟨Tryz.f207.name, by decide, Tryz.func207.trans (congrArg some (by kernel_rfl))⟩
  t0 := Tryz.underlying0
  a0 := Tryz.isAgg0
  z0 := Tryz.sizeOf0
  v0 := Tryz.zeroValue0
  t3 := Tryz.underlying3
  a3 := Tryz.isAgg3
  z3 := Tryz.sizeOf3
  v3 := Tryz.zeroValue3
  t4 := Tryz.underlying4
  a4 := Tryz.isAgg4
  z4 := Tryz.sizeOf4
  v4 := Tryz.zeroValue4
  t5 := Tryz.underlying5
  a5 := Tryz.isAgg5
  z5 := Tryz.sizeOf5
  v5 := Tryz.zeroValue5
  t9 := Tryz.underlying9
  a9 := Tryz.isAgg9
  z9 := Tryz.sizeOf9
  v9 := Tryz.zeroValue9
  t22 := Tryz.underlying60
  a22 := Tryz.isAgg60
  z22 := Tryz.sizeOf60
  v22 := Tryz.zeroValue60
  t25 := Tryz.underlying133
  a25 := Tryz.isAgg133
  z25 := Tryz.sizeOf133
  v25 := Tryz.zeroValue133
  t39 := Tryz.underlying195
  a39 := Tryz.isAgg195
  z39 := Tryz.sizeOf195
  v39 := Tryz.zeroValue195
  t45 := Tryz.underlying231
  a45 := Tryz.isAgg231
  z45 := Tryz.sizeOf231
  v45 := Tryz.zeroValue231
  t46 := Tryz.underlying232
  a46 := Tryz.isAgg232
  z46 := Tryz.sizeOf232
  v46 := Tryz.zeroValue232
  t50 := Tryz.underlying128
  a50 := Tryz.isAgg128
  z50 := Tryz.sizeOf128
  v50 := Tryz.zeroValue128
  t53 := Tryz.underlying208
  a53 := Tryz.isAgg208
  z53 := Tryz.sizeOf208
  v53 := Tryz.zeroValue208
  t55 := Tryz.underlying207
  a55 := Tryz.isAgg207
  z55 := Tryz.sizeOf207
  v55 := Tryz.zeroValue207
  t66 := Tryz.underlying260
  a66 := Tryz.isAgg260
  z66 := Tryz.sizeOf260
  v66 := Tryz.zeroValue260
  t70 := Tryz.underlying264
  a70 := Tryz.isAgg264
  z70 := Tryz.sizeOf264
  v70 := Tryz.zeroValue264
  t76 := Tryz.underlying288
  a76 := Tryz.isAgg288
  z76 := Tryz.sizeOf288
  v76 := Tryz.zeroValue288
  t77 := Tryz.underlying91
  a77 := Tryz.isAgg91
  z77 := Tryz.sizeOf91
  v77 := Tryz.zeroValue91 }
end Go.Proofs
