/-
  What contracts of Go's library ask of the program, laid at this program by the kit's tools. Conditions: none.
-/
import Derived.Shelf.SlSortCmp.NoneTotal
import Derived.Shelf.SlGeneric
import Derived.Ground.SlsfProg
import Derived.Test.YtfjmbcljohobeaaDoorProg
namespace Go.Proofs
open Go.Shelf
def Tryd.laysSortKeys_ren : Go.Shelf.Ren := ⟨fun | 6 => 71 | 15 => 90 | 14 => 97 | 28 => 122 | 29 => 123 | 20 => 129 | 21 => 130 | 22 => 131 | 23 => 132 | 24 => 133 | 25 => 134 | 26 => 135 | 27 => 136 | 46 => 161 | 47 => 147 | 48 => 148 | 49 => 162 | 50 => 163 | 57 => 171 | n => n, fun | 22 => 78 | 24 => 35 | 25 => 44 | 3 => 3 | 39 => 154 | 0 => 0 | 53 => 179 | 55 => 39 | 4 => 4 | 46 => 172 | 45 => 171 | 50 => 176 | 5 => 5 | 9 => 9 | 66 => 193 | 70 => 197 | 76 => 207 | 77 => 208 | n => n, fun | n => n⟩
theorem Tryd.laysSortKeys : Go.Proofs.SlLaysF0.n6 Tryd.prog Tryd.laysSortKeys_ren := {
  mixed := by kernel_rfl
  f6 := ⟨Tryd.f71.name, by decide, Tryd.func71.trans (congrArg some (by kernel_rfl))⟩
  f14 := ⟨Tryd.f97.name, by decide, Tryd.func97.trans (congrArg some (by kernel_rfl))⟩
  f15 := Tryd.func90.trans (congrArg some (by kernel_rfl))
  f20 := ⟨Tryd.f129.name, by decide, Tryd.func129.trans (congrArg some (by kernel_rfl))⟩
  f21 := ⟨Tryd.f130.name, by decide, Tryd.func130.trans (congrArg some (by kernel_rfl))⟩
  f22 := ⟨Tryd.f131.name, by decide, Tryd.func131.trans (congrArg some (by kernel_rfl))⟩
  f23 := ⟨Tryd.f132.name, by decide, Tryd.func132.trans (congrArg some (by kernel_rfl))⟩
  f24 := ⟨Tryd.f133.name, by decide, Tryd.func133.trans (congrArg some (by kernel_rfl))⟩
  f25 := ⟨Tryd.f134.name, by decide, Tryd.func134.trans (congrArg some (by kernel_rfl))⟩
  f26 := ⟨Tryd.f135.name, by decide, Tryd.func135.trans (congrArg some (by kernel_rfl))⟩
  f27 := ⟨Tryd.f136.name, by decide, Tryd.func136.trans (congrArg some (by kernel_rfl))⟩
  f28 := Tryd.func122.trans (congrArg some (by kernel_rfl))
  f29 := Tryd.func123.trans (congrArg some (by kernel_rfl))
  f46 := ⟨Tryd.f161.name, by decide, Tryd.func161.trans (congrArg some (by kernel_rfl))⟩
  f47 := Tryd.func147.trans (congrArg some (by kernel_rfl))
  f48 := Tryd.func148.trans (congrArg some (by kernel_rfl))
  f49 := ⟨Tryd.f162.name, by decide, Tryd.func162.trans (congrArg some (by kernel_rfl))⟩
  f50 := ⟨Tryd.f163.name, by decide, Tryd.func163.trans (congrArg some (by kernel_rfl))⟩
  f57 := ⟨Tryd.f171.name, by decide, Tryd.func171.trans (congrArg some (by kernel_rfl))⟩
  t0 := Tryd.underlying0
  a0 := Tryd.isAgg0
  z0 := Tryd.sizeOf0
  v0 := Tryd.zeroValue0
  t3 := Tryd.underlying3
  a3 := Tryd.isAgg3
  z3 := Tryd.sizeOf3
  v3 := Tryd.zeroValue3
  t4 := Tryd.underlying4
  a4 := Tryd.isAgg4
  z4 := Tryd.sizeOf4
  v4 := Tryd.zeroValue4
  t5 := Tryd.underlying5
  a5 := Tryd.isAgg5
  z5 := Tryd.sizeOf5
  v5 := Tryd.zeroValue5
  t9 := Tryd.underlying9
  a9 := Tryd.isAgg9
  z9 := Tryd.sizeOf9
  v9 := Tryd.zeroValue9
  t22 := Tryd.underlying78
  a22 := Tryd.isAgg78
  z22 := Tryd.sizeOf78
  v22 := Tryd.zeroValue78
  t25 := Tryd.underlying44
  a25 := Tryd.isAgg44
  z25 := Tryd.sizeOf44
  v25 := Tryd.zeroValue44
  t39 := Tryd.underlying154
  a39 := Tryd.isAgg154
  z39 := Tryd.sizeOf154
  v39 := Tryd.zeroValue154
  t45 := Tryd.underlying171
  a45 := Tryd.isAgg171
  z45 := Tryd.sizeOf171
  v45 := Tryd.zeroValue171
  t46 := Tryd.underlying172
  a46 := Tryd.isAgg172
  z46 := Tryd.sizeOf172
  v46 := Tryd.zeroValue172
  t50 := Tryd.underlying176
  a50 := Tryd.isAgg176
  z50 := Tryd.sizeOf176
  v50 := Tryd.zeroValue176
  t53 := Tryd.underlying179
  a53 := Tryd.isAgg179
  z53 := Tryd.sizeOf179
  v53 := Tryd.zeroValue179
  t55 := Tryd.underlying39
  a55 := Tryd.isAgg39
  z55 := Tryd.sizeOf39
  v55 := Tryd.zeroValue39
  t66 := Tryd.underlying193
  a66 := Tryd.isAgg193
  z66 := Tryd.sizeOf193
  v66 := Tryd.zeroValue193
  t70 := Tryd.underlying197
  a70 := Tryd.isAgg197
  z70 := Tryd.sizeOf197
  v70 := Tryd.zeroValue197
  t76 := Tryd.underlying207
  a76 := Tryd.isAgg207
  z76 := Tryd.sizeOf207
  v76 := Tryd.zeroValue207
  t77 := Tryd.underlying208
  a77 := Tryd.isAgg208
  z77 := Tryd.sizeOf208
  v77 := Tryd.zeroValue208 }
end Go.Proofs
