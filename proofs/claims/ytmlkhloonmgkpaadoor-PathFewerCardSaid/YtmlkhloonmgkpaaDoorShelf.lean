/-
  The contracts of Go's library that this claim uses, laid at this program by the kit's tools (lay-shelf, lay-plain). Conditions: as each says.
-/
import Derived.Shelf.Small.Strs
import Derived.Shelf.Strconv.Itoa3
import Derived.Shelf.Strings.Prefix
import Derived.Shelf.Strings.Split
import Derived.Test.YtmlkhloonmgkpaaDoorProg
namespace Go.Proofs
open Go.Shelf
def Tryd.lays137_ren : Go.Shelf.Ren := ⟨fun | 137 => 60 | 217 => 93 | 266 => 113 | n => n, fun | 9 => 9 | 5 => 5 | 3 => 3 | n => n, fun | n => n⟩
theorem Tryd.lays137 : Go.Proofs.Lays.n137 Tryd.prog Tryd.lays137_ren := {
  mixed := by kernel_rfl
  f137 := Tryd.func60.trans (congrArg some (by kernel_rfl))
  f217 := Tryd.func93.trans (congrArg some (by kernel_rfl))
  f266 := Tryd.func113.trans (congrArg some (by kernel_rfl))
  t3 := Tryd.underlying3
  a3 := Tryd.isAgg3
  z3 := Tryd.sizeOf3
  v3 := Tryd.zeroValue3
  t5 := Tryd.underlying5
  a5 := Tryd.isAgg5
  z5 := Tryd.sizeOf5
  v5 := Tryd.zeroValue5
  t9 := Tryd.underlying9
  a9 := Tryd.isAgg9
  z9 := Tryd.sizeOf9
  v9 := Tryd.zeroValue9 }
open Go.RowKit in
theorem Tryd.strings_IndexByte (s : ByteArray) (c : Int) (w : World) :
    Calls Tryd.prog 60 #[.string s, .int .u8 c] w fun e w' => e = .returned (.int .i64 (Lib.indexByte s.data.toList c.toNat.toUInt8)) ∧ w' = w := Any.strings_IndexByte Tryd.lays137 s c w
def Tryd.lays171_ren : Go.Shelf.Ren := ⟨fun | 171 => 61 | 243 => 94 | 246 => 114 | 283 => 131 | 284 => 132 | 285 => 133 | 286 => 134 | 129 => 145 | 317 => 144 | 318 => 146 | 319 => 147 | 320 => 148 | 337 => 155 | 338 => 156 | n => n, fun | 3 => 3 | 9 => 9 | 2 => 2 | 4 => 4 | 171 => 164 | 0 => 0 | 53 => 40 | 37 => 30 | 5 => 5 | 173 => 167 | 212 => 174 | 51 => 175 | 20 => 20 | 213 => 176 | 46 => 150 | 232 => 44 | 233 => 187 | n => n, fun | 17 => 1 | 18 => 4 | 19 => 5 | n => n⟩
theorem Tryd.lays171 : Go.Proofs.Lays.n171 Tryd.prog Tryd.lays171_ren := {
  mixed := by kernel_rfl
  f129 := Tryd.func145.trans (congrArg some (by kernel_rfl))
  f171 := Tryd.func61.trans (congrArg some (by kernel_rfl))
  f243 := Tryd.func94.trans (congrArg some (by kernel_rfl))
  f246 := Tryd.func114.trans (congrArg some (by kernel_rfl))
  f283 := Tryd.func131.trans (congrArg some (by kernel_rfl))
  f284 := Tryd.func132.trans (congrArg some (by kernel_rfl))
  f285 := Tryd.func133.trans (congrArg some (by kernel_rfl))
  f286 := Tryd.func134.trans (congrArg some (by kernel_rfl))
  f317 := Tryd.func144.trans (congrArg some (by kernel_rfl))
  f318 := Tryd.func146.trans (congrArg some (by kernel_rfl))
  f319 := Tryd.func147.trans (congrArg some (by kernel_rfl))
  f320 := Tryd.func148.trans (congrArg some (by kernel_rfl))
  f337 := Tryd.func155.trans (congrArg some (by kernel_rfl))
  f338 := Tryd.func156.trans (congrArg some (by kernel_rfl))
  t0 := Tryd.underlying0
  a0 := Tryd.isAgg0
  z0 := Tryd.sizeOf0
  v0 := Tryd.zeroValue0
  t2 := Tryd.underlying2
  a2 := Tryd.isAgg2
  z2 := Tryd.sizeOf2
  v2 := Tryd.zeroValue2
  t3 := Tryd.underlying3
  a3 := Tryd.isAgg3
  z3 := Tryd.sizeOf3
  v3 := Tryd.zeroValue3
  t4 := Tryd.underlying4
  a4 := Tryd.isAgg4
  z4 := Tryd.sizeOf4
  v4 := Tryd.zeroValue4
  t5 := Tryd.underlying5
  a5 := Tryd.isAgg5
  z5 := Tryd.sizeOf5
  v5 := Tryd.zeroValue5
  t9 := Tryd.underlying9
  a9 := Tryd.isAgg9
  z9 := Tryd.sizeOf9
  v9 := Tryd.zeroValue9
  t20 := Tryd.underlying20
  a20 := Tryd.isAgg20
  z20 := Tryd.sizeOf20
  v20 := Tryd.zeroValue20
  t37 := Tryd.underlying30
  a37 := Tryd.isAgg30
  z37 := Tryd.sizeOf30
  v37 := Tryd.zeroValue30
  t46 := Tryd.underlying150
  a46 := Tryd.isAgg150
  z46 := Tryd.sizeOf150
  v46 := Tryd.zeroValue150
  t51 := Tryd.underlying175
  a51 := Tryd.isAgg175
  z51 := Tryd.sizeOf175
  v51 := Tryd.zeroValue175
  t53 := Tryd.underlying40
  a53 := Tryd.isAgg40
  z53 := Tryd.sizeOf40
  v53 := Tryd.zeroValue40
  t171 := Tryd.underlying164
  a171 := Tryd.isAgg164
  z171 := Tryd.sizeOf164
  v171 := Tryd.zeroValue164
  t173 := Tryd.underlying167
  a173 := Tryd.isAgg167
  z173 := Tryd.sizeOf167
  v173 := Tryd.zeroValue167
  t212 := Tryd.underlying174
  a212 := Tryd.isAgg174
  z212 := Tryd.sizeOf174
  v212 := Tryd.zeroValue174
  t213 := Tryd.underlying176
  a213 := Tryd.isAgg176
  z213 := Tryd.sizeOf176
  t232 := Tryd.underlying44
  a232 := Tryd.isAgg44
  z232 := Tryd.sizeOf44
  v232 := Tryd.zeroValue44
  t233 := Tryd.underlying187
  a233 := Tryd.isAgg187
  z233 := Tryd.sizeOf187
  v233 := Tryd.zeroValue187
  g17 := by kernel_rfl
  g18 := by kernel_rfl
  g19 := by kernel_rfl }
open Go.RowKit Go.Sort Go.Lib in
theorem Tryd.strconv_Itoa_small (i : Nat) (hi : i < 100) (w : World) :
    Calls Tryd.prog 61 #[.int .i64 i] w fun e w' => e = .returned (.string ⟨(Lib.decDigits i).toArray⟩) ∧ w' = w := Any.strconv_Itoa_small Tryd.lays171 i hi w
def Tryd.lays99_ren : Go.Shelf.Ren := ⟨fun | 99 => 92 | 206 => 112 | n => n, fun | 9 => 9 | 4 => 4 | 3 => 3 | n => n, fun | n => n⟩
theorem Tryd.lays99 : Go.Proofs.Lays.n99 Tryd.prog Tryd.lays99_ren := {
  mixed := by kernel_rfl
  f99 := Tryd.func92.trans (congrArg some (by kernel_rfl))
  f206 := Tryd.func112.trans (congrArg some (by kernel_rfl))
  t3 := Tryd.underlying3
  a3 := Tryd.isAgg3
  z3 := Tryd.sizeOf3
  v3 := Tryd.zeroValue3
  t4 := Tryd.underlying4
  a4 := Tryd.isAgg4
  z4 := Tryd.sizeOf4
  v4 := Tryd.zeroValue4
  t9 := Tryd.underlying9
  a9 := Tryd.isAgg9
  z9 := Tryd.sizeOf9
  v9 := Tryd.zeroValue9 }
open Go.RowKit Go.Lib in
theorem Tryd.strings_HasPrefix (s p : ByteArray) (w : World) :
    Calls Tryd.prog 92 #[.string s, .string p] w fun e w' => e = .returned (.bool (Lib.hasPrefix s.data.toList p.data.toList)) ∧ w' = w := Any.strings_HasPrefix Tryd.lays99 s p w
def Tryd.lays146_ren : Go.Shelf.Ren := ⟨fun | 146 => 68 | 221 => 97 | 268 => 118 | 138 => 119 | 143 => 120 | 195 => 137 | 197 => 138 | 218 => 139 | 219 => 140 | 260 => 149 | 217 => 93 | 225 => 150 | 224 => 151 | 267 => 152 | 266 => 113 | 314 => 157 | n => n, fun | 9 => 9 | 31 => 53 | 3 => 3 | 4 => 4 | 0 => 0 | 105 => 151 | 21 => 21 | 5 => 5 | 46 => 150 | 119 => 181 | 139 => 184 | 138 => 183 | 146 => 185 | 51 => 175 | n => n, fun | 1 => 0 | 3 => 2 | 4 => 3 | n => n⟩
theorem Tryd.lays146 : Go.Proofs.Lays.n146 Tryd.prog Tryd.lays146_ren := {
  mixed := by kernel_rfl
  f138 := Tryd.func119.trans (congrArg some (by kernel_rfl))
  f143 := Tryd.func120.trans (congrArg some (by kernel_rfl))
  f146 := Tryd.func68.trans (congrArg some (by kernel_rfl))
  f195 := Tryd.func137.trans (congrArg some (by kernel_rfl))
  f197 := Tryd.func138.trans (congrArg some (by kernel_rfl))
  f217 := Tryd.func93.trans (congrArg some (by kernel_rfl))
  f218 := Tryd.func139.trans (congrArg some (by kernel_rfl))
  f219 := Tryd.func140.trans (congrArg some (by kernel_rfl))
  f221 := Tryd.func97.trans (congrArg some (by kernel_rfl))
  f224 := Tryd.func151.trans (congrArg some (by kernel_rfl))
  f225 := Tryd.func150.trans (congrArg some (by kernel_rfl))
  f260 := Tryd.func149.trans (congrArg some (by kernel_rfl))
  f266 := Tryd.func113.trans (congrArg some (by kernel_rfl))
  f267 := Tryd.func152.trans (congrArg some (by kernel_rfl))
  f268 := Tryd.func118.trans (congrArg some (by kernel_rfl))
  f314 := Tryd.func157.trans (congrArg some (by kernel_rfl))
  t0 := Tryd.underlying0
  a0 := Tryd.isAgg0
  z0 := Tryd.sizeOf0
  v0 := Tryd.zeroValue0
  t3 := Tryd.underlying3
  a3 := Tryd.isAgg3
  z3 := Tryd.sizeOf3
  v3 := Tryd.zeroValue3
  t4 := Tryd.underlying4
  a4 := Tryd.isAgg4
  z4 := Tryd.sizeOf4
  v4 := Tryd.zeroValue4
  t5 := Tryd.underlying5
  a5 := Tryd.isAgg5
  z5 := Tryd.sizeOf5
  v5 := Tryd.zeroValue5
  t9 := Tryd.underlying9
  a9 := Tryd.isAgg9
  z9 := Tryd.sizeOf9
  v9 := Tryd.zeroValue9
  t21 := Tryd.underlying21
  a21 := Tryd.isAgg21
  z21 := Tryd.sizeOf21
  v21 := Tryd.zeroValue21
  t31 := Tryd.underlying53
  a31 := Tryd.isAgg53
  z31 := Tryd.sizeOf53
  v31 := Tryd.zeroValue53
  t46 := Tryd.underlying150
  a46 := Tryd.isAgg150
  z46 := Tryd.sizeOf150
  v46 := Tryd.zeroValue150
  t51 := Tryd.underlying175
  a51 := Tryd.isAgg175
  z51 := Tryd.sizeOf175
  v51 := Tryd.zeroValue175
  t105 := Tryd.underlying151
  a105 := Tryd.isAgg151
  z105 := Tryd.sizeOf151
  v105 := Tryd.zeroValue151
  t119 := Tryd.underlying181
  a119 := Tryd.isAgg181
  z119 := Tryd.sizeOf181
  t138 := Tryd.underlying183
  a138 := Tryd.isAgg183
  z138 := Tryd.sizeOf183
  v138 := Tryd.zeroValue183
  t139 := Tryd.underlying184
  a139 := Tryd.isAgg184
  z139 := Tryd.sizeOf184
  v139 := Tryd.zeroValue184
  t146 := Tryd.underlying185
  a146 := Tryd.isAgg185
  z146 := Tryd.sizeOf185
  v146 := Tryd.zeroValue185
  g1 := by kernel_rfl
  g3 := by kernel_rfl
  g4 := by kernel_rfl }
open Go.RowKit Go.Lib in
theorem Tryd.strings_Split (s sep : ByteArray) (m : Int) (w : World) (hs : s.size < 4294967281) (hm : w.cell? ⟨0, 0, none⟩ = some (.int .i64 m)) (h1 : 1 ≤ sep.size) :
    Calls Tryd.prog 68 #[.string s, .string sep] w fun e w' =>
      e = .returned (.slice (some ⟨w.heap.size, 0, none⟩) (Lib.countB s sep + 1) (Lib.countB s sep + 1)) ∧ w' = w.alloc (.cells ((Lib.splitB sep 0 (Lib.countB s sep) s).map Value.string).toArray 9) := Any.strings_Split Tryd.lays146 (by kernel_rfl) s sep m w hs hm h1
end Go.Proofs
