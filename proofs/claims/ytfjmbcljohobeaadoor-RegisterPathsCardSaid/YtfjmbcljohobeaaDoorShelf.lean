/-
  The contracts of Go's library that this claim uses, laid at this program by the kit's tools (lay-shelf, lay-plain). Conditions: as each says.
-/
import Derived.Shelf.Small.Strs
import Derived.Shelf.Strconv.Itoa3
import Derived.Shelf.Strings.Prefix
import Derived.Shelf.Strings.Split
import Derived.Test.YtfjmbcljohobeaaDoorProg
namespace Go.Proofs
open Go.Shelf
def Tryd.lays137_ren : Go.Shelf.Ren := ⟨fun | 137 => 73 | 217 => 98 | 266 => 137 | n => n, fun | 9 => 9 | 5 => 5 | 3 => 3 | n => n, fun | n => n⟩
theorem Tryd.lays137 : Go.Proofs.Lays.n137 Tryd.prog Tryd.lays137_ren := {
  mixed := by kernel_rfl
  f137 := Tryd.func73.trans (congrArg some (by kernel_rfl))
  f217 := Tryd.func98.trans (congrArg some (by kernel_rfl))
  f266 := Tryd.func137.trans (congrArg some (by kernel_rfl))
  t3 := Tryd.underlying3
  a3 := Tryd.isAgg3
  z3 := Tryd.sizeOf3
  v3 := Tryd.zeroValue3
  t5 := Tryd.underlying5
  a5 := Tryd.isAgg5
  z5 := Tryd.sizeOf5
  v5 := Tryd.zeroValue5
  t9 := Tryd.underlying9
  a9 := Tryd.isAgg9
  z9 := Tryd.sizeOf9
  v9 := Tryd.zeroValue9 }
open Go.RowKit in
theorem Tryd.strings_IndexByte (s : ByteArray) (c : Int) (w : World) :
    Calls Tryd.prog 73 #[.string s, .int .u8 c] w fun e w' => e = .returned (.int .i64 (Lib.indexByte s.data.toList c.toNat.toUInt8)) ∧ w' = w := Any.strings_IndexByte Tryd.lays137 s c w
def Tryd.lays171_ren : Go.Shelf.Ren := ⟨fun | 171 => 62 | 243 => 91 | 246 => 124 | 283 => 152 | 284 => 153 | 285 => 154 | 286 => 155 | 129 => 123 | 317 => 166 | 318 => 167 | 319 => 168 | 320 => 169 | 337 => 172 | 338 => 173 | n => n, fun | 3 => 3 | 9 => 9 | 2 => 2 | 4 => 4 | 171 => 199 | 0 => 0 | 53 => 39 | 37 => 97 | 5 => 5 | 173 => 201 | 212 => 211 | 51 => 179 | 20 => 20 | 213 => 212 | 46 => 154 | 232 => 32 | 233 => 220 | n => n, fun | 17 => 1 | 18 => 4 | 19 => 5 | n => n⟩
theorem Tryd.lays171 : Go.Proofs.Lays.n171 Tryd.prog Tryd.lays171_ren := {
  mixed := by kernel_rfl
  f129 := Tryd.func123.trans (congrArg some (by kernel_rfl))
  f171 := Tryd.func62.trans (congrArg some (by kernel_rfl))
  f243 := Tryd.func91.trans (congrArg some (by kernel_rfl))
  f246 := Tryd.func124.trans (congrArg some (by kernel_rfl))
  f283 := Tryd.func152.trans (congrArg some (by kernel_rfl))
  f284 := Tryd.func153.trans (congrArg some (by kernel_rfl))
  f285 := Tryd.func154.trans (congrArg some (by kernel_rfl))
  f286 := Tryd.func155.trans (congrArg some (by kernel_rfl))
  f317 := Tryd.func166.trans (congrArg some (by kernel_rfl))
  f318 := Tryd.func167.trans (congrArg some (by kernel_rfl))
  f319 := Tryd.func168.trans (congrArg some (by kernel_rfl))
  f320 := Tryd.func169.trans (congrArg some (by kernel_rfl))
  f337 := Tryd.func172.trans (congrArg some (by kernel_rfl))
  f338 := Tryd.func173.trans (congrArg some (by kernel_rfl))
  t0 := Tryd.underlying0
  a0 := Tryd.isAgg0
  z0 := Tryd.sizeOf0
  v0 := Tryd.zeroValue0
  t2 := Tryd.underlying2
  a2 := Tryd.isAgg2
  z2 := Tryd.sizeOf2
  v2 := Tryd.zeroValue2
  t3 := Tryd.underlying3
  a3 := Tryd.isAgg3
  z3 := Tryd.sizeOf3
  v3 := Tryd.zeroValue3
  t4 := Tryd.underlying4
  a4 := Tryd.isAgg4
  z4 := Tryd.sizeOf4
  v4 := Tryd.zeroValue4
  t5 := Tryd.underlying5
  a5 := Tryd.isAgg5
  z5 := Tryd.sizeOf5
  v5 := Tryd.zeroValue5
  t9 := Tryd.underlying9
  a9 := Tryd.isAgg9
  z9 := Tryd.sizeOf9
  v9 := Tryd.zeroValue9
  t20 := Tryd.underlying20
  a20 := Tryd.isAgg20
  z20 := Tryd.sizeOf20
  v20 := Tryd.zeroValue20
  t37 := Tryd.underlying97
  a37 := Tryd.isAgg97
  z37 := Tryd.sizeOf97
  v37 := Tryd.zeroValue97
  t46 := Tryd.underlying154
  a46 := Tryd.isAgg154
  z46 := Tryd.sizeOf154
  v46 := Tryd.zeroValue154
  t51 := Tryd.underlying179
  a51 := Tryd.isAgg179
  z51 := Tryd.sizeOf179
  v51 := Tryd.zeroValue179
  t53 := Tryd.underlying39
  a53 := Tryd.isAgg39
  z53 := Tryd.sizeOf39
  v53 := Tryd.zeroValue39
  t171 := Tryd.underlying199
  a171 := Tryd.isAgg199
  z171 := Tryd.sizeOf199
  v171 := Tryd.zeroValue199
  t173 := Tryd.underlying201
  a173 := Tryd.isAgg201
  z173 := Tryd.sizeOf201
  v173 := Tryd.zeroValue201
  t212 := Tryd.underlying211
  a212 := Tryd.isAgg211
  z212 := Tryd.sizeOf211
  v212 := Tryd.zeroValue211
  t213 := Tryd.underlying212
  a213 := Tryd.isAgg212
  z213 := Tryd.sizeOf212
  t232 := Tryd.underlying32
  a232 := Tryd.isAgg32
  z232 := Tryd.sizeOf32
  v232 := Tryd.zeroValue32
  t233 := Tryd.underlying220
  a233 := Tryd.isAgg220
  z233 := Tryd.sizeOf220
  v233 := Tryd.zeroValue220
  g17 := by kernel_rfl
  g18 := by kernel_rfl
  g19 := by kernel_rfl }
open Go.RowKit Go.Sort Go.Lib in
theorem Tryd.strconv_Itoa_small (i : Nat) (hi : i < 100) (w : World) :
    Calls Tryd.prog 62 #[.int .i64 i] w fun e w' => e = .returned (.string ⟨(Lib.decDigits i).toArray⟩) ∧ w' = w := Any.strconv_Itoa_small Tryd.lays171 i hi w
def Tryd.lays99_ren : Go.Shelf.Ren := ⟨fun | 99 => 81 | 206 => 105 | n => n, fun | 9 => 9 | 4 => 4 | 3 => 3 | n => n, fun | n => n⟩
theorem Tryd.lays99 : Go.Proofs.Lays.n99 Tryd.prog Tryd.lays99_ren := {
  mixed := by kernel_rfl
  f99 := Tryd.func81.trans (congrArg some (by kernel_rfl))
  f206 := Tryd.func105.trans (congrArg some (by kernel_rfl))
  t3 := Tryd.underlying3
  a3 := Tryd.isAgg3
  z3 := Tryd.sizeOf3
  v3 := Tryd.zeroValue3
  t4 := Tryd.underlying4
  a4 := Tryd.isAgg4
  z4 := Tryd.sizeOf4
  v4 := Tryd.zeroValue4
  t9 := Tryd.underlying9
  a9 := Tryd.isAgg9
  z9 := Tryd.sizeOf9
  v9 := Tryd.zeroValue9 }
open Go.RowKit Go.Lib in
theorem Tryd.strings_HasPrefix (s p : ByteArray) (w : World) :
    Calls Tryd.prog 81 #[.string s, .string p] w fun e w' => e = .returned (.bool (Lib.hasPrefix s.data.toList p.data.toList)) ∧ w' = w := Any.strings_HasPrefix Tryd.lays99 s p w
def Tryd.lays146_ren : Go.Shelf.Ren := ⟨fun | 146 => 101 | 221 => 88 | 268 => 111 | 138 => 112 | 143 => 95 | 195 => 143 | 197 => 144 | 218 => 145 | 219 => 128 | 260 => 164 | 217 => 98 | 225 => 158 | 224 => 159 | 267 => 160 | 266 => 137 | 314 => 170 | n => n, fun | 9 => 9 | 31 => 61 | 3 => 3 | 4 => 4 | 0 => 0 | 105 => 167 | 21 => 21 | 5 => 5 | 46 => 154 | 119 => 216 | 139 => 219 | 138 => 218 | 146 => 213 | 51 => 179 | n => n, fun | 1 => 0 | 3 => 2 | 4 => 3 | n => n⟩
theorem Tryd.lays146 : Go.Proofs.Lays.n146 Tryd.prog Tryd.lays146_ren := {
  mixed := by kernel_rfl
  f138 := Tryd.func112.trans (congrArg some (by kernel_rfl))
  f143 := Tryd.func95.trans (congrArg some (by kernel_rfl))
  f146 := Tryd.func101.trans (congrArg some (by kernel_rfl))
  f195 := Tryd.func143.trans (congrArg some (by kernel_rfl))
  f197 := Tryd.func144.trans (congrArg some (by kernel_rfl))
  f217 := Tryd.func98.trans (congrArg some (by kernel_rfl))
  f218 := Tryd.func145.trans (congrArg some (by kernel_rfl))
  f219 := Tryd.func128.trans (congrArg some (by kernel_rfl))
  f221 := Tryd.func88.trans (congrArg some (by kernel_rfl))
  f224 := Tryd.func159.trans (congrArg some (by kernel_rfl))
  f225 := Tryd.func158.trans (congrArg some (by kernel_rfl))
  f260 := Tryd.func164.trans (congrArg some (by kernel_rfl))
  f266 := Tryd.func137.trans (congrArg some (by kernel_rfl))
  f267 := Tryd.func160.trans (congrArg some (by kernel_rfl))
  f268 := Tryd.func111.trans (congrArg some (by kernel_rfl))
  f314 := Tryd.func170.trans (congrArg some (by kernel_rfl))
  t0 := Tryd.underlying0
  a0 := Tryd.isAgg0
  z0 := Tryd.sizeOf0
  v0 := Tryd.zeroValue0
  t3 := Tryd.underlying3
  a3 := Tryd.isAgg3
  z3 := Tryd.sizeOf3
  v3 := Tryd.zeroValue3
  t4 := Tryd.underlying4
  a4 := Tryd.isAgg4
  z4 := Tryd.sizeOf4
  v4 := Tryd.zeroValue4
  t5 := Tryd.underlying5
  a5 := Tryd.isAgg5
  z5 := Tryd.sizeOf5
  v5 := Tryd.zeroValue5
  t9 := Tryd.underlying9
  a9 := Tryd.isAgg9
  z9 := Tryd.sizeOf9
  v9 := Tryd.zeroValue9
  t21 := Tryd.underlying21
  a21 := Tryd.isAgg21
  z21 := Tryd.sizeOf21
  v21 := Tryd.zeroValue21
  t31 := Tryd.underlying61
  a31 := Tryd.isAgg61
  z31 := Tryd.sizeOf61
  v31 := Tryd.zeroValue61
  t46 := Tryd.underlying154
  a46 := Tryd.isAgg154
  z46 := Tryd.sizeOf154
  v46 := Tryd.zeroValue154
  t51 := Tryd.underlying179
  a51 := Tryd.isAgg179
  z51 := Tryd.sizeOf179
  v51 := Tryd.zeroValue179
  t105 := Tryd.underlying167
  a105 := Tryd.isAgg167
  z105 := Tryd.sizeOf167
  v105 := Tryd.zeroValue167
  t119 := Tryd.underlying216
  a119 := Tryd.isAgg216
  z119 := Tryd.sizeOf216
  t138 := Tryd.underlying218
  a138 := Tryd.isAgg218
  z138 := Tryd.sizeOf218
  v138 := Tryd.zeroValue218
  t139 := Tryd.underlying219
  a139 := Tryd.isAgg219
  z139 := Tryd.sizeOf219
  v139 := Tryd.zeroValue219
  t146 := Tryd.underlying213
  a146 := Tryd.isAgg213
  z146 := Tryd.sizeOf213
  v146 := Tryd.zeroValue213
  g1 := by kernel_rfl
  g3 := by kernel_rfl
  g4 := by kernel_rfl }
open Go.RowKit Go.Lib in
theorem Tryd.strings_Split (s sep : ByteArray) (m : Int) (w : World) (hs : s.size < 4294967281) (hm : w.cell? ⟨0, 0, none⟩ = some (.int .i64 m)) (h1 : 1 ≤ sep.size) :
    Calls Tryd.prog 101 #[.string s, .string sep] w fun e w' =>
      e = .returned (.slice (some ⟨w.heap.size, 0, none⟩) (Lib.countB s sep + 1) (Lib.countB s sep + 1)) ∧ w' = w.alloc (.cells ((Lib.splitB sep 0 (Lib.countB s sep) s).map Value.string).toArray 9) := Any.strings_Split Tryd.lays146 (by kernel_rfl) s sep m w hs hm h1
end Go.Proofs
