/-
 The contracts of Go's library that this claim uses, laid at this program by the kit's tools (lay-shelf, lay-plain). Conditions: aS each says.
-/
import Derived.Shelf.Small.Strs
import Derived.Shelf.Strconv.Itoa3
import Derived.Shelf.Strings.Prefix
import Derived.Shelf.Strings.Split
import Derived.Test.YtdgbjhfkmembdaaGreatDoorProg
namespace Go.Proofs
open Go.Shelf
def Tryz.lays137_ren:Go.Shelf.Ren:=⟨fun| 137=>130 | 217=>178 | 266=>222 |n=>n,fun| 9=>9 | 5=>5 | 3=>3 |n=>n,fun|n=>n⟩
theorem Tryz.lays137:Go.Proofs.Lays.n137 Tryz.prog Tryz.lays137_ren:={
  mixed:=by kernel_rfl
  f137:=Tryz.func130.trans (congrArg some (by kernel_rfl))
  f217:=Tryz.func178.trans (congrArg some (by kernel_rfl))
  f266:=Tryz.func222.trans (congrArg some (by kernel_rfl))
  t3:=Tryz.underlying3
  a3:=Tryz.isAgg3
  z3:=Tryz.sizeOf3
  v3:=Tryz.zeroValue3
  t5:=Tryz.underlying5
  a5:=Tryz.isAgg5
  z5:=Tryz.sizeOf5
  v5:=Tryz.zeroValue5
  t9:=Tryz.underlying9
  a9:=Tryz.isAgg9
  z9:=Tryz.sizeOf9
  v9:=Tryz.zeroValue9}
open Go.RowKit in
theorem Tryz.strings_IndexByte(s:ByteArray)(c:Int)(w:World):
    Calls Tryz.prog 130 #[.string s,.int .u8 c] w fun e w'=>e=.returned (.int .i64 (Lib.indexByte s.data.toList c.toNat.toUInt8))∧w'=w:=Any.strings_IndexByte Tryz.lays137 s c w
def Tryz.lays171_ren:Go.Shelf.Ren:=⟨fun| 171=>131 | 243=>179 | 246=>223 | 283=>244 | 284=>245 | 285=>246 | 286=>247 | 129=>144 | 317=>271 | 318=>272 | 319=>273 | 320=>274 | 337=>282 | 338=>283 |n=>n,fun| 3=>3 | 9=>9 | 2=>2 | 4=>4 | 171=>364 | 0=>0 | 53=>264 | 37=>169 | 5=>5 | 173=>366 | 212=>388 | 51=>262 | 20=>20 | 213=>389 | 46=>185 | 232=>40 | 233=>322 |n=>n,fun| 17=>3 | 18=>4 | 19=>5 |n=>n⟩
theorem Tryz.lays171:Go.Proofs.Lays.n171 Tryz.prog Tryz.lays171_ren:={
  mixed:=by kernel_rfl
  f129:=Tryz.func144.trans (congrArg some (by kernel_rfl))
  f171:=Tryz.func131.trans (congrArg some (by kernel_rfl))
  f243:=Tryz.func179.trans (congrArg some (by kernel_rfl))
  f246:=Tryz.func223.trans (congrArg some (by kernel_rfl))
  f283:=Tryz.func244.trans (congrArg some (by kernel_rfl))
  f284:=Tryz.func245.trans (congrArg some (by kernel_rfl))
  f285:=Tryz.func246.trans (congrArg some (by kernel_rfl))
  f286:=Tryz.func247.trans (congrArg some (by kernel_rfl))
  f317:=Tryz.func271.trans (congrArg some (by kernel_rfl))
  f318:=Tryz.func272.trans (congrArg some (by kernel_rfl))
  f319:=Tryz.func273.trans (congrArg some (by kernel_rfl))
  f320:=Tryz.func274.trans (congrArg some (by kernel_rfl))
  f337:=Tryz.func282.trans (congrArg some (by kernel_rfl))
  f338:=Tryz.func283.trans (congrArg some (by kernel_rfl))
  t0:=Tryz.underlying0
  a0:=Tryz.isAgg0
  z0:=Tryz.sizeOf0
  v0:=Tryz.zeroValue0
  t2:=Tryz.underlying2
  a2:=Tryz.isAgg2
  z2:=Tryz.sizeOf2
  v2:=Tryz.zeroValue2
  t3:=Tryz.underlying3
  a3:=Tryz.isAgg3
  z3:=Tryz.sizeOf3
  v3:=Tryz.zeroValue3
  t4:=Tryz.underlying4
  a4:=Tryz.isAgg4
  z4:=Tryz.sizeOf4
  v4:=Tryz.zeroValue4
  t5:=Tryz.underlying5
  a5:=Tryz.isAgg5
  z5:=Tryz.sizeOf5
  v5:=Tryz.zeroValue5
  t9:=Tryz.underlying9
  a9:=Tryz.isAgg9
  z9:=Tryz.sizeOf9
  v9:=Tryz.zeroValue9
  t20:=Tryz.underlying20
  a20:=Tryz.isAgg20
  z20:=Tryz.sizeOf20
  v20:=Tryz.zeroValue20
  t37:=Tryz.underlying169
  a37:=Tryz.isAgg169
  z37:=Tryz.sizeOf169
  v37:=Tryz.zeroValue169
  t46:=Tryz.underlying185
  a46:=Tryz.isAgg185
  z46:=Tryz.sizeOf185
  v46:=Tryz.zeroValue185
  t51:=Tryz.underlying262
  a51:=Tryz.isAgg262
  z51:=Tryz.sizeOf262
  v51:=Tryz.zeroValue262
  t53:=Tryz.underlying264
  a53:=Tryz.isAgg264
  z53:=Tryz.sizeOf264
  v53:=Tryz.zeroValue264
  t171:=Tryz.underlying364
  a171:=Tryz.isAgg364
  z171:=Tryz.sizeOf364
  v171:=Tryz.zeroValue364
  t173:=Tryz.underlying366
  a173:=Tryz.isAgg366
  z173:=Tryz.sizeOf366
  v173:=Tryz.zeroValue366
  t212:=Tryz.underlying388
  a212:=Tryz.isAgg388
  z212:=Tryz.sizeOf388
  v212:=Tryz.zeroValue388
  t213:=Tryz.underlying389
  a213:=Tryz.isAgg389
  z213:=Tryz.sizeOf389
  t232:=Tryz.underlying40
  a232:=Tryz.isAgg40
  z232:=Tryz.sizeOf40
  v232:=Tryz.zeroValue40
  t233:=Tryz.underlying322
  a233:=Tryz.isAgg322
  z233:=Tryz.sizeOf322
  v233:=Tryz.zeroValue322
  g17:=by kernel_rfl
  g18:=by kernel_rfl
  g19:=by kernel_rfl}
open Go.RowKit Go.Sort Go.Lib in
theorem Tryz.strconv_Itoa_small(i:Nat)(hi:i<100)(w:World):
    Calls Tryz.prog 131 #[.int .i64 i] w fun e w'=>e=.returned (.string ⟨(Lib.decDigits i).toArray⟩)∧w'=w:=Any.strconv_Itoa_small Tryz.lays171 i hi w
def Tryz.lays99_ren:Go.Shelf.Ren:=⟨fun| 99=>90 | 206=>147 |n=>n,fun| 9=>9 | 4=>4 | 3=>3 |n=>n,fun|n=>n⟩
theorem Tryz.lays99:Go.Proofs.Lays.n99 Tryz.prog Tryz.lays99_ren:={
  mixed:=by kernel_rfl
  f99:=Tryz.func90.trans (congrArg some (by kernel_rfl))
  f206:=Tryz.func147.trans (congrArg some (by kernel_rfl))
  t3:=Tryz.underlying3
  a3:=Tryz.isAgg3
  z3:=Tryz.sizeOf3
  v3:=Tryz.zeroValue3
  t4:=Tryz.underlying4
  a4:=Tryz.isAgg4
  z4:=Tryz.sizeOf4
  v4:=Tryz.zeroValue4
  t9:=Tryz.underlying9
  a9:=Tryz.isAgg9
  z9:=Tryz.sizeOf9
  v9:=Tryz.zeroValue9}
open Go.RowKit Go.Lib in
theorem Tryz.strings_HasPrefix(s p:ByteArray)(w:World):
    Calls Tryz.prog 90 #[.string s,.string p] w fun e w'=>e=.returned (.bool (Lib.hasPrefix s.data.toList p.data.toList))∧w'=w:=Any.strings_HasPrefix Tryz.lays99 s p w
def Tryz.lays146_ren:Go.Shelf.Ren:=⟨fun| 146=>212 | 221=>240 | 268=>267 | 138=>268 | 143=>269 | 195=>278 | 197=>279 | 218=>280 | 219=>281 | 260=>284 | 217=>178 | 225=>285 | 224=>286 | 267=>287 | 266=>222 | 314=>288 |n=>n,fun| 9=>9 | 31=>52 | 3=>3 | 4=>4 | 0=>0 | 105=>296 | 21=>21 | 5=>5 | 46=>185 | 119=>393 | 139=>396 | 138=>395 | 146=>397 | 51=>262 |n=>n,fun| 1=>0 | 3=>6 | 4=>7 |n=>n⟩
theorem Tryz.lays146:Go.Proofs.Lays.n146 Tryz.prog Tryz.lays146_ren:={
  mixed:=by kernel_rfl
  f138:=Tryz.func268.trans (congrArg some (by kernel_rfl))
  f143:=Tryz.func269.trans (congrArg some (by kernel_rfl))
  f146:=Tryz.func212.trans (congrArg some (by kernel_rfl))
  f195:=Tryz.func278.trans (congrArg some (by kernel_rfl))
  f197:=Tryz.func279.trans (congrArg some (by kernel_rfl))
  f217:=Tryz.func178.trans (congrArg some (by kernel_rfl))
  f218:=Tryz.func280.trans (congrArg some (by kernel_rfl))
  f219:=Tryz.func281.trans (congrArg some (by kernel_rfl))
  f221:=Tryz.func240.trans (congrArg some (by kernel_rfl))
  f224:=Tryz.func286.trans (congrArg some (by kernel_rfl))
  f225:=Tryz.func285.trans (congrArg some (by kernel_rfl))
  f260:=Tryz.func284.trans (congrArg some (by kernel_rfl))
  f266:=Tryz.func222.trans (congrArg some (by kernel_rfl))
  f267:=Tryz.func287.trans (congrArg some (by kernel_rfl))
  f268:=Tryz.func267.trans (congrArg some (by kernel_rfl))
  f314:=Tryz.func288.trans (congrArg some (by kernel_rfl))
  t0:=Tryz.underlying0
  a0:=Tryz.isAgg0
  z0:=Tryz.sizeOf0
  v0:=Tryz.zeroValue0
  t3:=Tryz.underlying3
  a3:=Tryz.isAgg3
  z3:=Tryz.sizeOf3
  v3:=Tryz.zeroValue3
  t4:=Tryz.underlying4
  a4:=Tryz.isAgg4
  z4:=Tryz.sizeOf4
  v4:=Tryz.zeroValue4
  t5:=Tryz.underlying5
  a5:=Tryz.isAgg5
  z5:=Tryz.sizeOf5
  v5:=Tryz.zeroValue5
  t9:=Tryz.underlying9
  a9:=Tryz.isAgg9
  z9:=Tryz.sizeOf9
  v9:=Tryz.zeroValue9
  t21:=Tryz.underlying21
  a21:=Tryz.isAgg21
  z21:=Tryz.sizeOf21
  v21:=Tryz.zeroValue21
  t31:=Tryz.underlying52
  a31:=Tryz.isAgg52
  z31:=Tryz.sizeOf52
  v31:=Tryz.zeroValue52
  t46:=Tryz.underlying185
  a46:=Tryz.isAgg185
  z46:=Tryz.sizeOf185
  v46:=Tryz.zeroValue185
  t51:=Tryz.underlying262
  a51:=Tryz.isAgg262
  z51:=Tryz.sizeOf262
  v51:=Tryz.zeroValue262
  t105:=Tryz.underlying296
  a105:=Tryz.isAgg296
  z105:=Tryz.sizeOf296
  v105:=Tryz.zeroValue296
  t119:=Tryz.underlying393
  a119:=Tryz.isAgg393
  z119:=Tryz.sizeOf393
  t138:=Tryz.underlying395
  a138:=Tryz.isAgg395
  z138:=Tryz.sizeOf395
  v138:=Tryz.zeroValue395
  t139:=Tryz.underlying396
  a139:=Tryz.isAgg396
  z139:=Tryz.sizeOf396
  v139:=Tryz.zeroValue396
  t146:=Tryz.underlying397
  a146:=Tryz.isAgg397
  z146:=Tryz.sizeOf397
  v146:=Tryz.zeroValue397
  g1:=by kernel_rfl
  g3:=by kernel_rfl
  g4:=by kernel_rfl}
open Go.RowKit Go.Lib in
theorem Tryz.strings_Split(s sep:ByteArray)(m:Int)(w:World)(hs:s.size<4294967281)(hm:w.cell? ⟨0,0,none⟩=some (.int .i64 m))(h1:1≤sep.size):
    Calls Tryz.prog 212 #[.string s,.string sep] w fun e w'=>
      e=.returned (.slice (some ⟨w.heap.size,0,none⟩) (Lib.countB s sep+1) (Lib.countB s sep+1))∧w'=w.alloc (.cells ((Lib.splitB sep 0 (Lib.countB s sep) s).map Value.string).toArray 9):=Any.strings_Split Tryz.lays146 (by kernel_rfl) s sep m w hs hm h1
end Go.Proofs