/-
 The contracts of Go's library that this claim uses, laid at this program by the kit's tools (lay-shelf, lay-plain). Conditions: aS each says.
-/
import Derived.Shelf.Strings.Builder1
import Derived.Shelf.Small.Bits
import Derived.Shelf.Small.Strs
import Derived.Shelf.Strings.BuilderF
import Derived.Shelf.Strings.BuilderK
import Derived.Shelf.Strconv.Itoa0
import Derived.Shelf.Strconv.Itoa1
import Derived.Shelf.LaysM
import Derived.Shelf.Strconv.Itoa2
import Derived.Shelf.Strconv.Itoa3
import Derived.Shelf.Strings.Search1
import Derived.Shelf.Strings.Search2
import Derived.Shelf.Strings.Search3
import Derived.Shelf.Strings.Count
import Derived.Shelf.Strings.Shaped
import Derived.Shelf.Strings.Prefix
import Derived.Shelf.Strings.Split
import Derived.Shelf.Strings.SplitShaped
import Derived.Shelf.Unicode.DecodeSlow
import Derived.Test.YtdgbjhfkmembdaaGreatDoorProg
import Derived.Test.YtdgbjhfkmembdaaGreatDoorShelf
namespace Go.Proofs
open Go.Shelf
def Tryz.laysM171_ren:Go.Shelf.Ren:=⟨fun| 171=>131 | 243=>179 | 246=>223 | 283=>244 | 284=>245 | 285=>246 | 286=>247 | 129=>144 | 317=>271 | 318=>272 | 319=>273 | 320=>274 | 337=>282 | 338=>283 |n=>n,fun| 3=>3 | 9=>9 | 2=>2 | 4=>4 | 171=>364 | 0=>0 | 53=>264 | 37=>169 | 5=>5 | 173=>366 | 212=>388 | 51=>262 | 20=>20 | 213=>389 | 46=>185 | 232=>40 | 233=>322 |n=>n,fun| 17=>3 | 18=>4 | 19=>5 |n=>n⟩
theorem Tryz.laysM171:Go.Proofs.LaysM.n171 Tryz.prog Tryz.laysM171_ren:={
  mixed:=by kernel_rfl
  f129:=Tryz.func144.trans (congrArg some (by kernel_rfl))
  f171:=Tryz.func131.trans (congrArg some (by kernel_rfl))
  f243:=Tryz.func179.trans (congrArg some (by kernel_rfl))
  f246:=Tryz.func223.trans (congrArg some (by kernel_rfl))
  f283:=Tryz.func244.trans (congrArg some (by kernel_rfl))
  f284:=Tryz.func245.trans (congrArg some (by kernel_rfl))
  f285:=Tryz.func246.trans (congrArg some (by kernel_rfl))
  f286:=Tryz.func247.trans (congrArg some (by kernel_rfl))
  f317:=Tryz.func271.trans (congrArg some (by kernel_rfl))
  f318:=Tryz.func272.trans (congrArg some (by kernel_rfl))
  f319:=Tryz.func273.trans (congrArg some (by kernel_rfl))
  f320:=Tryz.func274.trans (congrArg some (by kernel_rfl))
  f337:=Tryz.func282.trans (congrArg some (by kernel_rfl))
  f338:=Tryz.func283.trans (congrArg some (by kernel_rfl))
  t0:=Tryz.underlying0
  a0:=Tryz.isAgg0
  z0:=Tryz.sizeOf0
  v0:=Tryz.zeroValue0
  t2:=Tryz.underlying2
  a2:=Tryz.isAgg2
  z2:=Tryz.sizeOf2
  v2:=Tryz.zeroValue2
  t3:=Tryz.underlying3
  a3:=Tryz.isAgg3
  z3:=Tryz.sizeOf3
  v3:=Tryz.zeroValue3
  t4:=Tryz.underlying4
  a4:=Tryz.isAgg4
  z4:=Tryz.sizeOf4
  v4:=Tryz.zeroValue4
  t5:=Tryz.underlying5
  a5:=Tryz.isAgg5
  z5:=Tryz.sizeOf5
  v5:=Tryz.zeroValue5
  t9:=Tryz.underlying9
  a9:=Tryz.isAgg9
  z9:=Tryz.sizeOf9
  v9:=Tryz.zeroValue9
  t20:=Tryz.underlying20
  a20:=Tryz.isAgg20
  z20:=Tryz.sizeOf20
  v20:=Tryz.zeroValue20
  t37:=Tryz.underlying169
  a37:=Tryz.isAgg169
  z37:=Tryz.sizeOf169
  v37:=Tryz.zeroValue169
  t46:=Tryz.underlying185
  a46:=Tryz.isAgg185
  z46:=Tryz.sizeOf185
  v46:=Tryz.zeroValue185
  t51:=Tryz.underlying262
  a51:=Tryz.isAgg262
  z51:=Tryz.sizeOf262
  v51:=Tryz.zeroValue262
  t53:=Tryz.underlying264
  a53:=Tryz.isAgg264
  z53:=Tryz.sizeOf264
  v53:=Tryz.zeroValue264
  t171:=Tryz.underlying364
  a171:=Tryz.isAgg364
  z171:=Tryz.sizeOf364
  v171:=Tryz.zeroValue364
  t173:=Tryz.underlying366
  a173:=Tryz.isAgg366
  z173:=Tryz.sizeOf366
  v173:=Tryz.zeroValue366
  t212:=Tryz.underlying388
  a212:=Tryz.isAgg388
  z212:=Tryz.sizeOf388
  v212:=Tryz.zeroValue388
  t213:=Tryz.underlying389
  a213:=Tryz.isAgg389
  z213:=Tryz.sizeOf389
  t232:=Tryz.underlying40
  a232:=Tryz.isAgg40
  z232:=Tryz.sizeOf40
  v232:=Tryz.zeroValue40
  t233:=Tryz.underlying322
  a233:=Tryz.isAgg322
  z233:=Tryz.sizeOf322
  v233:=Tryz.zeroValue322
  g17:=by kernel_rfl
  g18:=by kernel_rfl
  g19:=by kernel_rfl
  i0:=by kernel_rfl
  i2:=by kernel_rfl
  i3:=by kernel_rfl
  i4:=by kernel_rfl
  i5:=by kernel_rfl
  i9:=by kernel_rfl
  i20:=by kernel_rfl
  i37:=by kernel_rfl
  i46:=by kernel_rfl
  i51:=by kernel_rfl
  i53:=by kernel_rfl
  i171:=by kernel_rfl
  i173:=by kernel_rfl
  i212:=by kernel_rfl
  i232:=by kernel_rfl
  i233:=by kernel_rfl
  m17:=by kernel_rfl
  m18:=by kernel_rfl
  m19:=by kernel_rfl}
open Go.RowKit Go.Sort Go.Lib in
theorem Tryz.strconv_Itoa(n : Int)(h0 : -9223372036854775808 ≤ n)(h1 : n ≤ 9223372036854775807)(w : World)(htab : Lib.TabIs Tryz.prog w "internal/strconv.uint64pow10" .u64 Lib.pow10Tab):
    Calls Tryz.prog 131 #[.int .i64 n] w fun e w'=>e=.returned (.string ⟨(Lib.itoa n).toArray⟩)∧∃k os,w'=grow (w.drewN k) os:=Any.strconv_Itoa Tryz.laysM171 n h0 h1 w htab
end Go.Proofs