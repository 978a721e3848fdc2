/-
 What contracts of Go's library ask of the program, laid at this program by the kit's tools. Conditions: none.
-/
import Derived.Shelf.SlSortCmp.NoneTotal
import Derived.Shelf.SlGeneric
import Derived.Ground.SlsfProg
import Derived.Test.YtdgbjhfkmembdaaGreatDoorProg
namespace Go.Proofs
open Go.Shelf
def Tryz.laysSortFiles_ren:Go.Shelf.Ren:=⟨fun| 6=>37 | 15=>85 | 14=>84 | 28=>143 | 29=>144 | 20=>135 | 21=>136 | 22=>137 | 23=>138 | 24=>139 | 25=>140 | 26=>141 | 27=>142 | 46=>183 | 47=>184 | 48=>185 | 49=>186 | 50=>187 | 57=>224 |n=>n,fun| 22=>26 | 24=>33 | 25=>96 | 3=>3 | 39=>185 | 0=>0 | 53=>262 | 55=>264 | 4=>4 | 46=>255 | 45=>254 | 50=>259 | 5=>5 | 9=>9 | 66=>307 | 70=>311 | 76=>342 | 77=>343 |n=>n,fun|n=>n⟩
theorem Tryz.laysSortFiles:Go.Proofs.SlLaysF0.n6 Tryz.prog Tryz.laysSortFiles_ren:={
  mixed:=by kernel_rfl
  f6:=⟨Tryz.f37.name,by decide,Tryz.func37.trans (congrArg some (by kernel_rfl))⟩
  f14:=⟨Tryz.f84.name,by decide,Tryz.func84.trans (congrArg some (by kernel_rfl))⟩
  f15:=Tryz.func85.trans (congrArg some (by kernel_rfl))
  f20:=⟨Tryz.f135.name,by decide,Tryz.func135.trans (congrArg some (by kernel_rfl))⟩
  f21:=⟨Tryz.f136.name,by decide,Tryz.func136.trans (congrArg some (by kernel_rfl))⟩
  f22:=⟨Tryz.f137.name,by decide,Tryz.func137.trans (congrArg some (by kernel_rfl))⟩
  f23:=⟨Tryz.f138.name,by decide,Tryz.func138.trans (congrArg some (by kernel_rfl))⟩
  f24:=⟨Tryz.f139.name,by decide,Tryz.func139.trans (congrArg some (by kernel_rfl))⟩
  f25:=⟨Tryz.f140.name,by decide,Tryz.func140.trans (congrArg some (by kernel_rfl))⟩
  f26:=⟨Tryz.f141.name,by decide,Tryz.func141.trans (congrArg some (by kernel_rfl))⟩
  f27:=⟨Tryz.f142.name,by decide,Tryz.func142.trans (congrArg some (by kernel_rfl))⟩
  f28:=Tryz.func143.trans (congrArg some (by kernel_rfl))
  f29:=Tryz.func144.trans (congrArg some (by kernel_rfl))
  f46:=⟨Tryz.f183.name,by decide,Tryz.func183.trans (congrArg some (by kernel_rfl))⟩
  f47:=Tryz.func184.trans (congrArg some (by kernel_rfl))
  f48:=Tryz.func185.trans (congrArg some (by kernel_rfl))
  f49:=⟨Tryz.f186.name,by decide,Tryz.func186.trans (congrArg some (by kernel_rfl))⟩
  f50:=⟨Tryz.f187.name,by decide,Tryz.func187.trans (congrArg some (by kernel_rfl))⟩
  f57:=⟨Tryz.f224.name,by decide,Tryz.func224.trans (congrArg some (by kernel_rfl))⟩
  t0:=Tryz.underlying0
  a0:=Tryz.isAgg0
  z0:=Tryz.sizeOf0
  v0:=Tryz.zeroValue0
  t3:=Tryz.underlying3
  a3:=Tryz.isAgg3
  z3:=Tryz.sizeOf3
  v3:=Tryz.zeroValue3
  t4:=Tryz.underlying4
  a4:=Tryz.isAgg4
  z4:=Tryz.sizeOf4
  v4:=Tryz.zeroValue4
  t5:=Tryz.underlying5
  a5:=Tryz.isAgg5
  z5:=Tryz.sizeOf5
  v5:=Tryz.zeroValue5
  t9:=Tryz.underlying9
  a9:=Tryz.isAgg9
  z9:=Tryz.sizeOf9
  v9:=Tryz.zeroValue9
  t22:=Tryz.underlying26
  a22:=Tryz.isAgg26
  z22:=Tryz.sizeOf26
  v22:=Tryz.zeroValue26
  t25:=Tryz.underlying96
  a25:=Tryz.isAgg96
  z25:=Tryz.sizeOf96
  v25:=Tryz.zeroValue96
  t39:=Tryz.underlying185
  a39:=Tryz.isAgg185
  z39:=Tryz.sizeOf185
  v39:=Tryz.zeroValue185
  t45:=Tryz.underlying254
  a45:=Tryz.isAgg254
  z45:=Tryz.sizeOf254
  v45:=Tryz.zeroValue254
  t46:=Tryz.underlying255
  a46:=Tryz.isAgg255
  z46:=Tryz.sizeOf255
  v46:=Tryz.zeroValue255
  t50:=Tryz.underlying259
  a50:=Tryz.isAgg259
  z50:=Tryz.sizeOf259
  v50:=Tryz.zeroValue259
  t53:=Tryz.underlying262
  a53:=Tryz.isAgg262
  z53:=Tryz.sizeOf262
  v53:=Tryz.zeroValue262
  t55:=Tryz.underlying264
  a55:=Tryz.isAgg264
  z55:=Tryz.sizeOf264
  v55:=Tryz.zeroValue264
  t66:=Tryz.underlying307
  a66:=Tryz.isAgg307
  z66:=Tryz.sizeOf307
  v66:=Tryz.zeroValue307
  t70:=Tryz.underlying311
  a70:=Tryz.isAgg311
  z70:=Tryz.sizeOf311
  v70:=Tryz.zeroValue311
  t76:=Tryz.underlying342
  a76:=Tryz.isAgg342
  z76:=Tryz.sizeOf342
  v76:=Tryz.zeroValue342
  t77:=Tryz.underlying343
  a77:=Tryz.isAgg343
  z77:=Tryz.sizeOf343
  v77:=Tryz.zeroValue343}
end Go.Proofs