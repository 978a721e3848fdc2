/-
 What contracts of Go's library ask of the program, laid at this program by the kit's tools. Conditions: none.
-/
import Derived.Shelf.SlSortCmp.NoneTotal
import Derived.Shelf.SlGeneric
import Derived.Ground.SlsfProg
import Derived.Test.YtdgbjhfkmembdaaGreatDoorProg
namespace Go.Proofs
open Go.Shelf
def Tryz.laysSortKeys_ren:Go.Shelf.Ren:=⟨fun| 6=>125 | 15=>85 | 14=>175 | 28=>143 | 29=>144 | 20=>213 | 21=>214 | 22=>215 | 23=>216 | 24=>217 | 25=>218 | 26=>219 | 27=>220 | 46=>241 | 47=>184 | 48=>185 | 49=>242 | 50=>243 | 57=>270 |n=>n,fun| 22=>161 | 24=>89 | 25=>166 | 3=>3 | 39=>185 | 0=>0 | 53=>262 | 55=>264 | 4=>4 | 46=>255 | 45=>254 | 50=>259 | 5=>5 | 9=>9 | 66=>307 | 70=>311 | 76=>342 | 77=>343 |n=>n,fun|n=>n⟩
theorem Tryz.laysSortKeys:Go.Proofs.SlLaysF0.n6 Tryz.prog Tryz.laysSortKeys_ren:={
  mixed:=by kernel_rfl
  f6:=⟨Tryz.f125.name,by decide,Tryz.func125.trans (congrArg some (by kernel_rfl))⟩
  f14:=⟨Tryz.f175.name,by decide,Tryz.func175.trans (congrArg some (by kernel_rfl))⟩
  f15:=Tryz.func85.trans (congrArg some (by kernel_rfl))
  f20:=⟨Tryz.f213.name,by decide,Tryz.func213.trans (congrArg some (by kernel_rfl))⟩
  f21:=⟨Tryz.f214.name,by decide,Tryz.func214.trans (congrArg some (by kernel_rfl))⟩
  f22:=⟨Tryz.f215.name,by decide,Tryz.func215.trans (congrArg some (by kernel_rfl))⟩
  f23:=⟨Tryz.f216.name,by decide,Tryz.func216.trans (congrArg some (by kernel_rfl))⟩
  f24:=⟨Tryz.f217.name,by decide,Tryz.func217.trans (congrArg some (by kernel_rfl))⟩
  f25:=⟨Tryz.f218.name,by decide,Tryz.func218.trans (congrArg some (by kernel_rfl))⟩
  f26:=⟨Tryz.f219.name,by decide,Tryz.func219.trans (congrArg some (by kernel_rfl))⟩
  f27:=⟨Tryz.f220.name,by decide,Tryz.func220.trans (congrArg some (by kernel_rfl))⟩
  f28:=Tryz.func143.trans (congrArg some (by kernel_rfl))
  f29:=Tryz.func144.trans (congrArg some (by kernel_rfl))
  f46:=⟨Tryz.f241.name,by decide,Tryz.func241.trans (congrArg some (by kernel_rfl))⟩
  f47:=Tryz.func184.trans (congrArg some (by kernel_rfl))
  f48:=Tryz.func185.trans (congrArg some (by kernel_rfl))
  f49:=⟨Tryz.f242.name,by decide,Tryz.func242.trans (congrArg some (by kernel_rfl))⟩
  f50:=⟨Tryz.f243.name,by decide,Tryz.func243.trans (congrArg some (by kernel_rfl))⟩
  f57:=⟨Tryz.f270.name,by decide,Tryz.func270.trans (congrArg some (by kernel_rfl))⟩
  t0:=Tryz.underlying0
  a0:=Tryz.isAgg0
  z0:=Tryz.sizeOf0
  v0:=Tryz.zeroValue0
  t3:=Tryz.underlying3
  a3:=Tryz.isAgg3
  z3:=Tryz.sizeOf3
  v3:=Tryz.zeroValue3
  t4:=Tryz.underlying4
  a4:=Tryz.isAgg4
  z4:=Tryz.sizeOf4
  v4:=Tryz.zeroValue4
  t5:=Tryz.underlying5
  a5:=Tryz.isAgg5
  z5:=Tryz.sizeOf5
  v5:=Tryz.zeroValue5
  t9:=Tryz.underlying9
  a9:=Tryz.isAgg9
  z9:=Tryz.sizeOf9
  v9:=Tryz.zeroValue9
  t22:=Tryz.underlying161
  a22:=Tryz.isAgg161
  z22:=Tryz.sizeOf161
  v22:=Tryz.zeroValue161
  t25:=Tryz.underlying166
  a25:=Tryz.isAgg166
  z25:=Tryz.sizeOf166
  v25:=Tryz.zeroValue166
  t39:=Tryz.underlying185
  a39:=Tryz.isAgg185
  z39:=Tryz.sizeOf185
  v39:=Tryz.zeroValue185
  t45:=Tryz.underlying254
  a45:=Tryz.isAgg254
  z45:=Tryz.sizeOf254
  v45:=Tryz.zeroValue254
  t46:=Tryz.underlying255
  a46:=Tryz.isAgg255
  z46:=Tryz.sizeOf255
  v46:=Tryz.zeroValue255
  t50:=Tryz.underlying259
  a50:=Tryz.isAgg259
  z50:=Tryz.sizeOf259
  v50:=Tryz.zeroValue259
  t53:=Tryz.underlying262
  a53:=Tryz.isAgg262
  z53:=Tryz.sizeOf262
  v53:=Tryz.zeroValue262
  t55:=Tryz.underlying264
  a55:=Tryz.isAgg264
  z55:=Tryz.sizeOf264
  v55:=Tryz.zeroValue264
  t66:=Tryz.underlying307
  a66:=Tryz.isAgg307
  z66:=Tryz.sizeOf307
  v66:=Tryz.zeroValue307
  t70:=Tryz.underlying311
  a70:=Tryz.isAgg311
  z70:=Tryz.sizeOf311
  v70:=Tryz.zeroValue311
  t76:=Tryz.underlying342
  a76:=Tryz.isAgg342
  z76:=Tryz.sizeOf342
  v76:=Tryz.zeroValue342
  t77:=Tryz.underlying343
  a77:=Tryz.isAgg343
  z77:=Tryz.sizeOf343
  v77:=Tryz.zeroValue343}
end Go.Proofs