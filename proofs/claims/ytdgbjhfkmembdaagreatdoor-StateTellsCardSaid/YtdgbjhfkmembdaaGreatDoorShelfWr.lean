/-
 (*strings.Builder).WriteString and String, laid at this program; a builder's WriteString over bytes. Conditions: aS each says.
-/
import Derived.Shelf.Strings.BuilderK
import Derived.Test.YtdgbjhfkmembdaaGreatDoorProg
import Derived.Test.YtdgbjhfkmembdaaGreatDoorPart7
import Derived.Test.YtdgbjhfkmembdaaGreatDoorPart7
import Derived.Test.YtdgbjhfkmembdaaGreatDoorShelfBk
namespace Go.Proofs
open Go.Shelf
def Tryz.lays166_ren:Go.Shelf.Ren:=⟨fun| 166=>82 | 240=>134 | 276=>182 |n=>n,fun| 0=>0 | 3=>3 | 4=>4 | 5=>5 | 9=>9 | 20=>20 | 37=>169 | 70=>168 | 72=>171 | 75=>180 | 80=>93 | 164=>305 | 127=>252 |n=>n,fun|n=>n⟩
set_option maxRecDepth 100000 in
theorem Tryz.lays166:Go.Proofs.Lays.n166 prog Tryz.lays166_ren:={
  mixed:=by kernel_rfl
  f166:=func82.trans (congrArg some (by kernel_rfl))
  f240:=func134.trans (congrArg some (by kernel_rfl))
  f276:=func182.trans (congrArg some (by kernel_rfl))
  t0:=underlying0
  a0:=Tryz.isAgg0
  z0:=Tryz.sizeOf0
  v0:=Tryz.zeroValue0
  t3:=underlying3
  a3:=Tryz.isAgg3
  z3:=Tryz.sizeOf3
  v3:=Tryz.zeroValue3
  t4:=underlying4
  a4:=Tryz.isAgg4
  z4:=Tryz.sizeOf4
  v4:=Tryz.zeroValue4
  t9:=underlying9
  a9:=Tryz.isAgg9
  z9:=Tryz.sizeOf9
  v9:=Tryz.zeroValue9
  t20:=underlying20
  a20:=Tryz.isAgg20
  z20:=Tryz.sizeOf20
  v20:=Tryz.zeroValue20
  t37:=underlying169
  a37:=Tryz.isAgg169
  z37:=Tryz.sizeOf169
  v37:=Tryz.zeroValue169
  t70:=underlying168
  a70:=Tryz.isAgg168
  z70:=Tryz.sizeOf168
  v70:=Tryz.zeroValue168
  t72:=underlying171
  a72:=Tryz.isAgg171
  z72:=Tryz.sizeOf171
  v72:=Tryz.zeroValue171
  t75:=underlying180
  a75:=Tryz.isAgg180
  z75:=Tryz.sizeOf180
  v75:=Tryz.zeroValue180
  t164:=underlying305
  a164:=Tryz.isAgg305
  z164:=Tryz.sizeOf305
  v164:=Tryz.zeroValue305}
theorem Tryz.Builder_Extra_166:Builder.Extra prog Tryz.lays166_ren:={
  sizeBuilder:=by kernel_rfl
  liesBuilder:=by kernel_rfl
  t5:=underlying5
  a5:=Tryz.isAgg5
  z5:=Tryz.sizeOf5
  v5:=Tryz.zeroValue5
  infoByte:=by kernel_rfl
  cellsByte:=by kernel_rfl
  sizeByte:=by kernel_rfl
  neB5:=by decide}
end Go.Proofs
open Go.Proofs.Tryz
namespace Go.Proofs.YtdgbjhfkmembdaaGreatDoor
open Go.RowKit Go.Maps Go.Shelf
set_option linter.unusedVariables false
set_option linter.unusedSimpArgs false
theorem QZ{T e:TypeId}{B b:Nat}{bs:List Value}{w w':World}(h:Lib.IsBuilderF T e B b bs w)(hb:Below w.heap.size w w'):Lib.IsBuilderF T e B b bs w':=by
  have A:∀p,Lib.BuilderAtF T e B b p bs w→Lib.BuilderAtF T e B b p bs w':=by
    intro p C;have E:=C.lt;rcases C with⟨a,v,c,d,f⟩;have D:w.grownBy w' none:=⟨hb.os,hb.tape,hb.output,hb.size,fun k F _=>hb.block k F⟩;exact⟨a,v,by rw[hb.block b E];exact c,d.kept D (Classical.em _),f⟩
  rcases h with h|h
  ·exact .inl (A _ h)
  ·exact .inr (A _ h)
theorem bwrite_any(B b:Nat)(l:List UInt8)(s:ByteArray)(w:World)(h:Lib.IsBuilderF 171 5 B b (Lib.byteCells l) w)(hlen:l.length+s.size≤140737488355328)(hBw:B≤w.heap.size):
    Calls prog 82 #[.pointer (some ⟨b,0,none⟩),.string s] w fun e w'=>e=.returned (.tuple #[.int .i64 s.size,.nilIface])∧Lib.IsBuilderF 171 5 B b (Lib.byteCells (l++L s)) w'∧Below B w w'∧Lib.OthersKept 5 (some b) w w':=
  (Any.Builder_WriteString_k (P:=prog) (ρ:=Tryz.lays166_ren) Tryz.lays166 Tryz.Builder_Extra_166 B b (Lib.byteCells l) s w h (by rw[Lib.byteCells_length];exact hlen) hBw).mono fun e w' ⟨C,A,D,E⟩=>by
    refine⟨C,?_,D,E⟩;rw[Lib.strCells_eq,←Lib.byteCells_append] at A;exact .inr A
end Go.Proofs.YtdgbjhfkmembdaaGreatDoor