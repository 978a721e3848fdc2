/-
  Plain facts, and contracts of the functions that the claim's walk comes to, one behind the other. Conditions: as each says.
-/
import Derived.Test.YtdgbjhfkmembdaaGreatDoorPart15
import Derived.Test.YtdgbjhfkmembdaaGreatDoorPart16
import Derived.Test.YtdgbjhfkmembdaaGreatDoorPart4
import Derived.Test.YtdgbjhfkmembdaaGreatDoorPart5
import Derived.RangeFuncNested
import Derived.RangeFuncBound
import Derived.RangeFuncCalls
import Derived.RangeFuncLeaves
import Derived.Shelf.RegionOpen
import Derived.Sort.MapsRangeIn
import Derived.WalkKit
import Derived.OwnWalkIn
import Derived.TacticsInMore
import Derived.RegionIn
import Derived.LoopNIn
import Derived.LoopIn
import Derived.Maps.AppendAt
import Derived.Shelf.Abstract
import Derived.Test.YtdgbjhfkmembdaaGreatDoorPart6
import Derived.Carry
import Derived.Shelf.SlSortCmp.NoneTotal
import Derived.Test.YtdgbjhfkmembdaaGreatDoorLaySort
import Derived.WideKeyEntry
import Derived.OrdersHeld
import Derived.Great.BuildSlice
set_option linter.unusedVariables false
set_option linter.unusedSimpArgs false
set_option maxHeartbeats 4000000
set_option maxRecDepth 100000
open Go.Proofs.Tryz
namespace Go.Proofs.YtdgbjhfkmembdaaGreatDoor
def vn:ByteArray:=⟨#[65,110,110]⟩
def Qz:ByteArray:=⟨#[66,111,98]⟩
def aS:ByteArray:=⟨#[97]⟩
def hiS:ByteArray:=⟨#[104,105]⟩
def bangS:ByteArray:=⟨#[33]⟩
def c15:kQ:=(1,[],vn,[(3,kg,kg,kM,0,aS),(1,kg,kg,hiS,0,kM)])
def i15:List UInt8:=[229,202,141,46,136,14,238,142,133,125,96,76,29,48,31,50,178,145,198,216,218,132,57,219,41,132,133,23,247,94,30,52]
def d15:kQ:=(2,[i15],Qz,[(1,(i15,0),(i15,2),bangS,0,kM)])
def j15:List UInt8:=[36,32,115,196,227,199,209,70,18,99,220,155,133,51,220,20,221,152,115,253,159,163,204,31,60,175,75,184,190,34,100,1]
theorem enc15:JL (1,c15,kK)=0:=by decide+kernel
theorem enc15d:JL (1,d15,kK)=0:=by decide+kernel
theorem id15:idD (1,c15,kK)=i15:=by
  unfold idD;rw[if_pos enc15,show J5 (1,c15,kK)=[67,1,0,3,65,110,110,2,3,1,97,1,0,0,0,0,2,104,105] by decide+kernel,sha_one yv];decide+kernel
theorem id15d:idD (1,d15,kK)=j15:=by
  unfold idD;rw[if_pos enc15d,show J5 (1,d15,kK)=[67,2,1]++i15++[3,66,111,98,1,1,1,0,1,2,1,33] by decide+kernel,sha_one yv];decide+kernel
def s15:kz:=([((1,i15,0),[((1,i15,1),[104,105],false)])],[((1,i15,0),(1,i15,0),3,aS)],[(i15,c15,[(true,(0,k7,0)),(false,(1,i15,0)),(false,(1,i15,0))])])
def t15:kz:=([((1,i15,0),[((1,i15,1),[104,105],false),((2,j15,0),[33],false)])],[((1,i15,0),(1,i15,0),3,aS)],
  [(i15,c15,[(true,(0,k7,0)),(false,(1,i15,0)),(false,(1,i15,0))]),(j15,d15,[(false,(1,i15,0))])])
theorem add15:Kt Jh i15 i15 c15=(0,s15):=by kernel_rfl
theorem add15d:Kt s15 j15 j15 d15=(0,t15):=by kernel_rfl
section
open Go.RowKit Go.Maps
open Lib (hid)
theorem ex_buildSlice15{P:Program}{ρ:Operand→Value}{o:Oper}{w:World}(t:TypeId)(x y:Operand)(ho:o.op=.buildSlice t 2 #[(0,x),(1,y)])
    (e:TypeId) (ht:P.underlying t=some (.slice e)) (z:Value) (size bytes:Nat) (hinf:(P.info? e).map (fun i=>(i.zero,i.size,i.bytes))=some (some z,size,bytes)) (hz1:z.cells.size=size) (hsz:0<size) (hmax:2*size≤16777216)
    (us vs:List Value) (hl:us.length=size) (hl2:vs.length=size) (hx:ρ x=.agg us.toArray) (hy:ρ y=.agg vs.toArray):(execOp ρ o).run P w=.ok (.value (.slice (some ⟨w.heap.size,0,none⟩) 2 2)) (w.alloc (.cells (us++vs).toArray e)):=by
  have A:=Ka w t e ht z size bytes hinf hz1 hsz [.agg us.toArray,.agg vs.toArray] (fun v B=>by
    simp only[List.mem_cons,List.not_mem_nil,or_false] at B;rcases B with rfl|rfl
    ·exact hl
    ·exact hl2) yq (by simpa using hmax)
  simp only[List.flatMap_cons,List.flatMap_nil,List.append_nil] at A;unfold execOp;have C:(Instr.buildSlice t 2 #[(0,.agg us.toArray),(1,.agg vs.toArray)]).run P w=.ok (.slice (some ⟨w.heap.size,0,none⟩) 2 2) (w.alloc (.cells (us++vs).toArray e)):=A;simp only[ho,List.map_toArray,List.map_cons,List.map_nil,hx,hy,Sem.run_bind,C,Result.andThen_ok,Sem.run_pure]
theorem wp_valW{P:Program}{ops:Array Oper}{rest:List Oper}{o:Oper}{a:Act}{v:Value}{w w':World}{Q:Exit→Act→World→Prop}(hw:Region.wanted o (yielded ops a.tmps)=true)(h:(execOp a.eval o).run P w=.ok (.value v) w')(hk:wpList P ops Q rest (a.put o.dst v) w'):wpList P ops Q (o::rest) a w:=
  BigFrame.wpList_want hw fun K A=>by
    have:=A _ _ hk;unfold Oper.wp;rw[h];exact this
def o15a:OpD:=(3,kg,kg,kM,0,aS)
def o15b:OpD:=(1,kg,kg,hiS,0,kM)
theorem o15a_built(w:World):(Instr.build 112 #[(0,.int .u8 3),(5,.string ⟨#[97]⟩)]).run prog w=.ok (.agg (opV o15a).toArray) w:=by kernel_rfl
theorem o15b_built(w:World):(Instr.build 112 #[(0,.int .u8 1),(3,.string ⟨#[104,105]⟩)]).run prog w=.ok (.agg (opV o15b).toArray) w:=by kernel_rfl
theorem ch15_built(a:Addr)(w:World):(Instr.build 37 #[(0,.int .i64 1),(2,.string ⟨#[65,110,110]⟩),(3,.slice (some a) 2 2)]).run prog w=.ok (.agg (chC 1 none 0 0 vn (some a) 2 2).toArray) w:=by kernel_rfl
theorem Us(w:World):(zeroValue 37).run prog w=.ok (.agg (chC 0 none 0 0 kM none 0 0).toArray) w:=by kernel_rfl
theorem uB:KR o15a:=⟨⟨⟨rfl,by decide⟩,⟨rfl,by decide⟩,by decide⟩,by decide,by decide⟩
theorem uC:KR o15b:=⟨⟨⟨rfl,by decide⟩,⟨rfl,by decide⟩,by decide⟩,by decide,by decide⟩
theorem c15_ops:∀x∈c15.2.2.2,KR x:=by
  intro x A;rcases List.mem_cons.1 A with rfl|A
  ·exact uB
  ·rw[List.mem_singleton.1 A];exact uC
theorem c15_ok:Zt c15:=⟨by decide,(fun x A=>by cases A),fun x A=>(c15_ops x A).1⟩
theorem rows15:ke opV c15.2.2.2=opV o15a++opV o15b:=by
  show ke opV [o15a,o15b]=_;simp [ke]
theorem idC15:idC c15=i15:=id15
theorem results_cc{P:Program}{fn:Func}{p q:Tmp}{t u:TypeId}(h:fn.results=#[.cell p t,.cell q u])(tmps:Array Value)(w:World){a b:Addr}{r s:Value}(hp:tmps.getD p undef=.pointer (some a))(hq:tmps.getD q undef=.pointer (some b))(hl:(loadVar t a).run P w=.ok r w)(hm:(loadVar u b).run P w=.ok s w):
    (results fn tmps).run P w=.ok (.tuple #[r,s]) w:=by
  have A:tmps[p]?.getD undef=.pointer (some a):=by simpa using hp
  have B:tmps[q]?.getD undef=.pointer (some b):=by simpa using hq
  simp only[results,h];simp [A,B,asAddr,hl,hm]
def HelloGives(w:World)(e:Ending)(w':World):Prop:=Below w.heap.size w w'∧∃A,e=.returned (.tuple #[.agg (idV i15).toArray,.agg (chC 1 none 0 0 vn A 2 2).toArray])∧Sl w' w'.heap.size A 2 70 (ke opV c15.2.2.2)
theorem hello15_any(w:World)(hg:Glob w)(hsg:ShaG w):Calls prog 45 #[] w (HelloGives w):=by
  have HG:=hid hg;have A7:=hid hsg
  clear hg hsg;have Af:(idV i15).length=32:=rfl;have D:=hid Af;clear Af;go_enter func45,ntmps45
  go_upto_region 1 with (first
    |(with_reducible refine kA ?_
      first
      |(refine ks yx 41 rfl (idV k7) yy ?_;intro W0 A1 Al Am;have R:=hid A1;have S:=hid Al;have d:=hid Am
        clear A1 Al Am)
      |(refine ks yx 37 rfl (chC 0 none 0 0 kM none 0 0) (Us _) ?_;intro P A2 An Ao;have T:=hid A2;have I:=hid An;have f:=hid Ao
        clear A2 An Ao)))
  obtain⟨K,A1⟩:∃z,w.heap.size=z:=⟨_,rfl⟩;obtain⟨Q,A2⟩:∃z,W0.heap.size=z:=⟨_,rfl⟩;have U:Hid (Below w.heap.size w P):=hid (R.trans (T.mono R.size));have J:=hid ((T.block w.heap.size (qX S.out)).trans S.out);rw[A1] at J ⊢;rw[A2] at I ⊢;have HL:=hid (show w.heap.size≤K∧K<Q∧Q<P.heap.size from by have:=d.out;have:=f.out;omega);clear R T d f S A1 A2
  go_upto_region 2 with (first
    |(with_reducible refine kJ ?_
      first
      |refine k5 yx (kj 112 _ rfl (by simp only[List.map_toArray,List.map_cons,List.map_nil];with_reducible exact o15a_built _)) ?_
      |refine k5 yx (kj 112 _ rfl (by simp only[List.map_toArray,List.map_cons,List.map_nil];with_reducible exact o15b_built _)) ?_
      |refine k5 yx (kj 37 _ rfl (by simp only[List.map_toArray,List.map_cons,List.map_nil];with_reducible exact ch15_built _ _)) ?_)
    |(with_reducible refine kA ?_
      refine ks yx 37 rfl (chC 0 none 0 0 kM none 0 0) (Us _) ?_;intro W2 A3 Ap Aq;have g:=hid A3;have i:=hid Ap;have l:=hid Aq
      clear A3 Ap Aq)
    |(with_reducible refine kw ?_
      refine ko yx 37 _ _ rfl WX.heap.size 0 [] (chC 0 none 0 0 kM none 0 0) [] (chC 1 none 0 0 vn (some ⟨P.heap.size,0,none⟩) 2 2) 37 (.agg (chC 1 none 0 0 vn (some ⟨P.heap.size,0,none⟩) 2 2).toArray) rfl rfl rfl rfl (by simpa using i.out) rfl yy (Q7 _ _ _ _ _ _ _ _) ?_;intro c A4 Ar As;have m:=hid A4;have A8:=hid As
      have G:Hid (c.heap[WX.heap.size]?=some (.cells (chC 1 none 0 0 vn (some ⟨P.heap.size,0,none⟩) 2 2).toArray 37 (0,0))):=hid (by simpa using Ar);clear A4 Ar As)
    |(refine wp_valW yx (ex_buildSlice15 35 _ _ rfl 112 underlying35 (.agg (opV (0,kg,kg,kM,0,kM)).toArray) 70 128 infoOp15 rfl yv yv (opV o15a) (opV o15b) (kH uB) (kH uC) rfl rfl) ?_;have Ag:=heap_alloc_new P (.cells (opV o15a++opV o15b).toArray 112);have Ah:Below P.heap.size P (P.alloc (.cells (opV o15a++opV o15b).toArray 112)):=(qB _ _).alloc (qR _) _;obtain⟨WX,At⟩:∃z,P.alloc (.cells (opV o15a++opV o15b).toArray 112)=z:=⟨_,rfl⟩;rw[At] at Ag Ah ⊢;have M:=hid Ag;have E:=hid Ah
      clear Ag Ah At))
  obtain⟨L,Au⟩:∃z,P.heap.size=z:=⟨_,rfl⟩;obtain⟨a,A3⟩:∃z,WX.heap.size=z:=⟨_,rfl⟩;have b:Below WX.heap.size WX c:=g.trans (m.below (by have:=l.out;omega) fun k hk e=>by have e2:k=WX.heap.size:=e;omega);have C:Hid (Below w.heap.size w c):=hid (U.trans ((E.trans (b.mono E.size)).mono U.size));have H:=hid ((b.block P.heap.size (qX M.out)).trans M.out);have n:=hid ((b.block K (qL (qX J.out) E.size)).trans ((E.block K (qX J.out)).trans J.out));have V:=hid ((b.block Q (qL (qX I.out) E.size)).trans ((E.block Q (qX I.out)).trans I.out));have F:=hid (show w.heap.size≤K∧K<Q∧Q<L∧L<a∧a<c.heap.size from by have:=HL.out;have:=qX M.out;have:=qX G.out;omega);rw[Au] at G H ⊢;rw[A3] at G ⊢;clear b Au A3 M E g m l A8 i J I HL U;have A9:Hid (Sl c c.heap.size (some ⟨L,0,none⟩) 2 70 (ke opV c15.2.2.2)):=hid (by
    rw[rows15];exact⟨by rw[List.length_append,kH uB,kH uC],fun _=>⟨L,0,rfl,qX H.out,fun j u O=>by rw[Nat.zero_add];exact(k4 H.out j).trans O⟩⟩)
  have o:=hid (Ur (1,c15,kK) _ c (vg (cd:=0) (co:=2) (Ad:=none) c15_ok c15_ops yv Sl.nil A9.out) yv yv yv yv (HG.next C.out) (A7.next C.out) (hid rfl));have q:=hid (show c.rangeAt a 0 (chC 1 none 0 0 vn (some ⟨L,0,none⟩) 2 2) from fun j u O=>by rw[qZ];exact(k4 G.out j).trans O)
  go_upto_region 3 with (first
    |(with_reducible refine k6 ?_
      refine k5 yx (kc 37 _ rfl (p:=⟨a,0,none⟩) rfl (qV _ a 0 _ _ _ q.out underlying37 rfl yy)) ?_)
    |(with_reducible refine kJ ?_
      refine k5 yx (kj 70 _ rfl (by simp only[List.map_toArray,List.map_cons,List.map_nil];exact Zz _ _ _ _ _ _ _ _ _)) ?_)
    |(go_at_call 46;refine o.mono ?_;rintro e W4 ⟨rfl,Av⟩;rw[id15,enc15];have N:=hid Av;clear Av)
    |(with_reducible refine kA ?_
      refine ks yx 41 rfl (idV k7) yy ?_;intro W5 Aw Ax Ay;have r:=hid Aw;have s:=hid Ax;have t:=hid Ay
      clear Aw Ax Ay)
    |(with_reducible refine kw ?_
      refine ko yx 41 _ _ rfl W4.heap.size 0 [] (idV k7) [] (idV i15) 41 (.agg (idV i15).toArray) rfl rfl rfl rfl (by simpa using s.out) (by rw[D.out];rfl) (by rw[D.out];kernel_rfl) (kV _) ?_;intro W6 Az AA AH;have v:=hid Az;have W:Hid (W6.heap[W4.heap.size]?=some (.cells (idV i15).toArray 41 (0,0))):=hid (by simpa using AA);clear Az AA AH))
  obtain⟨b3,A4⟩:∃z,W4.heap.size=z:=⟨_,rfl⟩;have Ai:Below c.heap.size c W6:=N.trans ((r.trans (v.below (B:=W4.heap.size) (by have:=t.out;omega) fun k hk e=>by have e2:k=W4.heap.size:=e;omega)).mono N.size);have A:=hid Ai;have Aa:=hid (show a<b3 from by have:=F.out;have:=N.size;omega);rw[A4] at W ⊢;clear Ai A4 N r t s v o q;have X:=hid ((A.block a (qX G.out)).trans G.out);have Ab:=hid ((A.block K (qX n.out)).trans n.out);have Y:=hid ((A.block Q (qX V.out)).trans V.out);have y:=hid (show ∀u:World,But (fun k=>k=K) W6 u→u.rangeAt b3 0 (idV i15)∧u.rangeAt a 0 (chC 1 none 0 0 vn (some ⟨L,0,none⟩) 2 2) from fun u hu=>⟨fun j x O=>by rw[qZ];exact(k4 ((hu.block b3 (qX W.out) (by have:=Aa.out;have:=F.out;omega)).trans W.out) j).trans O,fun j x O=>by rw[qZ];exact(k4 ((hu.block a (qX X.out) (by have:=F.out;omega)).trans X.out) j).trans O⟩);refine rN 3 (fun u=>But (fun k=>k=K) W6 u) (But.of_below (qD _ _)) fun AB=>?_
  refine tl 0 (.agg (idV i15).toArray) rfl AB (fun w' Aj=>ldD (rfl:jp i15) (y.out w' Aj).1) ?_;go_frame;refine tl 1 (.agg (chC 1 none 0 0 vn (some ⟨L,0,none⟩) 2 2).toArray) rfl AB (fun w' Aj=>kc 37 _ rfl (p:=⟨a,0,none⟩) rfl (qV _ a 0 _ _ _ (y.out w' Aj).2 underlying37 rfl yy)) ?_;go_frame;refine ta 2 ?_;refine kW _ rfl yy 41 _ _ rfl K 0 [] (idV k7) [] (idV i15) 41 (.agg (idV i15).toArray) rfl rfl rfl rfl (by simpa using (show W6.drew.heap[K]?=_ from Ab.out)) (by rw[D.out];rfl) (by rw[D.out];kernel_rfl) (kV _) ?_;intro W7 AC AD AI;have Z:Hid (But (fun k=>k=K) W6 W7):=hid ((But.refl _ W6).drew.trans AC fun k _ e=>e);have A0:Hid (W7.heap[K]?=some (.cells (idV i15).toArray 41 (0,0))):=hid (by simpa using AD);have A5:=hid ((Z.block Q (qX Y.out) (by have:=F.out;omega)).trans Y.out);clear AC AD AI;refine⟨fun _ _=>Z.out,?_⟩;go_frame;refine ta 3 ?_;refine kW _ rfl yy 37 _ _ rfl Q 0 [] (chC 0 none 0 0 kM none 0 0) [] (chC 1 none 0 0 vn (some ⟨L,0,none⟩) 2 2) 37 (.agg (chC 1 none 0 0 vn (some ⟨L,0,none⟩) 2 2).toArray) rfl rfl rfl rfl (by simpa using A5.out) rfl yy (Q7 _ _ _ _ _ _ _ _) ?_;intro W8 Ak AE AJ;have Ac:=hid Ak;have Ae:Hid (W8.heap[Q]?=some (.cells (chC 1 none 0 0 vn (some ⟨L,0,none⟩) 2 2).toArray 37 (0,0))):=hid (by simpa using AE);have A6:=hid ((Ak.block K (qX A0.out) (by have:=F.out;omega)).trans A0.out);clear Ak AE AJ;refine⟨fun h=>absurd h yv,?_⟩;go_frame;refine ku yy ?_ _;go_wp2_with fail;refine bodyPost_ret (results_cc results45 _ _ rfl rfl (qV _ K 0 41 (idV i15) _ (fun j u O=>by rw[qZ];exact(k4 A6.out j).trans O) underlying41 rfl (by rw[D.out];kernel_rfl)) (qV _ Q 0 37 (chC 1 none 0 0 vn (some ⟨L,0,none⟩) 2 2) _ (fun j u O=>by rw[qZ];exact(k4 Ae.out j).trans O) underlying37 rfl yy)) rfl ?_;have AF:But (fun k=>k=K∨k=Q) W6 W8:=(Z.weak fun k _ e=>Or.inl e).trans Ac.out fun k _ e=>Or.inr e
  have AK:Below w.heap.size w W8:=(C.trans (A.mono C.size)).trans (AF.below (C.trans (A.mono C.size)).size fun k hk e=>by have:=F.out;rcases e with rfl|rfl<;>omega);refine⟨AK,_,rfl,?_⟩;have AG:W8.heap[L]?=some (.cells (opV o15a++opV o15b).toArray 112 (0,0)):=(AF.block L (qL (qX H.out) A.size) (by have:=F.out;intro e;rcases e with e|e<;>omega)).trans ((A.block L (qX H.out)).trans H.out);rw[rows15];exact⟨by rw[List.length_append,kH uB,kH uC],fun _=>⟨L,0,rfl,qX AG,fun j u O=>by rw[Nat.zero_add];exact(k4 AG j).trans O⟩⟩
end
section
open Go.RowKit Go.Maps
section
variable {P:Program} {F:Fence} {n:Nat} {ops:Array Oper} {rest:List Oper} {o:Oper} {a:Act} {w w':World} {Q:Exit→Act→World→Prop} {v:Value}
theorem Ja(hg:o.guard=none)(hc:∀c,o.op≠ .call c)(hd:∀c,o.op≠ .defer c)(h:(execOp a.eval o).run P w=.ok (.value v) w')(hk:wpListIn F n P ops Q rest (a.put o.dst v) w'):wpListIn F n P ops Q (o::rest) a w:=by
  refine wpListIn_plain hg fun K B=>?_
  unfold Oper.wpIn;refine⟨fun f A=>?_,?_⟩
  ·unfold Oper.about at A
   split at A
   ·exact absurd ‹_› (hc _)
   ·cases A
  ·rw[Oper.semAt_plain F _ _ hd,h];exact B _ _ hk
theorem Jk(hg:o.guard=none)(hc:∀c,o.op≠ .call c)(hd:∀c,o.op≠ .defer c)(h:(execOp a.eval o).run P w=.ok .skip w')(hk:wpListIn F n P ops Q rest (a.put o.dst undef) w'):wpListIn F n P ops Q (o::rest) a w:=by
  refine wpListIn_plain hg fun K B=>?_
  unfold Oper.wpIn;refine⟨fun f A=>?_,?_⟩
  ·unfold Oper.about at A
   split at A
   ·exact absurd ‹_› (hc _)
   ·cases A
  ·rw[Oper.semAt_plain F _ _ hd,h];exact B _ _ hk
theorem vA{ρ:Operand→Value}(ty:TypeId)(x y:Operand)(ho:o.op=.store ty x y)(g:Nat)(cells:Array Value)(hx:ρ x=.pointer (some ⟨g,0,none⟩))(hy:ρ y=.agg cells)
    (t:TypeId) (old:Array Value) (hg:w.heap[g]?=some (.cells old t (0,0))) (hi:(P.info? ty).map (·.size)=some cells.size) (hold:old.size=cells.size) (h1:cells.all (·.oneCell')=true):
    (execOp ρ o).run P w=.ok .skip (w.setRow g cells):=by
  unfold execOp;simp only[ho,hx,hy,Instr.storeAt,Instr.sureAddr,Sem.run_bind,Sem.run_pure,Result.andThen_ok,run_storeVar_row w g t ty old cells hg hi hold h1]
theorem vh{ρ:Operand→Value}(t:TypeId)(x:Operand)(ho:o.op=.buildSlice t 1 #[(0,x)])
    (e:TypeId) (ht:P.underlying t=some (.slice e)) (z:Value) (size bytes:Nat) (hinf:(P.info? e).map (fun i=>(i.zero,i.size,i.bytes))=some (some z,size,bytes)) (hz1:z.cells.size=size) (hsz:0<size) (hmax:size≤16777216)
    (us:List Value) (hl:us.length=size) (hx:ρ x=.agg us.toArray):(execOp ρ o).run P w=.ok (.value (.slice (some ⟨w.heap.size,0,none⟩) 1 1)) (w.alloc (.cells us.toArray e)):=by
  have A:=Ka w t e ht z size bytes hinf hz1 hsz [.agg us.toArray] (fun v B=>by rw[List.mem_singleton.1 B];exact hl) yq (by simpa using hmax);simp only[List.flatMap_cons,List.flatMap_nil,List.append_nil] at A;unfold execOp;have C:(Instr.buildSlice t 1 #[(0,.agg us.toArray)]).run P w=.ok (.slice (some ⟨w.heap.size,0,none⟩) 1 1) (w.alloc (.cells us.toArray e)):=A;simp only[ho,List.map_toArray,List.map_cons,List.map_nil,hx,Sem.run_bind,C,Result.andThen_ok,Sem.run_pure]
theorem Ut(w:World)(old cells:Array Value)(t:TypeId):w.grownBy ((w.alloc (.cells old t)).setRow w.heap.size cells) none∧((w.alloc (.cells old t)).setRow w.heap.size cells).heap[w.heap.size]?=some (.cells cells t (0,0))∧((w.alloc (.cells old t)).setRow w.heap.size cells).heap.size=w.heap.size+1:=by
  refine⟨⟨rfl,rfl,rfl,by simp,fun k A _=>?_⟩,setRow_heap _ _ old _ _ _ (heap_alloc_new _ _),by simp⟩;rw[setRow_other _ _ _ _ yz];exact heap_alloc_old _ _ A
end
def CollK{κ:Type}{ok:κ→Prop}(kl:κ→Lit)(D:DataW Value)(left:Lit→Bool)(ss:List {k:κ // ok k}):Prop:=ss.Nodup∧∀x:{k:κ // ok k},x∈ss↔(has D (kl x.1)=true∧left (kl x.1)=false)
def q9{κ:Type}{ok:κ→Prop}(m:κ→Option Value)(ss:List {k:κ // ok k}):Prop:=ss.Nodup∧∀x:{k:κ // ok k},x∈ss↔(m x.1).isSome=true
section
variable {P:Program} {K:TypeId} {κ:Type} {ok:κ→Prop} {val:κ→Value} {kl:κ→Lit} {D:DataW Value} {left:Lit→Bool} {ss:List {k:κ // ok k}} {m:κ→Option Value}
theorem CollK.start(D:DataW Value):CollK (ok:=ok) kl D (has D) []:=⟨List.nodup_nil,fun x=>by cases has D (kl x.1)<;>simp⟩
theorem CollK.step(E:KeyEnc P K ok val kl)(h:CollK kl D left ss){x:{k:κ // ok k}}(hlk:left (kl x.1)=true)(hhas:has D (kl x.1)=true):CollK kl D (fun z=>left z && !z.sameKey (kl x.1)) (ss++[x]):=by
  have A:=E.keyed.key (E.of x.1 x.2);have B:x∉ss:=fun G=>by have:=((h.2 x).1 G).2;rw[hlk] at this;cases this
  refine⟨List.nodup_append.2 ⟨h.1,by simp,fun a H b C=>by simp at C;subst C;exact fun e=>B (e▸H)⟩,fun y=>?_⟩;by_cases hy:y=x
  ·subst hy;simp [hhas,WideAt.sameKey_self A]
  ·have F:kl y.1≠kl x.1:=fun e=>hy (Subtype.ext (E.klInj y.2 x.2 e))
   simp [h.2 y,hy,sameKey_ne F]
theorem CollK.done(h:CollK kl D left ss)(hl:∀l,left l=false)(hD:∀k,ok k→has D (kl k)=(m k).isSome):q9 m ss:=
  ⟨h.1,fun x=>by rw[h.2 x,hl,hD x.1 x.2];simp⟩
end
end
section
open Go.RowKit
theorem isEmpty_size(p:ByteArray):p.toList.isEmpty=decide (p.size=0):=by
  rw[ZR,Bool.eq_iff_iff,decide_eq_true_eq,←ji,List.isEmpty_iff,List.length_eq_zero_iff]
theorem good_aux(cs:List Value)(k:Nat)(p:ByteArray)(w:World)(k0:cs[68]?=some (.int .u8 (k:Int)))(k1:cs[69]?=some (.string p))(hsz:p.size≤maxLen)(hg:Glob w):
    Calls prog 123 #[.agg cs.toArray] w fun e w'=>Below w.heap.size w w'∧e=.returned (.bool (vt k p)):=by
  have I:(w.alloc (.cells cs.toArray 135)).heap[w.heap.size]?=some (.cells cs.toArray 135 (0,0)):=heap_alloc_new _ _;have M:=(jt I 68).trans k0;have N:=(jt I 69).trans k1;have J:Below w.heap.size w (w.alloc (.cells cs.toArray 135)):=(Below.refl _ _).alloc (Nat.le_refl _) _;have C:=Lib.hid (hg.next J);have A:=Lib.hid J;have D:=Lib.hid hsz;clear hsz J k0 k1 I;have B:∀j:Nat,¬j=3→¬j=4→¬j=5→vt j p=false:=by
    intro j O P K;unfold vt;rw[if_neg yz,if_neg K]
  have E:k<3∨5<k→((k:Int) == 3)=false:=by intro h;rw[beq_eq_false_iff_ne];omega
  have F:k<3∨5<k→((k:Int) == 4)=false:=by intro h;rw[beq_eq_false_iff_ne];omega
  have G:k<3∨5<k→((k:Int) == 5)=false:=by intro h;rw[beq_eq_false_iff_ne];omega
  rcases (by omega:(k<3∨5<k)∨k=3∨k=4∨k=5) with h|rfl|rfl|rfl
  ·rw[B k yz yz yz];have E:=E h;have F:=F h;have G:=G h
   clear B h;go_enter func123,ntmps123
   go_upto_region 1 with fail
   generalize w.alloc (.cells cs.toArray 135)=W at *;go_wp2_with fail;go_ret;exact⟨A.out,rfl⟩
  ·rw[show vt 3 p=jZ p by simp [vt]];clear B E F G;go_enter func123,ntmps123
   go_upto_region 1 with fail
   generalize w.alloc (.cells cs.toArray 135)=W at *
   go_wp2_with (go_at_call 173;refine(vU p _ D.out C.out).mono ?_;rintro e L ⟨H,rfl⟩)
   go_ret;exact⟨A.trans (H.mono A.size),rfl⟩
  ·rw[show vt 4 p=jZ p by simp [vt]];clear B E F G;go_enter func123,ntmps123
   go_upto_region 1 with fail
   generalize w.alloc (.cells cs.toArray 135)=W at *
   go_wp2_with (go_at_call 173;refine(vU p _ D.out C.out).mono ?_;rintro e L ⟨H,rfl⟩)
   go_ret;exact⟨A.trans (H.mono A.size),rfl⟩
  ·rw[show vt 5 p=p.toList.isEmpty by simp [vt,isEmpty_size]];clear B E F G;go_enter func123,ntmps123
   go_upto_region 1 with fail
   generalize w.alloc (.cells cs.toArray 135)=W at *;go_wp2_with fail;go_ret;exact⟨A.out,rfl⟩
theorem good_any(c:kS)(w:World)(hc:Kf c)(hg:Glob w):
    Calls prog 123 #[.agg (kT c).toArray] w fun e w'=>Below w.heap.size w w'∧e=.returned (.bool (vt c.2.2.1 c.2.2.2)):=
  good_aux _ _ _ w (UT hc).1 (UT hc).2 hc.2.2.2 hg
end

section
open Go.RowKit
theorem bcell{W w1:World}(hb:Below W.heap.size W w1):(∀b o,b<W.heap.size→w1.cell? ⟨b,o,none⟩=W.cell? ⟨b,o,none⟩)∧(∀b o,b<W.heap.size→w1.frozen? ⟨b,o,none⟩=W.frozen? ⟨b,o,none⟩):=
  ⟨fun b o h=>hb.cell (p:=⟨b,o,none⟩) h,fun b o h=>hb.frozen (p:=⟨b,o,none⟩) h⟩
end
section
open Go.RowKit
open Lib (hid)
def Ze(c:kS):Value:=.agg (kT c).toArray
def JW(l:List kS)(d:kF):Option Value:=(Kk l d).map Ze
theorem lastM_put{t:List kS}{c:kS}(h:∀x,Kk t c.2.1=some x→0<zG c.1 x.1):(fun k=>if k=c.2.1 then some (Ze c) else JW t k)=JW (t++[c]):=by
  funext k
  unfold JW;rw[uM];unfold later;by_cases e:k=c.2.1
  ·subst e;rw[if_pos rfl,if_pos rfl];cases h0:Kk t c.2.1 with
   |none=>rfl
   |some x=>simp only[if_pos (h x h0)];rfl
  ·rw[if_neg e,if_neg (fun q=>e q.symm)]
theorem lastM_keep{t:List kS}{c x:kS}(h0:Kk t c.2.1=some x)(h:¬0<zG c.1 x.1):JW t=JW (t++[c]):=by
  funext k
  unfold JW;rw[uM];unfold later;by_cases e:c.2.1=k
  ·subst e;rw[if_pos rfl,h0];simp only[if_neg h]
  ·rw[if_neg e]
theorem Zf:(prog.info? 135).map (·.size)=some 70:=by kernel_rfl
theorem KV:(prog.info? 89).map (·.size)=some 34:=by kernel_rfl
def zeroC:kS:=((0,k7,0),(0,k7,0),0,ByteArray.empty)
theorem zeroC_info:(prog.info? 135).map (·.zero)=some (some (Ze zeroC)):=by kernel_rfl
theorem Uu(w:World):(zeroValue 135).run prog w=.ok (Ze zeroC) w:=by
  have h:=zeroC_info;cases hq:prog.info? 135 with
  |none=>rw[hq] at h;cases h
  |some i=>
   rw[hq] at h;have A:i.zero=some (Ze zeroC):=Option.some.inj h;simp [zeroValue,typeInfo,hq,A]
theorem lasts_any(l:List kS)(A:Option Addr)(c:Nat)(w:World)(hl:l.length≤1099511627776)(hok:∀x∈l,Kf x)(hsl:Sl w w.heap.size A l.length 70 (ke kT l)):
    Calls prog 74 #[.slice A l.length c] w fun e w'=>Below w.heap.size w w'∧e=.returned (.map (some w.heap.size))∧∃n,n≤l.length∧MapV w' prog 89 kN uP w.heap.size n (JW l):=by
  have A6:=hid hsl;clear hsl;have Y:=hid hok;clear hok;have Am:=@run_makeMap prog;go_enter func74,ntmps74
  go_upto_region 2 with fail
  have An:=MapV.made w prog 89 kN uP;have Ao:Below w.heap.size w (w.alloc (.map #[] 0)):=(Below.refl _ _).alloc (Nat.le_refl _) _;clear Am;generalize w.alloc (.map #[] 0)=W at *;go_wp2_with fail
  go_loopw [11] (fun t wr=>∃i:Nat,i≤l.length∧t=.int .i64 i∧Below w.heap.size w wr∧∃m,m≤i∧Hid (MapV wr prog 89 kN uP w.heap.size m (JW (l.take i)))) (fun t _=>l.length - (intOf t).toNat)
  case atStart=>exact⟨0,by omega,rfl,Ao,0,Nat.le_refl _,hid An⟩
  case round=>
    obtain⟨i,hi,rfl,I,m,Ap,hM⟩:=hrel;by_cases hlt:i<l.length
    ·obtain⟨b,Aq,rfl,Ar,A7⟩:=(A6.keep I).2 yz;have i0:(0:Int)≤(i:Int):=by omega
     have i1:(i:Int)<(l.length:Int):=by omega
     have A2:∀x∈l,(kT x).length=70:=fun x hx=>j2 (Y.out x hx)
     have A8:=Sl.row A2 A7 hlt;have Ai:=Y.out _ (List.getElem_mem hlt);have Aj:l.take (i+1)=l.take i++[l[i]]:=List.take_succ_eq_append_getElem hlt;have Al:=hid A7;clear A7;have v:=hid A8;clear A8;have Z:=hid Aj;clear Aj;have J:=hid Ai;clear Ai;clear A2;generalize l[i]=x at *
     go_upto_region 5 with (first
       |(refine j9 rfl 135 _ rfl b _ rfl (kT x) _ v.out underlying135 rfl (by rw[j2 J.out];exact Zf) ?_)
       |(refine Kw (B:=wr.heap.size) (w0:=wr) rfl 135 _ _ rfl wr.heap.size _ rfl rfl 135 _ (heap_alloc_new _ _) (by rw[List.size_toArray,j2 J.out];exact Zf) (by rw[show (kT x).toArray.size=70 by rw[List.size_toArray,j2 J.out]];rfl) (by simpa using Ju x) ((Below.refl _ _).alloc (Nat.le_refl _) _) (Nat.le_refl _) ?_;intro M A0 A9 _))
     have T:=hid (hM.below A0);have Aa:∀j u,(k8 x.2.1)[j]?=some u→M.cell? ⟨wr.heap.size,34+j,none⟩=some u:=fun j u E=>(jt A9 (34+j)).trans (claim_doc J.out j u E)
     have D:=hid Aa;clear Aa;have K:=hid A0;have h:=hid A9
     clear A0 A9 hM;have Ak:wr.heap.size<M.heap.size:=(Array.getElem?_eq_some_iff.1 h.out).1;have Ab:∀j u,(kT x)[j]?=some u→M.cell? ⟨wr.heap.size,0+j,none⟩=some u:=fun j u E=>by rw[Nat.zero_add];exact(jt h.out j).trans E
     have O:=hid Ab;clear Ab;have F:=hid Ak;clear Ak;have Ac:m<maxLen:=by unfold maxLen;omega
     have N:kN x.2.1:=J.2.1;have Ad:kN x.1:=J.1;cases hlast:Kk (l.take i) x.2.1 with
     |none=>
      have o:JW (l.take i) x.2.1=none:=by unfold JW;rw[hlast];rfl
      have d:=lastM_put (t:=l.take i) (c:=x) (fun y hy=>by rw[hlast] at hy;cases hy);have R:=hid o;have P:=hid d
      clear o d hlast
      go_upto_region 6 with (first
         |(refine j9 rfl 89 _ rfl wr.heap.size 34 rfl (k8 x.2.1) _ D.out underlying89 rfl (by rw[k9 N];exact KV) ?_)
         |(refine US rfl _ _ 159 rfl 135 keyEnc underlying159 (Ze zeroC) (Uu _) rfl T.out x.2.1 N rfl ?_;rw[R.out];simp only[Option.getD_none,Option.isSome_none])
         |(refine Kw (B:=M.heap.size) (w0:=M) rfl 135 _ _ rfl M.heap.size _ rfl rfl 135 _ (heap_alloc_new _ _) yy yy (by simpa using Ju zeroC) ((Below.refl _ _).alloc (Nat.le_refl _) _) (Nat.le_refl _) ?_;intro H C f _))
      obtain⟨L,_⟩:=bcell C;have r:=hid (T.below C);have D3:Hid (∀j u,(k8 x.2.1)[j]?=some u→H.cell? ⟨wr.heap.size,34+j,none⟩=some u):=fun j u E=>(L _ _ F.out).trans (D.out j u E)
      have A3:Hid (∀j u,(kT x)[j]?=some u→H.cell? ⟨wr.heap.size,0+j,none⟩=some u):=fun j u E=>(L _ _ F.out).trans (O.out j u E)
      have V:Below w.heap.size w H:=(I.trans (K.mono I.size)).trans (C.mono (Nat.le_trans I.size K.size));have G:=hid V;clear V L f C I
      go_wp2_with (first
         |(refine j9 rfl 89 _ rfl wr.heap.size 34 rfl (k8 x.2.1) _ D3.out underlying89 rfl (by rw[k9 N];exact KV) ?_)
         |(refine j9 rfl 135 _ rfl wr.heap.size 0 rfl (kT x) _ A3.out underlying135 rfl (by rw[j2 J.out];exact Zf) ?_)
         |(refine wp_mapPut rfl _ _ _ 159 rfl 135 keyEnc underlying159 rfl r.out Ac x.2.1 N rfl (Ze x) rfl ?_;intro W4 Ae Af))
      go_roundw
      case rel=>exact⟨i+1,by omega,by go_num,G.grown Af G.size (fun k e=>by cases e;exact Nat.le_refl _),m+1,by omega,hid (by rw[Z.out,←P.out];exact Ae)⟩
      case measure=>simp [intOf];omega
     |some y=>
      have hy:Kf y:=Y.out y (List.mem_of_mem_take (U7 hlast).1);have o:JW (l.take i) x.2.1=some (Ze y):=by unfold JW;rw[hlast];rfl
      have R:=hid o;have Q:=hid hy
      clear o hy;have Ag:kN y.1:=Q.1;have X:=fun q=>uS x.1 y.1 q Ad Ag
      by_cases hq:0<zG x.1 y.1
      ·have d:=lastM_put (t:=l.take i) (c:=x) (fun z hz=>by rw[hlast] at hz;cases hz;exact hq);have P:=hid d;clear d hlast;generalize zG x.1 y.1=q at *
       go_upto_region 6 with (first
          |(refine j9 rfl 89 _ rfl wr.heap.size 34 rfl (k8 x.2.1) _ D.out underlying89 rfl (by rw[k9 N];exact KV) ?_)
          |(refine US rfl _ _ 159 rfl 135 keyEnc underlying159 (Ze zeroC) (Uu _) rfl T.out x.2.1 N rfl ?_;rw[R.out];simp only[Option.getD_some,Option.isSome_some])
          |(refine Kw (B:=M.heap.size) (w0:=M) rfl 135 _ _ rfl M.heap.size _ rfl rfl 135 _ (heap_alloc_new _ _) (by rw[List.size_toArray,j2 Q.out];exact Zf) (by rw[show (kT y).toArray.size=70 by rw[List.size_toArray,j2 Q.out]];rfl) (by simpa using Ju y) ((Below.refl _ _).alloc (Nat.le_refl _) _) (Nat.le_refl _) ?_;intro H C f _))
       obtain⟨L,_⟩:=bcell C;have r:=hid (T.below C);have D3:Hid (∀j u,(k8 x.2.1)[j]?=some u→H.cell? ⟨wr.heap.size,34+j,none⟩=some u):=fun j u E=>(L _ _ F.out).trans (D.out j u E)
       have A3:Hid (∀j u,(kT x)[j]?=some u→H.cell? ⟨wr.heap.size,0+j,none⟩=some u):=fun j u E=>(L _ _ F.out).trans (O.out j u E)
       have K3:Hid (H.rangeAt wr.heap.size 0 (k8 x.1)):=fun j u E=>A3.out j u (by have:=vX J.out j u E;rwa [Nat.zero_add] at this)
       have L3:Hid (H.rangeAt M.heap.size 0 (k8 y.1)):=fun j u E=>(jt f (0+j)).trans (vX Q.out j u E)
       have a:Hid (wr.heap.size<H.heap.size):=Nat.lt_of_lt_of_le F.out C.size;have V:Below w.heap.size w H:=(I.trans (K.mono I.size)).trans (C.mono (Nat.le_trans I.size K.size));have G:=hid V;clear V L f C I;have A1:=X H;clear X
       go_wp2_with (first
          |(refine k5 yx (kc 89 _ rfl (p:=⟨wr.heap.size,0,none⟩) rfl (run_loadVar_mid H _ _ _ (k8 x.1) _ K3.out underlying89 rfl (by rw[k9 Ad];exact KV))) ?_)
          |(refine k5 yx (kc 89 _ rfl (p:=⟨M.heap.size,0,none⟩) rfl (run_loadVar_mid H _ _ _ (k8 y.1) _ L3.out underlying89 rfl (by rw[k9 Ag];exact KV))) ?_)
          |(go_at_call 78;refine A1.mono ?_;rintro e w5 ⟨U,rfl⟩;obtain⟨s,_⟩:=bcell U;have Ah:=hid (r.below U);have D5:Hid (∀j u,(k8 x.2.1)[j]?=some u→w5.cell? ⟨wr.heap.size,34+j,none⟩=some u):=fun j u E=>(s _ _ a.out).trans (D3.out j u E)
            have A5:Hid (∀j u,(kT x)[j]?=some u→w5.cell? ⟨wr.heap.size,0+j,none⟩=some u):=fun j u E=>(s _ _ a.out).trans (A3.out j u E)
            have S:=hid (G.trans (U.mono G.size));clear s U)
          |(refine j9 rfl 89 _ rfl wr.heap.size 34 rfl (k8 x.2.1) _ D5.out underlying89 rfl (by rw[k9 N];exact KV) ?_)
          |(refine j9 rfl 135 _ rfl wr.heap.size 0 rfl (kT x) _ A5.out underlying135 rfl (by rw[j2 J.out];exact Zf) ?_)
          |(refine wp_mapPut rfl _ _ _ 159 rfl 135 keyEnc underlying159 rfl Ah.out Ac x.2.1 N rfl (Ze x) rfl ?_;intro W4 Ae Af))
       go_roundw
       case rel=>exact⟨i+1,by omega,by go_num,S.grown Af S.size (fun k e=>by cases e;exact Nat.le_refl _),m+1,by omega,hid (by rw[Z.out,←P.out];exact Ae)⟩
       case measure=>simp [intOf];omega
      ·have A4:=lastM_keep hlast hq;have g:=hid A4;have As:zG x.1 y.1≤0:=by omega
       clear A4 hlast;generalize zG x.1 y.1=q at *
       go_upto_region 6 with (first
          |(refine j9 rfl 89 _ rfl wr.heap.size 34 rfl (k8 x.2.1) _ D.out underlying89 rfl (by rw[k9 N];exact KV) ?_)
          |(refine US rfl _ _ 159 rfl 135 keyEnc underlying159 (Ze zeroC) (Uu _) rfl T.out x.2.1 N rfl ?_;rw[R.out];simp only[Option.getD_some,Option.isSome_some])
          |(refine Kw (B:=M.heap.size) (w0:=M) rfl 135 _ _ rfl M.heap.size _ rfl rfl 135 _ (heap_alloc_new _ _) (by rw[List.size_toArray,j2 Q.out];exact Zf) (by rw[show (kT y).toArray.size=70 by rw[List.size_toArray,j2 Q.out]];rfl) (by simpa using Ju y) ((Below.refl _ _).alloc (Nat.le_refl _) _) (Nat.le_refl _) ?_;intro H C f _))
       obtain⟨L,_⟩:=bcell C;have r:=hid (T.below C);have D3:Hid (∀j u,(k8 x.2.1)[j]?=some u→H.cell? ⟨wr.heap.size,34+j,none⟩=some u):=fun j u E=>(L _ _ F.out).trans (D.out j u E)
       have A3:Hid (∀j u,(kT x)[j]?=some u→H.cell? ⟨wr.heap.size,0+j,none⟩=some u):=fun j u E=>(L _ _ F.out).trans (O.out j u E)
       have K3:Hid (H.rangeAt wr.heap.size 0 (k8 x.1)):=fun j u E=>A3.out j u (by have:=vX J.out j u E;rwa [Nat.zero_add] at this)
       have L3:Hid (H.rangeAt M.heap.size 0 (k8 y.1)):=fun j u E=>(jt f (0+j)).trans (vX Q.out j u E)
       have a:Hid (wr.heap.size<H.heap.size):=Nat.lt_of_lt_of_le F.out C.size;have V:Below w.heap.size w H:=(I.trans (K.mono I.size)).trans (C.mono (Nat.le_trans I.size K.size));have G:=hid V;clear V L f C I;have A1:=X H;clear X
       go_wp2_with (first
          |(refine k5 yx (kc 89 _ rfl (p:=⟨wr.heap.size,0,none⟩) rfl (run_loadVar_mid H _ _ _ (k8 x.1) _ K3.out underlying89 rfl (by rw[k9 Ad];exact KV))) ?_)
          |(refine k5 yx (kc 89 _ rfl (p:=⟨M.heap.size,0,none⟩) rfl (run_loadVar_mid H _ _ _ (k8 y.1) _ L3.out underlying89 rfl (by rw[k9 Ag];exact KV))) ?_)
          |(go_at_call 78;refine A1.mono ?_;rintro e w5 ⟨U,rfl⟩;obtain⟨s,_⟩:=bcell U;have Ah:=hid (r.below U);have S:=hid (G.trans (U.mono G.size));clear s U))
       go_roundw
       case rel=>exact⟨i+1,by omega,by go_num,S.out,m,by omega,hid (by rw[Z.out,←g.out];exact Ah.out)⟩
       case measure=>simp [intOf];omega
    ·go_wp2_with fail;go_ret;have e:l.take i=l:=List.take_of_length_le yz;have T:=hM.out;rw[e] at T;exact⟨I,rfl,m,by omega,T⟩
end
section
open Go.RowKit Go.Maps
abbrev JX:={k:kF // kN k}
theorem Ky{k:kF}(h:kN k):(prog.info? 89).map (·.size)=some (k8 k).toArray.size:=by rw[List.size_toArray,k9 h];exact KV
theorem keysIter_in(F:Fence)(n:Nat)(hf:F.fn 126)(hro:F.round=none)(hn:1≤n)(l Bm b nn:Nat)(m:kF→Option Value)(J Jx:List JX→World→Prop)
    (hY:∀pre x W,J pre W→pre.length<nn→YieldAt F (n - 1) prog l #[ZX x.1] W fun e W'=>(e=.returned (.bool true)∧J (pre++[x]) W'∧KeepsWalks W W')∨(e=.returned (.bool false)∧Jx (pre++[x]) W'))
    (W:World) (hJ:AbidesFrom W.heap.size J) (hm:W.cell? ⟨Bm,0,none⟩=some (.map (some b))) (hown:MapV W prog 89 kN uP b nn m) (h0:J [] W):
    CallsIn F n prog 126 #[.func (.yield l) #[] #[],.pointer (some ⟨Bm,0,none⟩)] W fun e W'=>(∃v,e=.returned v)∧((∃A:List JX,(q9 m A∧A.length≤nn)∧J A W')∨(∃pre,True∧Jx pre W')):=by
  obtain⟨D,s,t,u,O⟩:=hown;have Ac:=s.size_le;have V:=Lib.hid t;have X:=Lib.hid u
  clear t u O;refine callsIn_of_wp func126 rfl hf ?_ hro;simp only[ntmps126,List.size_toArray,List.length_cons,List.length_nil,Nat.reduceAdd,Nat.reduceSub,Array.replicate_succ,Array.replicate_zero,List.push_toArray,List.append_toArray,List.nil_append,List.cons_append]
  gi_wp2_with (first
    |(gi_at_range;refine wpListIn_range_own _ rfl _ 159 rfl 89 135 keyedKey underlying159 Rv b nn _ rfl s ?_;intro w0 Y z Ad)
    |gi_in)
  go_frame
  gi_loopw [3] (fun _ wr=>∃(E:Lit→Bool) (I:Nat) (A:List JX),wr.ranges prog 89 Rv b W.heap.size nn D E I∧A.length+I≤Maps.size D∧CollK uP D E A∧J A wr)
    (fun _ wr=>wr.rangeLeft b W.heap.size)
  case atStart=>
    exact⟨_,_,[],Y,by simp,CollK.start D,hJ [] W w0 none h0 z (fun r e=>by cases e)⟩
  case round=>
    obtain⟨E,I,A,K,Ae,hC,Q⟩:=hrel
    gi_wp2_with (first
      |(gi_at_next;refine wpListIn_next_ranges _ rfl _ rfl 89 keyedKey Rv (id:Value→Value) (id:Value→Value) (fun A0 kl C=>⟨A0,rfl⟩) (fun v y O=>⟨v,rfl⟩) b W.heap.size nn _ _ _ rfl K ?_ ?_)
      |gi_in)
    ·intro Af A1
     gi_wp2
     go_end0
     exact⟨⟨_,rfl⟩,.inl ⟨A,⟨hC.done A1 X.out,by omega⟩,Q⟩⟩
    ·intro x c kl yd yp B Z L A2 O R a A3 A4 A5 S;have M:=has_true_of_atKey R;obtain⟨k,C,rfl⟩:=V.2 _ M;have A6:x=ZX k:=keyedKey.inj L (keyEnc.of k C);subst A6;have A7:J A B:=hJ A wr B (some W.heap.size) Q A4 (fun r e=>by cases e;exact⟨Nat.le_refl _,K.iter_walk⟩);clear A5 L O R;obtain⟨d,f,g3⟩:=Ut B (k8 (0,k7,0)).toArray (k8 k).toArray 89;have A8:J A _:=hJ A B _ none A7 d (fun r e=>by cases e);have g:=a.of_walks (KeepsWalks.of_grownBy d (fun j o e=>by cases e));have T:=fun (ρ:Operand→Value) (o:Oper) (x y:Operand) (ho:o.op=.store 89 x y) hx i=>vA (P:=prog) (w:=B.alloc (.cells (k8 (0,k7,0)).toArray 89)) (ρ:=ρ) 89 x y ho B.heap.size (k8 k).toArray hx i 89 (k8 (0,k7,0)).toArray (heap_alloc_new _ _) (Ky C) (by rw[List.size_toArray,List.size_toArray,k9 C];rfl) (by simpa using j4 k)
     generalize (B.alloc (.cells (k8 (0,k7,0)).toArray 89)).setRow B.heap.size (k8 k).toArray=w3 at *;have U:=fun (ρ:Operand→Value) (o:Oper) (x:Operand) (ho:o.op=.load 89 x) hx=>kc (P:=prog) (ρ:=ρ) (w:=w3) 89 x ho (p:=⟨B.heap.size,0,none⟩) hx (run_loadVar_row w3 B.heap.size 89 89 _ (0,0) _ f underlying89 rfl (Ky C))
     obtain⟨fn,Aa,A9,Ab,i,hR⟩:=hY A ⟨k,C⟩ w3 A8 yz;simp only[ZX] at i S;have G:=Lib.hid T;have H:=Lib.hid U;have G2:=Lib.hid f
     clear T U d f g3;have q:=Lib.hid S
     gi_wp2_with (first
       |(refine Jk rfl (by intro c h;cases h) (by intro c h;cases h) (G.out _ _ _ _ rfl rfl rfl) ?_)
       |(refine Ja rfl (by intro c h;cases h) (by intro c h;cases h) (H.out _ _ _ rfl rfl) ?_)
       |gi_in)
     refine hR.mono ?_;rintro e W4 (⟨rfl,hJ4,hk4⟩|⟨rfl,hJ4⟩)
     ·have N:=g.of_walks hk4
      gi_wp2
      go_roundw
      case rel=>exact⟨_,Z,A++[⟨k,C⟩],N,by simp;omega,hC.step (x:=⟨k,C⟩) keyEnc A2 M,hJ4⟩
      case measure=>rw[N.left_eq,K.left_eq];exact A3
     ·gi_wp2
      refine bodyPost_ret (results_none rfl _ _ _) rfl ?_;exact⟨⟨_,rfl⟩,.inr ⟨_,trivial,hJ4⟩⟩
theorem keys_gives(F:Fence)(n:Nat)(hf:F.fn 126)(hro:F.round=none)(hn:1≤n)(Bm b nn:Nat)(m:kF→Option Value)(w:World)(hBm:Bm<w.heap.size)
    (hm:w.cell? ⟨Bm,0,none⟩=some (.map (some b))) (hown:MapV w prog 89 kN uP b nn m):
    SeqStopsK F n prog 126 #[.pointer (some ⟨Bm,0,none⟩)] (fun x:JX=>#[ZX x.1]) KeepsWalks (fun ss=>q9 m ss∧ss.length≤nn) (fun _=>True) nn w:=fun l J Jx W A B E C D=>
  keysIter_in F n hf hro hn l Bm b nn m J Jx C W B ((A.cell (p:=⟨Bm,0,none⟩) hBm).trans hm) (hown.below A) D
theorem keysSeq_in(F:Fence)(n:Nat)(hf:F.fn 76)(hro:F.round=none)(mb:Option Nat)(w:World):
    CallsIn F n prog 76 #[.map mb] w fun e w'=>e=.returned (.func (.func 126) #[] #[.pointer (some ⟨w.heap.size,0,none⟩)])∧w'=w.alloc (.cells #[.map mb] 159):=by
  refine callsIn_of_wp func76 rfl hf ?_ hro;simp only[ntmps76,List.size_toArray,List.length_cons,List.length_nil,Nat.reduceAdd,Nat.reduceSub,Array.replicate_succ,Array.replicate_zero,List.push_toArray,List.append_toArray,List.nil_append,List.cons_append]
  gi_wp2
  go_ret;exact⟨rfl,rfl⟩
end
section
open Go.RowKit Go.Maps Go.Shelf
attribute [local go_sem] Oper.semAt_some
theorem keyInfo:(prog.info? 89).map (fun i=>(i.zero,i.size,i.bytes))=some (some (ZX (0,k7,0)),34,48):=by kernel_rfl
def KeyBox(W:World)(B:Nat)(k:kF):Prop:=W.heap[B]?=some (.cells (k8 k).toArray 89 (0,0))
theorem keyBox_own(B:Nat)(k:kF):Own (fun (_:Unit) W=>KeyBox W B k):=fun s X Y H A F C=>by
  have D:=(Array.getElem?_eq_some_iff.1 (show X.heap[B]?=_ from A)).1;refine(F.block B D fun e=>?_).trans A;obtain⟨o,E,G⟩:=C B e.symm;rw[show X.heap[B]?=_ from A] at E;cases E;cases G
def keysV(ss:List JX):List Value:=ss.flatMap fun k=>k8 k.1
theorem appSeq_in(F:Fence)(n:Nat)(hf:F.fn 174)(hro:F.round=none)(hn:2≤n)(g:Nat)(lb:Array Value)(hFg:F.fn g)(eg:∀args w,(callFunc g args).run prog w=.ok (.enter g args) w)
    (S Sp:List JX→Prop) (N:Nat) (hN:N≤1099511627776) (w:World) (hseq:SeqStopsK F (n - 1) prog g lb (fun x:JX=>#[ZX x.1]) KeepsWalks S Sp N w):
    CallsIn F n prog 174 #[.slice none 0 0,.func (.func g) #[] lb] w fun e w'=>∃(v:Value) (ss:List JX),e=.returned v∧S ss∧w'.ownsRow w.heap.size 89 34 v ss.length (keysV ss)∧(v=.slice none 0 0↔ss=[])∧Below w.heap.size w w':=by
  have q:1≤n:=by omega
  obtain⟨i0,hi,A0,A1,A2⟩:=info_parts keyInfo;refine callsIn_of_wp_marks func174 rfl hf ?_ hro;simp only[ntmps174,List.size_toArray,List.length_cons,List.length_nil,Nat.reduceAdd,Nat.reduceSub,Array.replicate_succ,Array.replicate_zero,List.push_toArray,List.append_toArray,List.nil_append,List.cons_append]
  gi_wp2
  have A9:(w.alloc (.cells #[.slice none 0 0] 161)).heap.size=w.heap.size+1:=by simp
  have bS:=Boxed.new w 161 (.slice none 0 0);have Z:Below w.heap.size w (w.alloc (.cells #[.slice none 0 0] 161)):=(Below.refl _ w).alloc (Nat.le_refl _) _;have s:(w.alloc (.cells #[.slice none 0 0] 161)).ownsRow w.heap.size 89 34 (.slice none 0 0) 0 []:=⟨rfl,.inl ⟨rfl,rfl⟩⟩;generalize hW0:w.alloc (.cells #[.slice none 0 0] 161)=W0 at *;clear hW0;refine wpIn_rangeFunc_ownH hro q (gf:=g) (lb:=lb) rfl hFg eg hseq walksK_t walksK_b Z (fun _=>rfl)
    (fun A W=>(∃v,Boxed W w.heap.size 161 v∧W.ownsRow w.heap.size 89 34 v A.length (keysV A)∧(v=.slice none 0 0↔A=[]))∧Below w.heap.size w W)
    (fun _ _ _=>False)
    (OwnFrom.and (Own.from (holdsRow_own w.heap.size w.heap.size 161 89 34 (fun A:List JX=>A.length) (fun A=>keysV A) (fun A v=>v=.slice none 0 0↔A=[])) _) (ownFrom_below (Nat.le_refl _) yz))
    (fun _ _ _ _ _ t _ _=>t)
    ⟨⟨_,bS,s,by simp⟩,Z⟩
    (fun x z W=>∃Bx,w.heap.size<Bx∧KeyBox W Bx x.1∧z={ tmps:=#[.slice none 0 0,.func (.func g) #[] lb,.pointer (some ⟨w.heap.size,0,none⟩),undef,.slice none 0 0,.pointer (some ⟨Bx,0,none⟩),.func (.func g) #[] lb,ZX x.1,undef,undef,undef,undef,undef],defers:=[]})
    (fun x z _ X Y A3 t hg T=>by obtain⟨Bx,q,h2,h3⟩:=t;exact⟨Bx,q,keyBox_own Bx x.1 () X Y A3 h2 hg (fun r e=>(T r e).2),h3⟩)
    ?assign ?body ?done ?stop
  case assign=>
    rintro l A x W K ⟨⟨v,G,T,U⟩,C⟩ O;obtain⟨Q,g2,g3⟩:=Ut W (k8 (0,k7,0)).toArray (k8 x.1).toArray 89;have a:=fun (ρ:Operand→Value) (o:Oper) (p y:Operand) (ho:o.op=.store 89 p y) hx hy=>vA (P:=prog) (w:=W.alloc (.cells (k8 (0,k7,0)).toArray 89)) (ρ:=ρ) 89 p y ho W.heap.size (k8 x.1).toArray hx hy 89 (k8 (0,k7,0)).toArray (heap_alloc_new _ _) (Ky x.2) (by rw[List.size_toArray,List.size_toArray,k9 x.2];rfl) (by simpa using j4 x.1)
    have I:=Lib.hid a;clear a;generalize (W.alloc (.cells (k8 (0,k7,0)).toArray 89)).setRow W.heap.size (k8 x.1).toArray=W3 at *
    gi_wp2_with (first
      |(refine Jk rfl (by intro c h;cases h) (by intro c h;cases h) (I.out _ _ _ _ rfl rfl rfl) ?_)
      |gi_in)
    refine O _ _ ((KeepsOthers.of_grownBy Q (fun j o e=>by cases e)).from _) (KeepsWalks.of_grownBy Q (fun j o e=>by cases e)) ⟨⟨v,G.kept Q yq,T.kept Q ?_,U⟩,C.grown Q C.size (fun k e=>by cases e)⟩ ⟨W.heap.size,G.lt,g2,rfl⟩;cases hvb:v.ownBlock with
    |none=>exact .inl rfl
    |some b=>exact .inr yq
  case body=>
    rintro l A x z W hl ⟨r,T⟩ ⟨⟨v,G,B,U⟩,C⟩ ⟨Bx,Ab,bX,rfl⟩ Ac;have R:=G.cell;have Ad:=C.size;have A4:A.length+1≤maxLen:=by unfold maxLen;omega
    have A5:(A.length+1)*48≤140737488355328:=by omega
    have d:=fun (W1:World) (hb:KeyBox W1 Bx x.1) (ρ:Operand→Value) (o:Oper) (p:Operand) (ho:o.op=.load 89 p) hx=>kc (P:=prog) (ρ:=ρ) (w:=W1) 89 p ho (p:=⟨Bx,0,none⟩) hx (run_loadVar_row W1 Bx 89 89 _ (0,0) _ hb underlying89 rfl (Ky x.2))
    have f:=fun (ρ:Operand→Value) (o:Oper) (p:Operand) (ho:o.op=.buildSlice 161 1 #[(0,p)]) hx=>vh (P:=prog) (w:=W) (ρ:=ρ) 161 p ho 89 underlying161 (ZX (0,k7,0)) 34 48 keyInfo rfl yv yv (k8 x.1) (k9 x.2) hx
    have J:=Lib.hid (d W bX);have L:=Lib.hid f
    have E:∀j u,(k8 x.1)[j]?=some u→(W.alloc (.cells (k8 x.1).toArray 89)).cell? ((⟨W.heap.size,0,none⟩:Addr).add j)=some u:=by
      intro j u hj;rw[Addr.add_mid,jt (heap_alloc_new _ _)]
      simpa using hj
    have M:=Lib.hid E;clear d f E
    gi_wp2_with (first
      |((with_reducible refine Ja rfl ?_ ?_ (J.out _ _ (.tmp 5) ?_ ?_) ?_)
        ·intro c h;cases h
        ·intro c h;cases h
        ·with_reducible exact rfl
        ·exact rfl)
      |((with_reducible refine Ja rfl ?_ ?_ (L.out _ _ (.tmp 9) ?_ ?_) ?_)
        ·intro c h;cases h
        ·intro c h;cases h
        ·with_reducible exact rfl
        ·exact rfl)
      |(gi_at_builtin;refine wpListIn_append_own _ rfl _ _ 161 rfl w.heap.size 89 i0 (ZX (0,k7,0)) 34 48 underlying161 hi A0 A1 A2 rfl yv _ _ _ rfl (B.alloc _) ⟨W.heap.size,0,none⟩ 1 1 (k8 x.1) rfl (by rw[k9 x.2]) M.out (j4 x.1) A4 A5 yj ?_;intro v' w1 H V _;obtain⟨g',Aa,rfl⟩:=ownsRow_succ H;obtain⟨R,A6,A7,i,A8⟩:=G.appended yv B C.size (Nat.le_refl _) H V;have Ae:=R.cell;have Af:=R.frozen)
      |gi_in)
    have m:=A7;rw[show keysV A++k8 x.1=keysV (A++[x]) by simp [keysV]] at m;exact⟨i.from _,i.walks,⟨_,A6,by simpa using m,by simp⟩,C.trans A8⟩
  case done=>
    rintro D zs W hD hS ⟨⟨v,G,B,U⟩,C⟩ O;have cS:=G.cell
    gi_wp2
    refine⟨by simp,.inl ⟨_,_,rfl,run_takeDeferred O,?_⟩⟩;exact⟨_,results_tmp rfl _ _ _,v,zs,rfl,hS,ownsRow_putObj B _ O rfl,U,C.trans (belowK_b (w:=w) (Nat.le_refl _) W D _ _ yz O rfl rfl)⟩
  case stop=>
    rintro D c A W _ _ h _;exact h.elim
theorem collect_in(F:Fence)(n:Nat)(hf:F.fn 124)(hf2:F.fn 174)(hro:F.round=none)(hn:3≤n)(g:Nat)(lb:Array Value)(hFg:F.fn g)(eg:∀args w,(callFunc g args).run prog w=.ok (.enter g args) w)
    (S Sp:List JX→Prop) (N:Nat) (hN:N≤1099511627776) (w:World) (hseq:SeqStopsK F (n - 1 - 1) prog g lb (fun x:JX=>#[ZX x.1]) KeepsWalks S Sp N w):
    CallsIn F n prog 124 #[.func (.func g) #[] lb] w fun e w'=>∃(v:Value) (ss:List JX),e=.returned v∧S ss∧w'.ownsRow w.heap.size 89 34 v ss.length (keysV ss)∧(v=.slice none 0 0↔ss=[])∧Below w.heap.size w w':=by
  have E:1≤n:=by omega
  refine callsIn_of_wp func124 rfl hf ?_ hro;simp only[ntmps124,List.size_toArray,List.length_cons,List.length_nil,Nat.reduceAdd,Nat.reduceSub,Array.replicate_succ,Array.replicate_zero,List.push_toArray,List.append_toArray,List.nil_append,List.cons_append]
  gi_wp2_with (gi_at_call 174;refine(appSeq_in F (n - 1) hf2 hro yz g lb hFg eg S Sp N hN _ hseq).mono ?_;rintro e w' ⟨v,ss,rfl,C,A,B,D⟩)
  go_ret;exact⟨v,ss,rfl,C,A,B,D⟩
end
section
open Go.RowKit Go.Sort
section
variable {α:Type} [Inhabited α] {enc:α→List Value} {k:Nat}
theorem flatK_is(hk:∀x,(enc x).length=k)(hk0:0<k)(l:List α):flatK enc k l.toArray=(ke enc l).toArray:=by
  have B:(ke enc l).length=l.length*k:=jc fun x _=>hk x
  refine ext_get! (by simp [B]) fun t F=>?_
  have A:t<l.length*k:=by simpa using F
  rw[get_flatK enc k l.toArray t (by simpa using A)];have C:t / k<l.length:=(Nat.div_lt_iff_lt_mul hk0).2 A;have D:t % k<k:=Nat.mod_lt _ hk0;have E:=K9 (l:=l) (fun x _=>hk x) (t / k) C (t % k) _ (List.getElem?_eq_getElem (by rw[hk];exact D));rw[show t / k*k+t % k=t by rw[Nat.mul_comm];exact Nat.div_add_mod t k] at E;rw[show (l.toArray)[t / k]! =l[t / k] by simp [C],getElem!_pos _ _ (by rw[hk];exact D),getElem!_pos _ _ (by simpa [B] using A)];obtain⟨_,G⟩:=List.getElem?_eq_some_iff.1 E
  simpa using G.symm
variable {w:World} {base g cap:Nat} {e:TypeId} {cur:Array Value} {l:List α}
theorem holdsK_of_block(hk:∀x,(enc x).length=k)(hk0:0<k)(hb:w.heap[g]?=some (.cells cur e (0,0)))(ht:cur.toList.take (l.length*k)=ke enc l):HoldsK enc k w g 0 l.toArray:=by
  unfold HoldsK;rw[flatK_is hk hk0];intro j C;have D:(ke enc l).length=l.length*k:=jc fun x _=>hk x
  have A:j<(ke enc l).length:=by simpa using C
  refine⟨?_,by simp [World.frozen?,hb]⟩;have B:(cur.toList.take (l.length*k))[j]?=(ke enc l)[j]?:=by rw[ht]
  rw[List.getElem?_take_of_lt yz] at B;simp only[World.cell?,hb,Nat.zero_add];simp only[Option.isSome_none,Bool.false_eq_true,if_false];rw[←Array.getElem?_toList,B];simp [A]
theorem sortedK_sl(hk:∀x,(enc x).length=k)(hk0:0<k)(hb:w.heap[g]?=some (.cells cur e (0,0)))(hH:HoldsK enc k w g 0 l.toArray)(hbase:base≤g){t:List α}(ht:t.length=l.length)(m:Nat)(os:Array Obj)(w0:World)(hw:Below base w0 w):
    Sl (sortWorldK enc k w g 0 m t.toArray os) (sortWorldK enc k w g 0 m t.toArray os).heap.size (some ⟨g,0,none⟩) l.length k (ke enc t)∧Below base w0 (sortWorldK enc k w g 0 m t.toArray os):=by
  have H:g<w.heap.size:=(Array.getElem?_eq_some_iff.1 hb).1;have A:(ke enc t).length=t.length*k:=jc fun x _=>hk x
  have C:(ke enc l).length=l.length*k:=jc fun x _=>hk x
  unfold HoldsK at hH;rw[flatK_is hk hk0] at hH;have D:Holds id (Sort.ahead w m) g 0 (ke enc l).toArray:=hH;have B:(grow (putRow id (Sort.ahead w m) g 0 (ke enc t).toArray) os).heap.size=w.heap.size+os.size:=by
    unfold grow putRow mapBlock Sort.ahead;simp
  unfold sortWorldK putRowK;rw[flatK_is hk hk0];refine⟨⟨by rw[A,ht],fun _=>⟨g,0,rfl,by rw[B];omega,fun j u I=>?_⟩⟩,?_⟩
  ·obtain⟨E,F⟩:=List.getElem?_eq_some_iff.1 I;have J:=cell?_putRow id (Sort.ahead w m) g 0 (ke enc l).toArray (ke enc t).toArray D (by simp [A,C,ht]) j (by simpa using E);have G:(grow (putRow id (Sort.ahead w m) g 0 (ke enc t).toArray) os).cell? ⟨g,0+j,none⟩=(putRow id (Sort.ahead w m) g 0 (ke enc t).toArray).cell? ⟨g,0+j,none⟩:=by
     unfold World.cell? grow;simp only;rw[Array.getElem?_append_left (by unfold putRow mapBlock Sort.ahead;simpa using H)]
   rw[G,J];simp [E,F]
  ·refine hw.trans ⟨rfl,rfl,rfl,by rw[B];omega,fun q K=>?_⟩;unfold grow;simp only;rw[Array.getElem?_append_left (by unfold putRow mapBlock Sort.ahead;simp;omega)];unfold putRow mapBlock Sort.ahead;simp only;rw[Array.getElem?_modify,if_neg yz]
end
end
section
open Go.RowKit Go.Maps Go.Shelf Go.Sort
instance:Inhabited JX:=⟨⟨(0,k7,0),⟨by decide,jL,by decide⟩⟩⟩
def cmpS(a b:JX):Int:=zG a.1 b.1
theorem ltS(a b:JX):ltOf cmpS a b=decide (zG a.1 b.1<0):=rfl
theorem swoS:SWO (ltOf cmpS) where
  irrefl x:=by rw[ltS,J2];rfl
  trans x y z h1 h2:=by
    rw[ltS,decide_eq_true_eq] at *;exact Jr h1 h2
  ntrans x y z h1 h2:=by
    rw[ltS,decide_eq_false_iff_not] at *;intro h;rcases Z1 x.1 y.1 with q|q|q
    ·exact h1 q
    ·rw[q] at h;exact h2 h
    ·exact h2 (Jr q h)
theorem partS(x y:JX)(h1:ltOf cmpS x y=false)(h2:ltOf cmpS y x=false):x=y:=by
  rw[ltS,decide_eq_false_iff_not] at *;rcases Z1 x.1 y.1 with q|q|q
  ·exact absurd q h1
  ·exact Subtype.ext q
  ·exact absurd q h2
theorem closure_gr(a b:kF)(w:World)(ha:kN a)(hb:kN b):
    Calls prog 77 #[.agg (k8 a).toArray,.agg (k8 b).toArray] w fun e w'=>Gr w w'∧e=.returned (.int .i64 (zG a b)):=by
  have B:(w.alloc (.cells (k8 a).toArray 89)).heap[w.heap.size]?=some (.cells (k8 a).toArray 89 (0,0)):=heap_alloc_new _ _;go_enter func77,ntmps77
  go_upto_region 1 with fail
  have F:((w.alloc (.cells (k8 a).toArray 89)).alloc (.cells (k8 b).toArray 89)).heap[w.heap.size]?=some (.cells (k8 a).toArray 89 (0,0)):=by
    exact(heap_alloc_old (w.alloc (.cells (k8 a).toArray 89)) _ yq).trans B
  have G:((w.alloc (.cells (k8 a).toArray 89)).alloc (.cells (k8 b).toArray 89)).heap[w.heap.size+1]?=some (.cells (k8 b).toArray 89 (0,0)):=by
    have:=heap_alloc_new (w.alloc (.cells (k8 a).toArray 89)) (.cells (k8 b).toArray 89);rw[World.size_alloc] at this;exact this
  have H:Gr w ((w.alloc (.cells (k8 a).toArray 89)).alloc (.cells (k8 b).toArray 89)):=((Gr.refl _).alloc _).alloc _;clear B;generalize (w.alloc (.cells (k8 a).toArray 89)).alloc (.cells (k8 b).toArray 89)=W at *;have C:=Lib.hid F;have D:=Lib.hid G;have E:=Lib.hid H
  clear F G H;have A:=keys_gr a b W ha hb
  go_wp2_with (first
    |(refine wpList_load_row rfl 89 _ rfl w.heap.size rfl 89 _ (0,0) _ C.out underlying89 rfl (Ky ha) ?_)
    |(refine wpList_load_row rfl 89 _ rfl (w.heap.size+1) rfl 89 _ (0,0) _ D.out underlying89 rfl (Ky hb) ?_)
    |(go_at_call 78;refine A.mono ?_;rintro e J ⟨I,rfl⟩))
  go_ret;exact⟨E.trans I,rfl⟩
theorem cmpLays(blk off size:Nat)(w:World):CmpLays prog 77 #[] (fun x:JX=>k8 x.1) 34 cmpS blk off size w:=
  fun _ _ _ _ x y=>(closure_gr x.1 y.1 _ x.2 y.2).mono fun e w' ⟨⟨q,A,h⟩,B⟩=>⟨B,q,A,h⟩
def ordS(ss:List JX):List JX:=ss.mergeSort fun x y=> !(ltOf cmpS) y x
theorem ud(ss:List JX):(ordS ss).Perm ss:=List.mergeSort_perm _ _
theorem ordS_rising{ss:List JX}(hn:ss.Nodup):Rising ((ordS ss).map (·.1)):=by
  have D:(ordS ss).Pairwise fun a b=>(!(ltOf cmpS) b a)=true:=by
    refine List.pairwise_mergeSort (fun a b c A B=>?_) (fun a b=>?_) ss
    ·simp only[Bool.not_eq_true'] at *;exact swoS.ntrans _ _ _ B A
    ·simp only[Bool.or_eq_true,Bool.not_eq_true'];rw[ltS,ltS,decide_eq_false_iff_not,decide_eq_false_iff_not];rcases Z1 a.1 b.1 with q|q|q
     ·left;intro h;have:=Jr q h;rw[J2] at this;omega
     ·left;rw[q,J2];omega
     ·right;intro h;have:=Jr q h;rw[J2] at this;omega
  have C:(ordS ss).Nodup:=(ud ss).nodup_iff.2 hn;unfold Rising;rw[List.pairwise_map];refine(D.and C).imp ?_;rintro a b ⟨A,B⟩;simp only[Bool.not_eq_true'] at A;rw[ltS,decide_eq_false_iff_not] at A;rcases Z1 a.1 b.1 with q|q|q
  ·exact q
  ·exact absurd (Subtype.ext q) B
  ·exact absurd q A
theorem ordS_mem{m:kF→Option Value}{ss:List JX}(h:q9 m ss)(x:JX):x∈ordS ss↔(m x.1).isSome=true:=by
  rw[(ud ss).mem_iff];exact h.2 x
theorem sorted_keys(b nn:Nat)(m:kF→Option Value)(w:World)(hnn:nn≤1099511627776)(hown:MapV w prog 89 kN uP b nn m)(Bm:Nat)(hBm:w.cell? ⟨Bm,0,none⟩=some (.map (some b))):
    Calls prog 75 #[.func (.func 126) #[] #[.pointer (some ⟨Bm,0,none⟩)],.func (.func 77) #[] #[]] w fun e w'=>
      Below w.heap.size w w'∧∃A c ds,(∃B:List JX,q9 m B∧ds=(ordS B).map (·.1))∧e=.returned (.slice A ds.length c)∧Sl w' w'.heap.size A ds.length 34 (ke k8 ds):=by
  have M:Bm<w.heap.size:=block_lt_of_cell hBm
  have H:=fun (W:World) (hb:Below w.heap.size w W)=>callsIn_wide.1 (collect_in Fence.wide 5 trivial trivial rfl yv 126 #[.pointer (some ⟨Bm,0,none⟩)] trivial (enters_of func126 yy rfl) (fun B=>q9 m B∧B.length≤nn) (fun _=>True) nn hnn W
    (keys_gives Fence.wide (5 - 1 - 1) trivial rfl yv Bm b nn m W (Nat.lt_of_lt_of_le M hb.size) ((hb.cell (p:=⟨Bm,0,none⟩) M).trans hBm) (hown.below hb)))
  have N:=H w (Below.refl _ _);clear H;have d:=Lib.hid hown;clear hown hBm;go_enter func75,ntmps75;go_wp2_with fail;refine N.mono ?_;rintro e I ⟨v,B,rfl,⟨U,f⟩,E,J,O⟩;clear N;have D:=Lib.hid O;have F:=Lib.hid U
  clear O U;rcases E.2 with⟨rfl,V⟩|⟨g,P,k,rfl,K,L,l,o,q,X⟩
  ·have Y:B=[]:=List.eq_nil_of_length_eq_zero V;subst Y;have C:=AnyF.slices_SortFunc_none { Tryz.laysSortKeys with} (none:Option Addr) 0 (.func (.func 77) #[] #[]) I;change Calls prog 125 _ _ _ at C;clear E J V
   go_wp2_with (go_at_call 125;refine C.mono ?_;rintro e h ⟨rfl,rfl⟩)
   go_ret;exact⟨D.out,none,0,[],⟨[],F.out,by simp [ordS]⟩,rfl,Sl.nil⟩
  ·have R:∀x:JX,(k8 x.1).length=34:=fun x=>k9 x.2
   have S:HoldsK (fun x:JX=>k8 x.1) 34 I g 0 B.toArray:=holdsK_of_block R yv L X;have Z:g<I.heap.size:=(Array.getElem?_eq_some_iff.1 L).1;have a:B.toArray.size<4611686018427387904:=by rw[List.size_toArray];omega
   have C:=AnyQ.slices_SortFunc_total Tryz.laysSortKeys 34 Tryz.isAgg89 Tryz.sizeOf89 (fun x:JX=>k8 x.1) R (fun x=>j4 x.1) cmpS swoS 77 #[] g 0 P B.toArray I
     (enters_of func77 yy rfl) (cmpLays g 0 _ I) S Z a partS
   change Calls prog 125 _ _ _ at C;have Q:=fun (n:Nat) (T:Array Obj)=>sortedK_sl R yv L S K (t:=ordS B) ((ud B).length_eq) n T w D.out
   have G:=Lib.hid Q;clear Q S E J L X;simp only[List.size_toArray] at C
   go_wp2_with (go_at_call 125;refine C.mono ?_;rintro e h ⟨rfl,n,T,rfl⟩)
   go_ret;obtain⟨i,j⟩:=G.out n T;refine⟨j,some ⟨g,0,none⟩,P,(ordS B).map (·.1),⟨B,F.out,rfl⟩,?_,?_⟩
   ·rw[List.length_map,(ud B).length_eq];rfl
   ·rw[List.length_map,(ud B).length_eq,show ke k8 ((ordS B).map (·.1))=ke (fun x:JX=>k8 x.1) (ordS B) by simp [ke,List.flatMap_map]];exact i
end
section
open Go.RowKit Go.Maps
section
variable {P:Program} {K:TypeId} {κ:Type} {ok:κ→Prop} {val:κ→Value} {kl:κ→Lit} {w:World} {b n:Nat} {m:κ→Option Value}
theorem EqT.law{t:TypeId}{d:Nat}(E:EqT P t d):WideMaps.KeyLaw P t:=deep_law_laid E.laid (m:=P.types.size+1) E.few E.row E.key E.wide
theorem MapV.update{t e:TypeId}[DecidableEq κ](E:KeyEnc P K ok val kl)(ht:P.underlying t=some (.map K e))(h:MapV w P K ok kl b n m)(hn:n<maxLen){k0:κ}(hk:ok k0)(v0:Value):
    ∃w',(Instr.mapUpdate t (.map (some b)) (val k0) v0).run P w=.ok () w'∧MapV w' P K ok kl b (n+1) (fun k=>if k=k0 then some v0 else m k)∧w.grownBy w' (some b):=by
  obtain⟨D,B,C,F,G⟩:=h;obtain⟨w',A,H,I⟩:=B.update E.keyed ht hn (val:=v0) (d:=.held v0) (ps:=[]) (E.of k0 hk) rfl;obtain⟨J,L,M⟩:=qw E C F G hk v0;exact⟨w',A,⟨_,H,J,L,M⟩,I⟩
theorem setBlock_same{w:World}{b:Nat}{o:Obj}(h:w.heap[b]?=some o):Go.ChangeMaps.setBlock w b o=w:=by
  unfold Go.ChangeMaps.setBlock;obtain⟨A,B⟩:=Array.getElem?_eq_some_iff.1 h;have:w.heap.setIfInBounds b o=w.heap:=by
    apply Array.ext_getElem?;intro j;by_cases e:b=j
    ·subst e;simp [A,B]
    ·rw[Array.getElem?_setIfInBounds_ne e]
  rw[this]
theorem MapV.look{t e:TypeId}(E:KeyEnc P K ok val kl)(ht:P.underlying t=some (.map K e)){z:Value}(hz:∀u:World,(zeroValue e).run P u=.ok z u)(h:MapV w P K ok kl b n m){k0:κ}(hk:ok k0):
    (Instr.lookup t (.map (some b)) (val k0) false).run P w=.ok ((m k0).getD z) w:=by
  obtain⟨D,F,L,G,H⟩:=h;obtain⟨v,M,B,I⟩:=F.lookup E.keyed ht (hz w) (zd:=.held z) (zp:=[]) rfl (E.of k0 hk);have C:v=(m k0).getD z:=by
    have A:(DataW.held v:DataW Value)=D.atKey (kl k0) (.held z):=congrArg Prod.fst (Option.some.inj I);rcases hmk:m k0 with _ |u
    ·have J:has D (kl k0)=false:=by rw[G k0 hk,hmk];rfl
     rw[atKey_of_not_has J] at A;injection A
    ·rw[H k0 u hk hmk] at A;injection A
  rw[←C];exact B
theorem ex_lookup{ρ:Operand→Value}{o:Oper}{w w':World}(t:TypeId)(x ix:Operand)(c:Bool)(ho:o.op=.lookup t x ix c){vm vk v:Value}(hx:ρ x=vm)(hk:ρ ix=vk)(h:(Instr.lookup t vm vk c).run P w=.ok v w'):(execOp ρ o).run P w=.ok (.value v) w':=by
  unfold execOp;simp only[ho,hx,hk,Sem.run_bind,h,Result.andThen_ok,Sem.run_pure]
theorem ex_mapEntry{ρ:Operand→Value}{o:Oper}{w w':World}(t:TypeId)(x ix:Operand)(ho:o.op=.mapEntry t x ix){vm vk v:Value}(hx:ρ x=vm)(hk:ρ ix=vk)(h:(Instr.mapEntry t vm vk).run P w=.ok v w'):(execOp ρ o).run P w=.ok (.value v) w':=by
  unfold execOp;simp only[ho,hx,hk,Sem.run_bind,h,Result.andThen_ok,Sem.run_pure]
theorem UJ{ρ:Operand→Value}{o:Oper}{w w':World}(t:TypeId)(x s y:Operand)(ho:o.op=.entryStore t x s y){vm vs v:Value}(hx:ρ x=vm)(hs:ρ s=vs)(hy:ρ y=v)(h:(Instr.entryStore t vm vs v).run P w=.ok () w'):(execOp ρ o).run P w=.ok .skip w':=by
  unfold execOp;simp only[ho,hx,hs,hy,Sem.run_bind,h,Result.andThen_ok,Sem.run_pure]
open Go.ChangeMaps in
theorem MapV.entry{t e:TypeId}[DecidableEq κ](E:KeyEnc P K ok val kl)(L:WideMaps.KeyLaw P K)(ht:P.underlying t=some (.map K e)){z:Value}(hz:∀u:World,(zeroValue e).run P u=.ok z u)(h:MapV w P K ok kl b n m)(hn:n<maxLen){k0:κ}(hk:ok k0):
    ∃(st:Nat) (w1:World),(Instr.mapEntry t (.map (some b)) (val k0)).run P w=.ok (.tuple #[(m k0).getD z,goInt st]) w1∧w.grownBy w1 (some b)∧MapV w1 P K ok kl b (n+1) (fun k=>if k=k0 then some ((m k0).getD z) else m k)∧
     ∀M,∃w2,(Instr.entryStore t (.map (some b)) (goInt st) M).run P w1=.ok () w2∧MapV w2 P K ok kl b (n+1) (fun k=>if k=k0 then some M else m k)∧w.grownBy w2 (some b):=by
  have f:=h;obtain⟨D,⟨H,A,C,F,g,l⟩,hm,o,h4⟩:=f;have B:=E.of k0 hk;have A0:=(Array.getElem?_eq_some_iff.1 C).1;have T:(Instr.lookup t (.map (some b)) (val k0) false).run P w=.ok ((m k0).getD z) w:=by
    obtain⟨v,ps,G,f⟩:=World.ownsMap.lookup ⟨H,A,C,F,g,l⟩ E.keyed ht (hz w) (zd:=.held z) (zp:=[]) rfl B;have A1:v=(m k0).getD z:=by
      have X:(DataW.held v:DataW Value)=D.atKey (kl k0) (.held z):=congrArg Prod.fst (Option.some.inj f);rcases hmk:m k0 with _ |u
      ·have hh:has D (kl k0)=false:=by rw[o k0 hk,hmk];rfl
       rw[atKey_of_not_has hh] at X;injection X
      ·rw[h4 k0 u hk hmk] at X;injection X
    rw[←A1];exact G
  have U:∀(st:Nat) (w1:World),(Instr.mapEntry t (.map (some b)) (val k0)).run P w=.ok (.tuple #[(m k0).getD z,goInt st]) w1→
      ∀M,∃w2,(Instr.entryStore t (.map (some b)) (goInt st) M).run P w1=.ok () w2∧MapV w2 P K ok kl b (n+1) (fun k=>if k=k0 then some M else m k)∧w.grownBy w2 (some b):=by
    intro st w1 N M;obtain⟨u,A2,V,I,G,_,A3⟩:=WideElems.entry_then_store L ht hz C F B;rw[G] at N;injection N with hr1 hr2;injection hr1 with hr1;have p:A2=st:=by
      have:=congrArg (fun a:Array Value=>a[1]?) hr1;simp [goInt] at this;omega
    subst hr2;subst p;have A4:(setBlock w b (.map V I)).heap[b]?=some (.map V I):=by simp [setBlock,A0]
    obtain⟨c,O,g1,g2⟩:=A3 _ M A4;obtain⟨w',J,r,s⟩:=MapV.update E ht h hn hk M;rw[g2] at J;injection J with _ J;have e2:setBlock (setBlock w b (.map V I)) b (.map c O)=setBlock w b (.map c O):=by simp [setBlock]
    exact⟨w',by rw[g1,e2,J],r,s⟩
  rcases L.find w B H.toList F.keys with⟨R,f2⟩|⟨j,S,R,f2,f3⟩
  ·have d:(m k0).getD z=z:=by
     have:=T;have Q:=L.check w H.isEmpty B;simp [Instr.lookup,run_underlying ht,MapKept.run_getObj_map C,Q,R,hz] at this;exact this.symm
   have N:(Instr.mapEntry t (.map (some b)) (val k0)).run P w=.ok (.tuple #[(m k0).getD z,goInt A]) (setBlock w b (.map (H.push ⟨val k0,z,A⟩) (A+1))):=by
     rw[d];simp [Instr.mapEntry,run_underlying ht,MapKept.run_getObj_map C,L.check w false B,R,hz,MapKept.run_setObj_map _ C,Result.andThen,setBlock]
   obtain⟨w',J,r,s⟩:=MapV.update E ht h hn hk z;have A5:(Instr.mapUpdate t (.map (some b)) (val k0) z).run P w=.ok () (setBlock w b (.map (H.push ⟨val k0,z,A⟩) (A+1))):=by
     simp [Instr.mapUpdate,run_underlying ht,MapKept.run_getObj_map C,L.check w false B,R,MapKept.run_setObj_map _ C,Result.andThen,setBlock]
   rw[A5] at J;injection J with _ J;exact⟨A,_,N,by rw[J];exact s,by rw[J,d];exact r,U _ _ N⟩
  ·have hj:H[j]?=some S:=by simpa using f2
   have W:(m k0).getD z=S.val:=by
     have:=T;have Q:=L.check w H.isEmpty B;simp [Instr.lookup,run_underlying ht,MapKept.run_getObj_map C,Q,R] at this;exact this.symm
   have Y:H.modify j (fun e=>{ e with key:=val k0})=H:=by
     have A6:({ S with key:=val k0}:MapEntry)=S:=by rw[←f3]
     apply Array.ext_getElem?;intro i;rw[Array.getElem?_modify];by_cases q:j=i
     ·subst q;rw[if_pos rfl,hj,Option.map_some,A6]
     ·rw[if_neg q]
   have N:(Instr.mapEntry t (.map (some b)) (val k0)).run P w=.ok (.tuple #[(m k0).getD z,goInt S.born]) w:=by
     have Z:=L.stays w B;rw[W];simp [Instr.mapEntry,run_underlying ht,MapKept.run_getObj_map C,L.check w false B,R,hj,f3,Z,Y,MapKept.run_setObj_map _ C,Result.andThen];exact setBlock_same C
   refine⟨S.born,w,N,⟨rfl,rfl,rfl,Nat.le_refl _,fun _ _ _=>rfl⟩,?_,U _ _ N⟩;have x:m k0=some S.val:=by
     obtain⟨v,ps,G,_⟩:=World.ownsMap.look_ok ⟨H,A,C,F,g,l⟩ E.keyed ht (hz w) (zd:=.held z) (zp:=[]) rfl B;have Q:=L.check w H.isEmpty B;simp [Instr.lookup,run_underlying ht,MapKept.run_getObj_map C,Q,R] at G;have y:has D (kl k0)=true:=G.2;rw[o k0 hk] at y;rcases hmk:m k0 with _ |u
     ·rw[hmk] at y;cases y
     ·rw[hmk] at W;exact congrArg some W
   have A7:(fun k=>if k=k0 then some ((m k0).getD z) else m k)=m:=by
     funext k
     by_cases q:k=k0
     ·subst q;rw[if_pos rfl,x];rfl
     ·rw[if_neg q]
   rw[A7];exact⟨D,World.ownsMap.mono ⟨H,A,C,F,g,l⟩ (Nat.le_succ n),hm,o,h4⟩
end
end
section
open Go.RowKit
open Lib (hid)
def cntM(t:List kS)(k:kF):Option Value:=if k∈t.map (·.1) then some (.int .i64 1) else none
theorem cntM_snoc{t:List kS}{x:kS}(h:x.1∉t.map (·.1)):(fun k=>if k=x.1 then some (.int .i64 (0+1)) else cntM t k)=cntM (t++[x]):=by
  funext k
  unfold cntM;by_cases e:k=x.1
  ·subst e;rw[if_pos rfl,if_pos yq];rfl
  ·rw[if_neg e];by_cases q:k∈t.map (·.1)
   ·rw[if_pos q,if_pos (by rw[List.map_append,List.mem_append];exact .inl q)]
   ·rw[if_neg q,if_neg (by rw[List.map_append,List.mem_append];rintro (r|r);exact q r;simp at r;exact e r)]
theorem right_snoc{t:List kS}{x:kS}(h:UM t)(hn:x.1∉t.map (·.1))(hg:vt x.2.2.1 x.2.2.2=true):UM (t++[x]):=by
  refine⟨fun c A=>?_,?_⟩
  ·rcases List.mem_append.1 A with A|A
   ·exact h.1 c A
   ·rw[List.mem_singleton.1 A];exact hg
  ·rw[List.map_append,List.nodup_append];refine⟨h.2,by simp,fun a C b B e=>?_⟩;rw[List.map_cons,List.map_nil,List.mem_singleton] at B;subst B;subst e;exact hn C
theorem right_dup{l:List kS}{i:Nat}(hi:i<l.length)(h:l[i].1∈(l.take i).map (·.1)):UN l=false:=by
  rw[Bool.eq_false_iff,ne_eq,UO];intro B;have A:=B.2;rw[←List.take_append_drop i l,List.map_append,List.nodup_append] at A;refine A.2.2 _ h _ ?_ rfl;rw[List.drop_eq_getElem_cons hi,List.map_cons];exact List.mem_cons_self
theorem right_bad{l:List kS}{i:Nat}(hi:i<l.length)(h:vt l[i].2.2.1 l[i].2.2.2=false):UN l=false:=by
  rw[Bool.eq_false_iff,ne_eq,UO];intro A;have:=A.1 _ (List.getElem_mem hi);rw[h] at this;cases this
theorem Jb{w:World}{b o:Nat}{cs:List Value}(h:w.rangeAt b o cs):w.drew.rangeAt b o cs:=h
theorem Zn{w w':World}{row:Option Nat}{b o:Nat}{cs:List Value}(h:w.rangeAt b o cs)(hg:w.grownBy w' row)(hne:row≠some b):w'.rangeAt b o cs:=
  fun j u A=>hg.cell (h j u A) (fun e=>hne e.symm)
theorem uD:(prog.info? 135).map (·.size)=some 70:=by kernel_rfl
theorem Q9:(prog.info? 89).map (·.size)=some 34:=by kernel_rfl
theorem JI(w:World):(zeroValue 3).run prog w=.ok (.int .i64 0) w:=by
  have h:(prog.info? 3).map (·.zero)=some (some (.int .i64 0)):=by kernel_rfl
  cases hq:prog.info? 3 with
  |none=>rw[hq] at h;cases h
  |some i=>
   rw[hq] at h;have A:i.zero=some (.int .i64 0):=Option.some.inj h;simp [zeroValue,typeInfo,hq,A]
theorem regRight_any(l:List kS)(A:Option Addr)(c:Nat)(w:World)(hl:l.length≤1099511627776)(hok:∀x∈l,Kf x)(hsl:Sl w w.heap.size A l.length 70 (ke kT l))(hg:Glob w):
    Calls prog 73 #[.slice A l.length c] w fun e w'=>Below w.heap.size w w'∧e=.returned (.bool (UN l)):=by
  have A3:=hid hsl;clear hsl;have Z:=hid hok;clear hok;have Al:=@run_makeMap prog;go_enter func73,ntmps73
  go_upto_region 2 with fail
  have Am:=MapV.made w prog 89 kN uP;have An:Below w.heap.size w (w.alloc (.map #[] 0)):=(Below.refl _ _).alloc (Nat.le_refl _) _;clear Al;generalize w.alloc (.map #[] 0)=W at *;go_wp2_with fail
  go_loopw [9] (fun t wr=>∃i:Nat,i≤l.length∧t=.int .i64 i∧Below w.heap.size w wr∧Hid (UM (l.take i))∧∃n0,n0≤i∧Hid (MapV wr prog 89 kN uP w.heap.size n0 (cntM (l.take i)))) (fun t _=>l.length - (intOf t).toNat)
  case atStart=>exact⟨0,by omega,rfl,An,hid ⟨fun c hc=>absurd hc yq,by simp⟩,0,Nat.le_refl _,hid Am⟩
  case round=>
    obtain⟨i,hi,rfl,m,hR,n0,Ap,hM⟩:=hrel;by_cases hlt:i<l.length
    ·obtain⟨b,Aq,rfl,Ar,A6⟩:=(A3.keep m).2 yz;have i0:(0:Int)≤(i:Int):=by omega
     have i1:(i:Int)<(l.length:Int):=by omega
     have A0:∀x∈l,(kT x).length=70:=fun x hx=>j2 (Z.out x hx)
     have A7:=Sl.row A0 A6 hlt;have Aa:=Z.out _ (List.getElem_mem hlt);have Ab:l.take (i+1)=l.take i++[l[i]]:=List.take_succ_eq_append_getElem hlt;have I:=hid fun h=>right_dup hlt h
     have E:=hid fun h=>right_bad hlt h
     have Ak:=hid A6;clear A6;have r:=hid A7;clear A7;have a:=hid Ab;clear Ab;have F:=hid Aa;clear Aa;clear A0;generalize l[i]=x at *
     go_upto_region 5 with (first
       |(refine j9 rfl 135 _ rfl b _ rfl (kT x) _ r.out underlying135 rfl (by rw[j2 F.out];exact uD) ?_)
       |(refine Kw (B:=wr.heap.size) (w0:=wr) rfl 135 _ _ rfl wr.heap.size _ rfl rfl 135 _ (heap_alloc_new _ _) (by rw[List.size_toArray,j2 F.out];exact uD) (by rw[show (kT x).toArray.size=70 by rw[List.size_toArray,j2 F.out]];rfl) (by simpa using Ju x) ((Below.refl _ _).alloc (Nat.le_refl _) _) (Nat.le_refl _) ?_;intro W2 X Ac _))
     have A8:=hM.below X;have s:∀j u,(kT x)[j]?=some u→W2.cell? ⟨wr.heap.size,0+j,none⟩=some u:=fun j u hj=>by rw[Nat.zero_add];exact(jt Ac j).trans hj
     have K:W2.rangeAt wr.heap.size 0 (k8 x.1):=fun j u hj=>s j u (by have:=vX F.out j u hj;rwa [Nat.zero_add] at this)
     have H:kN x.1:=F.1;have Aj:n0<maxLen:=by unfold maxLen;omega
     obtain⟨G,y,Y,C⟩:∃G:Int,(G=0∨G=1)∧Hid (G=0↔x.1∉(l.take i).map (·.1))∧Hid ((cntM (l.take i) x.1).getD (.int .i64 0)=.int .i64 G):=by
       by_cases h:x.1∈(l.take i).map (·.1)
       ·exact⟨1,.inr rfl,hid ⟨fun e=>absurd e yv,fun n=>absurd h n⟩,hid (by unfold cntM;rw[if_pos h];rfl)⟩
       ·exact⟨0,.inl rfl,hid ⟨fun _=>h,fun _=>rfl⟩,hid (by unfold cntM;rw[if_neg h];rfl)⟩
     have A1:w.heap.size≠wr.heap.size:=by have:=hM.lt;omega
     obtain⟨st,W3,z,Ad,Ae,Q⟩:=MapV.entry keyEnc eqKey.law underlying241 JI A8.drew Aj H;refine wp_region_held (S:=fun w'=>w'.rangeAt wr.heap.size 0 (k8 x.1)) yy ?_;refine wpAnyH_take (i:=0) (v:=.map (some w.heap.size)) rfl yy yy yy (fun _ _ _ h=>h) (Or.inl ⟨by rfl,fun w' _=>by rfl⟩) K ?_;simp only[Act.put,List.getElem_toArray,List.getElem_cons_succ,List.getElem_cons_zero,List.setIfInBounds_toArray,List.set_cons_zero,List.set_cons_succ,List.size_toArray,List.length_cons,List.length_nil,Nat.reduceAdd,Array.replicate_succ,Array.replicate_zero,List.push_toArray,List.nil_append,List.cons_append];refine wpAnyH_take (i:=1) (v:=.pointer (some ⟨wr.heap.size,0,none⟩)) rfl yy yy yy (fun _ _ _ h=>h) (Or.inl ⟨by rfl,fun w' _=>by go_simp⟩) K ?_;simp only[Act.put,List.getElem_toArray,List.getElem_cons_succ,List.getElem_cons_zero,List.setIfInBounds_toArray,List.set_cons_zero,List.set_cons_succ,List.size_toArray,List.length_cons,List.length_nil,Nat.reduceAdd,Array.replicate_succ,Array.replicate_zero,List.push_toArray,List.nil_append,List.cons_append];refine wpAnyH_take (i:=2) (v:=ZX x.1) rfl yy yy yy (fun _ _ _ h=>h) (Or.inl ⟨by rfl,fun w' Ao=>kc 89 _ rfl (p:=⟨wr.heap.size,0,none⟩) rfl (run_loadVar_mid w' _ _ _ (k8 x.1) _ Ao underlying89 rfl (by rw[k9 H];exact Q9))⟩) K ?_;simp only[Act.put,List.getElem_toArray,List.getElem_cons_succ,List.getElem_cons_zero,List.setIfInBounds_toArray,List.set_cons_zero,List.set_cons_succ,List.size_toArray,List.length_cons,List.length_nil,Nat.reduceAdd,Array.replicate_succ,Array.replicate_zero,List.push_toArray,List.nil_append,List.cons_append];refine wpAnyH_all (rs:=[3,5]) yy yq ?_;intro q T;simp only[List.mem_cons,List.not_mem_nil,or_false] at T;have R:W3.rangeAt wr.heap.size 0 (k8 x.1):=Zn (Jb K) Ad (fun e=>A1 (Option.some.inj e));rcases T with rfl|rfl
     case' inr=>
       refine zB _ rfl yy (ex_mapEntry 241 _ _ rfl (vm:=.map (some w.heap.size)) (vk:=ZX x.1) rfl rfl z) ?_;rw[C.out];refine⟨R,?_⟩;simp only[Act.put,List.getElem_toArray,List.getElem_cons_succ,List.getElem_cons_zero,List.setIfInBounds_toArray,List.set_cons_zero,List.set_cons_succ,List.size_toArray,List.length_cons,List.length_nil,Nat.reduceAdd,Array.replicate_succ,Array.replicate_zero,List.push_toArray,List.nil_append,List.cons_append];refine wpAnyH_take (i:=6) (v:=goInt st) rfl yy yy yy (fun _ _ _ h=>h) (Or.inl ⟨by rfl,fun w' _=>by rfl⟩) R ?_;simp only[Act.put,List.getElem_toArray,List.getElem_cons_succ,List.getElem_cons_zero,List.setIfInBounds_toArray,List.set_cons_zero,List.set_cons_succ,List.size_toArray,List.length_cons,List.length_nil,Nat.reduceAdd,Array.replicate_succ,Array.replicate_zero,List.push_toArray,List.nil_append,List.cons_append];refine wpAnyH_all (rs:=[3]) yy yq ?_;intro q T;obtain rfl:q=3:=by simpa using T
       refine zB _ rfl yy (ex_lookup 241 _ _ false rfl (vm:=.map (some w.heap.size)) (vk:=ZX x.1) rfl rfl (MapV.look keyEnc underlying241 JI Ae H)) ?_;rw[if_pos rfl,Option.getD_some,C.out];refine⟨R,?_⟩;simp only[Act.put,List.getElem_toArray,List.getElem_cons_succ,List.getElem_cons_zero,List.setIfInBounds_toArray,List.set_cons_zero,List.set_cons_succ,List.size_toArray,List.length_cons,List.length_nil,Nat.reduceAdd,Array.replicate_succ,Array.replicate_zero,List.push_toArray,List.nil_append,List.cons_append];refine wpAnyH_take (i:=4) (v:=.int .i64 (G+1)) rfl yy yy yy (fun _ _ _ h=>h) (Or.inl ⟨by rfl,fun w' _=>by rcases y with rfl|rfl<;>rfl⟩) R ?_;simp only[Act.put,List.getElem_toArray,List.getElem_cons_succ,List.getElem_cons_zero,List.setIfInBounds_toArray,List.set_cons_zero,List.set_cons_succ,List.size_toArray,List.length_cons,List.length_nil,Nat.reduceAdd,Array.replicate_succ,Array.replicate_zero,List.push_toArray,List.nil_append,List.cons_append];refine wpAnyH_all (rs:=[7]) yy yq ?_;intro q T;obtain rfl:q=7:=by simpa using T
       obtain⟨L,A2,A9,U⟩:=Q (.int .i64 (G+1));refine Z8 _ rfl yy (UJ 241 _ _ _ rfl (vm:=.map (some w.heap.size)) (vs:=goInt st) (v:=.int .i64 (G+1)) rfl rfl rfl A2) ?_;have o:L.rangeAt wr.heap.size 0 (k8 x.1):=Zn (Jb K) U (fun e=>A1 (Option.some.inj e));refine⟨o,wpAnyH_done yy ?_ _⟩;simp only[Act.put,List.getElem_toArray,List.getElem_cons_succ,List.getElem_cons_zero,List.setIfInBounds_toArray,List.set_cons_zero,List.set_cons_succ,List.size_toArray,List.length_cons,List.length_nil,Nat.reduceAdd,Array.replicate_succ,Array.replicate_zero,List.push_toArray,List.nil_append,List.cons_append]
     case' inl=>
       refine zB _ rfl yy (ex_lookup 241 _ _ false rfl (vm:=.map (some w.heap.size)) (vk:=ZX x.1) rfl rfl (MapV.look keyEnc underlying241 JI A8.drew H)) ?_;rw[C.out];refine⟨(Jb K),?_⟩;simp only[Act.put,List.getElem_toArray,List.getElem_cons_succ,List.getElem_cons_zero,List.setIfInBounds_toArray,List.set_cons_zero,List.set_cons_succ,List.size_toArray,List.length_cons,List.length_nil,Nat.reduceAdd,Array.replicate_succ,Array.replicate_zero,List.push_toArray,List.nil_append,List.cons_append];refine wpAnyH_take (i:=4) (v:=.int .i64 (G+1)) rfl yy yy yy (fun _ _ _ h=>h) (Or.inl ⟨by rfl,fun w' _=>by rcases y with rfl|rfl<;>rfl⟩) (Jb K) ?_;simp only[Act.put,List.getElem_toArray,List.getElem_cons_succ,List.getElem_cons_zero,List.setIfInBounds_toArray,List.set_cons_zero,List.set_cons_succ,List.size_toArray,List.length_cons,List.length_nil,Nat.reduceAdd,Array.replicate_succ,Array.replicate_zero,List.push_toArray,List.nil_append,List.cons_append];refine wpAnyH_all (rs:=[5]) yy yq ?_;intro q T;obtain rfl:q=5:=by simpa using T
       refine zB _ rfl yy (ex_mapEntry 241 _ _ rfl (vm:=.map (some w.heap.size)) (vk:=ZX x.1) rfl rfl z) ?_;rw[C.out];refine⟨R,?_⟩;simp only[Act.put,List.getElem_toArray,List.getElem_cons_succ,List.getElem_cons_zero,List.setIfInBounds_toArray,List.set_cons_zero,List.set_cons_succ,List.size_toArray,List.length_cons,List.length_nil,Nat.reduceAdd,Array.replicate_succ,Array.replicate_zero,List.push_toArray,List.nil_append,List.cons_append];refine wpAnyH_take (i:=6) (v:=goInt st) rfl yy yy yy (fun _ _ _ h=>h) (Or.inl ⟨by rfl,fun w' _=>by rfl⟩) R ?_;simp only[Act.put,List.getElem_toArray,List.getElem_cons_succ,List.getElem_cons_zero,List.setIfInBounds_toArray,List.set_cons_zero,List.set_cons_succ,List.size_toArray,List.length_cons,List.length_nil,Nat.reduceAdd,Array.replicate_succ,Array.replicate_zero,List.push_toArray,List.nil_append,List.cons_append];refine wpAnyH_all (rs:=[7]) yy yq ?_;intro q T;obtain rfl:q=7:=by simpa using T
       obtain⟨L,A2,A9,U⟩:=Q (.int .i64 (G+1));refine Z8 _ rfl yy (UJ 241 _ _ _ rfl (vm:=.map (some w.heap.size)) (vs:=goInt st) (v:=.int .i64 (G+1)) rfl rfl rfl A2) ?_;have o:L.rangeAt wr.heap.size 0 (k8 x.1):=Zn (Jb K) U (fun e=>A1 (Option.some.inj e));refine⟨o,wpAnyH_done yy ?_ _⟩;simp only[Act.put,List.getElem_toArray,List.getElem_cons_succ,List.getElem_cons_zero,List.setIfInBounds_toArray,List.set_cons_zero,List.set_cons_succ,List.size_toArray,List.length_cons,List.length_nil,Nat.reduceAdd,Array.replicate_succ,Array.replicate_zero,List.push_toArray,List.nil_append,List.cons_append]
     all_goals
       have J:=hid A9;have N:Hid (L.rangeAt wr.heap.size 0 (k8 x.1)):=o;have d:Hid (L.rangeAt wr.heap.size 0 (kT x)):=Zn (Jb s) U (fun e=>A1 (Option.some.inj e));have D:Hid (Below w.heap.size w L):=(m.trans (X.mono m.size)).drew.grown U (Nat.le_trans m.size X.size) (fun k e=>by cases e;exact Nat.le_refl _);have f:Hid (Glob L):=hg.next D.out;clear A9 o U A2 Q z Ae Ad R K s A8 X Ac hM;rcases y with rfl|rfl
       ·have Af:=Y.1 rfl;have g:=hid Af;clear Af Y I C;cases hgd:vt x.2.2.1 x.2.2.2 with
        |true=>
         have M:=good_any x L F.out f.out;rw[hgd] at M;have A4:=hid hgd;clear hgd E
         go_wp2_with (first
            |(refine k5 yx (kc 89 _ rfl (p:=⟨wr.heap.size,0,none⟩) rfl (run_loadVar_mid L _ _ _ (k8 x.1) _ N.out underlying89 rfl (by rw[k9 H];exact Q9))) ?_)
            |(refine k5 yx (kc 135 _ rfl (p:=⟨wr.heap.size,0,none⟩) rfl (run_loadVar_mid L _ _ _ (kT x) _ d.out underlying135 rfl (by rw[j2 F.out];exact uD))) ?_)
            |(refine ZW rfl _ _ 241 rfl 3 keyEnc underlying241 (.int .i64 0) (JI _) rfl J.out x.1 H rfl ?_;simp only[if_true,Option.getD_some])
            |(go_at_call 123;refine M.mono ?_;rintro e w5 ⟨V,rfl⟩;have A5:=hid (J.below V);have O:=hid (D.trans (V.mono D.size));clear V))
         go_roundw
         case rel=>exact⟨i+1,by omega,by go_num,O.out,hid (by rw[a.out];exact right_snoc hR.out g.out A4.out),n0+1,by omega,hid (by rw[a.out,←cntM_snoc g.out];exact A5.out)⟩
         case measure=>simp [intOf];omega
        |false=>
         have M:=good_any x L F.out f.out;rw[hgd] at M;have Ag:=E.out hgd;have P:=hid Ag;clear hgd E Ag
         go_wp2_with (first
            |(refine k5 yx (kc 89 _ rfl (p:=⟨wr.heap.size,0,none⟩) rfl (run_loadVar_mid L _ _ _ (k8 x.1) _ N.out underlying89 rfl (by rw[k9 H];exact Q9))) ?_)
            |(refine k5 yx (kc 135 _ rfl (p:=⟨wr.heap.size,0,none⟩) rfl (run_loadVar_mid L _ _ _ (kT x) _ d.out underlying135 rfl (by rw[j2 F.out];exact uD))) ?_)
            |(refine ZW rfl _ _ 241 rfl 3 keyEnc underlying241 (.int .i64 0) (JI _) rfl J.out x.1 H rfl ?_;simp only[if_true,Option.getD_some])
            |(go_at_call 123;refine M.mono ?_;rintro e w5 ⟨V,rfl⟩;have O:=hid (D.trans (V.mono D.size));clear V))
         go_ret;exact⟨O.out,by rw[P.out];rfl⟩
       ·have Ah:=I.out (Classical.byContradiction fun n=>absurd (Y.2 n) yv);have P:=hid Ah;clear Ah Y I C E
        go_wp2_with (first
          |(refine k5 yx (kc 89 _ rfl (p:=⟨wr.heap.size,0,none⟩) rfl (run_loadVar_mid L _ _ _ (k8 x.1) _ N.out underlying89 rfl (by rw[k9 H];exact Q9))) ?_)
          |(refine ZW rfl _ _ 241 rfl 3 keyEnc underlying241 (.int .i64 0) (JI _) rfl J.out x.1 H rfl ?_;simp only[if_true,Option.getD_some]))
        go_ret;exact⟨D.out,by rw[P.out];rfl⟩
    ·go_wp2_with fail;go_ret;have e:l.take i=l:=List.take_of_length_le yz;have Ai:=hR.out;rw[e] at Ai;exact⟨m,by rw[UO.2 Ai];rfl⟩
end
theorem freshGo_form(l:List UInt8)(T:List (List UInt8)):∀(f n:Nat) (t:List UInt8),vr l T f n t=t∨∃m,n≤m∧m<n+f∧vr l T f n t=Zq l m:=by
  intro f
  induction f with
  |zero=>intro n t;exact .inl rfl
  |succ f ih=>
   intro n t;unfold vr
   split
   ·rcases ih (n+1) (Zq l n) with h|⟨m,B,C,A⟩
    ·exact .inr ⟨n,Nat.le_refl _,by omega,h⟩
    ·exact .inr ⟨m,by omega,by omega,A⟩
   ·exact .inl rfl
theorem candS_length(l:List UInt8)(n:Nat):(Zq l n).length=l.length+1+(Lib.decDigits n).length:=by
  have A:=congrArg List.length (Kj l);rw[List.length_append] at A;simp only[Zq,List.length_append,List.length_cons,List.length_nil];omega
theorem freshS_length(l:List UInt8)(T:List (List UInt8))(h:T.length≤97):l.length≤(vD l T).length∧(vD l T).length≤l.length+3:=by
  unfold vD;rcases freshGo_form l T (T.length+2) 1 l with e|⟨m,A,B,e⟩
  ·rw[e];omega
  ·rw[e,candS_length];have:=UE (k:=m) yz;omega
def Qa(f:kF→Option kS)(r:List (kF×List UInt8))(d:kF)(T:List (List UInt8)):List (kF×List UInt8):=
  match f d with
  |some c=>if c.2.2.1=5 then r else r++[(d,vD (L c.2.2.2) (T++r.map (·.2)))]
  |none=>r
theorem ZK(f:kF→Option kS)(d:kF):∀(ds:List kF) (T:List (List UInt8)),KT f (ds++[d]) T=Qa f (KT f ds T) d T
  | [],T=>by
    unfold Qa;simp only[List.nil_append,KT,List.map_nil,List.append_nil]
    try (cases f d<;>rfl)
  |e::r,T=>by
   rw[List.cons_append];unfold KT;cases h:f e with
   |none=>exact ZK f d r T
   |some c=>
    by_cases hk:c.2.2.1=5
    ·simp only[hk,if_true];exact ZK f d r T
    ·simp only[hk,if_false];rw[ZK f d r _];unfold Qa;cases f d with
     |none=>rfl
     |some c'=>
      simp only
      split
      ·rfl
      ·simp
theorem JY(f:kF→Option kS):∀(ds:List kF) (T:List (List UInt8)),(KT f ds T).length≤ds.length
  | [],_=>by simp [KT]
  |e::r,T=>by
   unfold KT;cases h:f e with
   |none=>have:=JY f r T;simp;omega
   |some c=>
    simp only
    split
    ·have:=JY f r T;simp;omega
    ·have:=JY f r (T++[vD (L c.2.2.2) T]);simp;omega
theorem insK_length(k:kF):∀l:List kF,(Qh k l).length≤l.length+1
  | []=>by simp [Qh]
  |y::l=>by
   unfold Qh
   split
   ·simp
   ·split
    ·simp
    ·have:=insK_length k l;simp;omega
theorem Qb:∀l:List kF,(UC l).length≤l.length
  | []=>by simp [UC]
  |y::l=>by
   have h1:=insK_length y (UC l);have A:=Qb l;show (Qh y (UC l)).length≤_;simp;omega
theorem Qc(l:List kS):(docsS l).length≤l.length:=by
  have:=Qb (l.map (·.2.1));unfold docsS;simpa using this
section
open Go.RowKit Go.Maps Go.Shelf Go.Sort
open Lib (hid)
theorem QA:(prog.info? 91).map (fun i=>(i.zero,i.size,i.bytes))=some (some (.agg (jW ((0,k7,0),ByteArray.empty)).toArray),35,64):=by kernel_rfl
theorem strInfo:(prog.info? 9).map (fun i=>(i.zero,i.size,i.bytes))=some (some (.string ByteArray.empty),1,16):=by kernel_rfl
theorem named_built{d:kF}(p:ByteArray)(hd:kN d):prog.built 91 [(0,.agg (k8 d).toArray),(1,.string p)]=some (jW (d,p)).toArray:=by
  obtain⟨i,B,C,_,_⟩:=info_parts QA;have D:(k8 (0,k7,0)).length=34:=rfl;have h:=zl (P:=prog) B underlying91 C [k8 (0,k7,0),[.string ByteArray.empty]] rfl (places:=[(0,34),(34,1)]) yy yy [(0,.agg (k8 d).toArray),(1,.string p)] (by
    intro q A;simp only[List.mem_cons,List.not_mem_nil,or_false] at A;rcases A with rfl|rfl
    ·exact⟨by show 0<2;omega,by show (k8 d).toArray.size=34;rw[List.size_toArray,k9 hd]⟩
    ·exact⟨by show 1<2;omega,rfl⟩)
  rw[h];simp [jW,Value.cells]
section
variable {w w':World} {base n k size size2:Nat} {e e2:TypeId} {v v2:Value} {xs ys:List Value}
theorem rows_apart(h:w.ownsRow base e size v n xs)(h2:w.ownsRow base e2 size2 v2 k ys)(hne:e≠e2):v2.ownBlock=none∨v2.ownBlock≠v.ownBlock:=by
  rcases h.2 with⟨rfl,_⟩|⟨g,F,G,rfl,_,E,_⟩
  ·rcases h2.2 with⟨rfl,_⟩|⟨D,B,C,rfl,_⟩
   ·exact .inl rfl
   ·exact .inr (by simp [Value.ownBlock])
  ·rcases h2.2 with⟨rfl,_⟩|⟨D,B,C,rfl,_,A,_⟩
   ·exact .inl rfl
   ·refine .inr fun q=>?_
    have:D=g:=by simpa [Value.ownBlock] using q
    subst this;rw[E] at A;simp at A;exact hne A.2
end
theorem strs_app(a:List ByteArray)(b:ByteArray):strs (a++[b])=strs a++[.string b]:=by simp [strs]
theorem vi{w w':World}{base n size:Nat}{e:TypeId}{v:Value}{xs:List Value}(h:w.ownsRow base e size v n xs)(hb:Below w.heap.size w w'):w'.ownsRow base e size v n xs:=by
  refine⟨h.1,?_⟩;rcases h.2 with E|⟨g,A,B,F,C,D,rest⟩
  ·exact .inl E
  ·exact .inr ⟨g,A,B,F,C,(hb.block g (Array.getElem?_eq_some_iff.1 D).1).trans D,rest⟩
theorem K4{w:World}{base n size:Nat}{e:TypeId}{v:Value}{xs:List Value}(h:w.ownsRow base e size v n xs)(o:Obj):(w.alloc o).ownsRow base e size v n xs:=vi h ((Below.refl _ _).alloc (Nat.le_refl _) _)
theorem own_shape{w:World}{base n size:Nat}{e:TypeId}{v:Value}{xs:List Value}(h:w.ownsRow base e size v n xs):∃A c,v=.slice A n c:=by
  rcases h.2 with⟨rfl,rfl⟩|⟨g,B,C,rfl,_⟩
  ·exact⟨_,_,rfl⟩
  ·exact⟨_,_,rfl⟩
theorem KeyBox.below{w w':World}{B:Nat}{k:kF}(h:KeyBox w B k)(hb:Below w.heap.size w w'):KeyBox w' B k:=(hb.block B (Array.getElem?_eq_some_iff.1 h).1).trans h
theorem KeyBox.alloc{w:World}{B:Nat}{k:kF}(h:KeyBox w B k)(o:Obj):KeyBox (w.alloc o) B k:=h.below ((Below.refl _ _).alloc (Nat.le_refl _) _)
theorem KeyBox.grown{w w':World}{base B n size:Nat}{e:TypeId}{v:Value}{xs:List Value}{k:kF}(h:KeyBox w B k)(hr:w.ownsRow base e size v n xs)(hne:e≠89)(hg:w.grownBy w' v.ownBlock):KeyBox w' B k:=by
  refine(hg.block B (Array.getElem?_eq_some_iff.1 h).1 fun q=>?_).trans h;rcases hr.2 with⟨rfl,_⟩|⟨g,C,D,rfl,_,A,_⟩
  ·simp [Value.ownBlock] at q
  ·have:B=g:=by simpa [Value.ownBlock] using q
   subst this;rw[show w.heap[B]?=_ from h] at A;simp at A;exact hne A.2.symm
def PathsAt(f:kF→Option kS)(ds:List kF)(base:Nat)(i:Nat)(v5 v6:Value)(wr:World):Prop:=
  ∃r:List vF,(r.map fun x=>(x.1,L x.2))=KT f (ds.take i) []∧wr.ownsRow base 91 35 v5 r.length (ke jW r)∧wr.ownsRow base 9 1 v6 r.length (strs (r.map (·.2)))∧
   (∀x∈r,kN x.1∧x.2.size≤1099511627776)∧r.length≤i
theorem docs_sorted{l:List kS}(hok:∀x∈l,Kf x){ss:List JX}(h:q9 (JW l) ss):(ordS ss).map (·.1)=docsS l:=by
  refine Rising.ext (ordS_rising h.1) (qg _) fun k=>?_
  unfold docsS;rw[Qi,List.mem_map];constructor
  ·rintro⟨x,C,rfl⟩;have:=(ordS_mem h x).1 C;unfold JW at this;rw[Option.isSome_map] at this;rcases hq:Kk l x.1 with _ |c
   ·rw[hq] at this;cases this
   ·obtain⟨D,E,_⟩:=U7 hq;exact List.mem_map.2 ⟨c,D,E⟩
  ·intro F;obtain⟨c,A,rfl⟩:=List.mem_map.1 F;refine⟨⟨c.2.1,(hok c A).2.1⟩,(ordS_mem h _).2 ?_,rfl⟩;unfold JW;rw[Option.isSome_map];obtain⟨G,B⟩:=QH A rfl;rw[B];rfl
theorem paths_any(l:List kS)(A:Option Addr)(c:Nat)(w:World)(hl:l.length≤90)(hok:∀x∈l,Kf x)(hsm:∀x∈l,x.2.2.2.size≤1073741824)(hsl:Sl w w.heap.size A l.length 70 (ke kT l))(hg:Glob w):
    Calls prog 35 #[.slice A l.length c] w fun e w'=>Below w.heap.size w w'∧∃A' c' r,e=.returned (.slice A' r.length c')∧(r.map fun x:vF=>(x.1,L x.2))=uN l∧(∀x∈r,kN x.1∧x.2.size≤1099511627776)∧Sl w' w'.heap.size A' r.length 35 (ke jW r):=by
  have Ad:=hid hsl;have G:=hid hok;have Ae:=hid hsm
  have g:=regRight_any l A c w yz hok hsl hg;clear hsl hok hsm;go_enter func35,ntmps35;go_wp2_with fail;refine g.mono ?_;rintro e y ⟨h,rfl⟩;clear g;have N:=hid h;have T:=lasts_any l A c y yz G.out ((Ad.keep h).more h.size);have Be:=h.size;clear h;cases hr:UN l with
  |false=>
   have q:=hid hr;clear hr T;go_wp2_with fail;go_ret;exact⟨N.out,none,0,[],rfl,by unfold uN;rw[q.out];rfl,fun x D=>absurd D yq,Sl.nil⟩
  |true=>
   have q:=hid hr;clear hr;go_wp2_with fail;refine T.mono ?_;rintro e w2 ⟨AA,rfl,nn,AT,hM⟩;clear T;have HM:=hid hM;have A0:(w2.alloc (.cells #[.map (some y.heap.size)] 159)).cell? ⟨w2.heap.size,0,none⟩=some (.map (some y.heap.size)):=by rw[World.cell?_alloc_new];rfl
   have A1:=sorted_keys y.heap.size nn (JW l) (w2.alloc (.cells #[.map (some y.heap.size)] 159)) yz (hM.alloc _) w2.heap.size A0;have A2:=callsIn_wide.1 (keysSeq_in Fence.wide 5 trivial rfl (some y.heap.size) w2);have O:=hid (N.trans (AA.mono N.size));clear hM A0 AA
   go_wp2_with (go_at_call 76;refine A2.mono ?_;rintro e w3 ⟨rfl,rfl⟩)
   refine A1.mono ?_;rintro e I ⟨An,A4,c4,F,⟨ss,AB,m⟩,rfl,Ao⟩;rw[docs_sorted G.out AB] at m;clear A1 A2;have AC:MapV I prog 89 kN uP y.heap.size nn (JW l):=(HM.alloc _).below An;have AD:Below w.heap.size w I:=(O.alloc O.size _).trans (An.mono (Nat.le_trans O.size yq));have AE:∀d∈F,kN d∧∃K,Kk l d=some K:=by
      intro d hd;rw[m] at hd;unfold docsS at hd;rw[Qi] at hd;obtain⟨x,D,rfl⟩:=List.mem_map.1 hd;exact⟨(G.out x D).2.1,QH D rfl⟩
   have Bf:F.length≤90:=by rw[m];have:=Qc l;omega
   have Af:=hid m;have s:=hid Ao;have Ag:=hid AC;have a:=hid AD;have f:=hid AE
   clear m Ao AC AD AE AB HM An AT;go_wp2_with fail
   go_loopw [5,6,21] (fun v5 v6 t wr=>∃i:Nat,i≤F.length∧t=.int .i64 i∧Below I.heap.size I wr∧Hid (PathsAt (Kk l) F I.heap.size i v5 v6 wr)) (fun _ _ t _=>F.length - (intOf t).toNat)
   case atStart=>exact⟨0,by omega,rfl,Below.refl _ _,hid ⟨[],by simp [KT],⟨by simp [ke],.inl ⟨rfl,rfl⟩⟩,⟨by simp [strs],.inl ⟨rfl,rfl⟩⟩,fun x D=>absurd D yq,Nat.le_refl _⟩⟩
   case round=>
      obtain⟨i,hi,rfl,M,hP⟩:=hrel;by_cases hlt:i<F.length
      ·obtain⟨b,Bg,rfl,Bh,Ap⟩:=(s.keep M).2 yz;have i0:(0:Int)≤(i:Int):=by omega
       have i1:(i:Int)<(F.length:Int):=by omega
       have Aq:=Sl.row (fun x D=>k9 (f.out x D).1) Ap hlt;obtain⟨J,K,U⟩:=f.out _ (List.getElem_mem hlt);have Ar:F.take (i+1)=F.take i++[F[i]]:=List.take_succ_eq_append_getElem hlt;have A3:Kf K:=G.out K (U7 U).1;have Bc:K.2.2.2.size≤1073741824:=Ae.out K (U7 U).1;obtain⟨r,n,W,A7,A8,AU⟩:=hP.out;have C:=ZK (Kk l) F[i] (F.take i) [];rw[←Ar] at C;unfold Qa at C;rw[U] at C;simp only[List.nil_append] at C;have AF:JW l F[i]=some (Ze K):=by unfold JW;rw[U];rfl
       have AR:=hid Ap;have v:=hid Aq;have AS:=hid Ar;have Ah:=hid AF
       have P:=hid A3;have H:=hid C;have Q:=hid n;have R:=hid A8
       clear Ap Aq Ar AF A3 C n A8 U hP;generalize F[i]=d at *;obtain⟨A6,c6,rfl⟩:=own_shape A7;have Ai:=hid W;have Aj:=hid A7
       clear W A7
       go_upto_region 10 with (first
         |(refine j9 rfl 89 _ rfl b _ rfl (k8 d) _ v.out underlying89 rfl (by rw[k9 J];exact KV) ?_)
         |(refine Kw (B:=wr.heap.size) (w0:=wr) rfl 89 _ _ rfl wr.heap.size _ rfl rfl 89 _ (heap_alloc_new _ _) (Ky J) (by rw[List.size_toArray,List.size_toArray,k9 J];rfl) (by simpa using j4 d) ((Below.refl _ _).alloc (Nat.le_refl _) _) (Nat.le_refl _) ?_;intro W2 z A9 _))
       have AV:=hid ((Ag.below M).below z);have AG:KeyBox W2 wr.heap.size d:=A9;have AH:wr.heap.size<W2.heap.size:=(Array.getElem?_eq_some_iff.1 A9).1;have AI:∀j u,(k8 d)[j]?=some u→W2.cell? ⟨wr.heap.size,0+j,none⟩=some u:=fun j u hj=>by rw[Nat.zero_add];exact(jt A9 j).trans hj
       have K2:=hid AG;have Z2:=hid AH;have R2:=hid AI;have B2:=hid z
       clear AG AH AI z A9
       go_upto_region 11 with (first
         |(refine j9 rfl 89 _ rfl wr.heap.size 0 rfl (k8 d) _ R2.out underlying89 rfl (by rw[k9 J];exact KV) ?_)
         |(refine ZW rfl _ _ 159 rfl 135 keyEnc underlying159 (Ze zeroC) (Uu _) rfl AV.out d J rfl ?_;rw[Ah.out];simp only[Option.getD_some])
         |(refine Kw (B:=W2.heap.size) (w0:=W2) rfl 135 _ _ rfl W2.heap.size _ rfl rfl 135 _ (heap_alloc_new _ _) (by rw[List.size_toArray,j2 P.out];exact Zf) (by rw[show (kT K).toArray.size=70 by rw[List.size_toArray,j2 P.out]];rfl) (by simpa using Ju K) ((Below.refl _ _).alloc (Nat.le_refl _) _) (Nat.le_refl _) ?_;intro W3 X As _))
       obtain⟨AJ,AK⟩:=UT P.out;have AW:=(jt As 68).trans AJ;have Bi:=(jt As 69).trans AK;have K3:=hid (K2.below X);have Aa:Below wr.heap.size wr W3:=B2.trans (X.mono (by have:=Z2.out;omega));have S:=hid Aa;have Z3:=hid (Nat.lt_of_lt_of_le Z2.out X.size)
       have AL:=hid (vi Ai.out Aa);have At:=hid (vi Aj.out Aa)
       clear AJ AK As Aa X;by_cases hk5:K.2.2.1=5
       ·have V:=H.out;rw[if_pos hk5] at V;have E:=hid V;rw[hk5] at AW;clear V H hk5;go_wp2_with fail
        go_roundw
        case rel=>exact⟨i+1,by omega,by go_num,M.trans (S.mono M.size),hid ⟨r,by rw[Q.out,E.out],AL.out,At.out,R.out,by omega⟩⟩
        case measure=>simp [intOf];omega
       ·have V:=H.out;rw[if_neg hk5] at V;have E:=hid V;have Bd:((K.2.2.1:Int) == 5)=false:=by rw[beq_eq_false_iff_ne];omega
        have Au:Ls (r.map (·.2))=(KT (Kk l) (F.take i) []).map (·.2):=by rw[←Q.out];simp [Ls]
        have Av:=fresh_any K.2.2.2 (r.map (·.2)) A6 c6 W3 yz (by rw[List.length_map];omega) (fun t ht=>by
          obtain⟨x,D,rfl⟩:=List.mem_map.1 ht;have:=(R.out x D).2;omega) (by rw[List.length_map];exact(Sl.of_own At.out))
        have Aw:=freshS_length (L K.2.2.2) (Ls (r.map (·.2))) (by simp [Ls];omega);rw[List.length_map,Au] at Av;rw[Au,ji] at Aw;have Ak:=hid Aw;clear V H hk5 Au Aw
        go_upto_region 13 with (go_at_call 79;refine Av.mono ?_;rintro e w5 ⟨o,p,rfl,hp⟩)
        have AX:p.size≤1099511627776:=by have h1:=congrArg List.length hp;rw[ji] at h1;have:=Ak.2;omega
        have AM:=hid (vi AL.out o);have Ab:=hid (vi At.out o);have K5:=hid (K3.below o)
        have B5:Hid (Below I.heap.size I w5):=(M.trans (S.mono M.size)).trans (o.mono (Nat.le_trans M.size S.size));have HP:=hid hp;have Bj:=B5.size;clear hp o Av;obtain⟨is,AY,AZ,B0,B1⟩:=info_parts strInfo;obtain⟨im,B3,B4,B8,B9⟩:=info_parts QA;have q1:r.length+1≤maxLen:=by unfold maxLen;omega
        have q2:(r.length+1)*16≤140737488355328:=by omega
        have q3:(r.length+1)*64≤140737488355328:=by omega
        go_upto_region 14 with (at_builtin;refine wpList_append_own _ rfl _ _ 52 rfl I.heap.size 9 is (.string ByteArray.empty) 1 16 underlying52 AY AZ B0 B1 rfl yv _ _ _ rfl (K4 Ab.out _) ⟨w5.heap.size,0,none⟩ 1 1 [.string p] rfl rfl (cell_one_new _ _ _) (by simp [Value.oneCell']) q1 q2 yj ?_;intro v6 Y Ac AN _)
        have Z:(w5.alloc (.cells #[.string p] 9)).grownBy Y (Value.slice A6 r.length c6).ownBlock:=AN;have Ax:Hid (Y.ownsRow I.heap.size 91 35 u5 r.length (ke jW r)):=(K4 AM.out (.cells #[.string p] 9)).kept Z (rows_apart (K4 Ab.out (.cells #[.string p] 9)) (K4 AM.out (.cells #[.string p] 9)) yv);have K6:Hid (KeyBox Y wr.heap.size d):=(K5.alloc (.cells #[.string p] 9)).grown (K4 Ab.out (.cells #[.string p] 9)) yv Z;have B6:Hid (Below I.heap.size I Y):=(B5.alloc B5.size _).grown Z yj (fun k e=>((K4 Ab.out (.cells #[.string p] 9)).lt k e).1);have AO:=hid Ac;have Bk:=B6.size;have Al:=hid (named_built p J);have C6:Hid (∀j u,(k8 d)[j]?=some u→Y.cell? ⟨wr.heap.size,0+j,none⟩=some u):=fun j u hj=>by rw[Nat.zero_add];exact(jt K6.out j).trans (by simpa using hj)
        have AP:(jW (d,p)).length=35:=vG ⟨J,by show p.size≤maxLen;unfold maxLen;omega⟩;have Am:Hid (∀j u,(jW (d,p))[j]?=some u→(Y.alloc (.cells (jW (d,p)).toArray 91)).cell? ((⟨Y.heap.size,0,none⟩:Addr).add j)=some u):=by
          intro j u hj;rw[Addr.add_mid,jt (heap_alloc_new _ _)]
          simpa using hj
        clear Ac AN Z
        go_wp2_with (first
          |(refine j9 rfl 89 _ rfl wr.heap.size 0 rfl (k8 d) _ C6.out underlying89 rfl (by rw[k9 J];exact KV) ?_)
          |((with_reducible refine wpList_buildTo rfl 91 _ rfl _ rfl (jW (d,p)).toArray ?_ ?_)
            ·simp only[List.map_toArray,List.map_cons,List.map_nil];exact Al.out)
          |(refine jJ yx 79 _ rfl 91 underlying79 (.agg (jW ((0,k7,0),ByteArray.empty)).toArray) 35 64 QA rfl yv yv (jW (d,p)) AP rfl ?_)
          |(at_builtin;refine wpList_append_own _ rfl _ _ 79 rfl I.heap.size 91 im (.agg (jW ((0,k7,0),ByteArray.empty)).toArray) 35 64 underlying79 B3 B4 B8 B9 rfl yv _ _ _ rfl (K4 Ax.out _) ⟨Y.heap.size,0,none⟩ 1 1 (jW (d,p)) rfl (by rw[AP]) Am.out (namedV_one (d,p)) q1 q3 yj ?_;intro v5 w7 Az Ba _))
        have Ay:(Y.alloc (.cells (jW (d,p)).toArray 91)).grownBy w7 u5.ownBlock:=Ba;have Bb:=(K4 AO.out (.cells (jW (d,p)).toArray 91)).kept Ay (rows_apart (K4 Ax.out (.cells (jW (d,p)).toArray 91)) (K4 AO.out (.cells (jW (d,p)).toArray 91)) yv);have B7:RowKit.Below I.heap.size I w7:=(B6.alloc B6.size _).grown Ay yj (fun k e=>((K4 Ax.out (.cells (jW (d,p)).toArray 91)).lt k e).1)
        go_roundw
        case rel=>
          refine⟨i+1,by omega,by go_num,B7,hid ⟨r++[(d,p)],?_,?_,?_,?_,?_⟩⟩
          ·rw[List.map_append,Q.out,E.out,List.map_cons,List.map_nil,HP.out]
          ·rw[List.length_append,Z7,show ke jW [(d,p)]=jW (d,p) by simp [ke]];exact Az
          ·rw[List.length_append,List.map_append,List.map_cons,List.map_nil,strs_app];exact Bb
          ·intro x D;rcases List.mem_append.1 D with D|D
           ·exact R.out x D
           ·rw[List.mem_singleton.1 D];exact⟨J,AX⟩
          ·simp;omega
        case measure=>simp [intOf];omega
      ·go_wp2_with fail;go_ret;obtain⟨r,n,W,A7,A8,AU⟩:=hP.out;rw[List.take_of_length_le yz] at n;obtain⟨A5,c5,AQ⟩:=own_shape W;refine⟨a.trans (M.mono a.size),A5,c5,r,by rw[AQ];rfl,?_,A8,?_⟩
       ·rw[n,Af.out];unfold uN;rw[q.out,if_pos rfl]
       ·rw[AQ] at W;exact Sl.of_own W
end
end Go.Proofs.YtdgbjhfkmembdaaGreatDoor