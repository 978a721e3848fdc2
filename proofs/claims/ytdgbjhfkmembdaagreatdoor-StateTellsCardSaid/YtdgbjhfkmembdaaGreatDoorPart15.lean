/-
  Facts and contracts that the walk needs. Conditions: as each says.
-/
import Derived.Test.YtdgbjhfkmembdaaGreatDoorPart14
import Derived.Test.YtdgbjhfkmembdaaGreatDoorPart11
import Derived.Test.YtdgbjhfkmembdaaGreatDoorPart13
import Derived.Test.YtdgbjhfkmembdaaGreatDoorPart7
import Derived.Test.YtdgbjhfkmembdaaGreatDoorPart8
import Derived.RangeFuncNested
import Derived.RangeFuncBound
import Derived.RangeFuncCalls
import Derived.RangeFuncLeaves
import Derived.Shelf.RegionOpen
import Derived.Sort.MapsRangeIn
import Derived.WalkKit
import Derived.OwnWalkIn
import Derived.TacticsInMore
import Derived.RegionIn
import Derived.LoopNIn
import Derived.LoopIn
import Derived.Maps.AppendAt
import Derived.Shelf.Abstract
import Derived.Carry
import Derived.Shelf.SlSortCmp.NoneTotal
import Derived.Test.YtdgbjhfkmembdaaGreatDoorLaySort
import Derived.WideKeyEntry
import Derived.OrdersHeld
set_option linter.unusedVariables false
set_option linter.unusedSimpArgs false
set_option maxHeartbeats 4000000
set_option maxRecDepth 100000
open Go.Proofs.Tryz
namespace Go.Proofs.YtdgbjhfkmembdaaGreatDoor
section
open Go.RowKit Go.Maps
open Lib (hid)
def AddGives(w:World)(B s:Nat)(S S':kj)(q:kV)(n:Int)(m:Nat)(e:Ending)(w':World):Prop:=e=.returned (.int .i64 n)∧∃q',StateAt w' B s S' q'∧But (StX s S q) w w'∧NewerX w s S S' q q'∧q'.nd≤q.nd+m
theorem AddGives.same{w w':World}{B s:Nat}{S:kj}{q:kV}{n:Int}{m:Nat}(h:StateAt w B s S q)(hb:Below w.heap.size w w'):AddGives w B s S S q n m (.returned (.int .i64 n)) w':=⟨rfl,q,h.keep hb,But.of_below hb,NewerX.refl _ _ _ _,Nat.le_add_right _ _⟩
def chC(t:Int)(Ad:Option Addr)(nd cd:Nat)(au:ByteArray)(Ao:Option Addr)(no co:Nat):List Value:=[.int .i64 t,.slice Ad nd cd,.string au,.slice Ao no co]
def obC(t:Int)(Ad:Option Addr)(nd cd:Nat)(au:ByteArray)(Ao:Option Addr)(no co:Nat):List Value:=.int .u8 1::(chC t Ad nd cd au Ao no co++[.slice none 0 0,.slice none 0 0,.string noneS,.string noneS,.int .i64 0])
theorem ub(t:Int)(Ad:Option Addr)(nd cd:Nat)(au:ByteArray)(Ao:Option Addr)(no co:Nat)(w:World):(Instr.build 70 #[(0,.int .u8 1),(1,.agg (chC t Ad nd cd au Ao no co).toArray)]).run prog w=.ok (.agg (obC t Ad nd cd au Ao no co).toArray) w:=yq
theorem U5(t:Int)(Ad:Option Addr)(nd cd:Nat)(au:ByteArray)(Ao:Option Addr)(no co:Nat):∀u∈chC t Ad nd cd au Ao no co,u.oneCell'=true:=by
  unfold chC;intro u A;simp only[xK,YY,or_false] at A;rcases A with rfl|rfl|rfl|rfl<;>rfl
theorem U6{w:World}{B:Nat}{c:ks}{Ad:Option Addr}{cd:Nat}{Ao:Option Addr}{co:Nat}(hok:Zj c)(hops:∀x∈c.2.2.2,KR x)(hau:c.2.2.1.size≤maxLen)(h1:Sl w B Ad c.2.1.length 32 (zB c.2.1))(h2:Sl w B Ao c.2.2.2.length 70 (kf opV c.2.2.2)):ObjIn w B (.agg (obC c.1 Ad c.2.1.length cd c.2.2.1 Ao c.2.2.2.length co).toArray) (1,c,kS):=
  ⟨⟨hok,(fun x A=>by cases A),(fun x A=>by cases A),(by decide:(Lit.int .i64 0).wf=true)⟩,hops,hau,(by show (0:Nat)≤maxLen;omega),(by show (0:Nat)≤maxLen;omega),Ad,cd,Ao,co,none,0,none,0,rfl,h1,h2,Sl.nil,Sl.nil⟩
theorem uH(o:vB):(idD o).length=32:=by
  unfold idD
  split
  ·exact Jp _
  ·simp
theorem JY{w:World}{zo:Nat}{v:Value}(h:w.heap[zo]?=some (.cells [v].toArray 29 (0,0))):(loadVar 29 ⟨zo,0,none⟩).run prog w=.ok v w:=load_err15 h
theorem sizeInt15:(prog.info? 3).map (·.size)=some 1:=yq
theorem textsN_snoc(l:List OpD){j:Nat}(hj:j<l.length):JX (l.take (j+1))=JX (l.take j)+zK l[j].2.2.2.1:=by
  unfold JX;rw[xj hj,List.map_append,List.sum_append];simp
theorem textsN_le(l:List OpD)(j:Nat):JX (l.take j)≤JX l:=by
  unfold JX
  conv=>rhs;rw[←List.take_append_drop j l]
  rw[List.map_append,List.sum_append];omega
theorem mid_st{t:TypeId}(h:midTag t=true):stTag t=false:=by
  unfold midTag at h;simp only[Bool.or_eq_true,beq_iff_eq] at h;rcases h with ((rfl|rfl)|rfl)|rfl<;>decide
theorem entry_built(t:Int)(A1:Option Addr)(n1 c1:Nat)(au:ByteArray)(A2:Option Addr)(n2 c2:Nat)(A3:Option Addr)(n3 c3:Nat)(w:World):(Instr.build 105 #[(0,.agg (chC t A1 n1 c1 au A2 n2 c2).toArray),(1,.slice A3 n3 c3)]).run prog w=.ok (.agg [.int .i64 t,.slice A1 n1 c1,.string au,.slice A2 n2 c2,.slice A3 n3 c3].toArray) w:=yq
theorem fitsAt_ns{S:kj}{i:List UInt8}{t:Int}:∀{l:List OpD} {m0 mk:List zD} {ns:List Nat},KG S i t m0 l=some (mk,ns)→m0.length≤mk.length∧∀n∈ns,n≤mk.length
  | [],m0,mk,ns,h=>by
    cases h
    exact⟨xY _,fun n A=>by cases A⟩
  |x::l,m0,mk,ns,h=>by
   unfold KG at h;cases hf:J7 S i t m0 x with
   |none=>rw[hf] at h;cases h
   |some mk2=>
    rw[hf] at h;dsimp only at h;obtain⟨p,hp,e⟩:=Option.map_eq_some_iff.1 h;obtain⟨E,F⟩:=p;cases e
    obtain⟨B,D⟩:=fitsAt_ns hp;have C:m0.length≤mk2.length:=by
        unfold J7 at hf
        split at hf
        ·cases hf;simp
        ·split at hf
         ·cases hf
         ·split at hf
          ·cases hf
          ·split at hf
           ·split at hf
            ·cases hf;exact xY _
            ·cases hf
           ·split at hf
            ·split at hf
             ·cases hf;simp
             ·cases hf
            ·cases hf;exact xY _
    refine⟨Nat.le_trans C B,fun n A=>?_⟩;rcases xK.1 A with rfl|A
    ·exact Nat.le_trans C B
    ·exact D n A
theorem StateAt.keepE{w w':World}{B s:Nat}{S:kj}{q:kV}{ze:Nat}{cur:Array Value}(h:StateAt w B s S q)(hb:But (fun k=>k=ze) w w')(he:w.heap[ze]?=some (.cells cur 29 (0,0))):StateAt w' B s S q:=by
  have C:∀{k:Nat} {cur:Array Value} {t:TypeId} {G:Nat×Nat},w.heap[k]?=some (.cells cur t G)→t≠29→¬k=ze:=fun D L e=>ji D he L e
  have H:∀{k:Nat},(∃x y,w.heap[k]?=some (.map x y))→¬k=ze:=fun D e=>JV he D e.symm
  have I:KeepR w w':=KeepR.but hb fun k M R T G J A=>by
    subst M;rw[he] at A;injection A with A;injection A with _ A;subst A;exact absurd J yj
  refine⟨(hb.block s (qX h.box) (C h.box yj)).trans h.box,h.low,hb.map h.mapD (H h.mapD_obj),hb.map h.mapC (H h.mapC_obj),h.ne,hb.own h.claims fun g N e=>?_,h.claimsOk,fun k d E=>⟨(h.docs k d E).1,(h.docs k d E).2.but hb (fun j O e=>?_) I⟩,h.apart,fun i e K=>⟨(h.entries i e K).1,(h.entries i e K).2.keep I⟩⟩
  ·obtain⟨P,F⟩:=kH h.claims N;exact C F yj e
  ·obtain⟨P,U,Q,F⟩:=(h.docs k d E).2.tagged O;exact C F (by rcases Q with rfl|rfl<;>decide) e
def QU(ns:List Nat):List Value:=ns.map fun (n:Nat)=>Value.int .i64 (n:Int)
theorem intsV_snoc(ns:List Nat)(n:Nat):QU (ns++[n])=QU ns++[.int .i64 (n:Int)]:=by simp [QU]
theorem opZ15(w:World):(zeroValue 112).run prog w=.ok (.agg (opV (0,ko,ko,noneS,0,noneS)).toArray) w:=yq
theorem infoInt15:(prog.info? 3).map (fun i=>(i.zero,i.size,i.bytes))=some (some (.int .i64 0),1,8):=yq
def adderZ:List Value:=Value.pointer none::(idV k9++[.int .i64 0,.slice none 0 0,.string noneS,.slice none 0 0,.slice none 0 0])
theorem infoAdder:(prog.info? 127).map (fun i=>(i.zero,i.size))=some (some (.agg adderZ.toArray),38):=yq
theorem adder_built(s:Nat)(i:List UInt8)(hi:jr i)(t:Int)(au:ByteArray)(A1 A2:Option Addr)(n1 c1 n2 c2:Nat)(w:World):(Instr.build 127 #[(0,.pointer (some ⟨s,0,none⟩)),(1,.agg (idV i).toArray),(2,.agg (chC t A1 n1 c1 au A2 n2 c2).toArray)]).run prog w=.ok (.agg (Value.pointer (some ⟨s,0,none⟩)::(idV i++[.int .i64 t,.slice A1 n1 c1,.string au,.slice A2 n2 c2,.slice none 0 0])).toArray) w:=by
  obtain⟨j,B⟩:∃j,prog.info? 127=some j:=by
    cases A:prog.info? 127 with
    |none=>have:=infoAdder;rw[A] at this;cases this
    |some j=>exact⟨j,rfl⟩
  have C:j.zero=some (.agg adderZ.toArray):=by
    have:=infoAdder;rw[B] at this;exact congrArg Prod.fst (Option.some.inj this)
  have h:=zl (P:=prog) B underlying127 C [[.pointer none],idV k9,chC 0 none 0 0 noneS none 0 0,[.slice none 0 0]] rfl (places:=[(0,1),(1,32),(33,4),(37,1)]) yq yq [(0,.pointer (some ⟨s,0,none⟩)),(1,.agg (idV i).toArray),(2,.agg (chC t A1 n1 c1 au A2 n2 c2).toArray)] (by
    intro q A;simp only[xK,YY,or_false] at A;rcases A with rfl|rfl|rfl
    ·exact⟨by show 0<4;omega,rfl⟩
    ·exact⟨by show 1<4;omega,by show (idV i).toArray.size=32;rw[xz,kn];exact hi⟩
    ·exact⟨by show 2<4;omega,rfl⟩)
  have D:=run_build (P:=prog) w 127 #[(0,.pointer (some ⟨s,0,none⟩)),(1,.agg (idV i).toArray),(2,.agg (chC t A1 n1 c1 au A2 n2 c2).toArray)] _ h;refine D.trans ?_;simp [Value.cells,chC]
theorem UB{P:Program}{fn:Func}{t1 t2:Array Value}{R:Ending→World→Prop}(h:∀w,(results fn t1).run P w=(results fn t2).run P w):∀(ds:List Deferred) (u:FrameMode) (w:World),Leaves P fn t1 R ds u w→Leaves P fn t2 R ds u w
  | [],.returning,w,⟨v,h1,h2⟩=>⟨v,(h w).symm.trans h1,h2⟩
  | [],.panicking _,w,h1=>h1
  |d::ds,u,w,⟨h0,fv,cap,f,args,h1,h2,h3⟩=>⟨h0,fv,cap,f,args,h1,h2,CallsD.mono h3 fun e u' w' hk=>by
    cases e with
    |returned v=>exact UB h ds _ _ hk
    |panicked c=>exact UB h ds _ _ hk
    |outgrown=>exact hk⟩
theorem results_six{fn:Func}{ty:TypeId}(h:fn.results=#[.cell 6 ty])(t:Array Value){k:Nat}(hk:k≠6)(v:Value)(w:World):(results fn (t.setIfInBounds k v)).run prog w=(results fn t).run prog w:=by
  have e:(t.setIfInBounds k v)[6]?.getD undef=t[6]?.getD undef:=by rw[Array.getElem?_setIfInBounds_ne hk]
  simp only[results,h];simp [e]
theorem jl{R:Ending→World→Prop}{k:Nat}{v:Value}{ch:List PanicEntry}{a:Act}{w:World}(hk:k≠6)(h:bodyPostD prog Tryz.f17 R (.panic ch) (a.put (some k) v) w):bodyPostD prog Tryz.f17 R (.panic ch) a w:=
  UB (fun w=>results_six results17 a.tmps hk v w) _ _ _ h
theorem addAt_have{S:kj}{is i:List UInt8}{c:ks}(h1:is=i)(h2:(kC S i).isSome=false):zX S is i c=(if c.2.1.all (fun d=>(kC S d).isSome)=false then ((12:Int),S) else if c.2.1.all (fun d=>decide (za S d<c.1))=false then (21,S) else match KG S i c.1 [] c.2.2.2 with
    |none=>(22,S)
    |some (mk,ns)=>(0,J8 i c.1 0 (S.1,S.2.1,S.2.2++[(i,c,mk)]) c.2.2.2 ns)):=by
  unfold zX;rw[if_neg (fun q=>q h1),if_neg (by rw[h2];decide)];rfl
theorem add_all(B s:Nat)(S:kj)(q:kV)(i:List UInt8)(c:ks)(Ad:Option Addr)(cd:Nat)(Ao:Option Addr)(co:Nat)(w:World)(h:StateAt w B s S q)(hi:jr i)(h1:Sl w w.heap.size Ad c.2.1.length 32 (zB c.2.1))(h2:Sl w w.heap.size Ao c.2.2.2.length 70 (kf opV c.2.2.2))(hf:QT S q c)(hg:Glob w)(hsg:ShaG w):Calls prog 17 #[.pointer (some ⟨s,0,none⟩),.agg (idV i).toArray,.agg (chC c.1 Ad c.2.1.length cd c.2.2.1 Ao c.2.2.2.length co).toArray] w fun e w'=>(qt c≠0∧AddGives w B s S S q (qt c) c.2.2.2.length e w')∨(qt c=0∧AddGives w B s S (zX S (idC c) i c).2 q (zX S (idC c) i c).1 c.2.2.2.length e w'):=by
  have Z:=hid h;have R:=hid hi;have H1:=hid h1;have H2:=hid h2;have G:=hid hf;have HG:=hid hg;have D9:=hid hsg
  have EE:∀(fn:Fn) (first cap:Array Value) (w:World),(Instr.makeFunc fn first cap).run prog w=.ok (.func fn first cap) w:=fun _ _ _ _=>rfl
  have DK:=kn i;have Dj:i.length=32:=hi;clear h hi h1 h2 hf hg hsg
  go_enter_defers func17,ntmps17
  go_upto_region 1 with (first
    |(with_reducible refine kG ?_
      refine kz yk 41 _ rfl (idV i) _ rfl rfl (by rw[DK,Dj];kernel_rfl) ?_;intro W0 By Bf Ch)
    |(with_reducible refine kG ?_
      refine kz yk 37 _ rfl (chC c.1 Ad c.2.1.length cd c.2.2.1 Ao c.2.2.2.length co) _ rfl rfl yq ?_;intro W1 B0 Bz Ci)
    |(with_reducible refine kF ?_
      refine wp_allocM1 yk 29 rfl (.int .i64 0) rfl (fun _=>by kernel_rfl) ?_;intro W2 Bg Bh Da))
  obtain⟨b4,CF⟩:=Xy w.heap.size;obtain⟨L,DL⟩:=Xy W0.heap.size;obtain⟨N,DM⟩:=Xy W1.heap.size;have A5:Hid (Below w.heap.size w W2):=hid ((Xx By.out B0.out).trans (Bg.mono (Xx By.out B0.out).size));have Aq:=hid ((Bg.block w.heap.size (qL (qX Bf.out) B0.size)).trans ((B0.block w.heap.size (qX Bf.out)).trans Bf.out));have B1:=hid ((Bg.block W0.heap.size (qX Bz.out)).trans Bz.out);rw[CF] at Aq ⊢;rw[DL] at B1 ⊢;rw[DM] at Bh ⊢;have HL:=hid (show w.heap.size≤b4∧w.heap.size≤L∧w.heap.size≤N∧b4<L∧L<N from by have:=Ch.out;have:=Ci.out;omega);have Db:=hid (Z.keep A5.out);clear By B0 Bg Ch Ci Da Bf Bz CF DL DM;have B2:=hid (show W2.rangeAt L 0 (chC c.1 Ad c.2.1.length cd c.2.2.1 Ao c.2.2.2.length co) from fun j u hj=>by rw[qZ];exact(k6 B1.out j).trans hj);have Cj:=hid (objId_any (1,c,kS) _ W2 (U6 (cd:=cd) (co:=co) G.ok G.ops G.author ((H1.keep A5.out).more A5.size) ((H2.keep A5.out).more A5.size)) (by have:=G.deps;show c.2.1.length≤_;omega) (by have:=G.len;show c.2.2.2.length≤_;omega) (by show (0:Nat)≤_;omega) (by show (0:Nat)≤_;omega) (HG.next A5.out) (D9.next A5.out) (hid rfl));have Dk:(idV (idD (1,c,kS))).length=32:=by rw[kn];exact uH _
  go_upto_region 4 with (first
    |(with_reducible refine k8 ?_
      refine k7 yk (kg 37 _ rfl (p:=⟨L,0,none⟩) rfl (qV _ L 0 _ _ _ B2.out underlying37 rfl yq)) ?_)
    |(with_reducible refine kL ?_
      refine k7 yk (kp 70 _ rfl (by simp only[xV,xX,Yy];exact ub _ _ _ _ _ _ _ _ _)) ?_)
    |(go_at_call 46;refine Cj.mono ?_;rintro e W3 ⟨rfl,Ca⟩;have Ay:=hid Ca;have Az:=hid ((Ca.block N (qX Bh.out)).trans Bh.out);clear Ca)
    |(with_reducible refine kF ?_
      refine kv yk 41 rfl (idV k9) yq ?_;intro W4 AA Ck DN;have BA:=hid ((AA.block N (qX Az.out)).trans Az.out))
    |(with_reducible refine kD ?_
      refine kr yk 41 _ _ rfl W3.heap.size 0 [] (idV k9) [] (idV (idD (1,c,kS))) 41 (.agg (idV (idD (1,c,kS))).toArray) rfl rfl rfl rfl (by simpa using Ck.out) (by rw[Dk];rfl) (by rw[Dk];kernel_rfl) (kW _) ?_;intro W5 BB Eh EF;have BC:Hid (W5.heap[W3.heap.size]?=some (.cells (idV (idD (1,c,kS))).toArray 41 (0,0))):=hid (by simpa using Eh.out);have Cl:=hid ((BB.block N (qX BA.out) (by have:=qX Az.out;omega)).trans BA.out))
    |(with_reducible refine kD ?_
      refine kr yk 29 _ _ rfl N 0 [] [.int .i64 0] [] [.int .i64 (vb (1,c,kS))] 29 (.int .i64 (vb (1,c,kS))) rfl rfl rfl rfl (by simpa using Cl.out) rfl yq (by intro u hu;rw[xZ.1 hu];rfl) ?_;intro W6 BD Ei EG;have A6:Hid (W6.heap[N]?=some (.cells [Value.int .i64 (vb (1,c,kS))].toArray 29 (0,0))):=hid (by simpa using Ei.out);have BE:=hid ((BD.block W3.heap.size (qX BC.out) (by have:=qX Az.out;omega)).trans BC.out)))
  obtain⟨b7,Ah⟩:=Xy W3.heap.size;rw[Ah] at BE ⊢;have C4:But (fun k=>k=N) W2 W6:=((But.of_below (Xx Ay.out AA.out)).trans BB.out fun k A e=>by have e2:k=W3.heap.size:=e;have:=Ay.size;omega).trans BD.out fun k A e=>e
  have CM:=hid C4;have T:Hid (Below w.heap.size w W6):=hid (A5.trans (C4.below A5.size fun k A e=>by have:=HL.out;omega));have AK:=hid ((C4.block b4 (qX Aq.out) (by have:=HL.out;omega)).trans Aq.out);have B9:=hid ((C4.block L (qX B1.out) (by have:=HL.out;omega)).trans B1.out);have Eg:=hid (show N<b7∧b7<W6.heap.size from⟨by have:=qX Az.out;omega,qX BE.out⟩);clear C4 Ay Az AA Ck BA BB BC Cl BD Ah Aq B1 Bh B2 Cj Db;have ce:W6.cell? ⟨N,0,none⟩=some (.int .i64 (vb (1,c,kS))):=k6 A6.out 0;by_cases hne:vb (1,c,kS)=0
  rotate_left
  ·have Dc:=hid hne
   go_wp2_with (first
     |(with_reducible refine kD ?_
       refine kr yk 29 _ _ rfl N 0 [] [.int .i64 (vb (1,c,kS))] [] [.int .i64 (vb (1,c,kS))] 29 (.int .i64 (vb (1,c,kS))) rfl rfl rfl rfl (by simpa using A6.out) rfl yq (by intro u hu;rw[xZ.1 hu];rfl) ?_;intro W7 Ah Ej EH;have Bi:=hid (Ah.below (B:=w.heap.size) T.size (fun k A e=>by have:=HL.out;omega));have A7:Hid (W7.heap[N]?=some (.cells [Value.int .i64 (vb (1,c,kS))].toArray 29 (0,0))):=hid (by simpa using Ej.out)))
   exact⟨_,jx results17 _ _ rfl (JY A7.out),.inl ⟨Dc.out,AddGives.same Z.out (T.trans Bi.out)⟩⟩
  have Ar:=hid hne;have DO:=hne;clear hne;rw[DO] at ce A6;clear DO CM;have Bj:Hid (jr (idD (1,c,kS))):=hid (uH _)
  go_upto_region 7 with fail
  clear ce;have BF:=hid (show W6.rangeAt b7 0 (idV (idD (1,c,kS))) from fun j u hj=>by rw[qZ];exact(k6 BE.out j).trans hj);have Ae:=hid (show W6.rangeAt b4 0 (idV i) from fun j u hj=>by rw[qZ];exact(k6 AK.out j).trans hj);have BG:=hid (Z.keep T.out);by_cases his:idD (1,c,kS)=i
  rotate_left
  ·have EQ:Hid (decide (idD (1,c,kS)=i)=false):=hid (dF his);have O:Hid (zX S (idC c) i c=(18,S)):=hid (by unfold zX;rw[if_pos (show idC c≠i from his)]);clear his
   go_wp2_with (first
     |(with_reducible refine k8 ?_
       refine k7 yk (ldD Bj.out BF.out) ?_;go_frame)
     |(with_reducible refine k8 ?_
       refine k7 yk (ldD R.out Ae.out) ?_;go_frame)
     |(with_reducible refine kU ?_
       refine k7 yk (eqD Bj.out R.out EQ.out) ?_;go_frame;try simp only[nTF])
     |(go_at_call 51;refine(Zk 18 _).mono ?_;rintro e wn ⟨rfl,Ax⟩;cases Ax))
   refine leaves_cons (f:=50) (args:=#[.pointer (some ⟨N,0,none⟩)]) yZ (by simp [go_sem]) ?_;refine(Uy N 18 0 _ A6.out).mono ?_;rintro e u' w9 ⟨rfl,AX,Bw,AI⟩;simp only[AX];refine⟨_,jx results17 _ _ rfl (JY Bw),?_⟩;refine .inr ⟨Ar.out,?_⟩;rw[O.out];exact AddGives.same Z.out (T.trans (AI.below T.size fun k A e=>by have:=HL.out;omega))
  have EQ:Hid (decide (idD (1,c,kS)=i)=true):=hid (dT his);have Cm:=hid his;clear his
  go_upto_region 8 with (first
    |(with_reducible refine k8 ?_
      refine k7 yk (ldD Bj.out BF.out) ?_;go_frame)
    |(with_reducible refine k8 ?_
      refine k7 yk (ldD R.out Ae.out) ?_;go_frame)
    |(with_reducible refine kU ?_
      refine k7 yk (eqD Bj.out R.out EQ.out) ?_;go_frame;try simp only[nTF])
    |(go_at_call 51;refine(Z6 18 _).mono ?_;rintro e wn ⟨rfl,Ax⟩;cases Ax))
  clear BF EQ;cases hh:(kC S i).isSome
  rotate_left
  ·have HH:=hid hh;have O:Hid (zX S (idC c) i c=(11,S)):=hid (by unfold zX;rw[if_neg (fun q=>q Cm.out),if_pos hh]);clear hh
   go_wp2_with (first
     |(refine k7 yk (ldD R.out Ae.out) ?_)
     |(go_at_call 26;refine(has_any B s S q i W6 BG.out R.out).mono ?_;rintro e W7 ⟨Ah,rfl⟩;rw[HH.out];have Bi:=hid Ah;have A7:=hid ((Ah.block N (qX A6.out)).trans A6.out);have l:Hid (Below w.heap.size w W7):=hid (Xx T.out Ah);clear Ah)
     |(go_at_call 51;refine(Zk 11 _).mono ?_;rintro e wn ⟨rfl,Ax⟩;cases Ax))
   refine leaves_cons (f:=50) (args:=#[.pointer (some ⟨N,0,none⟩)]) yZ (by simp [go_sem]) ?_;refine(Uy N 11 0 _ A7.out).mono ?_;rintro e u' w9 ⟨rfl,AX,Bw,AI⟩;simp only[AX];refine⟨_,jx results17 _ _ rfl (JY Bw),?_⟩;refine .inr ⟨Ar.out,?_⟩;rw[O.out];exact AddGives.same Z.out (l.trans (AI.below l.size fun k A e=>by have:=HL.out;omega))
  have HH:=hid hh;have Ba:=hid (addAt_have (S:=S) (c:=c) Cm.out hh);clear hh;have DP:=G.deps
  go_upto_region 9 with (first
    |(refine k7 yk (ldD R.out Ae.out) ?_)
    |(go_at_call 26;refine(has_any B s S q i W6 BG.out R.out).mono ?_;rintro e W7 ⟨Ah,rfl⟩;rw[HH.out];have Bi:=hid Ah;have A7:=hid ((Ah.block N (qX A6.out)).trans A6.out);have l:Hid (Below w.heap.size w W7):=hid (Xx T.out Ah);have AL:=hid ((Ah.block L (qX B9.out)).trans B9.out);have Bb:=hid ((Ah.block b4 (qX AK.out)).trans AK.out);clear Ah)
    |(go_at_call 51;refine(Z6 11 _).mono ?_;rintro e wn ⟨rfl,Ax⟩;cases Ax))
  have Dl:W7.cell? ⟨L,1,none⟩=some (.slice Ad c.2.1.length cd):=k6 AL.out 1
  go_upto_region 10 with fail
  clear Dl Ae BG A6 AK B9 Bi T
  go_loopw [42] (fun t42 wr=>∃j:Nat,j≤c.2.1.length∧t42=.int .i64 (j:Int)∧Hid (Below W7.heap.size W7 wr)∧Hid (∀k (A:k<c.2.1.length),k<j→(kC S c.2.1[k]).isSome=true)) (fun t42 _=>c.2.1.length - (intOf t42).toNat)
  case atStart=>exact⟨0,YX _,rfl,hid (qB _ _),hid fun k A h=>absurd h yv⟩
  case round=>
    obtain⟨j,hj,rfl,C,o⟩:=hrel;have Aa:Hid (Below w.heap.size w wr):=hid (Xx l.out C.out);have K:=hid (Z.keep Aa.out);by_cases hlt:j<c.2.1.length
    ·have i0:(0:Int)≤(j:Int):=yv;have i1:(j:Int)<(c.2.1.length:Int):=yv;obtain⟨bd,off,rfl,Ek,CG⟩:=(H1.keep Aa.out).2 yv;have E:=hid (show wr.rangeAt bd (off+j*32) (idV c.2.1[j]) from fun k u A=>Sl.id (B:=0) G.ok.2.1 CG hlt k u A);have M:Hid (jr c.2.1[j]):=hid (G.ok.2.1 _ (yQ hlt));have BH:=hid (show ∀b:Bool,(kC S c.2.1[j]).isSome=b→(∀k (A:k<c.2.1.length),k<j+1→(kC S c.2.1[k]).isSome=true)∨b=false from fun b hb=>by
       cases b
       ·exact .inr rfl
       ·refine .inl fun k A El=>?_
        rcases (by omega:k<j∨k=j) with q|rfl
        ·exact o.out k A q
        ·exact hb)
     have AB:=hid (show (kC S c.2.1[j]).isSome=false→c.2.1.all (fun d=>(kC S d).isSome)=false from fun hb=>List.all_eq_false.2 ⟨_,yQ hlt,by rw[hb];decide⟩);clear CG;generalize c.2.1[j]=dj at *;have CH:(idV dj).length=32:=by rw[kn];exact M.out
     go_upto_region 12 with (first
       |(with_reducible refine k8 ?_
         refine k7 yk (ldD M.out E.out) ?_)
       |(with_reducible refine kF ?_
         refine kv yk 41 rfl (idV k9) yq ?_;intro W8 As B3 Em)
       |(with_reducible refine kD ?_
         refine kr yk 41 _ _ rfl wr.heap.size 0 [] (idV k9) [] (idV dj) 41 (.agg (idV dj).toArray) rfl rfl rfl rfl (by simpa using B3.out) (by rw[CH];rfl) (by rw[CH];kernel_rfl) (kW _) ?_;intro W9 AI Dm En;have At:=hid (As.trans (AI.below (B:=wr.heap.size) As.size (fun k A e=>by have e2:k=wr.heap.size:=e;omega)));have AC:Hid (W9.rangeAt wr.heap.size 0 (idV dj)):=hid fun k u A=>by rw[qZ];exact(k6 Dm.out k).trans (by simpa using A)))
     have AD:=hid (K.keep At.out);have r:Hid (Below W7.heap.size W7 W9):=hid (Xx C.out At.out);clear As B3 E At K;cases hb:(kC S dj).isSome
     ·have BI:=hid hb;have O:Hid (zX S (idC c) i c=(12,S)):=hid (Ba.trans (if_pos (AB.out hb)));clear hb
      go_wp2_with (first
        |(with_reducible refine k8 ?_
          refine k7 yk (ldD M.out AC.out) ?_)
        |(go_at_call 26;refine(has_any B s S q dj W9 AD.out M.out).mono ?_;rintro e AJ ⟨C5,rfl⟩;rw[BI.out];have AM:=hid (Xx r.out C5);clear C5)
        |(go_at_call 51;refine(Zk 12 _).mono ?_;rintro e wn ⟨rfl,Ax⟩;cases Ax))
      have D1:=(AM.block N (qX A7.out)).trans A7.out;have Bx:Below w.heap.size w AJ:=l.trans (AM.mono l.size);refine leaves_cons (f:=50) (args:=#[.pointer (some ⟨N,0,none⟩)]) yZ (by simp [go_sem]) ?_;refine(Uy N 12 0 _ D1).mono ?_;rintro e u' w9 ⟨rfl,AX,Bw,AI⟩;simp only[AX];refine⟨_,jx results17 _ _ rfl (JY Bw),?_⟩;refine .inr ⟨Ar.out,?_⟩;rw[O.out];exact AddGives.same Z.out (Bx.trans (AI.below Bx.size fun k A e=>by have:=HL.out;omega))
     ·have BI:=hid hb;have BJ:=hid ((BH.out true hb).resolve_right yj);clear hb
      go_wp2_with (first
        |(with_reducible refine k8 ?_
          refine k7 yk (ldD M.out AC.out) ?_)
        |(go_at_call 26;refine(has_any B s S q dj W9 AD.out M.out).mono ?_;rintro e AJ ⟨C5,rfl⟩;rw[BI.out];have AM:=hid (Xx r.out C5);clear C5)
        |(go_at_call 51;refine(Z6 12 _).mono ?_;rintro e wn ⟨rfl,Ax⟩;cases Ax))
      go_roundw
      case rel=>exact⟨j+1,by omega,by go_num,AM,BJ⟩
      case measure=>(simp [intOf])<;>omega
    ·have BK:Hid (c.2.1.all (fun d=>(kC S d).isSome)=true):=hid (List.all_eq_true.2 fun d hd=>by
       obtain⟨k,A,rfl⟩:=List.getElem_of_mem hd;exact o.out k A yv)
     have AN:=hid (Ba.trans (if_neg (by rw[BK.out];decide)));have AE:=hid ((C.block N (qX A7.out)).trans A7.out);have A0:=hid ((C.block L (qX AL.out)).trans AL.out);have AO:=hid ((C.block b4 (qX Bb.out)).trans Bb.out);have Dl:wr.cell? ⟨L,1,none⟩=some (.slice Ad c.2.1.length cd):=k6 A0.out 1
     go_upto_region 15 with fail
     clear Dl A7 AL Bb Ba BK o hj K;clear l;obtain⟨D6,Dn⟩:=Xy wr;rw[Dn] at Aa AE A0 AO ⊢;clear C Dn;rename_i EI;clear hlt
     go_loopw [54] (fun t54 wr=>∃j:Nat,j≤c.2.1.length∧t54=.int .i64 (j:Int)∧Hid (Below D6.heap.size D6 wr)∧Hid (∀k (A:k<c.2.1.length),k<j→za S c.2.1[k]<c.1)) (fun t54 _=>c.2.1.length - (intOf t54).toNat)
     case atStart=>exact⟨0,YX _,rfl,hid (qB _ _),hid fun k A h=>absurd h yv⟩
     case round=>
       obtain⟨j,hj,rfl,C,o⟩:=hrel;have F:Hid (Below w.heap.size w wr):=hid (Xx Aa.out C.out);have K:=hid (Z.keep F.out);by_cases hlt:j<c.2.1.length
       ·have i0:(0:Int)≤(j:Int):=yv;have i1:(j:Int)<(c.2.1.length:Int):=yv;obtain⟨bd,off,rfl,Ek,CG⟩:=(H1.keep F.out).2 yv;have E:=hid (show wr.rangeAt bd (off+j*32) (idV c.2.1[j]) from fun k u A=>Sl.id (B:=0) G.ok.2.1 CG hlt k u A);have M:Hid (jr c.2.1[j]):=hid (G.ok.2.1 _ (yQ hlt));have BH:=hid (show za S c.2.1[j]<c.1→(∀k (A:k<c.2.1.length),k<j+1→za S c.2.1[k]<c.1) from fun hb k A El=>by
          rcases (by omega:k<j∨k=j) with q|rfl
          ·exact o.out k A q
          ·exact hb)
        have AB:=hid (show ¬za S c.2.1[j]<c.1→c.2.1.all (fun d=>decide (za S d<c.1))=false from fun hb=>List.all_eq_false.2 ⟨_,yQ hlt,by rw[dF hb];decide⟩);clear CG;generalize c.2.1[j]=dj at *;have CH:(idV dj).length=32:=by rw[kn];exact M.out
        go_upto_region 17 with (first
          |(with_reducible refine k8 ?_
            refine k7 yk (ldD M.out E.out) ?_)
          |(with_reducible refine kF ?_
            refine kv yk 41 rfl (idV k9) yq ?_;intro W8 As B3 Em)
          |(with_reducible refine kD ?_
            refine kr yk 41 _ _ rfl wr.heap.size 0 [] (idV k9) [] (idV dj) 41 (.agg (idV dj).toArray) rfl rfl rfl rfl (by simpa using B3.out) (by rw[CH];rfl) (by rw[CH];kernel_rfl) (kW _) ?_;intro W9 AI Dm En;have At:=hid (As.trans (AI.below (B:=wr.heap.size) As.size (fun k A e=>by have e2:k=wr.heap.size:=e;omega)));have AC:Hid (W9.heap[wr.heap.size]?=some (.cells (idV dj).toArray 41 (0,0))):=hid (by simpa using Dm.out)))
        have AD:=hid (K.keep At.out);have r:Hid (Below D6.heap.size D6 W9):=hid (Xx C.out At.out);have I:=hid ((r.block L (qX A0.out)).trans A0.out);clear As B3 E At K;obtain⟨DQ,Do⟩:=Xy wr.heap.size;rw[Do] at AC ⊢;clear Do;obtain⟨g1,g2,g3,g4,DR⟩:=entryG_form S q dj;have Cn:=hid DR;clear DR;have D:=hid (show ∀u:World,Below W9.heap.size W9 u→u.cell? ⟨s,2,none⟩=some (.map (some q.bc))∧u.rangeAt DQ 0 (idV dj)∧u.cell? ⟨L,0,none⟩=some (.int .i64 c.1) from fun u hu=>⟨k6 (AD.keep hu).box 2,fun k v A=>by rw[qZ];exact(k6 ((hu.block DQ (qX AC.out)).trans AC.out) k).trans A,k6 ((hu.block L (qX I.out)).trans I.out) 0⟩);have CI:=enE func51 rfl;by_cases hb:za S dj<c.1
        ·have BL:Hid (decide (za S dj<c.1)=true):=hid (dT hb);have BJ:=hid (BH.out hb);clear hb;refine rN 11 (fun u=>Below W9.heap.size W9 u) (qD _ _) fun V=>?_
         refine tw 0 (.pointer (some ⟨s,0,none⟩)) ?_ (hQ:=yz);go_frame;refine tw 1 (.pointer (some ⟨s,0,none⟩)) ?_ (hQ:=yz);go_frame;refine tw 2 (.pointer (some ⟨s,2,none⟩)) ?_ (hQ:=yz);go_frame;refine tl 3 (.map (some q.bc)) rfl V (fun w' H=>l1 underlying85 (D.out w' H).1) ?_ (hQ:=yz);go_frame;refine tl 4 (.agg (idV dj).toArray) rfl V (fun w' H=>ldD M.out (D.out w' H).2.1) ?_ (hQ:=yz);go_frame;refine tl 5 (.agg [.int .i64 (za S dj),g1,g2,g3,g4].toArray) rfl V (fun w' H=>Kd Qx underlying85 (KH _) (AD.keep H).mapC M.out ((Z7 S q dj).trans (by rw[Cn.out]))) ?_ (hQ:=yz);go_frame;refine tw 6 (.agg [.int .i64 (za S dj),g1,g2,g3].toArray) ?_ (hQ:=yz);go_frame;refine tw 7 (.int .i64 (za S dj)) ?_ (hQ:=yz);go_frame;refine tw 8 (.pointer (some ⟨L,0,none⟩)) ?_ (hQ:=yz);go_frame;refine tl 9 (.int .i64 c.1) rfl V (fun w' H=>l1 underlying3 (D.out w' H).2.2) ?_ (hQ:=yz);go_frame;refine tk 10 (.bool true) rfl (fun w' H=>ex_lssB _ _ _ rfl rfl rfl BL.out) ?_ (hQ:=yz);go_frame;refine ta 11 ?_;refine tc #[.bool true,.int .i64 21] CI rfl ?_;refine(Z6 21 _).mono ?_;rintro e wn ⟨rfl,Ax⟩;cases Ax
         refine⟨_,rfl,fun h=>absurd h yj,?_⟩;go_frame;refine ku yq ?_ _;go_wp2_with fail
         go_roundw
         case rel=>exact⟨j+1,by omega,by go_num,hid (r.drew),BJ⟩
         case measure=>(simp [intOf])<;>omega
        ·have BL:Hid (decide (za S dj<c.1)=false):=hid (dF hb);have O:Hid (zX S (idC c) i c=(21,S)):=hid (AN.trans (if_pos (AB.out hb)));clear hb;refine rN 11 (fun u=>Below W9.heap.size W9 u) (qD _ _) fun V=>?_
         refine tw 0 (.pointer (some ⟨s,0,none⟩)) ?_ (hQ:=yz);go_frame;refine tw 1 (.pointer (some ⟨s,0,none⟩)) ?_ (hQ:=yz);go_frame;refine tw 2 (.pointer (some ⟨s,2,none⟩)) ?_ (hQ:=yz);go_frame;refine tl 3 (.map (some q.bc)) rfl V (fun w' H=>l1 underlying85 (D.out w' H).1) ?_ (hQ:=yz);go_frame;refine tl 4 (.agg (idV dj).toArray) rfl V (fun w' H=>ldD M.out (D.out w' H).2.1) ?_ (hQ:=yz);go_frame;refine tl 5 (.agg [.int .i64 (za S dj),g1,g2,g3,g4].toArray) rfl V (fun w' H=>Kd Qx underlying85 (KH _) (AD.keep H).mapC M.out ((Z7 S q dj).trans (by rw[Cn.out]))) ?_ (hQ:=yz);go_frame;refine tw 6 (.agg [.int .i64 (za S dj),g1,g2,g3].toArray) ?_ (hQ:=yz);go_frame;refine tw 7 (.int .i64 (za S dj)) ?_ (hQ:=yz);go_frame;refine tw 8 (.pointer (some ⟨L,0,none⟩)) ?_ (hQ:=yz);go_frame;refine tl 9 (.int .i64 c.1) rfl V (fun w' H=>l1 underlying3 (D.out w' H).2.2) ?_ (hQ:=yz);go_frame;refine tk 10 (.bool false) rfl (fun w' H=>ex_lssB _ _ _ rfl rfl rfl BL.out) ?_ (hQ:=yz);go_frame;refine ta 11 ?_;refine wpOp_callP (ch:=QI 21) _ rfl yq (UQ (f:=51) (args:=#[.bool false,.int .i64 21]) rfl rfl (fun args w=>CI w args) (by simp only[xV,xX,Yy];rfl)) ?_;refine(Zk 21 _).mono ?_;rintro e wn ⟨rfl,Ax⟩;cases Ax
         refine⟨rfl,?_⟩;have D1:W9.drew.heap[N]?=_:=(r.block N (qX AE.out)).trans AE.out;have Bx:Below w.heap.size w W9.drew:=(Xx Aa.out r.out).drew;refine leaves_cons (f:=50) (args:=#[.pointer (some ⟨N,0,none⟩)]) yZ (by simp [go_sem]) ?_;refine(Uy N 21 0 _ D1).mono ?_;rintro e u' w9 ⟨rfl,AX,Bw,AI⟩;simp only[AX];refine⟨_,jx results17 _ _ rfl (JY Bw),?_⟩;refine .inr ⟨Ar.out,?_⟩;rw[O.out];exact AddGives.same Z.out (Bx.trans (AI.below Bx.size fun k A e=>by have:=HL.out;omega))
       ·have Co:Hid (c.2.1.all (fun d=>decide (za S d<c.1))=true):=hid (List.all_eq_true.2 fun d hd=>by
          obtain⟨k,A,rfl⟩:=List.getElem_of_mem hd;exact dT (o.out k A yv))
        have AP:=hid (AN.trans (if_neg (by rw[Co.out];decide)));have Bk:=hid ((C.block N (qX AE.out)).trans AE.out);have I:=hid ((C.block L (qX A0.out)).trans A0.out);have AQ:=hid ((C.block b4 (qX AO.out)).trans AO.out);have EJ:=G.len
        go_upto_region 19 with fail
        obtain⟨AJ,Dp⟩:=Xy wr;rw[Dp] at F Bk I AQ ⊢;clear C o Co hj K AE A0 AO AN hlt Dp Aa;rename_i EK;have CN:=hid (Z.keep F.out);have D:=hid (show ∀u:World,Below AJ.heap.size AJ u→u.cell? ⟨L,1,none⟩=some (.slice Ad c.2.1.length cd)∧u.cell? ⟨L,3,none⟩=some (.slice Ao c.2.2.2.length co) from fun u hu=>⟨k6 ((hu.block L (qX I.out)).trans I.out) 1,k6 ((hu.block L (qX I.out)).trans I.out) 3⟩);have DS:=enE func42 rfl;have DT:=enE func43 rfl;refine rN 6 (fun u=>Below AJ.heap.size AJ u) (qD _ _) fun V=>?_
        refine tw 0 (.pointer (some ⟨L,1,none⟩)) ?_ (hQ:=yz);go_frame;refine tl 1 (.slice Ad c.2.1.length cd) rfl V (fun w' H=>l1 underlying34 (D.out w' H).1) ?_ (hQ:=yz);go_frame;refine tw 3 (.pointer (some ⟨L,3,none⟩)) ?_ (hQ:=yz);go_frame;refine tl 4 (.slice Ao c.2.2.2.length co) rfl V (fun w' H=>l1 underlying35 (D.out w' H).2) ?_ (hQ:=yz);go_frame;refine ta 2 ?_;refine tc #[.slice Ad c.2.1.length cd] DS rfl ?_;refine(cloneIds15 c.2.1 Ad cd AJ.drew DP (((H1.keep F.out).more F.size).keep (qD _ _))).mono ?_;rintro e u1 ⟨DU,v1,rfl,Dq⟩;have AF:=hid ((qD AJ.heap.size AJ).trans (DU.mono (qD AJ.heap.size AJ).size));have Cp:=hid Dq
        obtain⟨A1,c1,rfl⟩:=kX Dq;clear DU Dq;refine⟨_,rfl,fun _ _=>AF.out,?_⟩;go_frame;refine tw 6 (.pointer (some ⟨L,1,none⟩)) ?_ (hQ:=yz);go_frame;refine ta 5 ?_;refine tc #[.slice Ao c.2.2.2.length co] DT rfl ?_;refine(cloneOps15 c.2.2.2 Ao co u1 yv (((H2.keep F.out).more F.size).keep AF.out|>.more AF.size)).mono ?_;rintro e u2 ⟨Dr,v2,rfl,Ds⟩;have Au:=hid (Xx AF.out Dr);have BM:=hid Ds
        have Bc:=hid ((But.of_below (X:=NoB) Dr).own Cp.out fun _ _ q=>q);have Cq:=hid (show AJ.heap.size≤u1.heap.size from AF.size);obtain⟨A2,c2,rfl⟩:=kX Ds;clear Dr Ds;refine⟨_,rfl,fun _ _=>Au.out,?_⟩;go_frame;have Av:=hid ((Au.block L (qX I.out)).trans I.out);refine ta 7 ?_;refine kR _ rfl yq 34 _ _ rfl L 1 [.int .i64 c.1] [.slice Ad c.2.1.length cd] [.string c.2.2.1,.slice Ao c.2.2.2.length co] [.slice A1 c.2.1.length c1] 37 (.slice A1 c.2.1.length c1) rfl rfl rfl rfl Av.out rfl yq (by intro u hu;rw[xZ.1 hu];rfl) ?_;intro u3 Ca DV Eo;have Ay:=hid Ca;have Cr:=hid DV
        clear Ca DV Eo;refine⟨fun h=>absurd h yj,?_⟩;go_frame;refine tw 8 (.pointer (some ⟨L,3,none⟩)) ?_ (hQ:=yz);go_frame;refine ta 9 ?_;refine kR _ rfl yq 35 _ _ rfl L 3 [.int .i64 c.1,.slice A1 c.2.1.length c1,.string c.2.2.1] [.slice Ao c.2.2.2.length co] [] [.slice A2 c.2.2.2.length c2] 37 (.slice A2 c.2.2.2.length c2) rfl rfl rfl rfl Cr.out rfl yq (by intro u hu;rw[xZ.1 hu];rfl) ?_;intro u4 CF DW DN;have AA:=hid CF;have Aq:=hid DW
        clear CF DW DN;refine⟨fun h=>absurd h yj,?_⟩;go_frame;refine ku yq ?_ _;have C6:But (fun k=>k=L) u2 u4:=Ay.trans AA.out fun k _ e=>e
        have Aj:Hid (Below w.heap.size w u4):=hid ((Xx F.out Au.out).trans (C6.below (qT F.size Au.size) fun k A e=>by have:=HL.out;omega));have D2:∀{k:Nat} {Ai:Array Value} {t:TypeId} {fr:Nat×Nat},u2.heap[k]?=some (.cells Ai t fr)→t≠37→u4.heap[k]?=some (.cells Ai t fr):=fun {k Ai t fr} hc ht=>(C6.block k (qX hc) (ji hc Av.out ht)).trans hc
        have Bl:Hid (AddMid u4 b4 L N w.heap.size i c A1 c1 A2 c2):=hid ⟨D2 ((Au.block b4 (qX AQ.out)).trans AQ.out) yj,by simpa using Aq.out,D2 ((Au.block N (qX Bk.out)).trans Bk.out) yj,Je (C6.own Bc.out fun g hg e=>by
            obtain⟨cc,A4⟩:=kH Bc.out hg;exact ji A4 Av.out yj e) F.size,Je (C6.own BM.out fun g hg e=>by
            obtain⟨cc,A4⟩:=kH BM.out hg;exact ji A4 Av.out yj e) (qT F.size Cq.out)⟩
        have CO:=hid (Z.keep Aj.out);clear C6 D2 Ay Cr AA Aq Av AF Au Cp BM Bc V D CN Bk I AQ F Cq DS DT;have Ae:=hid (show u4.rangeAt b4 0 (idV i) from fun j u hj=>by rw[qZ];exact(k6 Bl.id j).trans hj);have B2:=hid (show u4.rangeAt L 0 (chC c.1 A1 c.2.1.length c1 c.2.2.1 A2 c.2.2.2.length c2) from fun j u hj=>by rw[qZ];exact(k6 Bl.chg j).trans hj);have E9:(Value.pointer (some ⟨s,0,none⟩)::(idV i++[.int .i64 c.1,.slice A1 c.2.1.length c1,.string c.2.2.1,.slice A2 c.2.2.2.length c2,.slice none 0 0])).length=38:=by simp [DK,Dj]
        go_upto_region 21 with (first
          |(with_reducible refine k8 ?_
            refine k7 yk (ldD R.out Ae.out) ?_)
          |(with_reducible refine k8 ?_
            refine k7 yk (kg 37 _ rfl (p:=⟨L,0,none⟩) rfl (qV _ L 0 _ _ _ B2.out underlying37 rfl yq)) ?_)
          |(with_reducible refine kL ?_
            refine k7 yk (kp 127 _ rfl (by simp only[xV,xX,Yy];exact adder_built s i R.out _ _ _ _ _ _ _ _ _)) ?_)
          |(with_reducible refine kG ?_
            refine kz yk 127 _ rfl _ _ rfl rfl (by rw[E9];kernel_rfl) ?_;intro C7 Bd Be EA))
        obtain⟨a,ha⟩:=Xy u4.heap.size;have Dd:=hid (show w.heap.size≤a by have:=Aj.size;omega);rw[ha] at Be ⊢;have Bm:Hid (AdderAt C7 a s i c (.slice A1 c.2.1.length c1) (.slice A2 c.2.2.2.length c2) (.slice none 0 0)):=hid ⟨Be.out,R.out⟩;have AR:Hid (Below w.heap.size w C7):=hid (Xx Aj.out Bd.out);have AS:=hid (Bl.keep Bd.out);clear ha Bd Be Ae B2 Bl Aj CO;have CJ:C7.cell? ⟨L,3,none⟩=some (.slice A2 c.2.2.2.length c2):=k6 AS.chg 3;obtain⟨im,DX,DY,DZ,E0⟩:=info_parts infoInt15
        go_upto_region 22 with (first
          |(refine wpList_make_own C7 rfl _ _ 128 rfl w.heap.size 3 im (.int .i64 0) 1 underlying128 DX DY DZ .i64 .i64 _ c.2.2.2.length rfl rfl rfl (by rw[E0];omega) yY (by have:=AR.size;omega) ?_;intro Dt Du Dv;have CP:=hid Du;have AT:Hid (Below C7.heap.size C7 Dt):=hid ((qB _ _).grown Dv (qR _) (fun k e=>by cases e));clear Du Dv))
        clear CJ DX DY DZ E0;have Cb:=hid (Bm.keep AT.out);have Bn:=hid (AS.keep AT.out);have Cc:Hid (Below w.heap.size w Dt):=hid (Xx AR.out AT.out);clear Bm AS AR AT;have CJ:Dt.cell? ⟨L,3,none⟩=some (.slice A2 c.2.2.2.length c2):=k6 Bn.chg 3
        go_upto_region 23 with fail
        clear CJ;have Dw:=G.fine Ar.out;have Cs:=hid Dw;clear Dw
        go_loopw [13,91] (fun t13 t91 wr=>∃(j:Nat) (An:Option Addr) (cn:Nat) (Am:Option Addr) (cm:Nat) (W:List zD) (ns:List Nat),j≤c.2.2.2.length∧t91=.int .i64 (j:Int)∧t13=.slice An j cn∧ns.length=j∧Hid (Below w.heap.size w wr)∧Hid (wr.ownsRow w.heap.size 3 1 (.slice An j cn) j (QU ns))∧Hid (AdderAt wr a s i c (.slice A1 c.2.1.length c1) (.slice A2 c.2.2.2.length c2) (.slice Am W.length cm))∧Hid (wr.ownsRow w.heap.size 199 35 (.slice Am W.length cm) W.length (kf jc W))∧Hid (AddMid wr b4 L N w.heap.size i c A1 c1 A2 c2)∧Hid (KG S i c.1 [] (c.2.2.2.take j)=some (W,ns))∧Hid ((∀m∈W,kJ m.2)∧W.length≤mkN (c.2.2.2.take j))) (fun _ t91 _=>c.2.2.2.length - (intOf t91).toNat)
        case atStart=>exact⟨0,some ⟨C7.heap.size,0,none⟩,c.2.2.2.length,none,0,[],[],YX _,rfl,rfl,rfl,Cc,CP,Cb,hid (World.ownsRow_nil _ _ _ _),Bn,hid rfl,hid ⟨fun m hm=>(by cases hm),YX _⟩⟩
        case round=>
          obtain⟨j,An,cn,Am,cm,W,ns,hj,rfl,rfl,E1,C,B4,B5,Bo,P,B6,Af⟩:=hrel;have K:=hid (Z.keep C.out);by_cases hlt:j<c.2.2.2.length
          ·have i0:(0:Int)≤(j:Int):=yv;have i1:(j:Int)<(c.2.2.2.length:Int):=yv;have Ep:W.length≤1073741824:=Nat.le_trans Af.2 (Nat.le_trans (mkN_le _ _) G.made);obtain⟨g2,Ea,DJ,Dx,Eq,CK,_⟩:=KP P.ops yv;injection Dx with eA _ eC;subst eA eC;have Ag:=hid (Cs.out _ (yQ hlt));have E:=hid (show wr.rangeAt g2 (j*70) (opV c.2.2.2[j]) from fun k u A=>by
             have hr:=K9 (enc:=opV) (sz:=70) (fun x hx=>kI (G.ops x hx)) j hlt k u A;rw[k6 CK,xv (yJ.1 hr).1];exact hr)
           have B7:=hid (xj hlt);have Ct:=hid (mkN_snoc c.2.2.2 hlt);have Cu:=hid (show c.2.2.2=(c.2.2.2.take j++[c.2.2.2[j]])++c.2.2.2.drop (j+1) by rw[←xj hlt,List.take_append_drop]);clear CK;obtain⟨x,hx⟩:=Xy (c.2.2.2[j]);rw[hx] at Ag E B7 Ct Cu;clear hx;have B8:=kI Ag.fin
           go_upto_region 25 with (first
             |(with_reducible refine k8 ?_
               refine kZ rfl 112 _ rfl g2 _ rfl (opV x) _ E.out underlying112 rfl (by rw[B8];kernel_rfl) ?_)
             |(with_reducible refine kF ?_
               refine kv yk 112 rfl (opV (0,ko,ko,noneS,0,noneS)) (opZ15 _) ?_;intro Er A3 Aw Eb)
             |(with_reducible refine kD ?_
               refine kr yk 112 _ _ rfl wr.heap.size 0 [] (opV (0,ko,ko,noneS,0,noneS)) [] (opV x) 112 _ rfl rfl rfl rfl (by simpa using Aw.out) (by rw[B8];rfl) (by rw[B8];kernel_rfl) (UO _) ?_;intro A9 AY D3 Ec;have J:=hid (A3.trans (AY.below (B:=wr.heap.size) A3.size (fun k A e=>by have e2:k=wr.heap.size:=e;omega)));have Q:Hid (A9.heap[wr.heap.size]?=some (.cells (opV x).toArray 112 (0,0))):=hid (by simpa using D3.out)))
           obtain⟨AZ,AY⟩:=Xy wr.heap.size;have E8:=hid (show w.heap.size≤AZ by have:=C.size;omega);rw[AY] at Q ⊢;have A8:=hid (B5.keep J.out);have Ak:=hid ((But.of_below (X:=NoB) J.out).own B4.out fun _ _ q=>q);have AU:=hid ((But.of_below (X:=NoB) J.out).own Bo.out fun _ _ q=>q);have Bp:=hid (P.keep J.out);have Al:Hid (Below w.heap.size w A9):=hid (Xx C.out J.out);clear A3 Aw AY J B5 B4 Bo P E K;have Es:A9.cell? ⟨a,37,none⟩=some (.slice Am W.length cm):=A8.rest 4;have De:=hid Al.size;have AB:=hid (fun (u:World) (hu:Below A9.heap.size A9 u)=>(But.of_below (X:=NoB) hu).own Ak.out fun _ _ q=>q)
           go_upto_region 26 with (first
             |(at_builtin;refine Jw yk _ _ 128 rfl w.heap.size 3 (.int .i64 0) 1 8 underlying128 infoInt15 rfl yj (.slice An j cn) j (QU ns) rfl (AB.out _ ((qB _ _).alloc (qR _) _)) ⟨A9.heap.size,0,none⟩ 1 1 [.int .i64 (W.length:Int)] rfl rfl (J3 A9 _ _) (by intro u hu;rw[xZ.1 hu];rfl) yY yv (by have:=De.out;simp;omega) ?_
               intro EL C8 D4 Dy Ed;have Ab:Hid (But (fun k=>(Value.slice An j cn).ownBlock=some k) A9 C8):=hid (((But.refl _ A9).alloc _).grown Dy fun k e _=>e);have BN:=hid D4;obtain⟨Et,Eu,rfl⟩:=kX D4;clear D4 Dy Ed))
           clear Es AB;have C9:∀{k:Nat},(Value.slice An j cn).ownBlock=some k→∃Ai,A9.heap[k]?=some (.cells Ai 3 (0,0)):=fun h=>kH Ak.out h
           have D7:Below w.heap.size w C8:=Al.trans (Ab.below Al.size fun k A e=>by
             have h1:=(Ak.lt k e).1;omega)
           have U:=hid D7;have AV:=hid (Bp.but Ab.out fun k A Ai t fr hc=>by
             obtain⟨cc,A4⟩:=C9 A;rw[hc] at A4;injection A4 with A4;injection A4 with _ A4;subst A4;decide)
           have Bq:Hid (AdderAt C8 a s i c (.slice A1 c.2.1.length c1) (.slice (some ⟨g2,0,none⟩) c.2.2.2.length c2) (.slice Am W.length cm)):=hid ⟨(Ab.block a (qX A8.box) fun e=>by
             obtain⟨cc,A4⟩:=C9 e;exact ji A4 A8.box yj rfl).trans A8.box,R.out⟩
           have Ap:=hid (Ab.own AU.out fun g hg e=>by
             obtain⟨c3,h3⟩:=kH AU.out hg;obtain⟨cc,A4⟩:=C9 e;exact ji A4 h3 yj rfl)
           have BO:=hid ((Ab.block AZ (qX Q.out) fun e=>by
             obtain⟨cc,A4⟩:=C9 e;exact ji A4 Q.out yj rfl).trans Q.out)
           have BP:=hid (show C8.rangeAt AZ 0 (opV x) from fun k u A=>by rw[qZ];exact(k6 BO.out k).trans A);have Df:Hid (MidAt C8 B a s S q i c (.slice A1 c.2.1.length c1) (.slice (some ⟨g2,0,none⟩) c.2.2.2.length c2) Am cm W):=hid ⟨Z.keep U.out,Bq.out,Je Ap.out (YX _),Af.1,by omega⟩;have BQ:=hid (fit_any w.heap.size B a s S q i c _ _ Am cm W x C8 Df.out Ap.out U.size Ep G.ok.1 Ag.out);clear C9 D7 Bp A8 AU Q Al Ab Ak BO;have BR:=hid (fitsAt_snoc S i c.1 x (c.2.2.2.take j) []);rw[B6.out,Option.bind_some] at BR;cases hfa:J7 S i c.1 W x with
           |none=>
            have O:Hid (zX S (idC c) i c=(22,S)):=hid (AP.trans (by
               have e:KG S i c.1 [] c.2.2.2=none:=by
                 rw[Cu.out];refine fitsAt_none S i c.1 _ _ [] ?_;rw[BR.out,hfa];rfl
               rw[e]))
            have Br:=hid hfa;clear hfa
            go_wp2_with (first
               |(with_reducible refine k8 ?_
                 refine k7 yk (kg 112 _ rfl (p:=⟨AZ,0,none⟩) rfl (qV _ AZ 0 _ (opV x) _ BP.out underlying112 rfl (by rw[B8];kernel_rfl))) ?_)
               |(go_at_call 52;refine BQ.mono ?_;rintro e Dz (⟨mk2,hq,_⟩|⟨_,rfl,hb17⟩)
                 ·rw[Br.out] at hq;cases hq
                 have Ac:=hid hb17;clear hb17))
            have Ee:=(Ac.block N (qX AV.err)).trans AV.err;have D8:Below w.heap.size w Dz:=U.trans (Ac.mono U.size);refine leaves_cons (f:=50) (args:=#[.pointer (some ⟨N,0,none⟩)]) yZ (by simp [go_sem]) ?_;refine(Uy N 22 0 _ Ee).mono ?_;rintro e u' w9 ⟨rfl,AX,Bw,AI⟩;simp only[AX];refine⟨_,jx results17 _ _ rfl (JY Bw),?_⟩;refine .inr ⟨Ar.out,?_⟩;rw[O.out];exact AddGives.same Z.out (D8.trans (AI.below D8.size fun k A e=>by have:=HL.out;omega))
           |some mk2=>
            have Br:=hid hfa;have Cv:=hid (fitAt_len hfa);have CQ:Hid (KG S i c.1 [] (c.2.2.2.take (j+1))=some (mk2,ns++[W.length])):=hid (by rw[B7.out,BR.out,hfa];rfl);clear hfa
            go_wp2_with (first
               |(with_reducible refine k8 ?_
                 refine k7 yk (kg 112 _ rfl (p:=⟨AZ,0,none⟩) rfl (qV _ AZ 0 _ (opV x) _ BP.out underlying112 rfl (by rw[B8];kernel_rfl))) ?_)
               |(go_at_call 52;refine BQ.mono ?_;rintro e Dz (⟨mk3,hq,rfl,hbt17,Am2,cm2,had17,hom17,_⟩|⟨hq,_⟩)
                 rotate_left
                 ·rw[Br.out] at hq;cases hq
                 obtain rfl:mk2=mk3:=Option.some.inj (Br.symm.trans hq);have Ac:=hid hbt17;have Cd:=hid had17;have Ce:=hid hom17
                 clear hbt17 had17 hom17 hq))
            go_roundw
            case rel=>
               have D5:∀k,(k=a∨(Value.slice Am W.length cm).ownBlock=some k)→∃Ai t,C8.heap[k]?=some (.cells Ai t (0,0))∧(t=127∨t=199)∧w.heap.size≤k:=fun k A=>by
                 rcases A with rfl|A
                 ·exact⟨_,_,Bq.box,.inl rfl,Dd.out⟩
                 ·obtain⟨cc,A4⟩:=kH Ap.out A;exact⟨cc,_,A4,.inr rfl,(Ap.lt k A).1⟩
               refine⟨j+1,Et,Eu,Am2,cm2,mk2,ns++[W.length],by omega,by go_num,rfl,by simp [E1],hid (U.trans (Ac.below U.size fun k A e=>?_)),hid ?_,Cd,Ce,hid (AV.but Ac.out fun k A Ai t fr hc=>?_),CQ,hid ⟨fun m hm=>?_,?_⟩⟩
               ·obtain⟨_,_,_,_,h4⟩:=D5 k e;omega
               ·rw[intsV_snoc];refine Ac.own BN.out fun g hg e=>?_
                obtain⟨c3,h3⟩:=kH BN.out hg;obtain⟨Ai,t,h4,h5,_⟩:=D5 g e;exact ji h3 h4 (by rcases h5 with rfl|rfl<;>decide) rfl
               ·obtain⟨EB,t2,h4,h5,_⟩:=D5 k A;rw[hc] at h4;injection h4 with h4;injection h4 with _ h4;subst h4;rcases h5 with rfl|rfl<;>decide
               ·rcases Cv.2 m hm with h4|h4|h4
                ·exact Af.1 m h4
                ·rw[h4];exact⟨(by decide:(Lit.int .i64 0).wf=true),jT,(by decide:(Lit.int .i64 0).wf=true)⟩
                ·rw[h4];exact ZV Z.out R.out G.ok.1 Ag.fin.1.1
               ·rw[Ct.out];have:=Cv.1;have:=Af.2;omega
            case measure=>(simp [intOf])<;>omega
          ·obtain rfl:j=c.2.2.2.length:=yv;rw[List.take_length] at B6 Af;have BS:=hid (show zX S (idC c) i c=(0,J8 i c.1 0 (S.1,S.2.1,S.2.2++[(i,c,W)]) c.2.2.2 ns) from AP.trans (by rw[B6.out]));have CI:kC S i=none:=by
             cases hq:kC S i with
             |none=>rfl
             |some e=>have:=HH.out;rw[hq] at this;cases this
           have Cw:=hid CI;clear CI
           go_upto_region 28 with fail
           have D:=hid (show ∀u:World,Below wr.heap.size wr u→u.cell? ⟨s,2,none⟩=some (.map (some q.bc))∧u.rangeAt b4 0 (idV i)∧u.rangeAt L 0 (chC c.1 A1 c.2.1.length c1 c.2.2.1 A2 c.2.2.2.length c2)∧u.cell? ⟨a,37,none⟩=some (.slice Am W.length cm) from fun u hu=>⟨k6 (K.keep hu).box 2,fun k v A=>by rw[qZ];exact(k6 (P.keep hu).id k).trans A,fun k v A=>by rw[qZ];exact(k6 (P.keep hu).chg k).trans A,(B5.keep hu).rest 4⟩);refine rN 11 (fun u=>Below wr.heap.size wr u) (qD _ _) fun V=>?_
           refine tw 0 (.pointer (some ⟨s,0,none⟩)) ?_ (hQ:=yz);go_frame;refine tw 1 (.pointer (some ⟨s,0,none⟩)) ?_ (hQ:=yz);go_frame;refine tw 2 (.pointer (some ⟨s,2,none⟩)) ?_ (hQ:=yz);go_frame;refine tl 3 (.map (some q.bc)) rfl V (fun w' H=>l1 underlying85 (D.out w' H).1) ?_ (hQ:=yz);go_frame;refine tl 4 (.agg (idV i).toArray) rfl V (fun w' H=>ldD R.out (D.out w' H).2.1) ?_ (hQ:=yz);go_frame;refine tl 5 (.agg (chC c.1 A1 c.2.1.length c1 c.2.2.1 A2 c.2.2.2.length c2).toArray) rfl V (fun w' H=>kg 37 _ rfl (p:=⟨L,0,none⟩) rfl (qV w' L 0 _ _ _ (D.out w' H).2.2.1 underlying37 rfl yq)) ?_ (hQ:=yz);go_frame;refine tw 6 (.pointer (some ⟨a,0,none⟩)) ?_ (hQ:=yz);go_frame;refine tw 7 (.pointer (some ⟨a,0,none⟩)) ?_ (hQ:=yz);go_frame;refine tw 8 (.pointer (some ⟨a,37,none⟩)) ?_ (hQ:=yz);go_frame;refine tl 9 (.slice Am W.length cm) rfl V (fun w' H=>l1 underlying103 (D.out w' H).2.2.2) ?_ (hQ:=yz);go_frame;refine tk 10 (.agg (Kk (c,W) (.slice A1 c.2.1.length c1,.slice A2 c.2.2.2.length c2,.slice Am W.length cm)).toArray) rfl (fun w' H=>kp 105 _ rfl (by simp only[xV,xX,Yy];exact entry_built _ _ _ _ _ _ _ _ _ _ _ _)) ?_ (hQ:=yz);go_frame;refine ta 11 ?_;refine Jy _ rfl yq ?_;have Ev:=G.chg;refine op_mapPut _ _ _ 85 rfl 105 Qx underlying85 rfl (K.keep (qD _ _)).mapC yY i R.out rfl (.agg (Kk (c,W) (.slice A1 c.2.1.length c1,.slice A2 c.2.2.2.length c2,.slice Am W.length cm)).toArray) rfl ?_;intro wM E2 E3;have AG:Hid (But (fun j=>j=q.bc) wr.drew wM):=hid ((But.refl _ wr.drew).grown E3 fun k e _=>(Option.some.inj e).symm);have DA:EntryIn wr.drew (c,W) (.slice A1 c.2.1.length c1,.slice A2 c.2.2.2.length c2,.slice Am W.length cm):=⟨G.ok.1,Je (P.keep (qD _ _)).ids (YX _),Je (P.keep (qD _ _)).ops (YX _),Je ((But.of_below (X:=NoB) (qD wr.heap.size wr)).own Bo.out fun _ _ q=>q) (YX _),G.ok.2.1,G.ops,Af.1⟩;have DB:=(K.keep (qD wr.heap.size wr)).putEntry R.out Cw.out DA E2 AG.out;clear E2 E3 DA;refine⟨fun h=>absurd h yj,?_⟩;go_frame;refine ku yq ?_ _;obtain⟨q1,DC⟩:∃z:kV,z={ q with em:=fun x=>if x=i then (Value.slice A1 c.2.1.length c1,Value.slice A2 c.2.2.2.length c2,Value.slice Am W.length cm) else q.em x}:=⟨_,rfl⟩;rw[←DC] at DB;have Cx:=hid DB;have BT:=hid DC
           have Cf:∃x y,wr.drew.heap[q.bc]?=some (.map x y):=(K.keep (qD wr.heap.size wr)).mapC_obj;have E4:∀{k:Nat} {Ai:Array Value} {t:TypeId} {fr:Nat×Nat},wr.heap[k]?=some (.cells Ai t fr)→wM.heap[k]?=some (.cells Ai t fr):=fun {k Ai t fr} hc=>(AG.block k (qX (show wr.drew.heap[k]?=_ from hc)) (JV (show wr.drew.heap[k]?=_ from hc) Cf)).trans hc
           have CR:Hid (AdderAt wM a s i c (.slice A1 c.2.1.length c1) (.slice A2 c.2.2.2.length c2) (.slice Am W.length cm)):=hid ⟨E4 B5.box,R.out⟩;have BU:Hid (AddMid wM b4 L N w.heap.size i c A1 c1 A2 c2):=hid ((P.keep (qD wr.heap.size wr)).but AG.out fun k A Ai t fr hc=>absurd hc (by
             obtain⟨x,y,h⟩:=Cf;rw[A,h];intro e;cases e))
           have CS:Hid (wM.ownsRow w.heap.size 3 1 (.slice An c.2.2.2.length cn) c.2.2.2.length (QU ns)):=hid (AG.own ((But.of_below (X:=NoB) (qD wr.heap.size wr)).own B4.out fun _ _ q=>q) fun g hg e=>by
             obtain⟨cc,A4⟩:=kH B4.out hg;exact JV (show wr.drew.heap[g]?=_ from A4) Cf e)
           have BV:Hid (But (StX s S q) w wM):=hid ((But.of_below (C.trans ((qD wr.heap.size wr).mono C.size))).trans AG.out fun k A e=>.inr (.inr (.inl e)));obtain⟨S1,CL⟩:∃z:kj,z=(S.1,S.2.1,S.2.2++[(i,c,W)]):=⟨_,rfl⟩;rw[←CL] at Cx BS;have Cy:=hid (show ∀j,StX s S1 q1 j↔StX s S q j from fun j=>by rw[BT.out,CL];exact Iff.rfl);have BW:Hid (q1.nd=q.nd):=hid (by rw[BT.out]);have CT:Hid (DocsIx S1):=hid (by rw[CL];exact G.ix);obtain⟨c0,t0,DD,EM,EN⟩:=G.le;have CU:Hid (StateLe S1 c0 t0):=hid (by rw[CL];exact⟨DD.claims,DD.size⟩);have DP:=G.nd;have CV:=hid (show W.length≤1073741824 from Nat.le_trans Af.2 G.made);have CW:=hid (show ∀n∈ns,n≤1099511627776 from fun n hn=>by
             have:=(fitsAt_ns B6.out).2 n hn;have:=CV.out;omega)
           clear DB DC Cf E4 AG CL DD Cw HH D K V B5 Bo P B4 B6 Af AP hj hlt BT Ev;have CJ:wM.cell? ⟨L,3,none⟩=some (.slice A2 c.2.2.2.length c2):=k6 BU.chg 3
           go_upto_region 30 with fail
           clear CJ
           go_loopw [121] (fun t121 wr=>∃(j:Nat) (qj:kV),j≤c.2.2.2.length∧t121=.int .i64 (j:Int)∧Hid (StateAt wr B s (J8 i c.1 0 S1 (c.2.2.2.take j) (ns.take j)) qj)∧Hid (But (StX s S1 q1) wM wr)∧Hid (NewerX wM s S1 (J8 i c.1 0 S1 (c.2.2.2.take j) (ns.take j)) q1 qj)∧qj.nd≤q1.nd+j∧Hid (AdderAt wr a s i c (.slice A1 c.2.1.length c1) (.slice A2 c.2.2.2.length c2) (.slice Am W.length cm))∧Hid (AddMid wr b4 L N w.heap.size i c A1 c1 A2 c2)∧Hid (wr.ownsRow w.heap.size 3 1 (.slice An c.2.2.2.length cn) c.2.2.2.length (QU ns))∧Hid (DocsIx (J8 i c.1 0 S1 (c.2.2.2.take j) (ns.take j)))∧Hid (StateLe (J8 i c.1 0 S1 (c.2.2.2.take j) (ns.take j)) (c0+j) (t0+JX (c.2.2.2.take j)))) (fun t121 _=>c.2.2.2.length - (intOf t121).toNat)
           case atStart=>exact⟨0,q1,YX _,rfl,hid Cx.out,hid (But.refl _ _),hid (NewerX.refl _ _ _ _),xY _,CR,BU,CS,CT,CU⟩
           case round=>
             obtain⟨j,qj,hj,rfl,BX,BY,Bs,DE,BZ,Bt,C0,Cz,C1⟩:=hrel;by_cases hlt:j<c.2.2.2.length
             ·have i0:(0:Int)≤(j:Int):=yv;have i1:(j:Int)<(c.2.2.2.length:Int):=yv;have DF:j<ns.length:=yv;obtain⟨g2,Ea,DJ,Dx,Eq,CK,_⟩:=KP Bt.ops yv;injection Dx with eA _ eC;subst eA eC;obtain⟨gn,EC,Ez,Ew,EO,E5,_⟩:=KP C0.out yv;injection Ew with eN _ eM;subst eN eM;have Ag:=hid (Cs.out _ (yQ hlt));have E:=hid (show wr.rangeAt g2 (j*70) (opV c.2.2.2[j]) from fun k u A=>by
                have hr:=K9 (enc:=opV) (sz:=70) (fun x hx=>kI (G.ops x hx)) j hlt k u A;rw[k6 CK,xv (yJ.1 hr).1];exact hr)
              have B7:=hid (xj hlt);have CA:=hid (xj DF);have CB:=hid (textsN_snoc c.2.2.2 hlt);have Dg:=hid (textsN_le c.2.2.2 j);have C2:=hid E5;have CC:=hid (CW.out _ (yQ DF));have C3:=hid (show (QU ns)[j]?=some (.int .i64 (ns[j]:Int)) by unfold QU;rw[List.getElem?_map,yK DF];rfl);clear CK E5;obtain⟨x,hx⟩:=Xy (c.2.2.2[j]);obtain⟨nj,E6⟩:=Xy (ns[j]);rw[hx] at Ag E B7 CB;rw[E6] at CA CC C3;clear hx E6;have B8:=kI Ag.fin
              go_upto_region 32 with (first
                |(with_reducible refine k8 ?_
                  refine kZ rfl 112 _ rfl g2 _ rfl (opV x) _ E.out underlying112 rfl (by rw[B8];kernel_rfl) ?_)
                |(with_reducible refine kF ?_
                  refine kv yk 112 rfl (opV (0,ko,ko,noneS,0,noneS)) (opZ15 _) ?_;intro Er A3 Aw Eb)
                |(with_reducible refine kD ?_
                  refine kr yk 112 _ _ rfl wr.heap.size 0 [] (opV (0,ko,ko,noneS,0,noneS)) [] (opV x) 112 _ rfl rfl rfl rfl (by simpa using Aw.out) (by rw[B8];rfl) (by rw[B8];kernel_rfl) (UO _) ?_;intro A9 AY D3 Ec;have J:=hid (A3.trans (AY.below (B:=wr.heap.size) A3.size (fun k A e=>by have e2:k=wr.heap.size:=e;omega)));have Q:Hid (A9.heap[wr.heap.size]?=some (.cells (opV x).toArray 112 (0,0))):=hid (by simpa using D3.out)))
              obtain⟨AZ,AY⟩:=Xy wr.heap.size;rw[AY] at Q ⊢;have AH:=hid (J.trans ((qD A9.heap.size A9).mono J.size));have Bu:=hid (BX.keep AH.out);have Bv:=hid (BZ.keep AH.out);have CX:=hid (Bt.keep AH.out);have Dh:=hid ((But.of_below (X:=NoB) AH.out).own C0.out fun _ _ q=>q);have D:=hid (show ∀u:World,Below A9.heap.size A9 u→u.cell? ⟨gn,0+j*1,none⟩=some (.int .i64 (nj:Int))∧u.rangeAt AZ 0 (opV x) from fun u hu=>by
                have h2:=(hu.block gn (qL (qX C2.out) J.size)).trans ((J.block gn (qX C2.out)).trans C2.out);refine⟨(k6 h2 _).trans ?_,fun k v A=>by rw[qZ];exact(k6 ((hu.block AZ (qX Q.out)).trans Q.out) k).trans A⟩;rw[show 0+j*1=j by omega,xv (yJ.1 C3.out).1];exact C3.out)
              have Ex:=enE func53 rfl;have CY:=hid (do_any B a s S (J8 i c.1 0 S1 (c.2.2.2.take j) (ns.take j)) qj i c _ _ _ j nj x A9.drew Bu.out Bv.out Ag.out G.ok.1 yv CC.out (by have:=C1.claims;omega) (by have:=BW.out;omega) Cz.out (fun y hy=>by have:=C1.size y hy;have:=Dg.out;omega));clear A3 Aw AY BZ Bt C0 E;refine rN 7 (fun u=>Below A9.heap.size A9 u) (qD _ _) fun V=>?_
              refine tw 0 (.pointer (some ⟨a,0,none⟩)) ?_ (hQ:=yz);go_frame;refine tw 1 (.int .i64 (j:Int)) ?_ (hQ:=yz);go_frame;refine tw 2 (.slice (some ⟨gn,0,none⟩) c.2.2.2.length cn) ?_ (hQ:=yz);go_frame;refine tw 3 (.int .i64 (j:Int)) ?_ (hQ:=yz);go_frame;refine tk 4 (.pointer (some ⟨gn,0+j*1,none⟩)) rfl (fun w' H=>zR 128 _ _ rfl (b:=gn) (off:=0) (q:=j) (n:=c.2.2.2.length) (c:=cn) rfl rfl hlt underlying128 sizeInt15) ?_ (hQ:=yz);go_frame;refine tl 5 (.int .i64 (nj:Int)) rfl V (fun w' H=>l1 underlying3 (D.out w' H).1) ?_ (hQ:=yz);go_frame;refine tl 6 (.agg (opV x).toArray) rfl V (fun w' H=>kg 112 _ rfl (p:=⟨AZ,0,none⟩) rfl (qV w' AZ 0 _ (opV x) _ (D.out w' H).2 underlying112 rfl (by rw[B8];kernel_rfl))) ?_ (hQ:=yz);go_frame;refine ta 7 ?_;refine tc #[.pointer (some ⟨a,0,none⟩),.int .i64 (j:Int),.int .i64 (nj:Int),.agg (opV x).toArray] Ex rfl ?_;refine CY.mono ?_;rintro e Dz ⟨rfl,q2,DG,DH,DI,ED⟩;have CZ:=hid DG;have AW:=hid DH;have D0:=hid DI
              clear DG DH DI;refine⟨_,rfl,fun h=>absurd h yj,?_⟩;go_frame;refine ku yq ?_ _;go_wp2_with fail
              go_roundw
              case rel=>
                have Cg:J8 i c.1 0 S1 (c.2.2.2.take (j+1)) (ns.take (j+1))=Jh (J8 i c.1 0 S1 (c.2.2.2.take j) (ns.take j)) i c.1 j nj x:=by
                  rw[B7.out,CA.out,dosAt_snoc i c.1 x nj _ _ 0 S1 (by rw[Yj,Yj];omega)]
                  congr 1
                  rw[Yj];omega
                refine⟨j+1,q2,by omega,by go_num,hid ?_,hid (((BY.trans (Y:=NoB) (But.of_below AH.out) fun _ _ q=>q.elim)).trans AW.out fun k A hx=>?_),hid ?_,by omega,hid ⟨Bu.keepCells AW.out Bv.box yj,R.out⟩,hid (CX.but AW.out fun k A Ai t fr hc=>?_),hid (Bu.own AW.out Dh.out yj),hid ?_,hid ?_⟩
                ·rw[Cg];exact CZ.out
                ·rcases Bs.out k hx with h|h
                 ·exact h
                 ·omega
                ·rw[Cg];exact Bs.trans D0.out (qT BY.size AH.size)
                ·cases hm:midTag t with
                 |false=>rfl
                 |true=>exact absurd A (Bu.notX hc (mid_st hm))
                ·rw[Cg];exact Cz.do i c.1 j nj x
                ·rw[Cg,CB.out];have:=C1.do i c.1 j nj x
                 rw[Nat.add_assoc] at this;rw[←Nat.add_assoc t0];exact this
              case measure=>(simp [intOf])<;>omega
             ·obtain rfl:j=c.2.2.2.length:=yv;rw[List.take_length,show ns.take c.2.2.2.length=ns by rw[←E1,List.take_length]] at BX Bs;have he:=Bt.err;have CD:=hid he;clear he
              go_wp2_with (first
                |(with_reducible refine kD ?_
                  refine kr yk 29 _ _ rfl N 0 [] [.int .i64 0] [] [.int .i64 0] 29 (.int .i64 0) rfl rfl rfl rfl (by simpa using CD.out) rfl yq (by intro u hu;rw[xZ.1 hu];rfl) ?_;intro wE CE Ey E7;have Di:Hid (wE.heap[N]?=some (.cells [Value.int .i64 0].toArray 29 (0,0))):=hid (by simpa using Ey.out)))
              refine leaves_cons (f:=50) (args:=#[.pointer (some ⟨N,0,none⟩)]) yZ (by simp [go_sem]) ?_;refine(add_idle ⟨N,0,none⟩ _).mono ?_;rintro e u' w9 ⟨rfl,rfl,rfl⟩;refine⟨_,jx results17 _ _ rfl (JY Di.out),?_⟩;refine .inr ⟨Ar.out,?_⟩;rw[BS.out];have Ef:But (StX s S q) w wr:=BV.trans BY.out fun k A hx=>(Cy.out k).1 hx
              have E7:StateAt _ B s _ qj:=BX.keepE CE.out (CD.out);refine⟨rfl,qj,E7,Ef.trans CE.out fun k A e=>absurd A (by have:=HL.out;have e2:k=N:=e;omega),fun k A=>?_,?_⟩
              ·rcases Bs.out k A with g|g
               ·exact .inl ((Cy.out k).1 g)
               ·exact .inr (qT BV.size g)
              ·rw[BW.out] at DE;exact DE
end
section
open Go.RowKit
def nextW(l:List UInt8)(a t:Nat)(w:List Int):Int:=
  if t<16 then wordS (j7 l (a+4*t)) (j7 l (a+4*t+1)) (j7 l (a+4*t+2)) (j7 l (a+4*t+3))
  else zL (zL (zL (Ze (Ze (jY 17 (w.getD 1 0)) (jY 19 (w.getD 1 0))) (w.getD 1 0 / 1024)) (w.getD 6 0)) (Ze (Ze (jY 7 (w.getD 14 0)) (jY 18 (w.getD 14 0))) (w.getD 14 0 / 8))) (w.getD 15 0)
def nextR(t:Nat)(x:Int)(p:St8×List Int):St8×List Int:=(QQ p.1 (keyS t) x,x::p.2)
def runL(l:List UInt8)(a:Nat)(s:St8):Nat→St8×List Int
  | 0=>(s,[])
  |t+1=>nextR t (nextW l a t (runL l a s t).2) (runL l a s t)
theorem runL_words(l:List UInt8)(a:Nat)(s:St8):∀n,(∀i,i<n→(runL l a s n).2.getD (n - 1 - i) 0=Km l a i)
  | 0=>fun i h=>by omega
  |n+1=>fun i h=>by
   have ih:=runL_words l a s n;have A:nextW l a n (runL l a s n).2=Km l a n:=by
      unfold nextW;by_cases h16:n<16
      ·rw[if_pos h16,qb h16]
      ·rw[if_neg h16,qc h16,←ih (n - 2) yv,←ih (n - 7) yv,←ih (n - 15) yv,←ih (n - 16) yv,show n - 1 - (n - 2)=1 by omega,show n - 1 - (n - 7)=6 by omega,show n - 1 - (n - 15)=14 by omega,show n - 1 - (n - 16)=15 by omega]
   unfold runL nextR;rcases (by omega:i=n∨i<n) with rfl|B
   ·rw[show i+1 - 1 - i=0 by omega];exact A
   ·rw[show n+1 - 1 - i=(n - 1 - i)+1 by omega,List.getD_cons_succ];exact ih i B
theorem runL_run(l:List UInt8)(a:Nat)(s:St8):∀n,(runL l a s n).1=U3 l a s n
  | 0=>rfl
  |n+1=>by
   have hn:nextW l a n (runL l a s n).2=Km l a n:=by
      have h:=runL_words l a s (n+1) n yv;rw[show n+1 - 1 - n=0 by omega] at h;exact h
   unfold runL nextR U3;dsimp only;rw[hn,runL_run l a s n]
theorem sha_one{l:List UInt8}(h:l.length<56):vp l=qr (sumS (runL (qq l) 0 firstS 64).1 firstS):=by
  unfold vp;have A:(qq l).length / 64=1:=by rw[ua];unfold zt;omega
  rw[A,runL_run];rfl
end
def vS:ByteArray:=⟨#[65,110,110]⟩
def bobS:ByteArray:=⟨#[66,111,98]⟩
def aS:ByteArray:=⟨#[97]⟩
def hiS:ByteArray:=⟨#[104,105]⟩
def bangS:ByteArray:=⟨#[33]⟩
def c15:ks:=(1,[],vS,[(3,ko,ko,noneS,0,aS),(1,ko,ko,hiS,0,noneS)])
def i15:List UInt8:=[229,202,141,46,136,14,238,142,133,125,96,76,29,48,31,50,178,145,198,216,218,132,57,219,41,132,133,23,247,94,30,52]
def d15:ks:=(2,[i15],bobS,[(1,(i15,0),(i15,2),bangS,0,noneS)])
def j15:List UInt8:=[36,32,115,196,227,199,209,70,18,99,220,155,133,51,220,20,221,152,115,253,159,163,204,31,60,175,75,184,190,34,100,1]
theorem enc15:vb (1,c15,kS)=0:=by decide+kernel
theorem enc15d:vb (1,d15,kS)=0:=by decide+kernel
theorem id15:idD (1,c15,kS)=i15:=by
  unfold idD;rw[if_pos enc15,show Jv (1,c15,kS)=[67,1,0,3,65,110,110,2,3,1,97,1,0,0,0,0,2,104,105] by decide+kernel,sha_one yj];decide+kernel
theorem id15d:idD (1,d15,kS)=j15:=by
  unfold idD;rw[if_pos enc15d,show Jv (1,d15,kS)=[67,2,1]++i15++[3,66,111,98,1,1,1,0,1,2,1,33] by decide+kernel,sha_one yj];decide+kernel
def s15:kj:=([((1,i15,0),[((1,i15,1),[104,105],false)])],[((1,i15,0),(1,i15,0),3,aS)],[(i15,c15,[(true,(0,k9,0)),(false,(1,i15,0)),(false,(1,i15,0))])])
def t15:kj:=([((1,i15,0),[((1,i15,1),[104,105],false),((2,j15,0),[33],false)])],[((1,i15,0),(1,i15,0),3,aS)],
  [(i15,c15,[(true,(0,k9,0)),(false,(1,i15,0)),(false,(1,i15,0))]),(j15,d15,[(false,(1,i15,0))])])
theorem add15:zX KO i15 i15 c15=(0,s15):=yq
theorem add15d:zX s15 j15 j15 d15=(0,t15):=yq
section
open Go.RowKit Go.Maps
open Lib (hid)
theorem ex_buildSlice15{P:Program}{ρ:Operand→Value}{o:Oper}{w:World}(t:TypeId)(x y:Operand)(ho:o.op=.buildSlice t 2 #[(0,x),(1,y)])
    (e:TypeId) (ht:P.underlying t=some (.slice e)) (z:Value) (size bytes:Nat) (hinf:(P.info? e).map (fun i=>(i.zero,i.size,i.bytes))=some (some z,size,bytes)) (hz1:z.cells.size=size) (hsz:0<size) (hmax:2*size≤16777216)
    (us vs:List Value) (hl:us.length=size) (hl2:vs.length=size) (hx:ρ x=.agg us.toArray) (hy:ρ y=.agg vs.toArray):(execOp ρ o).run P w=.ok (.value (.slice (some ⟨w.heap.size,0,none⟩) 2 2)) (w.alloc (.cells (us++vs).toArray e)):=by
  have A:=Kv w t e ht z size bytes hinf hz1 hsz [.agg us.toArray,.agg vs.toArray] (fun v B=>by
    simp only[xK,YY,or_false] at B;rcases B with rfl|rfl
    ·exact hl
    ·exact hl2) yZ (by simpa using hmax)
  simp only[List.flatMap_cons,List.flatMap_nil,List.append_nil] at A;unfold execOp;have C:(Instr.buildSlice t 2 #[(0,.agg us.toArray),(1,.agg vs.toArray)]).run P w=.ok (.slice (some ⟨w.heap.size,0,none⟩) 2 2) (w.alloc (.cells (us++vs).toArray e)):=A;simp only[ho,xV,xX,Yy,hx,hy,Sem.run_bind,C,Result.andThen_ok,Sem.run_pure]
theorem wp_valW{P:Program}{ops:Array Oper}{rest:List Oper}{o:Oper}{a:Act}{v:Value}{w w':World}{Q:Exit→Act→World→Prop}(hw:Region.wanted o (yielded ops a.tmps)=true)(h:(execOp a.eval o).run P w=.ok (.value v) w')(hk:wpList P ops Q rest (a.put o.dst v) w'):wpList P ops Q (o::rest) a w:=
  BigFrame.wpList_want hw fun K A=>by
    have:=A _ _ hk;unfold Oper.wp;rw[h];exact this
def o15a:OpD:=(3,ko,ko,noneS,0,aS)
def o15b:OpD:=(1,ko,ko,hiS,0,noneS)
theorem o15a_built(w:World):(Instr.build 112 #[(0,.int .u8 3),(5,.string ⟨#[97]⟩)]).run prog w=.ok (.agg (opV o15a).toArray) w:=yq
theorem o15b_built(w:World):(Instr.build 112 #[(0,.int .u8 1),(3,.string ⟨#[104,105]⟩)]).run prog w=.ok (.agg (opV o15b).toArray) w:=yq
theorem ch15_built(a:Addr)(w:World):(Instr.build 37 #[(0,.int .i64 1),(2,.string ⟨#[65,110,110]⟩),(3,.slice (some a) 2 2)]).run prog w=.ok (.agg (chC 1 none 0 0 vS (some a) 2 2).toArray) w:=yq
theorem qe(w:World):(zeroValue 37).run prog w=.ok (.agg (chC 0 none 0 0 noneS none 0 0).toArray) w:=yq
theorem U7:KR o15a:=⟨⟨⟨rfl,by decide⟩,⟨rfl,by decide⟩,by decide⟩,by decide,by decide⟩
theorem U8:KR o15b:=⟨⟨⟨rfl,by decide⟩,⟨rfl,by decide⟩,by decide⟩,by decide,by decide⟩
theorem c15_ops:∀x∈c15.2.2.2,KR x:=by
  intro x A;rcases xK.1 A with rfl|A
  ·exact U7
  ·rw[xZ.1 A];exact U8
theorem c15_ok:Zj c15:=⟨by decide,(fun x A=>by cases A),fun x A=>(c15_ops x A).1⟩
theorem rows15:kf opV c15.2.2.2=opV o15a++opV o15b:=by
  show kf opV [o15a,o15b]=_;simp [kf]
theorem idC15:idC c15=i15:=id15
theorem results_cc{P:Program}{fn:Func}{p q:Tmp}{t u:TypeId}(h:fn.results=#[.cell p t,.cell q u])(tmps:Array Value)(w:World){a b:Addr}{r s:Value}(hp:tmps.getD p undef=.pointer (some a))(hq:tmps.getD q undef=.pointer (some b))(hl:(loadVar t a).run P w=.ok r w)(hm:(loadVar u b).run P w=.ok s w):
    (results fn tmps).run P w=.ok (.tuple #[r,s]) w:=by
  have A:tmps[p]?.getD undef=.pointer (some a):=by simpa using hp
  have B:tmps[q]?.getD undef=.pointer (some b):=by simpa using hq
  simp only[results,h];simp [A,B,asAddr,hl,hm]
def HelloGives(w:World)(e:Ending)(w':World):Prop:=Below w.heap.size w w'∧∃A,e=.returned (.tuple #[.agg (idV i15).toArray,.agg (chC 1 none 0 0 vS A 2 2).toArray])∧Sl w' w'.heap.size A 2 70 (kf opV c15.2.2.2)
theorem hello15_any(w:World)(hg:Glob w)(hsg:ShaG w):Calls prog 45 #[] w (HelloGives w):=by
  have HG:=hid hg;have A2:=hid hsg
  clear hg hsg;have A9:(idV i15).length=32:=rfl;have C:=hid A9;clear A9;go_enter func45,ntmps45
  go_upto_region 1 with (first
    |(with_reducible refine kF ?_
      first
      |(refine kv yk 41 rfl (idV k9) yq ?_;intro W0 c R d)
      |(refine kv yk 37 rfl (chC 0 none 0 0 noneS none 0 0) (qe _) ?_;intro P S I f)))
  obtain⟨K,Ag⟩:=Xy w.heap.size;obtain⟨Q,Ah⟩:=Xy W0.heap.size;have T:Hid (Below w.heap.size w P):=hid (Xx c.out S.out);have J:=hid ((S.block w.heap.size (qX R)).trans R);rw[Ag] at J ⊢;rw[Ah] at I ⊢;have HL:=hid (show w.heap.size≤K∧K<Q∧Q<P.heap.size from by have:=d.out;have:=f.out;omega);clear c S d f R Ag Ah
  go_upto_region 2 with (first
    |(with_reducible refine kL ?_
      first
      |refine k7 yk (kp 112 _ rfl (by simp only[xV,xX,Yy];with_reducible exact o15a_built _)) ?_
      |refine k7 yk (kp 112 _ rfl (by simp only[xV,xX,Yy];with_reducible exact o15b_built _)) ?_
      |refine k7 yk (kp 37 _ rfl (by simp only[xV,xX,Yy];with_reducible exact ch15_built _ _)) ?_)
    |(with_reducible refine kF ?_
      refine kv yk 37 rfl (chC 0 none 0 0 noneS none 0 0) (qe _) ?_;intro W2 g i l)
    |(with_reducible refine kD ?_
      refine kr yk 37 _ _ rfl WX.heap.size 0 [] (chC 0 none 0 0 noneS none 0 0) [] (chC 1 none 0 0 vS (some ⟨P.heap.size,0,none⟩) 2 2) 37 (.agg (chC 1 none 0 0 vS (some ⟨P.heap.size,0,none⟩) 2 2).toArray) rfl rfl rfl rfl (by simpa using i.out) rfl yq (U5 _ _ _ _ _ _ _ _) ?_;intro b m At A3;have E:Hid (b.heap[WX.heap.size]?=some (.cells (chC 1 none 0 0 vS (some ⟨P.heap.size,0,none⟩) 2 2).toArray 37 (0,0))):=hid (by simpa using At.out))
    |(refine wp_valW yk (ex_buildSlice15 35 _ _ rfl 112 underlying35 (.agg (opV (0,ko,ko,noneS,0,noneS)).toArray) 70 128 infoOp15 rfl yj yj (opV o15a) (opV o15b) (kI U7) (kI U8) rfl rfl) ?_;have Aa:=heap_alloc_new P (.cells (opV o15a++opV o15b).toArray 112);have Ab:Below P.heap.size P (P.alloc (.cells (opV o15a++opV o15b).toArray 112)):=(qB _ _).alloc (qR _) _;obtain⟨WX,Ai⟩:=Xy (P.alloc (.cells (opV o15a++opV o15b).toArray 112));rw[Ai] at Aa Ab ⊢;have M:=hid Aa;have F:=hid Ab
      clear Aa Ab Ai))
  obtain⟨L,Aj⟩:=Xy P.heap.size;obtain⟨Z,Ak⟩:=Xy WX.heap.size;have a:Below WX.heap.size WX b:=g.trans (m.below (by have:=l.out;omega) fun k hk e=>by have e2:k=WX.heap.size:=e;omega);have H:Hid (Below w.heap.size w b):=hid (T.trans ((Xx F.out a).mono T.size));have G:=hid ((a.block P.heap.size (qX M)).trans M);have n:=hid ((a.block K (qL (qX J) F.size)).trans ((F.block K (qX J)).trans J));have U:=hid ((a.block Q (qL (qX I) F.size)).trans ((F.block Q (qX I)).trans I));have D:=hid (show w.heap.size≤K∧K<Q∧Q<L∧L<Z∧Z<b.heap.size from by have:=HL.out;have:=qX M.out;have:=qX E.out;omega);rw[Aj] at E G ⊢;rw[Ak] at E ⊢;clear a Aj Ak M F g m l A3 i J I HL T;have A4:Hid (Sl b b.heap.size (some ⟨L,0,none⟩) 2 70 (kf opV c15.2.2.2)):=hid (by
    rw[rows15];exact⟨by rw[yV,kI U7,kI U8],fun _=>⟨L,0,rfl,qX G,fun j u O=>by rw[Nat.zero_add];exact(k6 G j).trans O⟩⟩)
  have o:=hid (objId_any (1,c15,kS) _ b (U6 (cd:=0) (co:=2) (Ad:=none) c15_ok c15_ops yj Sl.nil A4.out) yj yj yj yj (HG.next H) (A2.next H) (hid rfl));have q:=hid (show b.rangeAt Z 0 (chC 1 none 0 0 vS (some ⟨L,0,none⟩) 2 2) from fun j u O=>by rw[qZ];exact(k6 E j).trans O)
  go_upto_region 3 with (first
    |(with_reducible refine k8 ?_
      refine k7 yk (kg 37 _ rfl (p:=⟨Z,0,none⟩) rfl (qV _ Z 0 _ _ _ q underlying37 rfl yq)) ?_)
    |(with_reducible refine kL ?_
      refine k7 yk (kp 70 _ rfl (by simp only[xV,xX,Yy];exact ub _ _ _ _ _ _ _ _ _)) ?_)
    |(go_at_call 46;refine o.mono ?_;rintro e W4 ⟨rfl,Al⟩;rw[id15,enc15];have N:=hid Al;clear Al)
    |(with_reducible refine kF ?_
      refine kv yk 41 rfl (idV k9) yq ?_;intro W5 r s t)
    |(with_reducible refine kD ?_
      refine kr yk 41 _ _ rfl W4.heap.size 0 [] (idV k9) [] (idV i15) 41 (.agg (idV i15).toArray) rfl rfl rfl rfl (by simpa using s.out) (by rw[C.out];rfl) (by rw[C.out];kernel_rfl) (kW _) ?_;intro W6 v Au Ay;have V:Hid (W6.heap[W4.heap.size]?=some (.cells (idV i15).toArray 41 (0,0))):=hid (by simpa using Au.out)))
  obtain⟨b3,Am⟩:=Xy W4.heap.size;have Ac:Below b.heap.size b W6:=N.trans ((r.trans (v.below (B:=W4.heap.size) (by have:=t.out;omega) fun k hk e=>by have e2:k=W4.heap.size:=e;omega)).mono N.size);have A:=hid Ac;have A5:=hid (show Z<b3 from by have:=D.out;have:=N.size;omega);rw[Am] at V ⊢;clear Ac Am N r t s v o q;have W:=hid ((A.block Z (qX E)).trans E);have A6:=hid ((A.block K (qX n)).trans n);have X:=hid ((A.block Q (qX U)).trans U);have y:=hid (show ∀u:World,But (fun k=>k=K) W6 u→u.rangeAt b3 0 (idV i15)∧u.rangeAt Z 0 (chC 1 none 0 0 vS (some ⟨L,0,none⟩) 2 2) from fun u hu=>⟨fun j x O=>by rw[qZ];exact(k6 ((hu.block b3 (qX V) (by have:=A5.out;have:=D.out;omega)).trans V.out) j).trans O,fun j x O=>by rw[qZ];exact(k6 ((hu.block Z (qX W) (by have:=D.out;omega)).trans W.out) j).trans O⟩);refine rN 3 (fun u=>But (fun k=>k=K) W6 u) (But.of_below (qD _ _)) fun An=>?_
  refine tl 0 _ rfl An (fun w' Ae=>ldD (rfl:jr i15) (y w' Ae).1) ?_;go_frame;refine tl 1 (.agg (chC 1 none 0 0 vS (some ⟨L,0,none⟩) 2 2).toArray) rfl An (fun w' Ae=>kg 37 _ rfl (p:=⟨Z,0,none⟩) rfl (qV _ Z 0 _ _ _ (y w' Ae).2 underlying37 rfl yq)) ?_;go_frame;refine ta 2 ?_;refine kR _ rfl yq 41 _ _ rfl K 0 [] (idV k9) [] (idV i15) 41 (.agg (idV i15).toArray) rfl rfl rfl rfl (by simpa using (show W6.drew.heap[K]?=_ from A6)) (by rw[C.out];rfl) (by rw[C.out];kernel_rfl) (kW _) ?_;intro W7 Ao Ap Av;have Y:Hid (But (fun k=>k=K) W6 W7):=hid ((But.refl _ W6).drew.trans Ao fun k _ e=>e);have z:Hid (W7.heap[K]?=some (.cells (idV i15).toArray 41 (0,0))):=hid (by simpa using Ap);have A0:=hid ((Y.block Q (qX X) (by have:=D.out;omega)).trans X.out);clear Ao Ap Av;refine⟨fun _ _=>Y,?_⟩;go_frame;refine ta 3 ?_;refine kR _ rfl yq 37 _ _ rfl Q 0 [] (chC 0 none 0 0 noneS none 0 0) [] (chC 1 none 0 0 vS (some ⟨L,0,none⟩) 2 2) 37 (.agg (chC 1 none 0 0 vS (some ⟨L,0,none⟩) 2 2).toArray) rfl rfl rfl rfl (by simpa using A0.out) rfl yq (U5 _ _ _ _ _ _ _ _) ?_;intro W8 Af Aq Aw;have A7:=hid Af;have A8:Hid (W8.heap[Q]?=some (.cells (chC 1 none 0 0 vS (some ⟨L,0,none⟩) 2 2).toArray 37 (0,0))):=hid (by simpa using Aq);have A1:=hid ((Af.block K (qX z) (by have:=D.out;omega)).trans z.out);clear Af Aq Aw;refine⟨fun h=>absurd h yj,?_⟩;go_frame;refine ku yq ?_ _;go_wp2_with fail;refine bodyPost_ret (results_cc results45 _ _ rfl rfl (qV _ K 0 41 (idV i15) _ (fun j u O=>by rw[qZ];exact(k6 A1 j).trans O) underlying41 rfl (by rw[C.out];kernel_rfl)) (qV _ Q 0 37 (chC 1 none 0 0 vS (some ⟨L,0,none⟩) 2 2) _ (fun j u O=>by rw[qZ];exact(k6 A8 j).trans O) underlying37 rfl yq)) rfl ?_;have Ar:But (fun k=>k=K∨k=Q) W6 W8:=(Y.weak fun k _ e=>Or.inl e).trans A7.out fun k _ e=>Or.inr e
  have Ax:Below w.heap.size w W8:=(Xx H.out A.out).trans (Ar.below (Xx H.out A.out).size fun k hk e=>by have:=D.out;rcases e with rfl|rfl<;>omega);refine⟨Ax,_,rfl,?_⟩;have As:W8.heap[L]?=some (.cells (opV o15a++opV o15b).toArray 112 (0,0)):=(Ar.block L (qL (qX G) A.size) (by have:=D.out;intro e;rcases e with e|e<;>omega)).trans ((A.block L (qX G)).trans G);rw[rows15];exact⟨by rw[yV,kI U7,kI U8],fun _=>⟨L,0,rfl,qX As,fun j u O=>by rw[Nat.zero_add];exact(k6 As j).trans O⟩⟩
end
section
open Go.RowKit Go.Maps
section
variable {P:Program} {F:Fence} {n:Nat} {ops:Array Oper} {rest:List Oper} {o:Oper} {a:Act} {w w':World} {Q:Exit→Act→World→Prop} {v:Value}
theorem JA(hg:o.guard=none)(hc:∀c,o.op≠ .call c)(hd:∀c,o.op≠ .defer c)(h:(execOp a.eval o).run P w=.ok (.value v) w')(hk:wpListIn F n P ops Q rest (a.put o.dst v) w'):wpListIn F n P ops Q (o::rest) a w:=by
  refine wpListIn_plain hg fun K B=>?_
  unfold Oper.wpIn;refine⟨fun f A=>?_,?_⟩
  ·unfold Oper.about at A
   split at A
   ·exact absurd ‹_› (hc _)
   ·cases A
  ·rw[Oper.semAt_plain F _ _ hd,h];exact B _ _ hk
theorem JO(hg:o.guard=none)(hc:∀c,o.op≠ .call c)(hd:∀c,o.op≠ .defer c)(h:(execOp a.eval o).run P w=.ok .skip w')(hk:wpListIn F n P ops Q rest (a.put o.dst undef) w'):wpListIn F n P ops Q (o::rest) a w:=by
  refine wpListIn_plain hg fun K B=>?_
  unfold Oper.wpIn;refine⟨fun f A=>?_,?_⟩
  ·unfold Oper.about at A
   split at A
   ·exact absurd ‹_› (hc _)
   ·cases A
  ·rw[Oper.semAt_plain F _ _ hd,h];exact B _ _ hk
theorem uc{ρ:Operand→Value}(ty:TypeId)(x y:Operand)(ho:o.op=.store ty x y)(g:Nat)(cells:Array Value)(hx:ρ x=.pointer (some ⟨g,0,none⟩))(hy:ρ y=.agg cells)
    (t:TypeId) (old:Array Value) (hg:w.heap[g]?=some (.cells old t (0,0))) (hi:(P.info? ty).map (·.size)=some cells.size) (hold:old.size=cells.size) (h1:cells.all (·.oneCell')=true):
    (execOp ρ o).run P w=.ok .skip (w.setRow g cells):=by
  unfold execOp;simp only[ho,hx,hy,Instr.storeAt,Instr.sureAddr,Sem.run_bind,Sem.run_pure,Result.andThen_ok,run_storeVar_row w g t ty old cells hg hi hold h1]
theorem Zq{ρ:Operand→Value}(t:TypeId)(x:Operand)(ho:o.op=.buildSlice t 1 #[(0,x)])
    (e:TypeId) (ht:P.underlying t=some (.slice e)) (z:Value) (size bytes:Nat) (hinf:(P.info? e).map (fun i=>(i.zero,i.size,i.bytes))=some (some z,size,bytes)) (hz1:z.cells.size=size) (hsz:0<size) (hmax:size≤16777216)
    (us:List Value) (hl:us.length=size) (hx:ρ x=.agg us.toArray):(execOp ρ o).run P w=.ok (.value (.slice (some ⟨w.heap.size,0,none⟩) 1 1)) (w.alloc (.cells us.toArray e)):=by
  have A:=Kv w t e ht z size bytes hinf hz1 hsz [.agg us.toArray] (fun v B=>by rw[xZ.1 B];exact hl) yZ (by simpa using hmax);simp only[List.flatMap_cons,List.flatMap_nil,List.append_nil] at A;unfold execOp;have C:(Instr.buildSlice t 1 #[(0,.agg us.toArray)]).run P w=.ok (.slice (some ⟨w.heap.size,0,none⟩) 1 1) (w.alloc (.cells us.toArray e)):=A;simp only[ho,xV,xX,Yy,hx,Sem.run_bind,C,Result.andThen_ok,Sem.run_pure]
theorem qf(w:World)(old cells:Array Value)(t:TypeId):w.grownBy ((w.alloc (.cells old t)).setRow w.heap.size cells) none∧((w.alloc (.cells old t)).setRow w.heap.size cells).heap[w.heap.size]?=some (.cells cells t (0,0))∧((w.alloc (.cells old t)).setRow w.heap.size cells).heap.size=w.heap.size+1:=by
  refine⟨⟨rfl,rfl,rfl,by simp,fun k A _=>?_⟩,setRow_heap _ _ old _ _ _ (heap_alloc_new _ _),by simp⟩;rw[setRow_other _ _ _ _ yv];exact heap_alloc_old _ _ A
end
def CollK{κ:Type}{ok:κ→Prop}(kl:κ→Lit)(D:DataW Value)(left:Lit→Bool)(ss:List {k:κ // ok k}):Prop:=ss.Nodup∧∀x:{k:κ // ok k},x∈ss↔(has D (kl x.1)=true∧left (kl x.1)=false)
def Qb{κ:Type}{ok:κ→Prop}(m:κ→Option Value)(ss:List {k:κ // ok k}):Prop:=ss.Nodup∧∀x:{k:κ // ok k},x∈ss↔(m x.1).isSome=true
section
variable {P:Program} {K:TypeId} {κ:Type} {ok:κ→Prop} {val:κ→Value} {kl:κ→Lit} {D:DataW Value} {left:Lit→Bool} {ss:List {k:κ // ok k}} {m:κ→Option Value}
theorem CollK.start(D:DataW Value):CollK (ok:=ok) kl D (has D) []:=⟨List.nodup_nil,fun x=>by cases has D (kl x.1)<;>simp⟩
theorem CollK.step(E:KeyEnc P K ok val kl)(h:CollK kl D left ss){x:{k:κ // ok k}}(hlk:left (kl x.1)=true)(hhas:has D (kl x.1)=true):CollK kl D (fun z=>left z && !z.sameKey (kl x.1)) (ss++[x]):=by
  have A:=E.keyed.key (E.of x.1 x.2);have B:x∉ss:=fun G=>by have:=((h.2 x).1 G).2;rw[hlk] at this;cases this
  refine⟨List.nodup_append.2 ⟨h.1,by simp,fun a H b C=>by simp at C;subst C;exact fun e=>B (e▸H)⟩,fun y=>?_⟩;by_cases hy:y=x
  ·subst hy;simp [hhas,WideAt.sameKey_self A]
  ·have F:kl y.1≠kl x.1:=fun e=>hy (Subtype.ext (E.klInj y.2 x.2 e))
   simp [h.2 y,hy,sameKey_ne F]
theorem CollK.done(h:CollK kl D left ss)(hl:∀l,left l=false)(hD:∀k,ok k→has D (kl k)=(m k).isSome):Qb m ss:=
  ⟨h.1,fun x=>by rw[h.2 x,hl,hD x.1 x.2];simp⟩
end
end
section
open Go.RowKit
theorem isEmpty_size(p:ByteArray):p.toList.isEmpty=decide (p.size=0):=by
  rw[JJ,Bool.eq_iff_iff,decide_eq_true_eq,←jf,List.isEmpty_iff,List.length_eq_zero_iff]
theorem good_aux(cs:List Value)(k:Nat)(p:ByteArray)(w:World)(k0:cs[68]?=some (.int .u8 (k:Int)))(k1:cs[69]?=some (.string p))(hsz:p.size≤maxLen)(hg:Glob w):
    Calls prog 123 #[.agg cs.toArray] w fun e w'=>Below w.heap.size w w'∧e=.returned (.bool (vW k p)):=by
  have I:(w.alloc (.cells cs.toArray 135)).heap[w.heap.size]?=some (.cells cs.toArray 135 (0,0)):=heap_alloc_new _ _;have M:=(jo I 68).trans k0;have N:=(jo I 69).trans k1;have J:Below w.heap.size w (w.alloc (.cells cs.toArray 135)):=(Below.refl _ _).alloc (xY _) _;have C:=Lib.hid (hg.next J);have A:=Lib.hid J;have D:=Lib.hid hsz;clear hsz J k0 k1 I;have B:∀j:Nat,¬j=3→¬j=4→¬j=5→vW j p=false:=by
    intro j O P K;unfold vW;rw[if_neg yv,if_neg K]
  have E:k<3∨5<k→((k:Int) == 3)=false:=by intro h;rw[beq_eq_false_iff_ne];omega
  have F:k<3∨5<k→((k:Int) == 4)=false:=by intro h;rw[beq_eq_false_iff_ne];omega
  have G:k<3∨5<k→((k:Int) == 5)=false:=by intro h;rw[beq_eq_false_iff_ne];omega
  rcases (by omega:(k<3∨5<k)∨k=3∨k=4∨k=5) with h|rfl|rfl|rfl
  ·rw[B k yv yv yv];have E:=E h;have F:=F h;have G:=G h
   clear B h;go_enter func123,ntmps123
   go_upto_region 1 with fail
   generalize w.alloc (.cells cs.toArray 135)=W at *;go_wp2_with fail;go_ret;exact⟨A,rfl⟩
  ·rw[show vW 3 p=jZ p by simp [vW]];clear B E F G;go_enter func123,ntmps123
   go_upto_region 1 with fail
   generalize w.alloc (.cells cs.toArray 135)=W at *
   go_wp2_with (go_at_call 173;refine(ZU p _ D C).mono ?_;rintro e L ⟨H,rfl⟩)
   go_ret;exact⟨A.trans (H.mono A.size),rfl⟩
  ·rw[show vW 4 p=jZ p by simp [vW]];clear B E F G;go_enter func123,ntmps123
   go_upto_region 1 with fail
   generalize w.alloc (.cells cs.toArray 135)=W at *
   go_wp2_with (go_at_call 173;refine(ZU p _ D C).mono ?_;rintro e L ⟨H,rfl⟩)
   go_ret;exact⟨A.trans (H.mono A.size),rfl⟩
  ·rw[show vW 5 p=p.toList.isEmpty by simp [vW,isEmpty_size]];clear B E F G;go_enter func123,ntmps123
   go_upto_region 1 with fail
   generalize w.alloc (.cells cs.toArray 135)=W at *;go_wp2_with fail;go_ret;exact⟨A,rfl⟩
theorem good_any(c:kN)(w:World)(hc:Kx c)(hg:Glob w):
    Calls prog 123 #[.agg (kT c).toArray] w fun e w'=>Below w.heap.size w w'∧e=.returned (.bool (vW c.2.2.1 c.2.2.2)):=
  good_aux _ _ _ w (qS hc).1 (qS hc).2 hc.2.2.2 hg
end

section
open Go.RowKit
theorem bcell{W w1:World}(hb:Below W.heap.size W w1):(∀b o,b<W.heap.size→w1.cell? ⟨b,o,none⟩=W.cell? ⟨b,o,none⟩)∧(∀b o,b<W.heap.size→w1.frozen? ⟨b,o,none⟩=W.frozen? ⟨b,o,none⟩):=
  ⟨fun b o h=>hb.cell (p:=⟨b,o,none⟩) h,fun b o h=>hb.frozen (p:=⟨b,o,none⟩) h⟩
end
section
open Go.RowKit
open Lib (hid)
def ZG(c:kN):Value:=.agg (kT c).toArray
def Zr(l:List kN)(d:kE):Option Value:=(Kn l d).map ZG
theorem lastM_put{t:List kN}{c:kN}(h:∀x,Kn t c.2.1=some x→0<Kh c.1 x.1):(fun k=>if k=c.2.1 then some (ZG c) else Zr t k)=Zr (t++[c]):=by
  funext k
  unfold Zr;rw[Uj];unfold later;by_cases e:k=c.2.1
  ·subst e;rw[if_pos rfl,if_pos rfl];cases h0:Kn t c.2.1 with
   |none=>rfl
   |some x=>simp only[if_pos (h x h0)];rfl
  ·rw[if_neg e,if_neg (fun q=>e q.symm)]
theorem lastM_keep{t:List kN}{c x:kN}(h0:Kn t c.2.1=some x)(h:¬0<Kh c.1 x.1):Zr t=Zr (t++[c]):=by
  funext k
  unfold Zr;rw[Uj];unfold later;by_cases e:c.2.1=k
  ·subst e;rw[if_pos rfl,h0];simp only[if_neg h]
  ·rw[if_neg e]
theorem ZH:(prog.info? 135).map (·.size)=some 70:=yq
theorem Jl:(prog.info? 89).map (·.size)=some 34:=yq
def zeroC:kN:=((0,k9,0),(0,k9,0),0,ByteArray.empty)
theorem zeroC_info:(prog.info? 135).map (·.zero)=some (some (ZG zeroC)):=yq
theorem qg(w:World):(zeroValue 135).run prog w=.ok (ZG zeroC) w:=by
  have h:=zeroC_info;cases hq:prog.info? 135 with
  |none=>rw[hq] at h;cases h
  |some i=>
   rw[hq] at h;have A:i.zero=some (ZG zeroC):=Option.some.inj h;simp [zeroValue,typeInfo,hq,A]
theorem lasts_any(l:List kN)(A:Option Addr)(c:Nat)(w:World)(hl:l.length≤1099511627776)(hok:∀x∈l,Kx x)(hsl:Sl w w.heap.size A l.length 70 (kf kT l)):
    Calls prog 74 #[.slice A l.length c] w fun e w'=>Below w.heap.size w w'∧e=.returned (.map (some w.heap.size))∧∃n,n≤l.length∧MapV w' prog 89 kJ Um w.heap.size n (Zr l):=by
  have A6:=hid hsl;clear hsl;have Y:=hid hok;clear hok;have Am:=@run_makeMap prog;go_enter func74,ntmps74
  go_upto_region 2 with fail
  have An:=MapV.made w prog 89 kJ Um;have Ao:Below w.heap.size w (w.alloc (.map #[] 0)):=(Below.refl _ _).alloc (xY _) _;clear Am;generalize w.alloc (.map #[] 0)=W at *;go_wp2_with fail
  go_loopw [11] (fun t wr=>∃i:Nat,i≤l.length∧t=.int .i64 i∧Below w.heap.size w wr∧∃m,m≤i∧Hid (MapV wr prog 89 kJ Um w.heap.size m (Zr (l.take i)))) (fun t _=>l.length - (intOf t).toNat)
  case atStart=>exact⟨0,by omega,rfl,Ao,0,xY _,hid An⟩
  case round=>
    obtain⟨i,hi,rfl,K,m,Ap,hM⟩:=hrel;by_cases hlt:i<l.length
    ·obtain⟨b,Aq,rfl,Ar,A7⟩:=(A6.keep K).2 yv;have i0:(0:Int)≤(i:Int):=yv;have i1:(i:Int)<(l.length:Int):=yv;have A2:∀x∈l,(kT x).length=70:=fun x hx=>j6 (Y x hx)
     have A8:=Sl.row A2 A7 hlt;have Ai:=Y.out _ (yQ hlt);have Aj:l.take (i+1)=l.take i++[l[i]]:=xj hlt;have Al:=hid A7;clear A7;have v:=hid A8;clear A8;have Z:=hid Aj;clear Aj;have H:=hid Ai;clear Ai;clear A2;generalize l[i]=x at *
     go_upto_region 5 with (first
       |(refine kZ rfl 135 _ rfl b _ rfl (kT x) _ v underlying135 rfl (by rw[j6 H.out];exact ZH) ?_)
       |(refine Ks (B:=wr.heap.size) (w0:=wr) rfl 135 _ _ rfl wr.heap.size _ rfl rfl 135 _ (heap_alloc_new _ _) (by rw[xz,j6 H.out];exact ZH) (by rw[show (kT x).toArray.size=70 by rw[xz,j6 H.out]];rfl) (by simpa using JW x) ((Below.refl _ _).alloc (xY _) _) (xY _) ?_;intro M A0 A9 _))
     have T:=hid (hM.below A0);have Aa:∀j u,(kc x.2.1)[j]?=some u→M.cell? ⟨wr.heap.size,34+j,none⟩=some u:=fun j u E=>(jo A9 (34+j)).trans (claim_doc H j u E)
     have D:=hid Aa;clear Aa;have I:=hid A0;have h:=hid A9
     clear A0 A9 hM;have Ak:wr.heap.size<M.heap.size:=(Array.getElem?_eq_some_iff.1 h).1;have Ab:∀j u,(kT x)[j]?=some u→M.cell? ⟨wr.heap.size,0+j,none⟩=some u:=fun j u E=>by rw[Nat.zero_add];exact(jo h j).trans E
     have O:=hid Ab;clear Ab;have F:=hid Ak;clear Ak;have Ac:m<maxLen:=by unfold maxLen;omega
     have N:kJ x.2.1:=H.2.1;have Ad:kJ x.1:=H.1;cases hlast:Kn (l.take i) x.2.1 with
     |none=>
      have o:Zr (l.take i) x.2.1=none:=by unfold Zr;rw[hlast];rfl
      have d:=lastM_put (t:=l.take i) (c:=x) (fun y hy=>by rw[hlast] at hy;cases hy);have R:=hid o;have P:=hid d
      clear o d hlast
      go_upto_region 6 with (first
         |(refine kZ rfl 89 _ rfl wr.heap.size 34 rfl (kc x.2.1) _ D underlying89 rfl (by rw[ke N];exact Jl) ?_)
         |(refine qQ rfl _ _ 159 rfl 135 keyEnc underlying159 (ZG zeroC) (qg _) rfl T x.2.1 N rfl ?_;rw[R.out];simp only[Option.getD_none,Option.isSome_none])
         |(refine Ks (B:=M.heap.size) (w0:=M) rfl 135 _ _ rfl M.heap.size _ rfl rfl 135 _ (heap_alloc_new _ _) yq yq (by simpa using JW zeroC) ((Below.refl _ _).alloc (xY _) _) (xY _) ?_;intro G C f _))
      obtain⟨L,_⟩:=bcell C;have r:=hid (T.below C);have D3:Hid (∀j u,(kc x.2.1)[j]?=some u→G.cell? ⟨wr.heap.size,34+j,none⟩=some u):=fun j u E=>(L _ _ F).trans (D j u E)
      have A3:Hid (∀j u,(kT x)[j]?=some u→G.cell? ⟨wr.heap.size,0+j,none⟩=some u):=fun j u E=>(L _ _ F).trans (O j u E)
      have V:Below w.heap.size w G:=(Xx K I.out).trans (C.mono (Nat.le_trans K.size I.size));have J:=hid V;clear V L f C K
      go_wp2_with (first
         |(refine kZ rfl 89 _ rfl wr.heap.size 34 rfl (kc x.2.1) _ D3 underlying89 rfl (by rw[ke N];exact Jl) ?_)
         |(refine kZ rfl 135 _ rfl wr.heap.size 0 rfl (kT x) _ A3 underlying135 rfl (by rw[j6 H.out];exact ZH) ?_)
         |(refine wp_mapPut rfl _ _ _ 159 rfl 135 keyEnc underlying159 rfl r Ac x.2.1 N rfl (ZG x) rfl ?_;intro W4 Ae Af))
      go_roundw
      case rel=>exact⟨i+1,by omega,by go_num,J.grown Af J.size (fun k e=>by cases e;exact xY _),m+1,by omega,hid (by rw[Z.out,←P.out];exact Ae)⟩
      case measure=>simp [intOf];omega
     |some y=>
      have hy:Kx y:=Y.out y (YQ (ur hlast).1);have o:Zr (l.take i) x.2.1=some (ZG y):=by unfold Zr;rw[hlast];rfl
      have R:=hid o;have Q:=hid hy
      clear o hy;have Ag:kJ y.1:=Q.1;have X:=fun q=>QA x.1 y.1 q Ad Ag
      by_cases hq:0<Kh x.1 y.1
      ·have d:=lastM_put (t:=l.take i) (c:=x) (fun z hz=>by rw[hlast] at hz;cases hz;exact hq);have P:=hid d;clear d hlast;generalize Kh x.1 y.1=q at *
       go_upto_region 6 with (first
          |(refine kZ rfl 89 _ rfl wr.heap.size 34 rfl (kc x.2.1) _ D underlying89 rfl (by rw[ke N];exact Jl) ?_)
          |(refine qQ rfl _ _ 159 rfl 135 keyEnc underlying159 (ZG zeroC) (qg _) rfl T x.2.1 N rfl ?_;rw[R.out];simp only[Option.getD_some,Option.isSome_some])
          |(refine Ks (B:=M.heap.size) (w0:=M) rfl 135 _ _ rfl M.heap.size _ rfl rfl 135 _ (heap_alloc_new _ _) (by rw[xz,j6 Q.out];exact ZH) (by rw[show (kT y).toArray.size=70 by rw[xz,j6 Q.out]];rfl) (by simpa using JW y) ((Below.refl _ _).alloc (xY _) _) (xY _) ?_;intro G C f _))
       obtain⟨L,_⟩:=bcell C;have r:=hid (T.below C);have D3:Hid (∀j u,(kc x.2.1)[j]?=some u→G.cell? ⟨wr.heap.size,34+j,none⟩=some u):=fun j u E=>(L _ _ F).trans (D j u E)
       have A3:Hid (∀j u,(kT x)[j]?=some u→G.cell? ⟨wr.heap.size,0+j,none⟩=some u):=fun j u E=>(L _ _ F).trans (O j u E)
       have K3:Hid (G.rangeAt wr.heap.size 0 (kc x.1)):=fun j u E=>A3.out j u (by have:=uy H.out j u E;rwa [Nat.zero_add] at this)
       have L3:Hid (G.rangeAt M.heap.size 0 (kc y.1)):=fun j u E=>(jo f (0+j)).trans (uy Q j u E)
       have a:Hid (wr.heap.size<G.heap.size):=Nat.lt_of_lt_of_le F.out C.size;have V:Below w.heap.size w G:=(Xx K I.out).trans (C.mono (Nat.le_trans K.size I.size));have J:=hid V;clear V L f C K;have A1:=X G;clear X
       go_wp2_with (first
          |(refine k7 yk (kg 89 _ rfl (p:=⟨wr.heap.size,0,none⟩) rfl (run_loadVar_mid G _ _ _ (kc x.1) _ K3 underlying89 rfl (by rw[ke Ad];exact Jl))) ?_)
          |(refine k7 yk (kg 89 _ rfl (p:=⟨M.heap.size,0,none⟩) rfl (run_loadVar_mid G _ _ _ (kc y.1) _ L3 underlying89 rfl (by rw[ke Ag];exact Jl))) ?_)
          |(go_at_call 78;refine A1.mono ?_;rintro e w5 ⟨U,rfl⟩;obtain⟨s,_⟩:=bcell U;have Ah:=hid (r.below U);have D5:Hid (∀j u,(kc x.2.1)[j]?=some u→w5.cell? ⟨wr.heap.size,34+j,none⟩=some u):=fun j u E=>(s _ _ a).trans (D3 j u E)
            have A5:Hid (∀j u,(kT x)[j]?=some u→w5.cell? ⟨wr.heap.size,0+j,none⟩=some u):=fun j u E=>(s _ _ a).trans (A3 j u E)
            have S:=hid (Xx J.out U);clear s U)
          |(refine kZ rfl 89 _ rfl wr.heap.size 34 rfl (kc x.2.1) _ D5 underlying89 rfl (by rw[ke N];exact Jl) ?_)
          |(refine kZ rfl 135 _ rfl wr.heap.size 0 rfl (kT x) _ A5 underlying135 rfl (by rw[j6 H.out];exact ZH) ?_)
          |(refine wp_mapPut rfl _ _ _ 159 rfl 135 keyEnc underlying159 rfl Ah Ac x.2.1 N rfl (ZG x) rfl ?_;intro W4 Ae Af))
       go_roundw
       case rel=>exact⟨i+1,by omega,by go_num,S.grown Af S.size (fun k e=>by cases e;exact xY _),m+1,by omega,hid (by rw[Z.out,←P.out];exact Ae)⟩
       case measure=>simp [intOf];omega
      ·have A4:=lastM_keep hlast hq;have g:=hid A4;have As:Kh x.1 y.1≤0:=yv;clear A4 hlast;generalize Kh x.1 y.1=q at *
       go_upto_region 6 with (first
          |(refine kZ rfl 89 _ rfl wr.heap.size 34 rfl (kc x.2.1) _ D underlying89 rfl (by rw[ke N];exact Jl) ?_)
          |(refine qQ rfl _ _ 159 rfl 135 keyEnc underlying159 (ZG zeroC) (qg _) rfl T x.2.1 N rfl ?_;rw[R.out];simp only[Option.getD_some,Option.isSome_some])
          |(refine Ks (B:=M.heap.size) (w0:=M) rfl 135 _ _ rfl M.heap.size _ rfl rfl 135 _ (heap_alloc_new _ _) (by rw[xz,j6 Q.out];exact ZH) (by rw[show (kT y).toArray.size=70 by rw[xz,j6 Q.out]];rfl) (by simpa using JW y) ((Below.refl _ _).alloc (xY _) _) (xY _) ?_;intro G C f _))
       obtain⟨L,_⟩:=bcell C;have r:=hid (T.below C);have D3:Hid (∀j u,(kc x.2.1)[j]?=some u→G.cell? ⟨wr.heap.size,34+j,none⟩=some u):=fun j u E=>(L _ _ F).trans (D j u E)
       have A3:Hid (∀j u,(kT x)[j]?=some u→G.cell? ⟨wr.heap.size,0+j,none⟩=some u):=fun j u E=>(L _ _ F).trans (O j u E)
       have K3:Hid (G.rangeAt wr.heap.size 0 (kc x.1)):=fun j u E=>A3.out j u (by have:=uy H.out j u E;rwa [Nat.zero_add] at this)
       have L3:Hid (G.rangeAt M.heap.size 0 (kc y.1)):=fun j u E=>(jo f (0+j)).trans (uy Q j u E)
       have a:Hid (wr.heap.size<G.heap.size):=Nat.lt_of_lt_of_le F.out C.size;have V:Below w.heap.size w G:=(Xx K I.out).trans (C.mono (Nat.le_trans K.size I.size));have J:=hid V;clear V L f C K;have A1:=X G;clear X
       go_wp2_with (first
          |(refine k7 yk (kg 89 _ rfl (p:=⟨wr.heap.size,0,none⟩) rfl (run_loadVar_mid G _ _ _ (kc x.1) _ K3 underlying89 rfl (by rw[ke Ad];exact Jl))) ?_)
          |(refine k7 yk (kg 89 _ rfl (p:=⟨M.heap.size,0,none⟩) rfl (run_loadVar_mid G _ _ _ (kc y.1) _ L3 underlying89 rfl (by rw[ke Ag];exact Jl))) ?_)
          |(go_at_call 78;refine A1.mono ?_;rintro e w5 ⟨U,rfl⟩;obtain⟨s,_⟩:=bcell U;have Ah:=hid (r.below U);have S:=hid (Xx J.out U);clear s U))
       go_roundw
       case rel=>exact⟨i+1,by omega,by go_num,S.out,m,by omega,hid (by rw[Z.out,←g.out];exact Ah.out)⟩
       case measure=>simp [intOf];omega
    ·go_wp2_with fail;go_ret;have e:l.take i=l:=Yq yv;have T:=hM.out;rw[e] at T;exact⟨K,rfl,m,by omega,T⟩
end
section
open Go.RowKit Go.Maps
abbrev Zs:={k:kE // kJ k}
theorem KW{k:kE}(h:kJ k):(prog.info? 89).map (·.size)=some (kc k).toArray.size:=by rw[xz,ke h];exact Jl
theorem keysIter_in(F:Fence)(n:Nat)(hf:F.fn 126)(hro:F.round=none)(hn:1≤n)(l Bm b nn:Nat)(m:kE→Option Value)(J Jx:List Zs→World→Prop)
    (hY:∀pre x W,J pre W→pre.length<nn→YieldAt F (n - 1) prog l #[vI x.1] W fun e W'=>(e=.returned (.bool true)∧J (pre++[x]) W'∧KeepsWalks W W')∨(e=.returned (.bool false)∧Jx (pre++[x]) W'))
    (W:World) (hJ:AbidesFrom W.heap.size J) (hm:W.cell? ⟨Bm,0,none⟩=some (.map (some b))) (hown:MapV W prog 89 kJ Um b nn m) (h0:J [] W):
    CallsIn F n prog 126 #[.func (.yield l) #[] #[],.pointer (some ⟨Bm,0,none⟩)] W fun e W'=>(∃v,e=.returned v)∧((∃A:List Zs,(Qb m A∧A.length≤nn)∧J A W')∨(∃pre,True∧Jx pre W')):=by
  obtain⟨D,q,s,t,O⟩:=hown;have Ac:=q.size_le;have V:=Lib.hid s;have X:=Lib.hid t
  clear s t O;refine callsIn_of_wp func126 rfl hf ?_ hro;simp only[ntmps126,xz,Yx,YJ,Nat.reduceAdd,Nat.reduceSub,Array.replicate_succ,Array.replicate_zero,List.push_toArray,List.append_toArray,YZ,YK]
  gi_wp2_with (first
    |(gi_at_range;refine wpListIn_range_own _ rfl _ 159 rfl 89 135 keyedKey underlying159 Rv b nn _ rfl q ?_;intro w0 Y u Ad)
    |gi_in)
  go_frame
  gi_loopw [3] (fun _ wr=>∃(E:Lit→Bool) (I:Nat) (A:List Zs),wr.ranges prog 89 Rv b W.heap.size nn D E I∧A.length+I≤Maps.size D∧CollK Um D E A∧J A wr)
    (fun _ wr=>wr.rangeLeft b W.heap.size)
  case atStart=>
    exact⟨_,_,[],Y,by simp,CollK.start D,hJ [] W w0 none h0 u (fun r e=>by cases e)⟩
  case round=>
    obtain⟨E,I,A,K,Ae,z,Q⟩:=hrel
    gi_wp2_with (first
      |(gi_at_next;refine wpListIn_next_ranges _ rfl _ rfl 89 keyedKey Rv (id:Value→Value) (id:Value→Value) (fun A0 kl C=>⟨A0,rfl⟩) (fun v y O=>⟨v,rfl⟩) b W.heap.size nn _ _ _ rfl K ?_ ?_)
      |gi_in)
    ·intro Af A1
     gi_wp2
     go_end0
     exact⟨⟨_,rfl⟩,.inl ⟨A,⟨z.done A1 X,by omega⟩,Q⟩⟩
    ·intro x c kl yd yp B Z L A2 O R a A3 A4 A5 S;have M:=has_true_of_atKey R;obtain⟨k,C,rfl⟩:=V.2 _ M;have A6:x=vI k:=keyedKey.inj L (keyEnc.of k C);subst A6;have A7:J A B:=hJ A wr B (some W.heap.size) Q A4 (fun r e=>by cases e;exact⟨xY _,K.iter_walk⟩);clear A5 L O R;obtain⟨d,f,g3⟩:=qf B (kc (0,k9,0)).toArray (kc k).toArray 89;have A8:J A _:=hJ A B _ none A7 d (fun r e=>by cases e);have g:=a.of_walks (KeepsWalks.of_grownBy d (fun j o e=>by cases e));have T:=fun (ρ:Operand→Value) (o:Oper) (x y:Operand) (ho:o.op=.store 89 x y) hx h=>uc (P:=prog) (w:=B.alloc (.cells (kc (0,k9,0)).toArray 89)) (ρ:=ρ) 89 x y ho B.heap.size (kc k).toArray hx h 89 (kc (0,k9,0)).toArray (heap_alloc_new _ _) (KW C) (by rw[xz,xz,ke C];rfl) (by simpa using j8 k)
     generalize (B.alloc (.cells (kc (0,k9,0)).toArray 89)).setRow B.heap.size (kc k).toArray=w3 at *;have U:=fun (ρ:Operand→Value) (o:Oper) (x:Operand) (ho:o.op=.load 89 x) hx=>kg (P:=prog) (ρ:=ρ) (w:=w3) 89 x ho (p:=⟨B.heap.size,0,none⟩) hx (run_loadVar_row w3 B.heap.size 89 89 _ (0,0) _ f underlying89 rfl (KW C))
     obtain⟨fn,Aa,A9,Ab,h,hR⟩:=hY A ⟨k,C⟩ w3 A8 yv;simp only[vI] at h S;have G:=Lib.hid T;have H:=Lib.hid U;have G2:=Lib.hid f
     clear T U d f g3;have i:=Lib.hid S
     gi_wp2_with (first
       |(refine JO rfl yx yx (G _ _ _ _ rfl rfl rfl) ?_)
       |(refine JA rfl yx yx (H _ _ _ rfl rfl) ?_)
       |gi_in)
     refine hR.mono ?_;rintro e W4 (⟨rfl,hJ4,hk4⟩|⟨rfl,hJ4⟩)
     ·have N:=g.of_walks hk4
      gi_wp2
      go_roundw
      case rel=>exact⟨_,Z,A++[⟨k,C⟩],N,by simp;omega,z.step (x:=⟨k,C⟩) keyEnc A2 M,hJ4⟩
      case measure=>rw[N.left_eq,K.left_eq];exact A3
     ·gi_wp2
      refine bodyPost_ret (results_none rfl _ _ _) rfl ?_;exact⟨⟨_,rfl⟩,.inr ⟨_,trivial,hJ4⟩⟩
theorem keys_gives(F:Fence)(n:Nat)(hf:F.fn 126)(hro:F.round=none)(hn:1≤n)(Bm b nn:Nat)(m:kE→Option Value)(w:World)(hBm:Bm<w.heap.size)
    (hm:w.cell? ⟨Bm,0,none⟩=some (.map (some b))) (hown:MapV w prog 89 kJ Um b nn m):
    SeqStopsK F n prog 126 #[.pointer (some ⟨Bm,0,none⟩)] (fun x:Zs=>#[vI x.1]) KeepsWalks (fun ss=>Qb m ss∧ss.length≤nn) (fun _=>True) nn w:=fun l J Jx W A B E C D=>
  keysIter_in F n hf hro hn l Bm b nn m J Jx C W B ((A.cell (p:=⟨Bm,0,none⟩) hBm).trans hm) (hown.below A) D
theorem keysSeq_in(F:Fence)(n:Nat)(hf:F.fn 76)(hro:F.round=none)(mb:Option Nat)(w:World):
    CallsIn F n prog 76 #[.map mb] w fun e w'=>e=.returned (.func (.func 126) #[] #[.pointer (some ⟨w.heap.size,0,none⟩)])∧w'=w.alloc (.cells #[.map mb] 159):=by
  refine callsIn_of_wp func76 rfl hf ?_ hro;simp only[ntmps76,xz,Yx,YJ,Nat.reduceAdd,Nat.reduceSub,Array.replicate_succ,Array.replicate_zero,List.push_toArray,List.append_toArray,YZ,YK]
  gi_wp2
  go_ret;exact⟨rfl,rfl⟩
end
section
open Go.RowKit Go.Maps Go.Shelf
attribute [local go_sem] Oper.semAt_some
theorem keyInfo:(prog.info? 89).map (fun i=>(i.zero,i.size,i.bytes))=some (some (vI (0,k9,0)),34,48):=yq
def KeyBox(W:World)(B:Nat)(k:kE):Prop:=W.heap[B]?=some (.cells (kc k).toArray 89 (0,0))
theorem keyBox_own(B:Nat)(k:kE):Own (fun (_:Unit) W=>KeyBox W B k):=fun s X Y H A F C=>by
  have D:=(Array.getElem?_eq_some_iff.1 (show X.heap[B]?=_ from A)).1;refine(F.block B D fun e=>?_).trans A;obtain⟨o,E,G⟩:=C B e.symm;rw[show X.heap[B]?=_ from A] at E;cases E;cases G
def keysV(ss:List Zs):List Value:=ss.flatMap fun k=>kc k.1
theorem appSeq_in(F:Fence)(n:Nat)(hf:F.fn 174)(hro:F.round=none)(hn:2≤n)(g:Nat)(lb:Array Value)(hFg:F.fn g)(eg:∀args w,(callFunc g args).run prog w=.ok (.enter g args) w)
    (S Sp:List Zs→Prop) (N:Nat) (hN:N≤1099511627776) (w:World) (hseq:SeqStopsK F (n - 1) prog g lb (fun x:Zs=>#[vI x.1]) KeepsWalks S Sp N w):
    CallsIn F n prog 174 #[.slice none 0 0,.func (.func g) #[] lb] w fun e w'=>∃(v:Value) (ss:List Zs),e=.returned v∧S ss∧w'.ownsRow w.heap.size 89 34 v ss.length (keysV ss)∧(v=.slice none 0 0↔ss=[])∧Below w.heap.size w w':=by
  have q:1≤n:=yv;obtain⟨i0,hi,A0,A1,A2⟩:=info_parts keyInfo;refine callsIn_of_wp_marks func174 rfl hf ?_ hro;simp only[ntmps174,xz,Yx,YJ,Nat.reduceAdd,Nat.reduceSub,Array.replicate_succ,Array.replicate_zero,List.push_toArray,List.append_toArray,YZ,YK]
  gi_wp2
  have A9:(w.alloc (.cells #[.slice none 0 0] 161)).heap.size=w.heap.size+1:=by simp
  have bS:=Boxed.new w 161 (.slice none 0 0);have Z:Below w.heap.size w (w.alloc (.cells #[.slice none 0 0] 161)):=(Below.refl _ w).alloc (xY _) _;have s:(w.alloc (.cells #[.slice none 0 0] 161)).ownsRow w.heap.size 89 34 (.slice none 0 0) 0 []:=⟨rfl,.inl ⟨rfl,rfl⟩⟩;generalize hW0:w.alloc (.cells #[.slice none 0 0] 161)=W0 at *;clear hW0;refine wpIn_rangeFunc_ownH hro q (gf:=g) (lb:=lb) rfl hFg eg hseq walksK_t walksK_b Z (fun _=>rfl)
    (fun A W=>(∃v,Boxed W w.heap.size 161 v∧W.ownsRow w.heap.size 89 34 v A.length (keysV A)∧(v=.slice none 0 0↔A=[]))∧Below w.heap.size w W)
    (fun _ _ _=>False)
    (OwnFrom.and (Own.from (holdsRow_own w.heap.size w.heap.size 161 89 34 (fun A:List Zs=>A.length) (fun A=>keysV A) (fun A v=>v=.slice none 0 0↔A=[])) _) (ownFrom_below (xY _) yv))
    (fun _ _ _ _ _ t _ _=>t)
    ⟨⟨_,bS,s,by simp⟩,Z⟩
    (fun x z W=>∃Bx,w.heap.size<Bx∧KeyBox W Bx x.1∧z={ tmps:=#[.slice none 0 0,.func (.func g) #[] lb,.pointer (some ⟨w.heap.size,0,none⟩),undef,.slice none 0 0,.pointer (some ⟨Bx,0,none⟩),.func (.func g) #[] lb,vI x.1,undef,undef,undef,undef,undef],defers:=[]})
    (fun x z _ X Y A3 t hg T=>by obtain⟨Bx,q,h2,h3⟩:=t;exact⟨Bx,q,keyBox_own Bx x.1 () X Y A3 h2 hg (fun r e=>(T r e).2),h3⟩)
    ?assign ?body ?done ?stop
  case assign=>
    rintro l A x W K ⟨⟨v,G,T,U⟩,C⟩ O;obtain⟨Q,g2,g3⟩:=qf W (kc (0,k9,0)).toArray (kc x.1).toArray 89;have a:=fun (ρ:Operand→Value) (o:Oper) (p y:Operand) (ho:o.op=.store 89 p y) hx hy=>uc (P:=prog) (w:=W.alloc (.cells (kc (0,k9,0)).toArray 89)) (ρ:=ρ) 89 p y ho W.heap.size (kc x.1).toArray hx hy 89 (kc (0,k9,0)).toArray (heap_alloc_new _ _) (KW x.2) (by rw[xz,xz,ke x.2];rfl) (by simpa using j8 x.1)
    have I:=Lib.hid a;clear a;generalize (W.alloc (.cells (kc (0,k9,0)).toArray 89)).setRow W.heap.size (kc x.1).toArray=W3 at *
    gi_wp2_with (first
      |(refine JO rfl yx yx (I _ _ _ _ rfl rfl rfl) ?_)
      |gi_in)
    refine O _ _ ((KeepsOthers.of_grownBy Q (fun j o e=>by cases e)).from _) (KeepsWalks.of_grownBy Q (fun j o e=>by cases e)) ⟨⟨v,G.kept Q yZ,T.kept Q ?_,U⟩,C.grown Q C.size (fun k e=>by cases e)⟩ ⟨W.heap.size,G.lt,g2,rfl⟩;cases hvb:v.ownBlock with
    |none=>exact .inl rfl
    |some b=>exact .inr yZ
  case body=>
    rintro l A x z W hl ⟨r,T⟩ ⟨⟨v,G,B,U⟩,C⟩ ⟨Bx,Ab,bX,rfl⟩ Ac;have R:=G.cell;have Ad:=C.size;have A4:A.length+1≤maxLen:=by unfold maxLen;omega
    have A5:(A.length+1)*48≤140737488355328:=yv;have d:=fun (W1:World) (hb:KeyBox W1 Bx x.1) (ρ:Operand→Value) (o:Oper) (p:Operand) (ho:o.op=.load 89 p) hx=>kg (P:=prog) (ρ:=ρ) (w:=W1) 89 p ho (p:=⟨Bx,0,none⟩) hx (run_loadVar_row W1 Bx 89 89 _ (0,0) _ hb underlying89 rfl (KW x.2))
    have f:=fun (ρ:Operand→Value) (o:Oper) (p:Operand) (ho:o.op=.buildSlice 161 1 #[(0,p)]) hx=>Zq (P:=prog) (w:=W) (ρ:=ρ) 161 p ho 89 underlying161 (vI (0,k9,0)) 34 48 keyInfo rfl yj yj (kc x.1) (ke x.2) hx
    have J:=Lib.hid (d W bX);have L:=Lib.hid f
    have E:∀j u,(kc x.1)[j]?=some u→(W.alloc (.cells (kc x.1).toArray 89)).cell? ((⟨W.heap.size,0,none⟩:Addr).add j)=some u:=by
      intro j u hj;rw[Addr.add_mid,jo (heap_alloc_new _ _)]
      simpa using hj
    have M:=Lib.hid E;clear d f E
    gi_wp2_with (first
      |((with_reducible refine JA rfl ?_ ?_ (J.out _ _ (.tmp 5) ?_ ?_) ?_)
        ·intro c h;cases h
        ·intro c h;cases h
        ·with_reducible exact rfl
        ·exact rfl)
      |((with_reducible refine JA rfl ?_ ?_ (L.out _ _ (.tmp 9) ?_ ?_) ?_)
        ·intro c h;cases h
        ·intro c h;cases h
        ·with_reducible exact rfl
        ·exact rfl)
      |(gi_at_builtin;refine wpListIn_append_own _ rfl _ _ 161 rfl w.heap.size 89 i0 (vI (0,k9,0)) 34 48 underlying161 hi A0 A1 A2 rfl yj _ _ _ rfl (B.alloc _) ⟨W.heap.size,0,none⟩ 1 1 (kc x.1) rfl (by rw[ke x.2]) M.out (j8 x.1) A4 A5 yX ?_;intro v' w1 H V _;obtain⟨g',Aa,rfl⟩:=ownsRow_succ H;obtain⟨R,A6,A7,i,A8⟩:=G.appended yj B C.size (xY _) H V;have Ae:=R.cell;have Af:=R.frozen)
      |gi_in)
    have m:=A7;rw[show keysV A++kc x.1=keysV (A++[x]) by simp [keysV]] at m;exact⟨i.from _,i.walks,⟨_,A6,by simpa using m,by simp⟩,C.trans A8⟩
  case done=>
    rintro D zs W hD hS ⟨⟨v,G,B,U⟩,C⟩ O;have cS:=G.cell
    gi_wp2
    refine⟨by simp,.inl ⟨_,_,rfl,run_takeDeferred O,?_⟩⟩;exact⟨_,results_tmp rfl _ _ _,v,zs,rfl,hS,ownsRow_putObj B _ O rfl,U,C.trans (belowK_b (w:=w) (xY _) W D _ _ yv O rfl rfl)⟩
  case stop=>
    rintro D c A W _ _ h _;exact h.elim
theorem collect_in(F:Fence)(n:Nat)(hf:F.fn 124)(hf2:F.fn 174)(hro:F.round=none)(hn:3≤n)(g:Nat)(lb:Array Value)(hFg:F.fn g)(eg:∀args w,(callFunc g args).run prog w=.ok (.enter g args) w)
    (S Sp:List Zs→Prop) (N:Nat) (hN:N≤1099511627776) (w:World) (hseq:SeqStopsK F (n - 1 - 1) prog g lb (fun x:Zs=>#[vI x.1]) KeepsWalks S Sp N w):
    CallsIn F n prog 124 #[.func (.func g) #[] lb] w fun e w'=>∃(v:Value) (ss:List Zs),e=.returned v∧S ss∧w'.ownsRow w.heap.size 89 34 v ss.length (keysV ss)∧(v=.slice none 0 0↔ss=[])∧Below w.heap.size w w':=by
  have E:1≤n:=yv;refine callsIn_of_wp func124 rfl hf ?_ hro;simp only[ntmps124,xz,Yx,YJ,Nat.reduceAdd,Nat.reduceSub,Array.replicate_succ,Array.replicate_zero,List.push_toArray,List.append_toArray,YZ,YK]
  gi_wp2_with (gi_at_call 174;refine(appSeq_in F (n - 1) hf2 hro yv g lb hFg eg S Sp N hN _ hseq).mono ?_;rintro e w' ⟨v,ss,rfl,C,A,B,D⟩)
  go_ret;exact⟨v,ss,rfl,C,A,B,D⟩
end
section
open Go.RowKit Go.Sort
section
variable {α:Type} [Inhabited α] {enc:α→List Value} {k:Nat}
theorem flatK_is(hk:∀x,(enc x).length=k)(hk0:0<k)(l:List α):flatK enc k l.toArray=(kf enc l).toArray:=by
  have B:(kf enc l).length=l.length*k:=jb fun x _=>hk x
  refine ext_get! (by simp [B]) fun t F=>?_
  have A:t<l.length*k:=by simpa using F
  rw[get_flatK enc k l.toArray t (by simpa using A)];have C:t / k<l.length:=(Nat.div_lt_iff_lt_mul hk0).2 A;have D:t % k<k:=Nat.mod_lt _ hk0;have E:=K9 (l:=l) (fun x _=>hk x) (t / k) C (t % k) _ (yK (by rw[hk];exact D));rw[show t / k*k+t % k=t by rw[Nat.mul_comm];exact Nat.div_add_mod t k] at E;rw[show (l.toArray)[t / k]! =l[t / k] by simp [C],getElem!_pos _ _ (by rw[hk];exact D),getElem!_pos _ _ (by simpa [B] using A)];obtain⟨_,G⟩:=yJ.1 E
  simpa using G.symm
variable {w:World} {base g cap:Nat} {e:TypeId} {cur:Array Value} {l:List α}
theorem Ue(hk:∀x,(enc x).length=k)(hk0:0<k)(hb:w.heap[g]?=some (.cells cur e (0,0)))(ht:cur.toList.take (l.length*k)=kf enc l):HoldsK enc k w g 0 l.toArray:=by
  unfold HoldsK;rw[flatK_is hk hk0];intro j C;have D:(kf enc l).length=l.length*k:=jb fun x _=>hk x
  have A:j<(kf enc l).length:=by simpa using C
  refine⟨?_,by simp [World.frozen?,hb]⟩;have B:(cur.toList.take (l.length*k))[j]?=(kf enc l)[j]?:=by rw[ht]
  rw[List.getElem?_take_of_lt yv] at B;simp only[World.cell?,hb,Nat.zero_add];simp only[Option.isSome_none,Bool.false_eq_true,if_false];rw[←Array.getElem?_toList,B];simp [A]
theorem sortedK_sl(hk:∀x,(enc x).length=k)(hk0:0<k)(hb:w.heap[g]?=some (.cells cur e (0,0)))(hH:HoldsK enc k w g 0 l.toArray)(hbase:base≤g){t:List α}(ht:t.length=l.length)(m:Nat)(os:Array Obj)(w0:World)(hw:Below base w0 w):
    Sl (sortWorldK enc k w g 0 m t.toArray os) (sortWorldK enc k w g 0 m t.toArray os).heap.size (some ⟨g,0,none⟩) l.length k (kf enc t)∧Below base w0 (sortWorldK enc k w g 0 m t.toArray os):=by
  have H:g<w.heap.size:=(Array.getElem?_eq_some_iff.1 hb).1;have A:(kf enc t).length=t.length*k:=jb fun x _=>hk x
  have C:(kf enc l).length=l.length*k:=jb fun x _=>hk x
  unfold HoldsK at hH;rw[flatK_is hk hk0] at hH;have D:Holds id (Sort.ahead w m) g 0 (kf enc l).toArray:=hH;have B:(grow (putRow id (Sort.ahead w m) g 0 (kf enc t).toArray) os).heap.size=w.heap.size+os.size:=by
    unfold grow putRow mapBlock Sort.ahead;simp
  unfold sortWorldK putRowK;rw[flatK_is hk hk0];refine⟨⟨by rw[A,ht],fun _=>⟨g,0,rfl,by rw[B];omega,fun j u I=>?_⟩⟩,?_⟩
  ·obtain⟨E,F⟩:=yJ.1 I;have J:=cell?_putRow id (Sort.ahead w m) g 0 (kf enc l).toArray (kf enc t).toArray D (by simp [A,C,ht]) j (by simpa using E);have G:(grow (putRow id (Sort.ahead w m) g 0 (kf enc t).toArray) os).cell? ⟨g,0+j,none⟩=(putRow id (Sort.ahead w m) g 0 (kf enc t).toArray).cell? ⟨g,0+j,none⟩:=by
     unfold World.cell? grow;simp only;rw[Array.getElem?_append_left (by unfold putRow mapBlock Sort.ahead;simpa using H)]
   rw[G,J];simp [E,F]
  ·refine hw.trans ⟨rfl,rfl,rfl,by rw[B];omega,fun q K=>?_⟩;unfold grow;simp only;rw[Array.getElem?_append_left (by unfold putRow mapBlock Sort.ahead;simp;omega)];unfold putRow mapBlock Sort.ahead;simp only;rw[Array.getElem?_modify,if_neg yv]
end
end
section
open Go.RowKit Go.Maps Go.Shelf Go.Sort
instance:Inhabited Zs:=⟨⟨(0,k9,0),⟨by decide,jT,by decide⟩⟩⟩
def cmpS(a b:Zs):Int:=Kh a.1 b.1
theorem ltS(a b:Zs):ltOf cmpS a b=decide (Kh a.1 b.1<0):=rfl
theorem swoS:SWO (ltOf cmpS) where
  irrefl x:=by rw[ltS,Js];rfl
  trans x y z h1 h2:=by
    rw[ltS,decide_eq_true_eq] at *;exact JU h1 h2
  ntrans x y z h1 h2:=by
    rw[ltS,decide_eq_false_iff_not] at *;intro h;rcases Zy x.1 y.1 with q|q|q
    ·exact h1 q
    ·rw[q] at h;exact h2 h
    ·exact h2 (JU q h)
theorem partS(x y:Zs)(h1:ltOf cmpS x y=false)(h2:ltOf cmpS y x=false):x=y:=by
  rw[ltS,decide_eq_false_iff_not] at *;rcases Zy x.1 y.1 with q|q|q
  ·exact absurd q h1
  ·exact Subtype.ext q
  ·exact absurd q h2
theorem closure_gr(a b:kE)(w:World)(ha:kJ a)(hb:kJ b):
    Calls prog 77 #[.agg (kc a).toArray,.agg (kc b).toArray] w fun e w'=>Gr w w'∧e=.returned (.int .i64 (Kh a b)):=by
  have B:(w.alloc (.cells (kc a).toArray 89)).heap[w.heap.size]?=some (.cells (kc a).toArray 89 (0,0)):=heap_alloc_new _ _;go_enter func77,ntmps77
  go_upto_region 1 with fail
  have F:((w.alloc (.cells (kc a).toArray 89)).alloc (.cells (kc b).toArray 89)).heap[w.heap.size]?=some (.cells (kc a).toArray 89 (0,0)):=by
    exact(heap_alloc_old (w.alloc (.cells (kc a).toArray 89)) _ yZ).trans B
  have G:((w.alloc (.cells (kc a).toArray 89)).alloc (.cells (kc b).toArray 89)).heap[w.heap.size+1]?=some (.cells (kc b).toArray 89 (0,0)):=by
    have:=heap_alloc_new (w.alloc (.cells (kc a).toArray 89)) (.cells (kc b).toArray 89);rw[World.size_alloc] at this;exact this
  have H:Gr w ((w.alloc (.cells (kc a).toArray 89)).alloc (.cells (kc b).toArray 89)):=((Gr.refl _).alloc _).alloc _;clear B;generalize (w.alloc (.cells (kc a).toArray 89)).alloc (.cells (kc b).toArray 89)=W at *;have C:=Lib.hid F;have D:=Lib.hid G;have E:=Lib.hid H
  clear F G H;have A:=keys_gr a b W ha hb
  go_wp2_with (first
    |(refine wpList_load_row rfl 89 _ rfl w.heap.size rfl 89 _ (0,0) _ C underlying89 rfl (KW ha) ?_)
    |(refine wpList_load_row rfl 89 _ rfl (w.heap.size+1) rfl 89 _ (0,0) _ D underlying89 rfl (KW hb) ?_)
    |(go_at_call 78;refine A.mono ?_;rintro e J ⟨I,rfl⟩))
  go_ret;exact⟨E.trans I,rfl⟩
theorem cmpLays(blk off size:Nat)(w:World):CmpLays prog 77 #[] (fun x:Zs=>kc x.1) 34 cmpS blk off size w:=
  fun _ _ _ _ x y=>(closure_gr x.1 y.1 _ x.2 y.2).mono fun e w' ⟨⟨q,A,h⟩,B⟩=>⟨B,q,A,h⟩
def ordS(ss:List Zs):List Zs:=ss.mergeSort fun x y=> !(ltOf cmpS) y x
theorem uI(ss:List Zs):(ordS ss).Perm ss:=List.mergeSort_perm _ _
theorem ordS_rising{ss:List Zs}(hn:ss.Nodup):Rising ((ordS ss).map (·.1)):=by
  have D:(ordS ss).Pairwise fun a b=>(!(ltOf cmpS) b a)=true:=by
    refine List.pairwise_mergeSort (fun a b c A B=>?_) (fun a b=>?_) ss
    ·simp only[Bool.not_eq_true'] at *;exact swoS.ntrans _ _ _ B A
    ·simp only[Bool.or_eq_true,Bool.not_eq_true'];rw[ltS,ltS,decide_eq_false_iff_not,decide_eq_false_iff_not];rcases Zy a.1 b.1 with q|q|q
     ·left;intro h;have:=JU q h;rw[Js] at this;omega
     ·left;rw[q,Js];omega
     ·right;intro h;have:=JU q h;rw[Js] at this;omega
  have C:(ordS ss).Nodup:=(uI ss).nodup_iff.2 hn;unfold Rising;rw[List.pairwise_map];refine(D.and C).imp ?_;rintro a b ⟨A,B⟩;simp only[Bool.not_eq_true'] at A;rw[ltS,decide_eq_false_iff_not] at A;rcases Zy a.1 b.1 with q|q|q
  ·exact q
  ·exact absurd (Subtype.ext q) B
  ·exact absurd q A
theorem ordS_mem{m:kE→Option Value}{ss:List Zs}(h:Qb m ss)(x:Zs):x∈ordS ss↔(m x.1).isSome=true:=by
  rw[(uI ss).mem_iff];exact h.2 x
theorem sorted_keys(b nn:Nat)(m:kE→Option Value)(w:World)(hnn:nn≤1099511627776)(hown:MapV w prog 89 kJ Um b nn m)(Bm:Nat)(hBm:w.cell? ⟨Bm,0,none⟩=some (.map (some b))):
    Calls prog 75 #[.func (.func 126) #[] #[.pointer (some ⟨Bm,0,none⟩)],.func (.func 77) #[] #[]] w fun e w'=>
      Below w.heap.size w w'∧∃A c ds,(∃B:List Zs,Qb m B∧ds=(ordS B).map (·.1))∧e=.returned (.slice A ds.length c)∧Sl w' w'.heap.size A ds.length 34 (kf kc ds):=by
  have M:Bm<w.heap.size:=block_lt_of_cell hBm
  have H:=fun (W:World) (hb:Below w.heap.size w W)=>callsIn_wide.1 (collect_in Fence.wide 5 trivial trivial rfl yj 126 #[.pointer (some ⟨Bm,0,none⟩)] trivial (enters_of func126 yq rfl) (fun B=>Qb m B∧B.length≤nn) (fun _=>True) nn hnn W
    (keys_gives Fence.wide (5 - 1 - 1) trivial rfl yj Bm b nn m W (Nat.lt_of_lt_of_le M hb.size) ((hb.cell (p:=⟨Bm,0,none⟩) M).trans hBm) (hown.below hb)))
  have N:=H w (Below.refl _ _);clear H;have d:=Lib.hid hown;clear hown hBm;go_enter func75,ntmps75;go_wp2_with fail;refine N.mono ?_;rintro e I ⟨v,B,rfl,⟨U,f⟩,E,J,O⟩;clear N;have D:=Lib.hid O;have F:=Lib.hid U
  clear O U;rcases E.2 with⟨rfl,V⟩|⟨g,P,k,rfl,K,L,l,o,q,X⟩
  ·have Y:B=[]:=List.eq_nil_of_length_eq_zero V;subst Y;have C:=AnyF.slices_SortFunc_none { Tryz.laysSortKeys with} (none:Option Addr) 0 (.func (.func 77) #[] #[]) I;change Calls prog 125 _ _ _ at C;clear E J V
   go_wp2_with (go_at_call 125;refine C.mono ?_;rintro e h ⟨rfl,rfl⟩)
   go_ret;exact⟨D,none,0,[],⟨[],F,by simp [ordS]⟩,rfl,Sl.nil⟩
  ·have R:∀x:Zs,(kc x.1).length=34:=fun x=>ke x.2
   have S:HoldsK (fun x:Zs=>kc x.1) 34 I g 0 B.toArray:=Ue R yj L X;have Z:g<I.heap.size:=(Array.getElem?_eq_some_iff.1 L).1;have a:B.toArray.size<4611686018427387904:=by rw[xz];omega
   have C:=AnyQ.slices_SortFunc_total Tryz.laysSortKeys 34 Tryz.isAgg89 Tryz.sizeOf89 (fun x:Zs=>kc x.1) R (fun x=>j8 x.1) cmpS swoS 77 #[] g 0 P B.toArray I
     (enters_of func77 yq rfl) (cmpLays g 0 _ I) S Z a partS
   change Calls prog 125 _ _ _ at C;have Q:=fun (n:Nat) (T:Array Obj)=>sortedK_sl R yj L S K (t:=ordS B) ((uI B).length_eq) n T w D.out
   have G:=Lib.hid Q;clear Q S E J L X;simp only[xz] at C
   go_wp2_with (go_at_call 125;refine C.mono ?_;rintro e h ⟨rfl,n,T,rfl⟩)
   go_ret;obtain⟨i,j⟩:=G.out n T;refine⟨j,some ⟨g,0,none⟩,P,(ordS B).map (·.1),⟨B,F,rfl⟩,?_,?_⟩
   ·rw[Yv,(uI B).length_eq];rfl
   ·rw[Yv,(uI B).length_eq,show kf kc ((ordS B).map (·.1))=kf (fun x:Zs=>kc x.1) (ordS B) by simp [kf,List.flatMap_map]];exact i
end
section
open Go.RowKit Go.Maps
section
variable {P:Program} {K:TypeId} {κ:Type} {ok:κ→Prop} {val:κ→Value} {kl:κ→Lit} {w:World} {b n:Nat} {m:κ→Option Value}
theorem EqT.law{t:TypeId}{d:Nat}(E:EqT P t d):WideMaps.KeyLaw P t:=deep_law_laid E.laid (m:=P.types.size+1) E.few E.row E.key E.wide
theorem MapV.update{t e:TypeId}[DecidableEq κ](E:KeyEnc P K ok val kl)(ht:P.underlying t=some (.map K e))(h:MapV w P K ok kl b n m)(hn:n<maxLen){k0:κ}(hk:ok k0)(v0:Value):
    ∃w',(Instr.mapUpdate t (.map (some b)) (val k0) v0).run P w=.ok () w'∧MapV w' P K ok kl b (n+1) (fun k=>if k=k0 then some v0 else m k)∧w.grownBy w' (some b):=by
  obtain⟨D,B,C,F,G⟩:=h;obtain⟨w',A,H,I⟩:=B.update E.keyed ht hn (val:=v0) (d:=.held v0) (ps:=[]) (E.of k0 hk) rfl;obtain⟨J,L,M⟩:=Qu E C F G hk v0;exact⟨w',A,⟨_,H,J,L,M⟩,I⟩
theorem setBlock_same{w:World}{b:Nat}{o:Obj}(h:w.heap[b]?=some o):Go.ChangeMaps.setBlock w b o=w:=by
  unfold Go.ChangeMaps.setBlock;obtain⟨A,B⟩:=Array.getElem?_eq_some_iff.1 h;have:w.heap.setIfInBounds b o=w.heap:=by
    apply Array.ext_getElem?;intro j;by_cases e:b=j
    ·subst e;simp [A,B]
    ·rw[Array.getElem?_setIfInBounds_ne e]
  rw[this]
theorem MapV.look{t e:TypeId}(E:KeyEnc P K ok val kl)(ht:P.underlying t=some (.map K e)){z:Value}(hz:∀u:World,(zeroValue e).run P u=.ok z u)(h:MapV w P K ok kl b n m){k0:κ}(hk:ok k0):
    (Instr.lookup t (.map (some b)) (val k0) false).run P w=.ok ((m k0).getD z) w:=by
  obtain⟨D,F,L,G,H⟩:=h;obtain⟨v,M,B,I⟩:=F.lookup E.keyed ht (hz w) (zd:=.held z) (zp:=[]) rfl (E.of k0 hk);have C:v=(m k0).getD z:=by
    have A:(DataW.held v:DataW Value)=D.atKey (kl k0) (.held z):=congrArg Prod.fst (Option.some.inj I);rcases hmk:m k0 with _ |u
    ·have J:has D (kl k0)=false:=by rw[G k0 hk,hmk];rfl
     rw[atKey_of_not_has J] at A;injection A
    ·rw[H k0 u hk hmk] at A;injection A
  rw[←C];exact B
theorem ex_lookup{ρ:Operand→Value}{o:Oper}{w w':World}(t:TypeId)(x ix:Operand)(c:Bool)(ho:o.op=.lookup t x ix c){vm vk v:Value}(hx:ρ x=vm)(hk:ρ ix=vk)(h:(Instr.lookup t vm vk c).run P w=.ok v w'):(execOp ρ o).run P w=.ok (.value v) w':=by
  unfold execOp;simp only[ho,hx,hk,Sem.run_bind,h,Result.andThen_ok,Sem.run_pure]
theorem ex_mapEntry{ρ:Operand→Value}{o:Oper}{w w':World}(t:TypeId)(x ix:Operand)(ho:o.op=.mapEntry t x ix){vm vk v:Value}(hx:ρ x=vm)(hk:ρ ix=vk)(h:(Instr.mapEntry t vm vk).run P w=.ok v w'):(execOp ρ o).run P w=.ok (.value v) w':=by
  unfold execOp;simp only[ho,hx,hk,Sem.run_bind,h,Result.andThen_ok,Sem.run_pure]
theorem qE{ρ:Operand→Value}{o:Oper}{w w':World}(t:TypeId)(x s y:Operand)(ho:o.op=.entryStore t x s y){vm vs v:Value}(hx:ρ x=vm)(hs:ρ s=vs)(hy:ρ y=v)(h:(Instr.entryStore t vm vs v).run P w=.ok () w'):(execOp ρ o).run P w=.ok .skip w':=by
  unfold execOp;simp only[ho,hx,hs,hy,Sem.run_bind,h,Result.andThen_ok,Sem.run_pure]
open Go.ChangeMaps in
theorem MapV.entry{t e:TypeId}[DecidableEq κ](E:KeyEnc P K ok val kl)(L:WideMaps.KeyLaw P K)(ht:P.underlying t=some (.map K e)){z:Value}(hz:∀u:World,(zeroValue e).run P u=.ok z u)(h:MapV w P K ok kl b n m)(hn:n<maxLen){k0:κ}(hk:ok k0):
    ∃(st:Nat) (w1:World),(Instr.mapEntry t (.map (some b)) (val k0)).run P w=.ok (.tuple #[(m k0).getD z,goInt st]) w1∧w.grownBy w1 (some b)∧MapV w1 P K ok kl b (n+1) (fun k=>if k=k0 then some ((m k0).getD z) else m k)∧
     ∀M,∃w2,(Instr.entryStore t (.map (some b)) (goInt st) M).run P w1=.ok () w2∧MapV w2 P K ok kl b (n+1) (fun k=>if k=k0 then some M else m k)∧w.grownBy w2 (some b):=by
  have f:=h;obtain⟨D,⟨H,A,C,F,g,l⟩,hm,o,h4⟩:=f;have B:=E.of k0 hk;have A0:=(Array.getElem?_eq_some_iff.1 C).1;have T:(Instr.lookup t (.map (some b)) (val k0) false).run P w=.ok ((m k0).getD z) w:=by
    obtain⟨v,ps,G,f⟩:=World.ownsMap.lookup ⟨H,A,C,F,g,l⟩ E.keyed ht (hz w) (zd:=.held z) (zp:=[]) rfl B;have A1:v=(m k0).getD z:=by
      have X:(DataW.held v:DataW Value)=D.atKey (kl k0) (.held z):=congrArg Prod.fst (Option.some.inj f);rcases hmk:m k0 with _ |u
      ·have hh:has D (kl k0)=false:=by rw[o k0 hk,hmk];rfl
       rw[atKey_of_not_has hh] at X;injection X
      ·rw[h4 k0 u hk hmk] at X;injection X
    rw[←A1];exact G
  have U:∀(st:Nat) (w1:World),(Instr.mapEntry t (.map (some b)) (val k0)).run P w=.ok (.tuple #[(m k0).getD z,goInt st]) w1→
      ∀M,∃w2,(Instr.entryStore t (.map (some b)) (goInt st) M).run P w1=.ok () w2∧MapV w2 P K ok kl b (n+1) (fun k=>if k=k0 then some M else m k)∧w.grownBy w2 (some b):=by
    intro st w1 N M;obtain⟨u,A2,V,I,G,_,A3⟩:=WideElems.entry_then_store L ht hz C F B;rw[G] at N;injection N with hr1 hr2;injection hr1 with hr1;have p:A2=st:=by
      have:=congrArg (fun a:Array Value=>a[1]?) hr1;simp [goInt] at this;omega
    subst hr2;subst p;have A4:(setBlock w b (.map V I)).heap[b]?=some (.map V I):=by simp [setBlock,A0]
    obtain⟨c,O,g1,g2⟩:=A3 _ M A4;obtain⟨w',J,r,s⟩:=MapV.update E ht h hn hk M;rw[g2] at J;injection J with _ J;have e2:setBlock (setBlock w b (.map V I)) b (.map c O)=setBlock w b (.map c O):=by simp [setBlock]
    exact⟨w',by rw[g1,e2,J],r,s⟩
  rcases L.find w B H.toList F.keys with⟨R,f2⟩|⟨j,S,R,f2,f3⟩
  ·have d:(m k0).getD z=z:=by
     have:=T;have Q:=L.check w H.isEmpty B;simp [Instr.lookup,run_underlying ht,MapKept.run_getObj_map C,Q,R,hz] at this;exact this.symm
   have N:(Instr.mapEntry t (.map (some b)) (val k0)).run P w=.ok (.tuple #[(m k0).getD z,goInt A]) (setBlock w b (.map (H.push ⟨val k0,z,A⟩) (A+1))):=by
     rw[d];simp [Instr.mapEntry,run_underlying ht,MapKept.run_getObj_map C,L.check w false B,R,hz,MapKept.run_setObj_map _ C,Result.andThen,setBlock]
   obtain⟨w',J,r,s⟩:=MapV.update E ht h hn hk z;have A5:(Instr.mapUpdate t (.map (some b)) (val k0) z).run P w=.ok () (setBlock w b (.map (H.push ⟨val k0,z,A⟩) (A+1))):=by
     simp [Instr.mapUpdate,run_underlying ht,MapKept.run_getObj_map C,L.check w false B,R,MapKept.run_setObj_map _ C,Result.andThen,setBlock]
   rw[A5] at J;injection J with _ J;exact⟨A,_,N,by rw[J];exact s,by rw[J,d];exact r,U _ _ N⟩
  ·have hj:H[j]?=some S:=by simpa using f2
   have W:(m k0).getD z=S.val:=by
     have:=T;have Q:=L.check w H.isEmpty B;simp [Instr.lookup,run_underlying ht,MapKept.run_getObj_map C,Q,R] at this;exact this.symm
   have Y:H.modify j (fun e=>{ e with key:=val k0})=H:=by
     have A6:({ S with key:=val k0}:MapEntry)=S:=by rw[←f3]
     apply Array.ext_getElem?;intro i;rw[Array.getElem?_modify];by_cases q:j=i
     ·subst q;rw[if_pos rfl,hj,Option.map_some,A6]
     ·rw[if_neg q]
   have N:(Instr.mapEntry t (.map (some b)) (val k0)).run P w=.ok (.tuple #[(m k0).getD z,goInt S.born]) w:=by
     have Z:=L.stays w B;rw[W];simp [Instr.mapEntry,run_underlying ht,MapKept.run_getObj_map C,L.check w false B,R,hj,f3,Z,Y,MapKept.run_setObj_map _ C,Result.andThen];exact setBlock_same C
   refine⟨S.born,w,N,⟨rfl,rfl,rfl,xY _,fun _ _ _=>rfl⟩,?_,U _ _ N⟩;have x:m k0=some S.val:=by
     obtain⟨v,ps,G,_⟩:=World.ownsMap.look_ok ⟨H,A,C,F,g,l⟩ E.keyed ht (hz w) (zd:=.held z) (zp:=[]) rfl B;have Q:=L.check w H.isEmpty B;simp [Instr.lookup,run_underlying ht,MapKept.run_getObj_map C,Q,R] at G;have y:has D (kl k0)=true:=G.2;rw[o k0 hk] at y;rcases hmk:m k0 with _ |u
     ·rw[hmk] at y;cases y
     ·rw[hmk] at W;exact congrArg some W
   have A7:(fun k=>if k=k0 then some ((m k0).getD z) else m k)=m:=by
     funext k
     by_cases q:k=k0
     ·subst q;rw[if_pos rfl,x];rfl
     ·rw[if_neg q]
   rw[A7];exact⟨D,World.ownsMap.mono ⟨H,A,C,F,g,l⟩ (Nat.le_succ n),hm,o,h4⟩
end
end
section
open Go.RowKit
open Lib (hid)
def cntM(t:List kN)(k:kE):Option Value:=if k∈t.map (·.1) then some (.int .i64 1) else none
theorem cntM_snoc{t:List kN}{x:kN}(h:x.1∉t.map (·.1)):(fun k=>if k=x.1 then some (.int .i64 (0+1)) else cntM t k)=cntM (t++[x]):=by
  funext k
  unfold cntM;by_cases e:k=x.1
  ·subst e;rw[if_pos rfl,if_pos yZ];rfl
  ·rw[if_neg e];by_cases q:k∈t.map (·.1)
   ·rw[if_pos q,if_pos (by rw[List.map_append,xJ];exact .inl q)]
   ·rw[if_neg q,if_neg (by rw[List.map_append,xJ];rintro (r|r);exact q r;simp at r;exact e r)]
theorem right_snoc{t:List kN}{x:kN}(h:qJ t)(hn:x.1∉t.map (·.1))(hg:vW x.2.2.1 x.2.2.2=true):qJ (t++[x]):=by
  refine⟨fun c A=>?_,?_⟩
  ·rcases xJ.1 A with A|A
   ·exact h.1 c A
   ·rw[xZ.1 A];exact hg
  ·rw[List.map_append,List.nodup_append];refine⟨h.2,by simp,fun a C b B e=>?_⟩;rw[xX,Yy,xZ] at B;subst B;subst e;exact hn C
theorem right_dup{l:List kN}{i:Nat}(hi:i<l.length)(h:l[i].1∈(l.take i).map (·.1)):qK l=false:=by
  rw[Bool.eq_false_iff,ne_eq,qM];intro B;have A:=B.2;rw[←List.take_append_drop i l,List.map_append,List.nodup_append] at A;refine A.2.2 _ h _ ?_ rfl;rw[List.drop_eq_getElem_cons hi,xX];exact List.mem_cons_self
theorem right_bad{l:List kN}{i:Nat}(hi:i<l.length)(h:vW l[i].2.2.1 l[i].2.2.2=false):qK l=false:=by
  rw[Bool.eq_false_iff,ne_eq,qM];intro A;have:=A.1 _ (yQ hi);rw[h] at this;cases this
theorem JB{w:World}{b o:Nat}{cs:List Value}(h:w.rangeAt b o cs):w.drew.rangeAt b o cs:=h
theorem ZO{w w':World}{row:Option Nat}{b o:Nat}{cs:List Value}(h:w.rangeAt b o cs)(hg:w.grownBy w' row)(hne:row≠some b):w'.rangeAt b o cs:=
  fun j u A=>hg.cell (h j u A) (fun e=>hne e.symm)
theorem U9:(prog.info? 135).map (·.size)=some 70:=yq
theorem QV:(prog.info? 89).map (·.size)=some 34:=yq
theorem Zb(w:World):(zeroValue 3).run prog w=.ok (.int .i64 0) w:=by
  have h:(prog.info? 3).map (·.zero)=some (some (.int .i64 0)):=yq;cases hq:prog.info? 3 with
  |none=>rw[hq] at h;cases h
  |some i=>
   rw[hq] at h;have A:i.zero=some (.int .i64 0):=Option.some.inj h;simp [zeroValue,typeInfo,hq,A]
theorem regRight_any(l:List kN)(A:Option Addr)(c:Nat)(w:World)(hl:l.length≤1099511627776)(hok:∀x∈l,Kx x)(hsl:Sl w w.heap.size A l.length 70 (kf kT l))(hg:Glob w):
    Calls prog 73 #[.slice A l.length c] w fun e w'=>Below w.heap.size w w'∧e=.returned (.bool (qK l)):=by
  have A3:=hid hsl;clear hsl;have Z:=hid hok;clear hok;have Al:=@run_makeMap prog;go_enter func73,ntmps73
  go_upto_region 2 with fail
  have Am:=MapV.made w prog 89 kJ Um;have An:Below w.heap.size w (w.alloc (.map #[] 0)):=(Below.refl _ _).alloc (xY _) _;clear Al;generalize w.alloc (.map #[] 0)=W at *;go_wp2_with fail
  go_loopw [9] (fun t wr=>∃i:Nat,i≤l.length∧t=.int .i64 i∧Below w.heap.size w wr∧Hid (qJ (l.take i))∧∃n0,n0≤i∧Hid (MapV wr prog 89 kJ Um w.heap.size n0 (cntM (l.take i)))) (fun t _=>l.length - (intOf t).toNat)
  case atStart=>exact⟨0,by omega,rfl,An,hid ⟨fun c hc=>absurd hc yZ,by simp⟩,0,xY _,hid Am⟩
  case round=>
    obtain⟨i,hi,rfl,z,hR,n0,Ap,hM⟩:=hrel;by_cases hlt:i<l.length
    ·obtain⟨b,Aq,rfl,Ar,A6⟩:=(A3.keep z).2 yv;have i0:(0:Int)≤(i:Int):=yv;have i1:(i:Int)<(l.length:Int):=yv;have A0:∀x∈l,(kT x).length=70:=fun x hx=>j6 (Z x hx)
     have A7:=Sl.row A0 A6 hlt;have Aa:=Z.out _ (yQ hlt);have Ab:l.take (i+1)=l.take i++[l[i]]:=xj hlt;have H:=hid fun h=>right_dup hlt h
     have D:=hid fun h=>right_bad hlt h
     have Ak:=hid A6;clear A6;have o:=hid A7;clear A7;have a:=hid Ab;clear Ab;have E:=hid Aa;clear Aa;clear A0;generalize l[i]=x at *
     go_upto_region 5 with (first
       |(refine kZ rfl 135 _ rfl b _ rfl (kT x) _ o underlying135 rfl (by rw[j6 E.out];exact U9) ?_)
       |(refine Ks (B:=wr.heap.size) (w0:=wr) rfl 135 _ _ rfl wr.heap.size _ rfl rfl 135 _ (heap_alloc_new _ _) (by rw[xz,j6 E.out];exact U9) (by rw[show (kT x).toArray.size=70 by rw[xz,j6 E.out]];rfl) (by simpa using JW x) ((Below.refl _ _).alloc (xY _) _) (xY _) ?_;intro W2 X Ac _))
     have A8:=hM.below X;have r:∀j u,(kT x)[j]?=some u→W2.cell? ⟨wr.heap.size,0+j,none⟩=some u:=fun j u hj=>by rw[Nat.zero_add];exact(jo Ac j).trans hj
     have K:W2.rangeAt wr.heap.size 0 (kc x.1):=fun j u hj=>r j u (by have:=uy E.out j u hj;rwa [Nat.zero_add] at this)
     have G:kJ x.1:=E.1;have Aj:n0<maxLen:=by unfold maxLen;omega
     obtain⟨F,s,Y,C⟩:∃F:Int,(F=0∨F=1)∧Hid (F=0↔x.1∉(l.take i).map (·.1))∧Hid ((cntM (l.take i) x.1).getD (.int .i64 0)=.int .i64 F):=by
       by_cases h:x.1∈(l.take i).map (·.1)
       ·exact⟨1,.inr rfl,hid ⟨fun e=>absurd e yj,fun n=>absurd h n⟩,hid (by unfold cntM;rw[if_pos h];rfl)⟩
       ·exact⟨0,.inl rfl,hid ⟨fun _=>h,fun _=>rfl⟩,hid (by unfold cntM;rw[if_neg h];rfl)⟩
     have A1:w.heap.size≠wr.heap.size:=by have:=hM.lt;omega
     obtain⟨st,W3,y,Ad,Ae,Q⟩:=MapV.entry keyEnc eqKey.law underlying241 Zb A8.drew Aj G;refine wp_region_held (S:=fun w'=>w'.rangeAt wr.heap.size 0 (kc x.1)) yq ?_;refine wpAnyH_take (i:=0) (v:=.map (some w.heap.size)) rfl yq yq yq (fun _ _ _ h=>h) (Or.inl ⟨by rfl,fun w' _=>by rfl⟩) K ?_;simp only[Act.put,List.getElem_toArray,List.getElem_cons_succ,List.getElem_cons_zero,List.setIfInBounds_toArray,List.set_cons_zero,List.set_cons_succ,xz,Yx,YJ,Nat.reduceAdd,Array.replicate_succ,Array.replicate_zero,List.push_toArray,YZ,YK];refine wpAnyH_take (i:=1) (v:=.pointer (some ⟨wr.heap.size,0,none⟩)) rfl yq yq yq (fun _ _ _ h=>h) (Or.inl ⟨by rfl,fun w' _=>by go_simp⟩) K ?_;simp only[Act.put,List.getElem_toArray,List.getElem_cons_succ,List.getElem_cons_zero,List.setIfInBounds_toArray,List.set_cons_zero,List.set_cons_succ,xz,Yx,YJ,Nat.reduceAdd,Array.replicate_succ,Array.replicate_zero,List.push_toArray,YZ,YK];refine wpAnyH_take (i:=2) (v:=vI x.1) rfl yq yq yq (fun _ _ _ h=>h) (Or.inl ⟨by rfl,fun w' Ao=>kg 89 _ rfl (p:=⟨wr.heap.size,0,none⟩) rfl (run_loadVar_mid w' _ _ _ (kc x.1) _ Ao underlying89 rfl (by rw[ke G];exact QV))⟩) K ?_;simp only[Act.put,List.getElem_toArray,List.getElem_cons_succ,List.getElem_cons_zero,List.setIfInBounds_toArray,List.set_cons_zero,List.set_cons_succ,xz,Yx,YJ,Nat.reduceAdd,Array.replicate_succ,Array.replicate_zero,List.push_toArray,YZ,YK];refine wpAnyH_all (rs:=[3,5]) yq yZ ?_;intro q T;simp only[xK,YY,or_false] at T;have R:W3.rangeAt wr.heap.size 0 (kc x.1):=ZO (JB K) Ad (fun e=>A1 (Option.some.inj e));rcases T with rfl|rfl
     case' inr=>
       refine zP _ rfl yq (ex_mapEntry 241 _ _ rfl (vm:=.map (some w.heap.size)) (vk:=vI x.1) rfl rfl y) ?_;rw[C.out];refine⟨R,?_⟩;simp only[Act.put,List.getElem_toArray,List.getElem_cons_succ,List.getElem_cons_zero,List.setIfInBounds_toArray,List.set_cons_zero,List.set_cons_succ,xz,Yx,YJ,Nat.reduceAdd,Array.replicate_succ,Array.replicate_zero,List.push_toArray,YZ,YK];refine wpAnyH_take (i:=6) (v:=goInt st) rfl yq yq yq (fun _ _ _ h=>h) (Or.inl ⟨by rfl,fun w' _=>by rfl⟩) R ?_;simp only[Act.put,List.getElem_toArray,List.getElem_cons_succ,List.getElem_cons_zero,List.setIfInBounds_toArray,List.set_cons_zero,List.set_cons_succ,xz,Yx,YJ,Nat.reduceAdd,Array.replicate_succ,Array.replicate_zero,List.push_toArray,YZ,YK];refine wpAnyH_all (rs:=[3]) yq yZ ?_;intro q T;obtain rfl:q=3:=by simpa using T
       refine zP _ rfl yq (ex_lookup 241 _ _ false rfl (vm:=.map (some w.heap.size)) (vk:=vI x.1) rfl rfl (MapV.look keyEnc underlying241 Zb Ae G)) ?_;rw[if_pos rfl,Option.getD_some,C.out];refine⟨R,?_⟩;simp only[Act.put,List.getElem_toArray,List.getElem_cons_succ,List.getElem_cons_zero,List.setIfInBounds_toArray,List.set_cons_zero,List.set_cons_succ,xz,Yx,YJ,Nat.reduceAdd,Array.replicate_succ,Array.replicate_zero,List.push_toArray,YZ,YK];refine wpAnyH_take (i:=4) (v:=.int .i64 (F+1)) rfl yq yq yq (fun _ _ _ h=>h) (Or.inl ⟨by rfl,fun w' _=>by rcases s with rfl|rfl<;>rfl⟩) R ?_;simp only[Act.put,List.getElem_toArray,List.getElem_cons_succ,List.getElem_cons_zero,List.setIfInBounds_toArray,List.set_cons_zero,List.set_cons_succ,xz,Yx,YJ,Nat.reduceAdd,Array.replicate_succ,Array.replicate_zero,List.push_toArray,YZ,YK];refine wpAnyH_all (rs:=[7]) yq yZ ?_;intro q T;obtain rfl:q=7:=by simpa using T
       obtain⟨L,A2,A9,U⟩:=Q (.int .i64 (F+1));refine ZA _ rfl yq (qE 241 _ _ _ rfl (vm:=.map (some w.heap.size)) (vs:=goInt st) (v:=.int .i64 (F+1)) rfl rfl rfl A2) ?_;have m:L.rangeAt wr.heap.size 0 (kc x.1):=ZO (JB K) U (fun e=>A1 (Option.some.inj e));refine⟨m,wpAnyH_done yq ?_ _⟩;simp only[Act.put,List.getElem_toArray,List.getElem_cons_succ,List.getElem_cons_zero,List.setIfInBounds_toArray,List.set_cons_zero,List.set_cons_succ,xz,Yx,YJ,Nat.reduceAdd,Array.replicate_succ,Array.replicate_zero,List.push_toArray,YZ,YK]
     case' inl=>
       refine zP _ rfl yq (ex_lookup 241 _ _ false rfl (vm:=.map (some w.heap.size)) (vk:=vI x.1) rfl rfl (MapV.look keyEnc underlying241 Zb A8.drew G)) ?_;rw[C.out];refine⟨(JB K),?_⟩;simp only[Act.put,List.getElem_toArray,List.getElem_cons_succ,List.getElem_cons_zero,List.setIfInBounds_toArray,List.set_cons_zero,List.set_cons_succ,xz,Yx,YJ,Nat.reduceAdd,Array.replicate_succ,Array.replicate_zero,List.push_toArray,YZ,YK];refine wpAnyH_take (i:=4) (v:=.int .i64 (F+1)) rfl yq yq yq (fun _ _ _ h=>h) (Or.inl ⟨by rfl,fun w' _=>by rcases s with rfl|rfl<;>rfl⟩) (JB K) ?_;simp only[Act.put,List.getElem_toArray,List.getElem_cons_succ,List.getElem_cons_zero,List.setIfInBounds_toArray,List.set_cons_zero,List.set_cons_succ,xz,Yx,YJ,Nat.reduceAdd,Array.replicate_succ,Array.replicate_zero,List.push_toArray,YZ,YK];refine wpAnyH_all (rs:=[5]) yq yZ ?_;intro q T;obtain rfl:q=5:=by simpa using T
       refine zP _ rfl yq (ex_mapEntry 241 _ _ rfl (vm:=.map (some w.heap.size)) (vk:=vI x.1) rfl rfl y) ?_;rw[C.out];refine⟨R,?_⟩;simp only[Act.put,List.getElem_toArray,List.getElem_cons_succ,List.getElem_cons_zero,List.setIfInBounds_toArray,List.set_cons_zero,List.set_cons_succ,xz,Yx,YJ,Nat.reduceAdd,Array.replicate_succ,Array.replicate_zero,List.push_toArray,YZ,YK];refine wpAnyH_take (i:=6) (v:=goInt st) rfl yq yq yq (fun _ _ _ h=>h) (Or.inl ⟨by rfl,fun w' _=>by rfl⟩) R ?_;simp only[Act.put,List.getElem_toArray,List.getElem_cons_succ,List.getElem_cons_zero,List.setIfInBounds_toArray,List.set_cons_zero,List.set_cons_succ,xz,Yx,YJ,Nat.reduceAdd,Array.replicate_succ,Array.replicate_zero,List.push_toArray,YZ,YK];refine wpAnyH_all (rs:=[7]) yq yZ ?_;intro q T;obtain rfl:q=7:=by simpa using T
       obtain⟨L,A2,A9,U⟩:=Q (.int .i64 (F+1));refine ZA _ rfl yq (qE 241 _ _ _ rfl (vm:=.map (some w.heap.size)) (vs:=goInt st) (v:=.int .i64 (F+1)) rfl rfl rfl A2) ?_;have m:L.rangeAt wr.heap.size 0 (kc x.1):=ZO (JB K) U (fun e=>A1 (Option.some.inj e));refine⟨m,wpAnyH_done yq ?_ _⟩;simp only[Act.put,List.getElem_toArray,List.getElem_cons_succ,List.getElem_cons_zero,List.setIfInBounds_toArray,List.set_cons_zero,List.set_cons_succ,xz,Yx,YJ,Nat.reduceAdd,Array.replicate_succ,Array.replicate_zero,List.push_toArray,YZ,YK]
     all_goals
       have I:=hid A9;have N:Hid (L.rangeAt wr.heap.size 0 (kc x.1)):=m;have d:Hid (L.rangeAt wr.heap.size 0 (kT x)):=ZO (JB r) U (fun e=>A1 (Option.some.inj e));have J:Hid (Below w.heap.size w L):=(Xx z X).drew.grown U (Nat.le_trans z.size X.size) (fun k e=>by cases e;exact xY _);have f:Hid (Glob L):=hg.next J.out;clear A9 m U A2 Q y Ae Ad R K r A8 X Ac hM;rcases s with rfl|rfl
       ·have Af:=Y.1 rfl;have g:=hid Af;clear Af Y H C;cases hgd:vW x.2.2.1 x.2.2.2 with
        |true=>
         have M:=good_any x L E.out f.out;rw[hgd] at M;have A4:=hid hgd;clear hgd D
         go_wp2_with (first
            |(refine k7 yk (kg 89 _ rfl (p:=⟨wr.heap.size,0,none⟩) rfl (run_loadVar_mid L _ _ _ (kc x.1) _ N underlying89 rfl (by rw[ke G];exact QV))) ?_)
            |(refine k7 yk (kg 135 _ rfl (p:=⟨wr.heap.size,0,none⟩) rfl (run_loadVar_mid L _ _ _ (kT x) _ d underlying135 rfl (by rw[j6 E.out];exact U9))) ?_)
            |(refine vG rfl _ _ 241 rfl 3 keyEnc underlying241 (.int .i64 0) (Zb _) rfl I x.1 G rfl ?_;simp only[if_true,Option.getD_some])
            |(go_at_call 123;refine M.mono ?_;rintro e w5 ⟨V,rfl⟩;have A5:=hid (I.below V);have O:=hid (Xx J.out V);clear V))
         go_roundw
         case rel=>exact⟨i+1,by omega,by go_num,O.out,hid (by rw[a.out];exact right_snoc hR.out g.out A4.out),n0+1,by omega,hid (by rw[a.out,←cntM_snoc g.out];exact A5.out)⟩
         case measure=>simp [intOf];omega
        |false=>
         have M:=good_any x L E.out f.out;rw[hgd] at M;have Ag:=D.out hgd;have P:=hid Ag;clear hgd D Ag
         go_wp2_with (first
            |(refine k7 yk (kg 89 _ rfl (p:=⟨wr.heap.size,0,none⟩) rfl (run_loadVar_mid L _ _ _ (kc x.1) _ N underlying89 rfl (by rw[ke G];exact QV))) ?_)
            |(refine k7 yk (kg 135 _ rfl (p:=⟨wr.heap.size,0,none⟩) rfl (run_loadVar_mid L _ _ _ (kT x) _ d underlying135 rfl (by rw[j6 E.out];exact U9))) ?_)
            |(refine vG rfl _ _ 241 rfl 3 keyEnc underlying241 (.int .i64 0) (Zb _) rfl I x.1 G rfl ?_;simp only[if_true,Option.getD_some])
            |(go_at_call 123;refine M.mono ?_;rintro e w5 ⟨V,rfl⟩;have O:=hid (Xx J.out V);clear V))
         go_ret;exact⟨O,by rw[P.out];rfl⟩
       ·have Ah:=H.out (Classical.byContradiction fun n=>absurd (Y.2 n) yj);have P:=hid Ah;clear Ah Y H C D
        go_wp2_with (first
          |(refine k7 yk (kg 89 _ rfl (p:=⟨wr.heap.size,0,none⟩) rfl (run_loadVar_mid L _ _ _ (kc x.1) _ N underlying89 rfl (by rw[ke G];exact QV))) ?_)
          |(refine vG rfl _ _ 241 rfl 3 keyEnc underlying241 (.int .i64 0) (Zb _) rfl I x.1 G rfl ?_;simp only[if_true,Option.getD_some]))
        go_ret;exact⟨J,by rw[P.out];rfl⟩
    ·go_wp2_with fail;go_ret;have e:l.take i=l:=Yq yv;have Ai:=hR.out;rw[e] at Ai;exact⟨z,by rw[qM.2 Ai];rfl⟩
end
theorem freshGo_form(l:List UInt8)(T:List (List UInt8)):∀(f n:Nat) (t:List UInt8),JT l T f n t=t∨∃m,n≤m∧m<n+f∧JT l T f n t=Z4 l m:=by
  intro f
  induction f with
  |zero=>intro n t;exact .inl rfl
  |succ f ih=>
   intro n t;unfold JT
   split
   ·rcases ih (n+1) (Z4 l n) with h|⟨m,B,C,A⟩
    ·exact .inr ⟨n,xY _,by omega,h⟩
    ·exact .inr ⟨m,by omega,by omega,A⟩
   ·exact .inl rfl
theorem candS_length(l:List UInt8)(n:Nat):(Z4 l n).length=l.length+1+(Lib.decDigits n).length:=by
  have A:=congrArg List.length (KF l);rw[yV] at A;simp only[Z4,yV,Yx,YJ];omega
def QW(f:kE→Option kN)(r:List (kE×List UInt8))(d:kE)(T:List (List UInt8)):List (kE×List UInt8):=
  match f d with
  |some c=>if c.2.2.1=5 then r else r++[(d,JG (L c.2.2.2) (T++r.map (·.2)))]
  |none=>r
theorem vq(f:kE→Option kN)(d:kE):∀(ds:List kE) (T:List (List UInt8)),zV f (ds++[d]) T=QW f (zV f ds T) d T
  | [],T=>by
    unfold QW;simp only[YZ,zV,Yy,List.append_nil]
    try (cases f d<;>rfl)
  |e::r,T=>by
   rw[YK];unfold zV;cases h:f e with
   |none=>exact vq f d r T
   |some c=>
    by_cases hk:c.2.2.1=5
    ·simp only[hk,if_true];exact vq f d r T
    ·simp only[hk,if_false];rw[vq f d r _];unfold QW;cases f d with
     |none=>rfl
     |some c'=>
      simp only
      split
      ·rfl
      ·simp
theorem KX(f:kE→Option kN):∀(ds:List kE) (T:List (List UInt8)),(zV f ds T).length≤ds.length
  | [],_=>by simp [zV]
  |e::r,T=>by
   unfold zV;cases h:f e with
   |none=>have:=KX f r T;simp;omega
   |some c=>
    simp only
    split
    ·have:=KX f r T;simp;omega
    ·have:=KX f r (T++[JG (L c.2.2.2) T]);simp;omega
theorem insK_length(k:kE):∀l:List kE,(insK k l).length≤l.length+1
  | []=>by simp [insK]
  |y::l=>by
   unfold insK
   split
   ·simp
   ·split
    ·simp
    ·have:=insK_length k l;simp;omega
theorem QX:∀l:List kE,(qu l).length≤l.length
  | []=>by simp [qu]
  |y::l=>by
   have h1:=insK_length y (qu l);have A:=QX l;show (insK y (qu l)).length≤_;simp;omega
theorem Zt(l:List kN):(Uk l).length≤l.length:=by
  have:=QX (l.map (·.2.1));unfold Uk;simpa using this
section
open Go.RowKit
open Lib (hid)
def ItoaB(N:Nat)(w:World):Prop:=∀(k:Nat),k≤N→∀u:World,Below w.heap.size w u→Calls prog 131 #[.int .i64 (k:Int)] u fun e u'=>Below u.heap.size u u'∧e=.returned (.string ⟨(Lib.decDigits k).toArray⟩)
theorem ItoaB.next{N:Nat}{w w':World}(h:ItoaB N w)(hb:Below w.heap.size w w'):ItoaB N w':=fun k A u B=>h k A u (Xx hb B)
theorem ItoaB.less{N M:Nat}{w:World}(h:ItoaB N w)(hM:M≤N):ItoaB M w:=fun k A=>h k yv
theorem itoaB_small(w:World):ItoaB 99 w:=fun k C u _=>(Tryz.strconv_Itoa_small k yv u).mono fun e D ⟨A,B⟩=>⟨by rw[B];exact Below.refl _ _,A⟩
theorem UC{k:Nat}(h:k<1000):(Lib.decDigits k).length≤3:=by
  rw[Lib.decDigits_length];by_cases h1:k<10
  ·rw[Lib.nDigits_small h1];omega
  ·rw[Lib.nDigits_big h1];by_cases h2:k / 10<10
   ·rw[Lib.nDigits_small h2];omega
   ·rw[Lib.nDigits_big h2,Lib.nDigits_small yv];omega
theorem UD(l:List UInt8)(T:List (List UInt8))(h:T.length≤990):l.length≤(JG l T).length∧(JG l T).length≤l.length+4:=by
  unfold JG;rcases freshGo_form l T (T.length+2) 1 l with e|⟨m,A,B,e⟩
  ·rw[e];omega
  ·rw[e,candS_length];have:=UC (k:=m) yv;omega
theorem fresh_anyN(N:Nat)(hN:N≤990)(s:ByteArray)(taken:List ByteArray)(A:Option Addr)(c:Nat)(w:World)(hs:s.size≤1099511627776)(hn:taken.length+2≤N)(hsm:smallL taken)(hit:ItoaB N w)
    (hsl:Sl w w.heap.size A taken.length 1 (strs taken)):
    Calls prog 79 #[.string s,.slice A taken.length c] w fun e w'=>Below w.heap.size w w'∧∃t:ByteArray,e=.returned (.string t)∧L t=JG (L s) (Ls taken):=by
  have Y:=indexByte_first (L s);have A2:=firstc_le (L s);have Z:=firstc_take (L s);have a:=firstc_drop (L s);rw[jf] at A2;have P:=hid hsl;clear hsl;have Q:=hid hit;clear hit;have R:=hid hsm;clear hsm;have E:=hid Z;clear Z;have F:=hid a;clear a;have G:=hid Y;clear Y;generalize hm:(z7 (L s)).length=m at *;have HM:=hid hm;clear hm;go_enter func79,ntmps79
  go_wp2
  go_step3;go_wp2_with fail;refine(Tryz.strings_IndexByte s 47 _).mono ?_;rintro e V ⟨rfl,hw⟩;obtain rfl:V=w:=hw;obtain⟨q,hq,d⟩:∃q:Int,Lib.indexByte s.data.toList (47:Int).toNat.toUInt8=q∧((47:UInt8)∈L s∧q=m∨(47:UInt8)∉L s∧q= -1):=by
    refine⟨_,rfl,?_⟩;rw[show Lib.indexByte s.data.toList (47:Int).toNat.toUInt8=_ from G.out];by_cases h:(47:UInt8)∈L s
    ·left;exact⟨h,by rw[if_pos h]⟩
    ·right;exact⟨h,by rw[if_neg h]⟩
  rw[hq];clear hq;have H:=hid d;clear d
  go_upto_if 16 with fail
  go_cut [5,6] (fun s5 s6 wx=>∃f r:ByteArray,s5=.string f∧s6=.string r∧L f=z7 (L s)∧L r=restc (L s)∧Below V.heap.size V wx)
  case first=>
    rcases H.out with⟨hsl,rfl⟩|⟨hsl,rfl⟩
    ·have K:=hid hsl;clear hsl;have A9:(0:Int)≤(m:Int):=yv;have Aa:(m:Int)≤(s.size:Int):=yv;go_wp2_with fail
     go_quiet (fail)
     go_wp2_with fail
     go_meet
     refine⟨_,_,rfl,rfl,?_,?_,below_drewN (Below.refl _ _) _⟩
     ·rw[show L (s.extract 0 m)=(L s).take m from Lib.extract_from_zero s m];exact E.out
     ·rw[show L (s.extract m s.size)=(L s).drop m from Lib.extract_to_end s m];exact F.out
    ·have K:=hid hsl;clear hsl;go_wp2_with fail
     go_meet
     exact⟨s,⟨#[]⟩,rfl,rfl,(ZS K).symm,(restc_none K).symm,Below.refl _ _⟩
  case rest=>
    obtain⟨f,r,rfl,rfl,x,y,A3⟩:=hcut;have Ab:f.size≤s.size:=by
      have D:=firstc_le (L s);rw[←jf,←jf,x];exact D
    have Ac:r.size≤s.size:=by
      have D:=congrArg List.length (KF (L s));rw[yV] at D;rw[←jf,←jf,y];omega
    have S:=hid x;clear x;have T:=hid y;clear y;have l:f.size+r.size=s.size:=by
      have D:=congrArg List.length (KF (L s));rw[yV,←S.out,←T.out,jf,jf,jf] at D;exact D
    have A1:=hid l;clear l;clear H G E F
    go_wp2
    go_step3
    go_wp2
    go_loopg [8,9] (taken.length+2) (fun g s8 s9 wr=>∃(k:Nat) (t:ByteArray),s9=.int .i64 k∧s8=.string t∧1≤k∧k≤N+1∧Below V.heap.size V wr∧t.size≤s.size+4∧Hid (Trying s (Ls taken) k g t))
    case atStart=>exact⟨1,s,rfl,rfl,by omega,by omega,A3,by omega,hid (by have:=Trying.start s (Ls taken);rwa [show (Ls taken).length=taken.length by simp [Ls]] at this)⟩
    case round=>
      obtain⟨k,t,rfl,rfl,Ad,A7,W,Ae,z⟩:=hrel;obtain⟨g,rfl,X⟩:=z.left;have A8:k≤taken.length+2:=by rw[show (Ls taken).length=taken.length by simp [Ls]] at X;exact X
      clear X;obtain⟨wo,A4⟩:=Xv wr;subst A4
      go_wp2
      go_loopg [8,28] taken.length (fun h s8 s28 wy=>∃i:Nat,i+h=taken.length∧s8=.string t∧s28=.int .i64 i∧wy=wo∧Hid (∀j (O:j<(Ls taken).length),j<i→Ki (L t) (Ls taken)[j]=false))
      case atStart=>exact⟨0,by omega,rfl,rfl,rfl,hid fun j _ O=>absurd O yv⟩
      case round=>
        obtain⟨i,hi,rfl,rfl,A5,hI⟩:=hrel;subst A5;by_cases hlt:i<taken.length
        ·obtain⟨b,Af,rfl,Ag,C⟩:=(P.keep W).2 yv;have hc:=C i (.string taken[i]) (by simp [strs,hlt]);have n:taken[i].size≤140737488355328:=R.out _ (yQ hlt);have p:(Ls taken)[i]'(by simp [Ls];exact hlt)=L taken[i]:=by simp [Ls]
         have I:=hid p;clear p C;generalize hoi:taken[i]=o at *;clear hoi;cases C:Ki (L t) (L o)
         ·have B:=hid C;clear C
          go_wp2_with (go_at_call 14;refine(clash_any t o _ yv n).mono ?_;rw[B.out];rintro e w2 ⟨rfl,rfl⟩)
          go_roundg (taken.length - (i+1))
          case measure=>omega
          case rel=>
            refine⟨i+1,by omega,rfl,by go_num,rfl,hid fun j O Ah=>?_⟩;rcases (by omega:j<i∨j=i) with h|h
            ·exact hI.out j O h
            ·subst h;rw[I.out];exact B.out
         ·have B:=hid C;clear C;have Ai:=UC (k:=k) yv;have J:=hid W
          go_wp2_with (first|(go_at_call 14;refine(clash_any t o _ yv n).mono ?_;rw[B.out];rintro e w2 ⟨rfl,rfl⟩)|(go_at_call 131;refine(Q k yv _ J.out).mono ?_;rintro e w2 ⟨u,rfl⟩;have U:=hid (Xx J.out u);clear u))
          have M:L (f++⟨#[126]⟩++⟨(Lib.decDigits k).toArray⟩++r)=Z4 (L s) k:=by
            rw[L_app,L_app,L_app,S.out,T.out];rfl
          have v:(f++⟨#[126]⟩++⟨(Lib.decDigits k).toArray⟩++r).size≤s.size+4:=by
            have D:=congrArg List.length M;have h2:=congrArg List.length (KF (L s));rw[jf] at D;rw[yV,jf] at h2;rw[D];simp only[Z4,yV,Yx,YJ];omega
          go_roundg g
          case measure=>omega
          case rel=>
            have A0:zu (L t) (Ls taken)=true:=clashes_yes (j:=i) (by simp [Ls];exact hlt) (by rw[I.out];exact B.out);exact⟨k+1,_,by go_num,rfl,by omega,by omega,U.out,v,hid (z.next A0 M v)⟩
        ·go_wp2_with fail
         try rw[Exit.noGoto_ret]
         go_ret
         have A6:zu (L t) (Ls taken)=false:=clashes_no fun j O=>hI.out j O (by have:(Ls taken).length=taken.length:=by simp [Ls]
                                                                               omega)
         exact⟨W,t,rfl,z.done A6⟩
end
end Go.Proofs.YtdgbjhfkmembdaaGreatDoor