/-
  Plain facts, and contracts of the functions that the claim's walk comes to, one behind the other. Conditions: as each says.
-/
import Derived.Test.YtdgbjhfkmembdaaGreatDoorPart4
import Derived.Test.YtdgbjhfkmembdaaGreatDoorPart6
import Derived.Test.YtdgbjhfkmembdaaGreatDoorPart7
import Derived.Test.YtdgbjhfkmembdaaGreatDoorPart13
import Derived.Test.YtdgbjhfkmembdaaGreatDoorPart12
import Derived.Test.YtdgbjhfkmembdaaGreatDoorPart10
import Derived.Test.YtdgbjhfkmembdaaGreatDoorPart5
import Derived.Deep.AppendSrc
import Derived.BigFrame
import Derived.Laws.OwnMore
import Derived.Laws.Closers25b
import Derived.Deep.Cut
import Derived.Deep.DeepCutAuto
set_option linter.unusedVariables false
set_option linter.unusedSimpArgs false
set_option maxHeartbeats 4000000
set_option maxRecDepth 100000
open Go.Proofs.Tryz
namespace Go.Proofs.YtdgbjhfkmembdaaGreatDoor
section
open Go.RowKit Go.Maps
open Lib (hid)
theorem KN(c:kQ)(v:Value)(w:World)(h:ChIn w w.heap.size v c)(hl1:c.2.1.length≤1099511627776)(hl2:c.2.2.2.length≤1099511627776):
    Calls prog 200 #[v] w fun e w'=>Below w.heap.size w w'∧e=.returned (.bool (j6 c)):=by
  obtain⟨ok,m,ha,Ad,cd,Ao,co,rfl,sd,so⟩:=h;obtain⟨n,I,S,D⟩:=c;dsimp only at *;have J:=hid sd;have Ae:=hid so;have a:=hid m;have V:=hid ok.2.1;have E:=hid ha
  clear ok m ha sd so;have F:=hid (fun (u:World) (g1:Sl u u.heap.size Ad I.length 32 (zf I))=>(show Calls prog 235 #[.slice Ad I.length cd,.int .i64 4096] u fun e w'=>Below u.heap.size u w'∧e=.returned (.bool (ZU I 4096)) from refIds_any I Ad cd 4096 u yv hl1 V.out g1));go_enter func200,ntmps200
  go_upto_region 1 with (first
    |(with_reducible refine kB ?_
      refine kr yx 37 _ rfl [.int .i64 n,.slice Ad I.length cd,.string S,.slice Ao D.length co] _ rfl rfl yy ?_;intro y At Au Ay;have B:=hid At;have P:=hid Au
      clear At Au Ay))
  obtain⟨z,hz⟩:∃z,w.heap.size=z:=⟨_,rfl⟩;have Z:=hid (show z<y.heap.size by rw[←hz];exact(qX P.out));rw[hz] at P ⊢
  try go_frame
  clear hz;have C:=hid (fun (u:World) (hu:Below y.heap.size y u)=>(show u.cell? ⟨z,0,none⟩=some (.int .i64 n)∧u.cell? ⟨z,1,none⟩=some (.slice Ad I.length cd)∧u.cell? ⟨z,2,none⟩=some (.string S)∧u.cell? ⟨z,3,none⟩=some (.slice Ao D.length co) from⟨(hu.cell (p:=⟨z,0,none⟩) Z.out).trans (k4 P.out 0),(hu.cell (p:=⟨z,1,none⟩) Z.out).trans (k4 P.out 1),(hu.cell (p:=⟨z,2,none⟩) Z.out).trans (k4 P.out 2),(hu.cell (p:=⟨z,3,none⟩) Z.out).trans (k4 P.out 3)⟩));have A:=hid (qB y.heap.size y);obtain⟨W,T,Y,U⟩:=C.out _ A.out;by_cases ht1:n<1
  ·have e1:decide (n<1)=true:=dT ht1;have N:Hid (j6 (n,I,S,D)=false):=hid (by
     rw[Bool.eq_false_iff];intro M;simp only[j6,Bool.and_eq_true,decide_eq_true_eq] at M;obtain⟨⟨⟨⟨⟨⟨g1,g2⟩,o⟩,r⟩,g5⟩,g6⟩,_⟩:=M
     first|omega|exact absurd o ht1|exact absurd r ht1)
   clear ht1
   go_wp2_with (first
     |(go_at_call 235;with_reducible refine(F.out _ ((J.out.keep (B.out.trans (A.out.mono B.out.size))).more (qT B.out.size A.out.size))).mono ?_;rintro e u1 ⟨G,rfl⟩
       rw[K.out];have A:=hid (A.trans (G.mono A.size));obtain⟨W,T,Y,U⟩:=C.out _ A.out;clear G)
     |(go_at_call 236;refine(Ko S _ E.out).mono ?_;rintro e u2 ⟨H,rfl⟩;rw[L.out];have A:=hid (A.trans (H.mono A.size));obtain⟨W,T,Y,U⟩:=C.out _ A.out;clear H))
   go_ret;exact⟨B.trans (A.mono B.size),by rw[N.out];rfl⟩
  ·by_cases ht2:1099511627776<n
   ·have e1:decide (n<1)=false:=dF ht1;have e2:decide (1099511627776<n)=true:=dT ht2;have N:Hid (j6 (n,I,S,D)=false):=hid (by
      rw[Bool.eq_false_iff];intro M;simp only[j6,Bool.and_eq_true,decide_eq_true_eq] at M;obtain⟨⟨⟨⟨⟨⟨g1,g2⟩,o⟩,r⟩,g5⟩,g6⟩,_⟩:=M
      first|omega|exact absurd o ht2|exact absurd r ht2)
    clear ht1 ht2
    go_wp2_with (first
      |(go_at_call 235;with_reducible refine(F.out _ ((J.out.keep (B.out.trans (A.out.mono B.out.size))).more (qT B.out.size A.out.size))).mono ?_;rintro e u1 ⟨G,rfl⟩
        rw[K.out];have A:=hid (A.trans (G.mono A.size));obtain⟨W,T,Y,U⟩:=C.out _ A.out;clear G)
      |(go_at_call 236;refine(Ko S _ E.out).mono ?_;rintro e u2 ⟨H,rfl⟩;rw[L.out];have A:=hid (A.trans (H.mono A.size));obtain⟨W,T,Y,U⟩:=C.out _ A.out;clear H))
    go_ret;exact⟨B.trans (A.mono B.size),by rw[N.out];rfl⟩
   ·have e1:decide (n<1)=false:=dF ht1;have e2:decide (1099511627776<n)=false:=dF ht2;by_cases hids:ZU I 4096=true
    ·have K:=hid hids;by_cases hau:zK S=true
     ·have L:=hid hau;by_cases ho1:D.length<1
      ·have e3:decide ((D.length:Int)<1)=true:=dT yz;have N:Hid (j6 (n,I,S,D)=false):=hid (by
         rw[Bool.eq_false_iff];intro M;simp only[j6,Bool.and_eq_true,decide_eq_true_eq] at M;obtain⟨⟨⟨⟨⟨⟨g1,g2⟩,o⟩,r⟩,g5⟩,g6⟩,_⟩:=M
         first|omega|exact absurd o ho1|exact absurd r ho1)
       clear ht1 ht2 hids hau ho1
       go_wp2_with (first
         |(go_at_call 235;with_reducible refine(F.out _ ((J.out.keep (B.out.trans (A.out.mono B.out.size))).more (qT B.out.size A.out.size))).mono ?_;rintro e u1 ⟨G,rfl⟩
           rw[K.out];have A:=hid (A.trans (G.mono A.size));obtain⟨W,T,Y,U⟩:=C.out _ A.out;clear G)
         |(go_at_call 236;refine(Ko S _ E.out).mono ?_;rintro e u2 ⟨H,rfl⟩;rw[L.out];have A:=hid (A.trans (H.mono A.size));obtain⟨W,T,Y,U⟩:=C.out _ A.out;clear H))
       go_ret;exact⟨B.trans (A.mono B.size),by rw[N.out];rfl⟩
      ·have e3:decide ((D.length:Int)<1)=false:=dF yz;by_cases ho2:4096<D.length
       ·have e4:decide ((4096:Int)<(D.length:Int))=true:=dT yz;have N:Hid (j6 (n,I,S,D)=false):=hid (by
          rw[Bool.eq_false_iff];intro M;simp only[j6,Bool.and_eq_true,decide_eq_true_eq] at M;obtain⟨⟨⟨⟨⟨⟨g1,g2⟩,o⟩,r⟩,g5⟩,g6⟩,_⟩:=M
          first|omega|exact absurd o ho2|exact absurd r ho2)
        clear ht1 ht2 hids hau ho1 ho2
        go_wp2_with (first
          |(go_at_call 235;with_reducible refine(F.out _ ((J.out.keep (B.out.trans (A.out.mono B.out.size))).more (qT B.out.size A.out.size))).mono ?_;rintro e u1 ⟨G,rfl⟩
            rw[K.out];have A:=hid (A.trans (G.mono A.size));obtain⟨W,T,Y,U⟩:=C.out _ A.out;clear G)
          |(go_at_call 236;refine(Ko S _ E.out).mono ?_;rintro e u2 ⟨H,rfl⟩;rw[L.out];have A:=hid (A.trans (H.mono A.size));obtain⟨W,T,Y,U⟩:=C.out _ A.out;clear H))
        go_ret;exact⟨B.trans (A.mono B.size),by rw[N.out];rfl⟩
       ·have e4:decide ((4096:Int)<(D.length:Int))=false:=dF yz;have A6:=hid (show je I=true from (Uc hids V.out).2.1);have A0:Hid (∀b,Zr I [] D=b→j6 (n,I,S,D)=b):=hid (fun b hb=>by
          unfold j6;simp only;rw[hb,hids,hau,dT (show 1≤n by omega),dT (show n≤1099511627776 by omega),dT (show 1≤D.length by omega),dT (show D.length≤4096 by omega)];rfl)
        have Af:=hid (show D.length≤4096 by omega);clear ht1 ht2 hids hau ho1 ho2
        go_upto_region 4 with (first
          |(go_at_call 235;with_reducible refine(F.out _ ((J.out.keep (B.out.trans (A.out.mono B.out.size))).more (qT B.out.size A.out.size))).mono ?_;rintro e u1 ⟨G,rfl⟩
            rw[K.out];have A:=hid (A.trans (G.mono A.size));obtain⟨W,T,Y,U⟩:=C.out _ A.out;clear G)
          |(go_at_call 236;refine(Ko S _ E.out).mono ?_;rintro e u2 ⟨H,rfl⟩;rw[L.out];have A:=hid (A.trans (H.mono A.size));obtain⟨W,T,Y,U⟩:=C.out _ A.out;clear H))
        go_wp2_with fail
        go_loopw [3,4] (fun t3 t4 wr=>∃(i:Nat) (Am:Option Addr) (cm:Nat),i≤D.length∧t4=.int .i64 (i:Int)∧t3=.slice Am (zZ (D.take i)).length cm∧Hid (Below y.heap.size y wr)∧Hid (Zr I [] (D.take i)=true)∧Hid (wr.ownsRow y.heap.size 383 34 (.slice Am (zZ (D.take i)).length cm) (zZ (D.take i)).length (ke kU (zZ (D.take i))))) (fun _ t4 _=>D.length - (intOf t4).toNat)
        case atStart=>exact⟨0,none,0,Nat.zero_le _,rfl,rfl,A,hid rfl,hid (World.ownsRow_nil _ _ _ _)⟩
        case round=>
          clear W T Y U;obtain⟨i,Am,cm,hi,rfl,rfl,Q,d,A7⟩:=hrel;obtain⟨-,T,-,U⟩:=C.out wr Q.out;by_cases hlt:i<D.length
          ·have i0:(0:Int)≤(i:Int):=by omega
           have i1:(i:Int)<(D.length:Int):=by omega
           obtain⟨b,s,rfl,Az,Av⟩:=((Ae.keep B.out).keep (Q.mono B.size)).2 yz;have f:=hid (Sl.row (fun x hx=>kH (a.out x hx)) Av hlt);have HX:=hid (a.out _ (List.getElem_mem hlt));have A1:=hid (Qt (deps:=I) hlt);have A2:=hid (fun h=>opsB_stop (deps:=I) hlt h);have g:=hid (madeL_next hlt);have AA:(zZ (D.take i)).length≤1000000000:=by
             have h1:=Qu d.out;rw[List.length_take] at h1;have h2:=Af.out;have h3:min i D.length≤4096:=by omega
             omega
           have Ag:=hid (madeL_ok (l:=D.take i) fun x hx=>a.out x (List.mem_of_mem_take hx));have Ax:b<wr.heap.size:=qL Az (qT B.size Q.size);clear Av;obtain⟨x,hx⟩:∃x,D[i]=x:=⟨_,rfl⟩;rw[hx] at f HX A1 g;have A8:Hid (opB I (zZ (D.take i)) x=false→Zr I [] D=false):=hid (fun h=>A2.out (by rw[hx];exact h));clear hx A2
           go_upto_region 7 with fail
           have AB:=enE func237 rfl;have k:=hid (show Below wr.heap.size wr wr.drew from (qD _ _));have R:=hid (Q.trans (k.mono Q.size));have Ah:=hid (C.out wr.drew R.out).2.1;have Ai:=hid (C.out wr.drew R.out).2.2.2;have Aj:=hid (show wr.drew.rangeAt b (s+i*70) (opV x) from fun j v hj=>(k.cell (p:=⟨b,s+i*70+j,none⟩) Ax).trans (f.out j v hj));have A9:=hid ((J.keep (B.trans (R.mono B.size))).more (qT B.size R.size));have Aa:=hid ((But.of_below (X:=NoB) k.out).own A7.out fun _ _ q=>q);have Ak:=hid R.size;refine rN 8 (fun u=>u.cell? ⟨z,1,none⟩=some (.slice Ad I.length cd)∧u.cell? ⟨z,3,none⟩=some (.slice (some ⟨b,s,none⟩) D.length co)∧u.rangeAt b (s+i*70) (opV x)) (⟨Ah.out,Ai.out,Aj.out⟩) fun Ap=>?_
           refine tw 0 (.pointer (some ⟨z,1,none⟩)) ?_;go_frame;refine tl 1 (.slice Ad I.length cd) rfl Ap (fun w' t=>l1 underlying34 t.1) ?_;go_frame;refine tw 2 (.slice Am (zZ (D.take i)).length cm) ?_;go_frame;refine tw 3 (.pointer (some ⟨z,3,none⟩)) ?_;go_frame;refine tl 4 (.slice (some ⟨b,s,none⟩) D.length co) rfl Ap (fun w' t=>l1 underlying35 t.2.1) ?_;go_frame;refine tw 5 (.int .i64 (i:Int)) ?_;go_frame;refine tk 6 (.pointer (some ⟨b,s+i*70,none⟩)) rfl (fun w' t=>Kc 35 _ _ rfl rfl rfl hlt underlying35 Kg) ?_;go_frame;refine tl 7 (.agg (opV x).toArray) rfl Ap (fun w' t=>ldO HX.out t.2.2) ?_;go_frame;refine ta 8 ?_;refine tc #[.slice Ad I.length cd,.slice Am (zZ (D.take i)).length cm,.agg (opV x).toArray] AB rfl ?_;refine(refOp_any y.heap.size I (zZ (D.take i)) x Ad cd Am cm wr.drew hl1 AA V.out Ag.out HX.out A6.out A9.out Aa.out Ak.out).mono ?_;rintro e w3 ⟨Aq,Ar,As⟩;have A4:=hid (R.trans Aq);by_cases m:opB I (zZ (D.take i)) x=true
           ·have O:=hid m;clear m;obtain⟨A3,Ac,rfl,Aw⟩:=As O.out;have Al:=hid Aw;clear Aw;clear Ar As Aq;refine⟨_,rfl,fun h=>absurd h yv,?_⟩;go_frame;refine tw 9 (.tuple #[.slice A3 ((zZ (D.take i)).length+(zL x).length) Ac,.bool true]) ?_;go_frame;refine tw 10 (.slice A3 ((zZ (D.take i)).length+(zL x).length) Ac) ?_;go_frame;refine tw 11 (.bool true) ?_;go_frame;refine tw 12 (.slice A3 ((zZ (D.take i)).length+(zL x).length) Ac) ?_;go_frame;refine tw 13 (.bool true) ?_;go_frame;refine ku yy ?_ _;go_wp2_with fail;have An:=hid (show Zr I [] (D.take (i+1))=true by rw[A1.out,d.out,O.out];rfl);have A5:=hid (show (zZ (D.take (i+1))).length=(zZ (D.take i)).length+(zL x).length by rw[g.out,List.length_append])
            go_roundw
            case rel=>exact⟨i+1,A3,Ac,by omega,by go_num,by rw[A5.out],A4,An,hid (by rw[A5.out,g.out];exact Al.out)⟩
            case measure=>(simp [intOf])<;>omega
           ·have O:=hid (Bool.eq_false_iff.2 m);clear m;obtain⟨v3,rfl⟩:=Ar O.out;clear Ar As Aq;refine⟨_,rfl,fun h=>absurd h yv,?_⟩;go_frame;refine tw 9 (.tuple #[v3,.bool false]) ?_;go_frame;refine tw 10 (v3) ?_;go_frame;refine tw 11 (.bool false) ?_;go_frame;refine tw 12 (v3) ?_;go_frame;refine tw 13 (.bool false) ?_;go_frame;refine ku yy ?_ _;go_wp2_with fail;go_ret;exact⟨B.trans (A4.mono B.size),by rw[A0.out _ (A8.out O.out)];rfl⟩
          ·have i1:¬(i:Int)<(D.length:Int):=by omega
           have Ab:=hid (show Zr I [] D=true by have h:=d.out;rwa [List.take_of_length_le yz] at h);go_wp2_with fail;go_ret;exact⟨B.trans (Q.mono B.size),by rw[A0.out _ Ab.out];rfl⟩
     ·have L:=hid (Bool.eq_false_iff.2 hau);have N:Hid (j6 (n,I,S,D)=false):=hid (by
        rw[Bool.eq_false_iff];intro M;simp only[j6,Bool.and_eq_true,decide_eq_true_eq] at M;obtain⟨⟨⟨⟨⟨⟨g1,g2⟩,o⟩,r⟩,g5⟩,g6⟩,_⟩:=M
        first|omega|exact absurd o hau|exact absurd r hau)
      clear ht1 ht2 hids hau
      go_wp2_with (first
        |(go_at_call 235;with_reducible refine(F.out _ ((J.out.keep (B.out.trans (A.out.mono B.out.size))).more (qT B.out.size A.out.size))).mono ?_;rintro e u1 ⟨G,rfl⟩
          rw[K.out];have A:=hid (A.trans (G.mono A.size));obtain⟨W,T,Y,U⟩:=C.out _ A.out;clear G)
        |(go_at_call 236;refine(Ko S _ E.out).mono ?_;rintro e u2 ⟨H,rfl⟩;rw[L.out];have A:=hid (A.trans (H.mono A.size));obtain⟨W,T,Y,U⟩:=C.out _ A.out;clear H))
      go_ret;exact⟨B.trans (A.mono B.size),by rw[N.out];rfl⟩
    ·have K:=hid (Bool.eq_false_iff.2 hids);have N:Hid (j6 (n,I,S,D)=false):=hid (by
       rw[Bool.eq_false_iff];intro M;simp only[j6,Bool.and_eq_true,decide_eq_true_eq] at M;obtain⟨⟨⟨⟨⟨⟨g1,g2⟩,o⟩,r⟩,g5⟩,g6⟩,_⟩:=M
       first|omega|exact absurd o hids|exact absurd r hids)
     clear ht1 ht2 hids
     go_wp2_with (first
       |(go_at_call 235;with_reducible refine(F.out _ ((J.out.keep (B.out.trans (A.out.mono B.out.size))).more (qT B.out.size A.out.size))).mono ?_;rintro e u1 ⟨G,rfl⟩
         rw[K.out];have A:=hid (A.trans (G.mono A.size));obtain⟨W,T,Y,U⟩:=C.out _ A.out;clear G)
       |(go_at_call 236;refine(Ko S _ E.out).mono ?_;rintro e u2 ⟨H,rfl⟩;rw[L.out];have A:=hid (A.trans (H.mono A.size));obtain⟨W,T,Y,U⟩:=C.out _ A.out;clear H))
     go_ret;exact⟨B.trans (A.mono B.size),by rw[N.out];rfl⟩
theorem zeroCh_run8(w:World):(zeroValue 37).run prog w=.ok (.agg ([.int .i64 0,.slice none 0 0,.string kM,.slice none 0 0]:List Value).toArray) w:=by kernel_rfl
theorem qY(o:ZT)(v:Value)(w:World)(h:ObjIn w w.heap.size v o)(hl1:o.2.1.2.1.length≤1099511627776)(hl2:o.2.1.2.2.2.length≤1099511627776)(hl3:o.2.2.1.length≤1099511627776)(hl4:o.2.2.2.1.length≤1099511627776)(hone:RowKit.Hid (o.1=1)):
    Calls prog 161 #[v] w fun e w'=>Below w.heap.size w w'∧e=.returned (.bool (zk o)):=by
  obtain⟨ok,A0,ha,L,hm,Ad,Z,Ao,a,Ap,l,Ac,m,rfl,sd,so,sp,sc⟩:=h;obtain⟨k,⟨n,F,G,H⟩,⟨P,Q,R,S,T⟩⟩:=o;dsimp only at *;have i:=hid (show ChIn w w.heap.size (.agg ([.int .i64 n,.slice Ad F.length Z,.string G,.slice Ao H.length a]:List Value).toArray) (n,F,G,H) from⟨ok.1,A0,ha,Ad,Z,Ao,a,rfl,sd,so⟩);have A7:=hid (show CmIn w w.heap.size (.agg ([.slice Ap P.length l,.slice Ac Q.length m,.string R,.string S,.int .i64 T]:List Value).toArray) (P,Q,R,S,T) from⟨ok.2,L,hm,Ap,l,Ac,m,rfl,sp,sc⟩);clear ok A0 ha L hm sd so sp sc;go_enter func161,ntmps161
  go_upto_region 1 with (first
    |(with_reducible refine kB ?_
      refine kr yx 70 _ rfl [.int .u8 (k.toNat:Int),.int .i64 n,.slice Ad F.length Z,.string G,.slice Ao H.length a,.slice Ap P.length l,.slice Ac Q.length m,.string R,.string S,.int .i64 T] _ rfl rfl yy ?_;intro q A1 A2 A8;have c:=hid A1;have M:=hid A2
      clear A1 A2 A8))
  obtain⟨z,hz⟩:∃z,w.heap.size=z:=⟨_,rfl⟩;have r:=hid (show z<q.heap.size by rw[←hz];exact(qX M.out));rw[hz] at M ⊢
  try go_frame
  clear hz;have c0:q.cell? ⟨z,0,none⟩=some (.int .u8 (k.toNat:Int)):=k4 M.out 0;by_cases b:k=1
  ·have Ai:((k.toNat:Int) == 1)=true:=by rw[b];rfl
   go_upto_region 3 with (first
     |(with_reducible refine k6 ?_
       refine k5 yx (kc 68 _ rfl (p:=⟨z,5,none⟩) rfl (qV _ _ _ _ [.slice Ap P.length l,.slice Ac Q.length m,.string R,.string S,.int .i64 T] _ (fun j u U=>(k4 (M.out) (5+j)).trans (mid5 U)) underlying68 rfl yy)) ?_)
     |(with_reducible refine kA ?_
       refine ks yx 68 rfl [.slice none 0 0,.slice none 0 0,.string kM,.string kM,.int .i64 0] (zeroCm_run _) ?_;intro Wa A3 A4 A9;have W:=hid A3;have d:=hid A4
       clear A3 A4 A9)
     |(with_reducible refine kw ?_
       refine ko yx 68 _ _ rfl q.heap.size 0 [] [.slice none 0 0,.slice none 0 0,.string kM,.string kM,.int .i64 0] [] [.slice Ap P.length l,.slice Ac Q.length m,.string R,.string S,.int .i64 T] 68 _ rfl rfl rfl rfl (by simpa using d.out) rfl yy (by intro u g;simp only[List.mem_cons,List.not_mem_nil,or_false] at g;rcases g with rfl|rfl|rfl|rfl|rfl<;>rfl) ?_;intro V A5 A6 Aa;have f:=hid (W.trans (A5.below W.size (fun k b e=>by have e':k=q.heap.size:=e;omega)));have I:Hid (V.heap[q.heap.size]?=some (.cells ([.slice Ap P.length l,.slice Ac Q.length m,.string R,.string S,.int .i64 T]:List Value).toArray 68 (0,0))):=hid (by simpa using A6);clear A5 A6 Aa))
   obtain⟨X,s⟩:∃z,q.heap.size=z:=⟨_,rfl⟩;have N:=hid (show X<V.heap.size by rw[←s];exact(qX I.out));have J:=hid ((f.block z r.out).trans M.out);have A:=hid (c.trans (f.mono c.size));rw[s] at I ⊢
   try go_frame
   clear s W d;have D:=hid (fun (u:World) (g:Below V.heap.size V u)=>(show u.cell? ⟨X,0,none⟩=some (.slice Ap P.length l)∧u.cell? ⟨X,1,none⟩=some (.slice Ac Q.length m)∧u.cell? ⟨X,2,none⟩=some (.string R)∧u.cell? ⟨X,3,none⟩=some (.string S)∧u.cell? ⟨X,4,none⟩=some (.int .i64 T) from⟨(g.cell (p:=⟨X,0,none⟩) N.out).trans (k4 I.out 0),(g.cell (p:=⟨X,1,none⟩) N.out).trans (k4 I.out 1),(g.cell (p:=⟨X,2,none⟩) N.out).trans (k4 I.out 2),(g.cell (p:=⟨X,3,none⟩) N.out).trans (k4 I.out 3),(g.cell (p:=⟨X,4,none⟩) N.out).trans (k4 I.out 4)⟩));have c0:V.cell? ⟨z,0,none⟩=some (.int .u8 (k.toNat:Int)):=k4 J.out 0;have K:=hid (show ChIn V V.heap.size (.agg ([.int .i64 n,.slice Ad F.length Z,.string G,.slice Ao H.length a]:List Value).toArray) (n,F,G,H) from (i.keep A.out).more A.size);by_cases hchg:j6 (n,F,G,H)=true
   ·by_cases hps:P=[]
    ·have O:=hid (hchg);have Ab:(((P.length:Nat):Int) == 0)=true:=by rw[hps];rfl
     by_cases hcs:Q=[]
     ·have Ae:(((Q.length:Nat):Int) == 0)=true:=by rw[hcs];rfl
      by_cases L:R=kM
      ·have Af:R.toList.isEmpty=true:=by rw[kP];exact dT L
       by_cases hms:S=kM
       ·have Ag:S.toList.isEmpty=true:=by rw[kP];exact dT hms
        by_cases hst:T=0
        focus
          have Ah:(T == 0)=true:=by rw[hst];rfl
          have E:Hid (zk (k,(n,F,G,H),(P,Q,R,S,T))=true):=hid (by unfold zk;simp only;rw[if_pos b];rw[hchg];simp [jz,hps,hcs,L,hms,hst])
        rotate_left
        focus
          have Ah:(T == 0)=false:=by rw[beq_eq_false_iff_ne];exact hst
          have E:Hid (zk (k,(n,F,G,H),(P,Q,R,S,T))=false):=hid (by unfold zk;simp only;rw[if_pos b];rw[hchg];simp [jz,hps,hcs,L,hms,hst])
        all_goals
          clear hchg hps hcs L hms hst
          go_wp2_with (first
            |(with_reducible refine k6 ?_
              refine k5 yx (kc 37 _ rfl (p:=⟨z,1,none⟩) rfl (qV _ _ _ _ [.int .i64 n,.slice Ad F.length Z,.string G,.slice Ao H.length a] _ (fun j u U=>(k4 (J.out) (1+j)).trans (mid1 U)) underlying37 rfl yy)) ?_)
            |(go_at_call 200;refine(KN (n,F,G,H) _ V K.out hl1 hl2).mono ?_;rintro e Y ⟨C,rfl⟩;rw[O.out];obtain⟨t,x,y,d3,d4⟩:=D.out Y C;have B:=hid (A.trans (C.mono A.size));clear C))
          go_ret;exact⟨B.out,by rw[E.out];rfl⟩
       ·have Ag:S.toList.isEmpty=false:=by rw[kP];exact dF hms
        have E:Hid (zk (k,(n,F,G,H),(P,Q,R,S,T))=false):=hid (by unfold zk;simp only;rw[if_pos b];rw[hchg];simp [jz,hps,hcs,L,hms]);clear hchg hps hcs L hms
        go_wp2_with (first
          |(with_reducible refine k6 ?_
            refine k5 yx (kc 37 _ rfl (p:=⟨z,1,none⟩) rfl (qV _ _ _ _ [.int .i64 n,.slice Ad F.length Z,.string G,.slice Ao H.length a] _ (fun j u U=>(k4 (J.out) (1+j)).trans (mid1 U)) underlying37 rfl yy)) ?_)
          |(go_at_call 200;refine(KN (n,F,G,H) _ V K.out hl1 hl2).mono ?_;rintro e Y ⟨C,rfl⟩;rw[O.out];obtain⟨t,x,y,d3,d4⟩:=D.out Y C;have B:=hid (A.trans (C.mono A.size));clear C))
        go_ret;exact⟨B.out,by rw[E.out];rfl⟩
      ·have Af:R.toList.isEmpty=false:=by rw[kP];exact dF L
       have E:Hid (zk (k,(n,F,G,H),(P,Q,R,S,T))=false):=hid (by unfold zk;simp only;rw[if_pos b];rw[hchg];simp [jz,hps,hcs,L]);clear hchg hps hcs L
       go_wp2_with (first
         |(with_reducible refine k6 ?_
           refine k5 yx (kc 37 _ rfl (p:=⟨z,1,none⟩) rfl (qV _ _ _ _ [.int .i64 n,.slice Ad F.length Z,.string G,.slice Ao H.length a] _ (fun j u U=>(k4 (J.out) (1+j)).trans (mid1 U)) underlying37 rfl yy)) ?_)
         |(go_at_call 200;refine(KN (n,F,G,H) _ V K.out hl1 hl2).mono ?_;rintro e Y ⟨C,rfl⟩;rw[O.out];obtain⟨t,x,y,d3,d4⟩:=D.out Y C;have B:=hid (A.trans (C.mono A.size));clear C))
       go_ret;exact⟨B.out,by rw[E.out];rfl⟩
     ·have Ae:(((Q.length:Nat):Int) == 0)=false:=by rw[beq_eq_false_iff_ne];intro hq;exact hcs (List.eq_nil_of_length_eq_zero yz)
      have E:Hid (zk (k,(n,F,G,H),(P,Q,R,S,T))=false):=hid (by unfold zk;simp only;rw[if_pos b];rw[hchg];simp [jz,hps,hcs]);clear hchg hps hcs
      go_wp2_with (first
        |(with_reducible refine k6 ?_
          refine k5 yx (kc 37 _ rfl (p:=⟨z,1,none⟩) rfl (qV _ _ _ _ [.int .i64 n,.slice Ad F.length Z,.string G,.slice Ao H.length a] _ (fun j u U=>(k4 (J.out) (1+j)).trans (mid1 U)) underlying37 rfl yy)) ?_)
        |(go_at_call 200;refine(KN (n,F,G,H) _ V K.out hl1 hl2).mono ?_;rintro e Y ⟨C,rfl⟩;rw[O.out];obtain⟨t,x,y,d3,d4⟩:=D.out Y C;have B:=hid (A.trans (C.mono A.size));clear C))
      go_ret;exact⟨B.out,by rw[E.out];rfl⟩
    ·have O:=hid (hchg);have Ab:(((P.length:Nat):Int) == 0)=false:=by rw[beq_eq_false_iff_ne];intro hq;exact hps (List.eq_nil_of_length_eq_zero yz)
     have E:Hid (zk (k,(n,F,G,H),(P,Q,R,S,T))=false):=hid (by unfold zk;simp only;rw[if_pos b];rw[hchg];simp [jz,hps]);clear hchg hps
     go_wp2_with (first
       |(with_reducible refine k6 ?_
         refine k5 yx (kc 37 _ rfl (p:=⟨z,1,none⟩) rfl (qV _ _ _ _ [.int .i64 n,.slice Ad F.length Z,.string G,.slice Ao H.length a] _ (fun j u U=>(k4 (J.out) (1+j)).trans (mid1 U)) underlying37 rfl yy)) ?_)
       |(go_at_call 200;refine(KN (n,F,G,H) _ V K.out hl1 hl2).mono ?_;rintro e Y ⟨C,rfl⟩;rw[O.out];obtain⟨t,x,y,d3,d4⟩:=D.out Y C;have B:=hid (A.trans (C.mono A.size));clear C))
     go_ret;exact⟨B.out,by rw[E.out];rfl⟩
   ·have O:=hid (Bool.eq_false_iff.2 hchg);have E:Hid (zk (k,(n,F,G,H),(P,Q,R,S,T))=false):=hid (by unfold zk;simp only;rw[if_pos b];rw[Bool.eq_false_iff.2 hchg];simp);clear hchg
    go_wp2_with (first
      |(with_reducible refine k6 ?_
        refine k5 yx (kc 37 _ rfl (p:=⟨z,1,none⟩) rfl (qV _ _ _ _ [.int .i64 n,.slice Ad F.length Z,.string G,.slice Ao H.length a] _ (fun j u U=>(k4 (J.out) (1+j)).trans (mid1 U)) underlying37 rfl yy)) ?_)
      |(go_at_call 200;refine(KN (n,F,G,H) _ V K.out hl1 hl2).mono ?_;rintro e Y ⟨C,rfl⟩;rw[O.out];obtain⟨t,x,y,d3,d4⟩:=D.out Y C;have B:=hid (A.trans (C.mono A.size));clear C))
    go_ret;exact⟨B.out,by rw[E.out];rfl⟩
  ·exact absurd hone.out b
theorem BySt.drop{w wx:World}{t:Nat×List Value×TypeId}{L:List (Nat×List Value×TypeId)}{ys:List UInt8}{A:Option Addr}{n c:Nat}(h:BySt w (t::L) ys A n c wx):BySt w L ys A n c wx:=
  ⟨h.bel,h.own,h.len,fun t B=>h.boxes t (List.mem_cons_of_mem _ B)⟩
theorem refBytesCh_any(k:UInt8)(n0:Int)(ds:List (List UInt8))(au:ByteArray)(os:List OpD)(ps cs:List (List UInt8))(a2 ms:ByteArray)(st:Int)(v:Value)(w:World)(h:ObjIn w w.heap.size v (k,(n0,ds,au,os),(ps,cs,a2,ms,st)))(hk:k=1)(hr:j6 (n0,ds,au,os)=true):
    Calls prog 162 #[v] w (uc (J4 (n0,ds,au,os)) w):=by
  obtain⟨ok,Bc,ha,Bq,hm,Ad,cd,Ao,co,Ap,cp,Ac,cc,rfl,sd,so,sp,sc⟩:=h;dsimp only at *;unfold j6 at hr;simp only[Bool.and_eq_true,decide_eq_true_eq] at hr;obtain⟨⟨⟨⟨⟨⟨BA,BB⟩,B1⟩,Bd⟩,S⟩,A6⟩,B2⟩:=hr;have Bz:=qz Bd;obtain⟨BC,B3,Be⟩:=Uc B1 ok.1.2.1;have X:=hid sd;have AV:=hid so;have l:=hid B3;have o:=hid Be
  have V:=hid (show IdsOk ds from ok.1.2.1);have AB:=hid Bc;have AW:=hid (fun x Z=>ops_each B2 x Z);obtain⟨n,rfl⟩:∃m:Nat,n0=(m:Int):=⟨n0.toNat,by omega⟩;have Br:n<9223372036854775808:=by omega
  have An:ds.length≤1099511627776:=by omega
  have Bf:au.size≤1099511627776:=by omega
  have b1:=jn (n:=n) yz;have b2:=idsE_len8 V.out An;have b3:=uw Bf;have b4:=jn (n:=os.length) yz;have ek:((k.toNat:Int) == 2)=false:=by rw[hk];rfl
  clear ok Bc ha Bq hm sd so sp sc B1 Bd B3 Be B2 hk;go_enter func162,ntmps162
  go_upto_region 1 with (first
    |(with_reducible refine kB ?_
      refine kr yx 70 _ rfl [.int .u8 (k.toNat:Int),.int .i64 (n:Int),.slice Ad ds.length cd,.string au,.slice Ao os.length co,.slice Ap ps.length cp,.slice Ac cs.length cc,.string a2,.string ms,.int .i64 st] _ rfl rfl yy ?_;intro W0 Bg Bh Bs;have AC:=hid Bg;have Ar:=hid Bh
      clear Bg Bh Bs))
  obtain⟨z,hz⟩:∃z,w.heap.size=z:=⟨_,rfl⟩;rw[hz] at Ar ⊢;have c0:W0.cell? ⟨z,0,none⟩=some (.int .u8 (k.toNat:Int)):=k4 Ar.out 0
  try go_frame
  go_upto_region 8 with fail
  go_upto_region 9 with (first
    |(with_reducible refine k6 ?_
      refine k5 yx (kc 37 _ rfl (p:=⟨z,1,none⟩) rfl (qV _ _ _ _ [.int .i64 (n:Int),.slice Ad ds.length cd,.string au,.slice Ao os.length co] _ (fun j u hj=>(k4 Ar.out (1+j)).trans (mid1 hj)) underlying37 rfl yy)) ?_)
    |(with_reducible refine kA ?_
      refine ks yx 37 rfl [.int .i64 0,.slice none 0 0,.string kM,.slice none 0 0] (zeroCh_run8 _) ?_;intro Wa Ah AJ AT;have q:=hid Ah;have A7:=hid AJ
      clear Ah AJ AT)
    |(with_reducible refine kw ?_
      refine ko yx 37 _ _ rfl W0.heap.size 0 [] [.int .i64 0,.slice none 0 0,.string kM,.slice none 0 0] [] [.int .i64 (n:Int),.slice Ad ds.length cd,.string au,.slice Ao os.length co] 37 _ rfl rfl rfl rfl (by simpa using A7.out) rfl yy (by intro u hu;simp only[List.mem_cons,List.not_mem_nil,or_false] at hu;rcases hu with rfl|rfl|rfl|rfl<;>rfl) ?_;intro W2 AK AL B4;have AD:=hid (q.trans (AK.below q.size (fun k hk e=>by have e':k=W0.heap.size:=e;omega)));have As:Hid (W2.heap[W0.heap.size]?=some (.cells ([.int .i64 (n:Int),.slice Ad ds.length cd,.string au,.slice Ao os.length co]:List Value).toArray 37 (0,0))):=hid (by simpa using AL);clear AK AL B4))
  have At:=hid (AC.trans (AD.mono AC.size));obtain⟨d,Bi⟩:∃z,W0.heap.size=z:=⟨_,rfl⟩;rw[Bi] at As ⊢
  try go_frame
  clear Bi q A7 AD
  go_upto_region 10 with (first
    |(with_reducible refine k6 ?_
      obtain⟨wb,Ak⟩:∃u,(World.alloc W2 (.cells #[.int .u8 67] 5))=u:=⟨_,rfl⟩;have B:Hid (BySt w [(d,[.int .i64 (n:Int),.slice Ad ds.length cd,.string au,.slice Ao os.length co],37)] [67] (some ⟨W2.heap.size,0,none⟩) 1 1 wb):=hid (by
         have Ah:Below W2.heap.size W2 wb:=by rw[←Ak];exact(qB _ _).alloc (qR _) _
         exact⟨At.trans (Ah.mono At.size),by rw[←Ak];exact own_lit8 w W2 _ At.size,rfl,fun t ht=>by
           obtain rfl:=List.mem_singleton.1 ht;exact⟨(Ah.block d (qX As.out)).trans As.out,(show (37:TypeId)≠5 by decide)⟩⟩)
      rw[Ak];clear Ak;refine k5 yx (zQ 3 _ rfl (p:=⟨d,0,none⟩) rfl underlying3 rfl (B.cellAt (z:=d) (cs:=[.int .i64 (n:Int),.slice Ad ds.length cd,.string au,.slice Ao os.length co]) (T:=37) yq 0)) ?_)
    |(go_at_call 204;refine(Kn n Br _).mono ?_;rintro e u1 ⟨N,Ax1,Ae,rfl,S⟩;have B:=hid (B.call N);have J:=hid (N);have K:=hid (Sl.of_own S);clear N S)
    |(at_builtin;refine zR yx _ _ 169 rfl w.heap.size 5 (.int .u8 0) 1 1 underlying169 jg rfl yv (.slice (some ⟨W2.heap.size,0,none⟩) (1) 1) (1) (idV ([67])) rfl B.own Ax1 (jq n).length Ae u1.heap.size (idV (jq n)) rfl K.out (kV _) (by have Av:=b1;have Aw:=b2;have Ax:=b3;have Ay:=b4;unfold maxLen;omega) (by have Av:=b1;have Aw:=b2;have Ax:=b3;have Ay:=b4;omega) B.bel.size ?_
      intro v1 Al C D;obtain⟨A1,c1,rfl⟩:=kO C;have B:=hid (B.app C rfl D);clear C D))
  go_upto_region 11 with (first
    |(with_reducible refine k6 ?_
      refine k5 yx (zQ 34 _ rfl (p:=⟨d,1,none⟩) rfl underlying34 rfl (B.cellAt (z:=d) (cs:=[.int .i64 (n:Int),.slice Ad ds.length cd,.string au,.slice Ao os.length co]) (T:=37) yq 1)) ?_)
    |(go_at_call 202;refine(refList_any ds Ad cd _ An V.out ((X.keep B.bel).more B.bel.size)).mono ?_;rintro e u2 ⟨a,Ax2,Az,rfl,A6⟩;have B:=hid (B.call a);have J:=hid (a);have Y:=hid (Sl.of_own A6);clear a A6)
    |(at_builtin;refine zR yx _ _ 169 rfl w.heap.size 5 (.int .u8 0) 1 1 underlying169 jg rfl yv (.slice A1 (1+(jq n).length) c1) (1+(jq n).length) (idV ([67]++jq n)) rfl B.own Ax2 (Zs ds).length Az u2.heap.size (idV (Zs ds)) rfl Y.out (kV _) (by have Av:=b1;have Aw:=b2;have Ax:=b3;have Ay:=b4;unfold maxLen;omega) (by have Av:=b1;have Aw:=b2;have Ax:=b3;have Ay:=b4;omega) B.bel.size ?_
      intro v2 B5 C D;obtain⟨A2,c2,rfl⟩:=kO C;have B:=hid (B.app C rfl D);clear C D))
  go_upto_region 12 with (first
    |(with_reducible refine k6 ?_
      refine k5 yx (zQ 9 _ rfl (p:=⟨d,2,none⟩) rfl underlying9 rfl (B.cellAt (z:=d) (cs:=[.int .i64 (n:Int),.slice Ad ds.length cd,.string au,.slice Ao os.length co]) (T:=37) yq 2)) ?_)
    |(go_at_call 203;refine(vw au Bf _).mono ?_;rintro e u3 ⟨Af,Ax3,AM,rfl,Aq⟩;have B:=hid (B.call Af);have J:=hid (Af);have A8:=hid (Sl.of_own Aq);clear Af Aq)
    |(at_builtin;refine zR yx _ _ 169 rfl w.heap.size 5 (.int .u8 0) 1 1 underlying169 jg rfl yv (.slice A2 (1+(jq n).length+(Zs ds).length) c2) (1+(jq n).length+(Zs ds).length) (idV ([67]++jq n++Zs ds)) rfl B.own Ax3 (jH (L au)).length AM u3.heap.size (idV (jH (L au))) rfl A8.out (kV _) (by have Av:=b1;have Aw:=b2;have Ax:=b3;have Ay:=b4;unfold maxLen;omega) (by have Av:=b1;have Aw:=b2;have Ax:=b3;have Ay:=b4;omega) B.bel.size ?_
      intro v3 Bj C D;obtain⟨A3,c3,rfl⟩:=kO C;have B:=hid (B.app C rfl D);clear C D))
  go_upto_region 13 with (first
    |(with_reducible refine k6 ?_
      refine k5 yx (zQ 35 _ rfl (p:=⟨d,3,none⟩) rfl underlying35 rfl (B.cellAt (z:=d) (cs:=[.int .i64 (n:Int),.slice Ad ds.length cd,.string au,.slice Ao os.length co]) (T:=37) yq 3)) ?_)
    |(go_at_call 204;refine(Kn os.length yz _).mono ?_;rintro e u4 ⟨B6,Ax4,Bt,rfl,Bk⟩;have B:=hid (B.call B6);have J:=hid (B6);have AX:=hid (Sl.of_own Bk);clear B6 Bk)
    |(at_builtin;refine zR yx _ _ 169 rfl w.heap.size 5 (.int .u8 0) 1 1 underlying169 jg rfl yv (.slice A3 (1+(jq n).length+(Zs ds).length+(jH (L au)).length) c3) (1+(jq n).length+(Zs ds).length+(jH (L au)).length) (idV ([67]++jq n++Zs ds++jH (L au))) rfl B.own Ax4 (jq os.length).length Bt u4.heap.size (idV (jq os.length)) rfl AX.out (kV _) (by have Av:=b1;have Aw:=b2;have Ax:=b3;have Ay:=b4;unfold maxLen;omega) (by have Av:=b1;have Aw:=b2;have Ax:=b3;have Ay:=b4;omega) B.bel.size ?_
      intro v4 BD C D;obtain⟨A4,c4,rfl⟩:=kO C;have B:=hid (B.app C rfl D);clear C D))
  have Bu:([67]++jq n++Zs ds++jH (L au)++jq os.length).length≤200000:=by rw[B.len];omega
  have BE:1+(jq n).length+(Zs ds).length+(jH (L au)).length+(jq os.length).length≤200000:=by omega
  obtain⟨xh,B7⟩:∃xh,[67]++jq n++Zs ds++jH (L au)++jq os.length=xh:=⟨_,rfl⟩;have AY:Hid (J4 ((n:Int),ds,au,os)=xh++Uy ds os):=hid (by
    rw[←B7];simp only[J4,zm,List.append_assoc,List.cons_append,List.nil_append])
  rw[B7] at B Bu;obtain⟨LL,AN⟩:∃LL:List (Nat×List Value×TypeId),[(d,[.int .i64 (n:Int),.slice Ad ds.length cd,.string au,.slice Ao os.length co],37)]=LL:=⟨_,rfl⟩;have AZ:=hid AN;rw[AN] at B;have y:Hid (∀{u:World} {A':Option Addr} {m' c':Nat} {y':List UInt8},BySt w LL y' A' m' c' u→u.cell? ⟨d,1,none⟩=some (.slice Ad ds.length cd)):=hid (fun h=>h.cellAt (z:=d) (cs:=[.int .i64 (n:Int),.slice Ad ds.length cd,.string au,.slice Ao os.length co]) (T:=37) (by rw[←AN];simp) 1);have B0:Hid (∀{u:World} {A':Option Addr} {m' c':Nat} {y':List UInt8},BySt w LL y' A' m' c' u→u.cell? ⟨d,3,none⟩=some (.slice Ao os.length co)):=hid (fun h=>h.cellAt (z:=d) (cs:=[.int .i64 (n:Int),.slice Ad ds.length cd,.string au,.slice Ao os.length co]) (T:=37) (by rw[←AN];simp) 3);clear B7 AN AZ;go_wp2_with fail
  go_loopw [6,7] (fun t6 t7 wr=>∃(i:Nat) (g:List UInt8) (A:Option Addr) (m c:Nat),i≤os.length∧t7=.int .i64 ((i:Nat):Int)∧t6=.slice A m c∧Hid (g=xh++Uy ds (os.take i))∧Hid (BySt w LL g A m c wr)∧m≤200000+5000*i) (fun _ t7 _=>os.length - (intOf t7).toNat)
  case atStart=>exact⟨0,xh,_,_,_,Nat.zero_le _,rfl,rfl,hid (by simp [Uy]),B,by omega⟩
  case round=>
    obtain⟨i,g,A,m,c,hi,rfl,rfl,HY,HB,BF⟩:=hrel;have BG:wr.cell? ⟨d,3,none⟩=some (.slice Ao os.length co):=B0.out HB.out;by_cases hlt:i<os.length
    ·have i0:(0:Int)≤(i:Int):=by omega
     have i1:(i:Int)<(os.length:Int):=by omega
     obtain⟨b,BH,rfl,BI,Bl⟩:=(AV.keep HB.bel).2 yz;have Au:=hid (Sl.row (fun x Z=>kH (AB.out x Z)) Bl hlt);have O:=hid (AB.out _ (List.getElem_mem hlt));have AE:=hid (AW.out _ (List.getElem_mem hlt));have A9:=hid (opsE_next (deps:=ds) hlt);clear Bl;generalize os[i]=x at *;have F:=hid (kp O.out);have Aj:=hid (kH O.out);have AF:=hid (Ud x);obtain⟨W,Bm⟩:∃W,opV x=W:=⟨_,rfl⟩;rw[Bm] at Au F Aj AF;clear Bm;obtain⟨mk,AO⟩:=AE.out;obtain⟨p,Bn⟩:∃p,kD x.1=some p:=by
       rcases hq:kD x.1 with _ |p
       ·unfold opB at AO;rw[hq] at AO;cases AO
       ·exact⟨p,rfl⟩
     obtain⟨n1,n2,n3,n4,n5,n6,n7,n8,n9,Bv⟩:=op_names Bn AO;obtain⟨xk,⟨G,di⟩,⟨U,ai⟩,xt,xn,xq⟩:=x;dsimp only at *;clear n2 n4 n6 n8 Bv AO AE
     go_upto_region 17 with (first
       |(with_reducible refine k6 ?_
         refine j9 rfl 112 _ rfl b _ rfl W _ Au.out underlying112 rfl (by rw[Aj.out];exact Kg) ?_)
       |(with_reducible refine kA ?_
         refine ks yx 112 rfl (opV UX) (UY _) ?_;intro Wa Ah AJ AT;have q:=hid Ah;have A7:=hid AJ;have AG:=hid AT
         clear Ah AJ AT)
       |(with_reducible refine kw ?_
         refine ko yx 112 _ _ rfl wr.heap.size 0 [] (opV UX) [] W 112 _ rfl rfl rfl rfl (by simpa using A7.out) (by rw[Aj.out];exact kH (Qr 0)) (by rw[Aj.out];exact Kg) AF.out ?_;intro Wb AK AL B4;have AH:=hid (q.trans (AK.below (by have:=AG.out;omega) (fun k hk e=>by omega)));have AI:Hid (Wb.heap[wr.heap.size]?=some (.cells W.toArray 112 (0,0))):=hid (by simpa using AL);clear AK AL B4))
     have B:=hid ((HB.call AH.out).add AI.out (show (112:TypeId)≠5 by decide));obtain⟨H,Bo⟩:∃H,wr.heap.size=H:=⟨_,rfl⟩;rw[Bo] at B ⊢
     try go_frame
     have Bw:Wb.cell? ⟨H,0,none⟩=some (.int .u8 (xk.toNat:Int)):=(B.cellAt (z:=H) (cs:=W) (T:=112) yq 0).trans F.1;clear Bo q A7 AG AH AI
     go_upto_region 18 with (first
       |(at_builtin
         obtain⟨wb,Ak⟩:∃u,(World.alloc Wb (.cells #[.int .u8 (xk.toNat:Int)] 5))=u:=⟨_,rfl⟩;have Aa:Hid (BySt w ((H,W,112)::LL) g A m c wb∧Sl wb wb.heap.size (some ⟨Wb.heap.size,0,none⟩) 1 1 (idV [xk])):=hid (by
            have Ah:Below Wb.heap.size Wb wb:=by rw[←Ak];exact(qB _ _).alloc (qR _) _
            exact⟨B.call Ah,by rw[←Ak];exact Sl.of_own (own_lit8 w Wb _ B.bel.size)⟩)
         rw[Ak];refine zR yx _ _ 169 rfl w.heap.size 5 (.int .u8 0) 1 1 underlying169 jg rfl yv (.slice A m c) m (idV g) rfl Aa.1.own (some ⟨Wb.heap.size,0,none⟩) 1 1 wb.heap.size (idV [xk]) rfl Aa.2 (kV _) yk yz Aa.1.bel.size ?_;intro v0 AP C D;obtain⟨A0,AQ,rfl⟩:=kO C;have B:=hid (Aa.1.app C rfl D);clear C D Ak Aa))
     clear Bw;rcases Zj Bn with⟨rfl,rfl⟩|⟨rfl,rfl⟩|⟨rfl,rfl⟩|⟨rfl,rfl⟩|⟨rfl,rfl⟩
     ·obtain⟨E,rfl⟩:∃E:Nat,di=(E:Int):=⟨di.toNat,by have:=(n1 rfl).2;omega⟩;have M:=hid (show za (G,(E:Int)) from O.1.1);have P:=hid (n1 rfl).1;have Ag:E<9223372036854775808:=by have hb:=(zJ O.1.1.2).2;dsimp only at hb;omega
      have I:=ZM (deps:=ds) (rc:=G) (ri:=E) yz Ag;obtain⟨Q,rfl⟩:∃Q:Nat,ai=(Q:Int):=⟨ai.toNat,by have:=(n3 rfl).2;omega⟩;have Ab:=hid (show za (U,(Q:Int)) from O.1.2.1);have Ai:=hid (n3 rfl).1;have AR:Q<9223372036854775808:=by have hb:=(zJ O.1.2.1.2).2;dsimp only at hb;omega
      have A5:=ZM (deps:=ds) (rc:=U) (ri:=Q) yz AR;have BJ:xt.size≤4096:=n5 rfl;have B8:=uw (s:=xt) yz;clear n1 n3 n5 n7 n9;have R:Hid (g++[1]++jT ds (G,(E:Int))++jT ds (U,(Q:Int))++jH (L xt)=xh++Uy ds (os.take (i+1))):=hid (by
        rw[A9.out,←List.append_assoc,←HY.out];have e1:opE ds (1,(G,(E:Int)),(U,(Q:Int)),xt,xn,xq)=[1]++jT ds (G,(E:Int))++jT ds (U,(Q:Int))++jH (L xt):=by
          simp [opE,ifE,kD]
        rw[e1];simp only[List.append_assoc])
      have AU:AP.cell? ⟨H,0,none⟩=some (.int .u8 1):=(B.cellAt (z:=H) (cs:=W) (T:=112) yq 0).trans F.1
      go_upto_region 19 with fail
      go_upto_region 20 with (first
        |(with_reducible refine k6 ?_
          refine k5 yx (zQ 34 _ rfl (p:=⟨d,1,none⟩) rfl underlying34 rfl (y.out B.drop)) ?_)
        |(with_reducible refine k6 ?_
          refine k5 yx (ldR (b:=H) (f:=1) (r:=(G,(E:Int))) M.out (fun j u hj=>(B.cellAt (z:=H) (cs:=W) (T:=112) yq (1+j)).trans (F.2.1 j u hj))) ?_)
        |(go_at_call 205;refine(Zc ds G E Ad cd _ An V.out l.out o.out M.out P.out Ag ((X.keep B.bel).more B.bel.size)).mono ?_;rintro e u1 ⟨N,Ax1,Ae,rfl,S⟩;have B:=hid (B.call N);have J:=hid (N);have K:=hid (Sl.of_own S);clear N S)
        |(at_builtin;refine zR yx _ _ 169 rfl w.heap.size 5 (.int .u8 0) 1 1 underlying169 jg rfl yv (.slice A0 (m+1) AQ) (m+1) (idV (g++[1])) rfl B.own Ax1 (jT ds (G,(E:Int))).length Ae u1.heap.size (idV (jT ds (G,(E:Int)))) rfl K.out (kV _) (by have Z:=I;unfold maxLen;omega) (by have Z:=I;omega) B.bel.size ?_
          intro v1 Al C D;obtain⟨A1,c1,rfl⟩:=kO C;have B:=hid (B.app C rfl D);clear C D))
      have AS:Al.cell? ⟨H,0,none⟩=some (.int .u8 1):=(B.cellAt (z:=H) (cs:=W) (T:=112) yq 0).trans F.1
      go_upto_region 22 with fail
      go_upto_region 23 with (first
        |(with_reducible refine k6 ?_
          refine k5 yx (zQ 34 _ rfl (p:=⟨d,1,none⟩) rfl underlying34 rfl (y.out B.drop)) ?_)
        |(with_reducible refine k6 ?_
          refine k5 yx (ldR (b:=H) (f:=34) (r:=(U,(Q:Int))) Ab.out (fun j u hj=>(B.cellAt (z:=H) (cs:=W) (T:=112) yq (34+j)).trans (F.2.2.1 j u hj))) ?_)
        |(go_at_call 205;refine(Zc ds U Q Ad cd _ An V.out l.out o.out Ab.out Ai.out AR ((X.keep B.bel).more B.bel.size)).mono ?_;rintro e u2 ⟨a,Ax2,Az,rfl,A6⟩;have B:=hid (B.call a);have J:=hid (a);have Y:=hid (Sl.of_own A6);clear a A6)
        |(at_builtin;refine zR yx _ _ 169 rfl w.heap.size 5 (.int .u8 0) 1 1 underlying169 jg rfl yv (.slice A1 (m+1+(jT ds (G,(E:Int))).length) c1) (m+1+(jT ds (G,(E:Int))).length) (idV (g++[1]++jT ds (G,(E:Int)))) rfl B.own Ax2 (jT ds (U,(Q:Int))).length Az u2.heap.size (idV (jT ds (U,(Q:Int)))) rfl Y.out (kV _) (by have Z:=A5;have Am:=I;unfold maxLen;omega) (by have Z:=A5;have Am:=I;omega) B.bel.size ?_
          intro v2 B5 C D;obtain⟨A2,c2,rfl⟩:=kO C;have B:=hid (B.app C rfl D);clear C D))
      go_upto_region 23 with fail
      go_upto_region 15 with (first
        |(with_reducible refine k6 ?_
          refine k5 yx (zQ 9 _ rfl (p:=⟨H,67,none⟩) rfl underlying9 rfl ((B.cellAt (z:=H) (cs:=W) (T:=112) yq 67).trans F.2.2.2.1)) ?_)
        |(go_at_call 203;refine(vw xt yz _).mono ?_;rintro e u3 ⟨Af,Ax3,AM,rfl,Aq⟩;have B:=hid (B.call Af);have J:=hid (Af);have A8:=hid (Sl.of_own Aq);clear Af Aq)
        |(at_builtin;refine zR yx _ _ 169 rfl w.heap.size 5 (.int .u8 0) 1 1 underlying169 jg rfl yv (.slice A2 (m+1+(jT ds (G,(E:Int))).length+(jT ds (U,(Q:Int))).length) c2) (m+1+(jT ds (G,(E:Int))).length+(jT ds (U,(Q:Int))).length) (idV (g++[1]++jT ds (G,(E:Int))++jT ds (U,(Q:Int)))) rfl B.own Ax3 (jH (L xt)).length AM u3.heap.size (idV (jH (L xt))) rfl A8.out (kV _) (by have Z:=B8;have Am:=I;have B9:=A5;unfold maxLen;omega) (by have Z:=B8;have Am:=I;have B9:=A5;omega) B.bel.size ?_
          intro v3 Bj C D;obtain⟨A3,c3,rfl⟩:=kO C;have B:=hid (B.app C rfl D);clear C D))
      go_wp2_with fail
      go_roundw
      case rel=>exact⟨i+1,_,A3,_,c3,by omega,by go_num,rfl,R,hid B.drop,by omega⟩
      case measure=>(simp [intOf])<;>omega
     ·obtain⟨E,rfl⟩:∃E:Nat,di=(E:Int):=⟨di.toNat,by have:=(n1 rfl).2;omega⟩;have M:=hid (show za (G,(E:Int)) from O.1.1);have P:=hid (n1 rfl).1;have Ag:E<9223372036854775808:=by have hb:=(zJ O.1.1.2).2;dsimp only at hb;omega
      have I:=ZM (deps:=ds) (rc:=G) (ri:=E) yz Ag;obtain⟨Q,rfl⟩:∃Q:Nat,ai=(Q:Int):=⟨ai.toNat,by have:=(n3 rfl).2;omega⟩;have Ab:=hid (show za (U,(Q:Int)) from O.1.2.1);have Ai:=hid (n3 rfl).1;have AR:Q<9223372036854775808:=by have hb:=(zJ O.1.2.1.2).2;dsimp only at hb;omega
      have A5:=ZM (deps:=ds) (rc:=U) (ri:=Q) yz AR;obtain⟨xm,rfl⟩:∃xm:Nat,xn=(xm:Int):=⟨xn.toNat,by have:=n7 rfl;omega⟩;have Bx:xm<9223372036854775808:=by have hb:=(zJ O.1.2.2).2;dsimp only at hb;omega
      have Ba:=jn (n:=xm) yz;clear n1 n3 n5 n7 n9;have R:Hid (g++[2]++jT ds (G,(E:Int))++jT ds (U,(Q:Int))++jq xm=xh++Uy ds (os.take (i+1))):=hid (by
        rw[A9.out,←List.append_assoc,←HY.out];have e1:opE ds (2,(G,(E:Int)),(U,(Q:Int)),xt,(xm:Int),xq)=[2]++jT ds (G,(E:Int))++jT ds (U,(Q:Int))++jq xm:=by
          simp [opE,ifE,kD,zm]
        rw[e1];simp only[List.append_assoc])
      have AU:AP.cell? ⟨H,0,none⟩=some (.int .u8 2):=(B.cellAt (z:=H) (cs:=W) (T:=112) yq 0).trans F.1
      go_upto_region 19 with fail
      go_upto_region 20 with (first
        |(with_reducible refine k6 ?_
          refine k5 yx (zQ 34 _ rfl (p:=⟨d,1,none⟩) rfl underlying34 rfl (y.out B.drop)) ?_)
        |(with_reducible refine k6 ?_
          refine k5 yx (ldR (b:=H) (f:=1) (r:=(G,(E:Int))) M.out (fun j u hj=>(B.cellAt (z:=H) (cs:=W) (T:=112) yq (1+j)).trans (F.2.1 j u hj))) ?_)
        |(go_at_call 205;refine(Zc ds G E Ad cd _ An V.out l.out o.out M.out P.out Ag ((X.keep B.bel).more B.bel.size)).mono ?_;rintro e u1 ⟨N,Ax1,Ae,rfl,S⟩;have B:=hid (B.call N);have J:=hid (N);have K:=hid (Sl.of_own S);clear N S)
        |(at_builtin;refine zR yx _ _ 169 rfl w.heap.size 5 (.int .u8 0) 1 1 underlying169 jg rfl yv (.slice A0 (m+1) AQ) (m+1) (idV (g++[2])) rfl B.own Ax1 (jT ds (G,(E:Int))).length Ae u1.heap.size (idV (jT ds (G,(E:Int)))) rfl K.out (kV _) (by have Z:=I;unfold maxLen;omega) (by have Z:=I;omega) B.bel.size ?_
          intro v1 Al C D;obtain⟨A1,c1,rfl⟩:=kO C;have B:=hid (B.app C rfl D);clear C D))
      have AS:Al.cell? ⟨H,0,none⟩=some (.int .u8 2):=(B.cellAt (z:=H) (cs:=W) (T:=112) yq 0).trans F.1
      go_upto_region 25 with fail
      go_upto_region 26 with (first
        |(with_reducible refine k6 ?_
          refine k5 yx (zQ 34 _ rfl (p:=⟨d,1,none⟩) rfl underlying34 rfl (y.out B.drop)) ?_)
        |(with_reducible refine k6 ?_
          refine k5 yx (ldR (b:=H) (f:=34) (r:=(U,(Q:Int))) Ab.out (fun j u hj=>(B.cellAt (z:=H) (cs:=W) (T:=112) yq (34+j)).trans (F.2.2.1 j u hj))) ?_)
        |(go_at_call 205;refine(Zc ds U Q Ad cd _ An V.out l.out o.out Ab.out Ai.out AR ((X.keep B.bel).more B.bel.size)).mono ?_;rintro e u2 ⟨a,Ax2,Az,rfl,A6⟩;have B:=hid (B.call a);have J:=hid (a);have Y:=hid (Sl.of_own A6);clear a A6)
        |(at_builtin;refine zR yx _ _ 169 rfl w.heap.size 5 (.int .u8 0) 1 1 underlying169 jg rfl yv (.slice A1 (m+1+(jT ds (G,(E:Int))).length) c1) (m+1+(jT ds (G,(E:Int))).length) (idV (g++[2]++jT ds (G,(E:Int)))) rfl B.own Ax2 (jT ds (U,(Q:Int))).length Az u2.heap.size (idV (jT ds (U,(Q:Int)))) rfl Y.out (kV _) (by have Z:=A5;have Am:=I;unfold maxLen;omega) (by have Z:=A5;have Am:=I;omega) B.bel.size ?_
          intro v2 B5 C D;obtain⟨A2,c2,rfl⟩:=kO C;have B:=hid (B.app C rfl D);clear C D))
      go_upto_region 26 with fail
      go_upto_region 15 with (first
        |(with_reducible refine k6 ?_
          refine k5 yx (zQ 3 _ rfl (p:=⟨H,68,none⟩) rfl underlying3 rfl ((B.cellAt (z:=H) (cs:=W) (T:=112) yq 68).trans F.2.2.2.2.1)) ?_)
        |(go_at_call 204;refine(Kn xm Bx _).mono ?_;rintro e u3 ⟨Af,Ax3,AM,rfl,Aq⟩;have B:=hid (B.call Af);have J:=hid (Af);have A8:=hid (Sl.of_own Aq);clear Af Aq)
        |(at_builtin;refine zR yx _ _ 169 rfl w.heap.size 5 (.int .u8 0) 1 1 underlying169 jg rfl yv (.slice A2 (m+1+(jT ds (G,(E:Int))).length+(jT ds (U,(Q:Int))).length) c2) (m+1+(jT ds (G,(E:Int))).length+(jT ds (U,(Q:Int))).length) (idV (g++[2]++jT ds (G,(E:Int))++jT ds (U,(Q:Int)))) rfl B.own Ax3 (jq xm).length AM u3.heap.size (idV (jq xm)) rfl A8.out (kV _) (by have Z:=Ba;have Am:=I;have B9:=A5;unfold maxLen;omega) (by have Z:=Ba;have Am:=I;have B9:=A5;omega) B.bel.size ?_
          intro v3 Bj C D;obtain⟨A3,c3,rfl⟩:=kO C;have B:=hid (B.app C rfl D);clear C D))
      go_wp2_with fail
      go_roundw
      case rel=>exact⟨i+1,_,A3,_,c3,by omega,by go_num,rfl,R,hid B.drop,by omega⟩
      case measure=>(simp [intOf])<;>omega
     ·have By:xq.size≤4096:=n9 rfl;have AA:=uw (s:=xq) yz;clear n1 n3 n5 n7 n9;have R:Hid (g++[3]++jH (L xq)=xh++Uy ds (os.take (i+1))):=hid (by
        rw[A9.out,←List.append_assoc,←HY.out];have e1:opE ds (3,(G,di),(U,ai),xt,xn,xq)=[3]++jH (L xq):=by
          simp [opE,ifE,kD]
        rw[e1];simp only[List.append_assoc])
      have AU:AP.cell? ⟨H,0,none⟩=some (.int .u8 3):=(B.cellAt (z:=H) (cs:=W) (T:=112) yq 0).trans F.1
      go_upto_region 29 with fail
      go_upto_region 15 with (first
        |(with_reducible refine k6 ?_
          refine k5 yx (zQ 9 _ rfl (p:=⟨H,69,none⟩) rfl underlying9 rfl ((B.cellAt (z:=H) (cs:=W) (T:=112) yq 69).trans F.2.2.2.2.2)) ?_)
        |(go_at_call 203;refine(vw xq yz _).mono ?_;rintro e u1 ⟨N,Ax1,Ae,rfl,S⟩;have B:=hid (B.call N);have J:=hid (N);have K:=hid (Sl.of_own S);clear N S)
        |(at_builtin;refine zR yx _ _ 169 rfl w.heap.size 5 (.int .u8 0) 1 1 underlying169 jg rfl yv (.slice A0 (m+1) AQ) (m+1) (idV (g++[3])) rfl B.own Ax1 (jH (L xq)).length Ae u1.heap.size (idV (jH (L xq))) rfl K.out (kV _) (by have Z:=AA;unfold maxLen;omega) (by have Z:=AA;omega) B.bel.size ?_
          intro v1 Al C D;obtain⟨A1,c1,rfl⟩:=kO C;have B:=hid (B.app C rfl D);clear C D))
      go_wp2_with fail
      go_roundw
      case rel=>exact⟨i+1,_,A1,_,c1,by omega,by go_num,rfl,R,hid B.drop,by omega⟩
      case measure=>(simp [intOf])<;>omega
     ·obtain⟨E,rfl⟩:∃E:Nat,di=(E:Int):=⟨di.toNat,by have:=(n1 rfl).2;omega⟩;have M:=hid (show za (G,(E:Int)) from O.1.1);have P:=hid (n1 rfl).1;have Ag:E<9223372036854775808:=by have hb:=(zJ O.1.1.2).2;dsimp only at hb;omega
      have I:=ZM (deps:=ds) (rc:=G) (ri:=E) yz Ag;have By:xq.size≤4096:=n9 rfl;have AA:=uw (s:=xq) yz;clear n1 n3 n5 n7 n9;have R:Hid (g++[4]++jT ds (G,(E:Int))++jH (L xq)=xh++Uy ds (os.take (i+1))):=hid (by
        rw[A9.out,←List.append_assoc,←HY.out];have e1:opE ds (4,(G,(E:Int)),(U,ai),xt,xn,xq)=[4]++jT ds (G,(E:Int))++jH (L xq):=by
          simp [opE,ifE,kD]
        rw[e1];simp only[List.append_assoc])
      have AU:AP.cell? ⟨H,0,none⟩=some (.int .u8 4):=(B.cellAt (z:=H) (cs:=W) (T:=112) yq 0).trans F.1
      go_upto_region 19 with fail
      go_upto_region 20 with (first
        |(with_reducible refine k6 ?_
          refine k5 yx (zQ 34 _ rfl (p:=⟨d,1,none⟩) rfl underlying34 rfl (y.out B.drop)) ?_)
        |(with_reducible refine k6 ?_
          refine k5 yx (ldR (b:=H) (f:=1) (r:=(G,(E:Int))) M.out (fun j u hj=>(B.cellAt (z:=H) (cs:=W) (T:=112) yq (1+j)).trans (F.2.1 j u hj))) ?_)
        |(go_at_call 205;refine(Zc ds G E Ad cd _ An V.out l.out o.out M.out P.out Ag ((X.keep B.bel).more B.bel.size)).mono ?_;rintro e u1 ⟨N,Ax1,Ae,rfl,S⟩;have B:=hid (B.call N);have J:=hid (N);have K:=hid (Sl.of_own S);clear N S)
        |(at_builtin;refine zR yx _ _ 169 rfl w.heap.size 5 (.int .u8 0) 1 1 underlying169 jg rfl yv (.slice A0 (m+1) AQ) (m+1) (idV (g++[4])) rfl B.own Ax1 (jT ds (G,(E:Int))).length Ae u1.heap.size (idV (jT ds (G,(E:Int)))) rfl K.out (kV _) (by have Z:=I;unfold maxLen;omega) (by have Z:=I;omega) B.bel.size ?_
          intro v1 Al C D;obtain⟨A1,c1,rfl⟩:=kO C;have B:=hid (B.app C rfl D);clear C D))
      have AS:Al.cell? ⟨H,0,none⟩=some (.int .u8 4):=(B.cellAt (z:=H) (cs:=W) (T:=112) yq 0).trans F.1
      go_upto_region 29 with fail
      go_upto_region 15 with (first
        |(with_reducible refine k6 ?_
          refine k5 yx (zQ 9 _ rfl (p:=⟨H,69,none⟩) rfl underlying9 rfl ((B.cellAt (z:=H) (cs:=W) (T:=112) yq 69).trans F.2.2.2.2.2)) ?_)
        |(go_at_call 203;refine(vw xq yz _).mono ?_;rintro e u2 ⟨a,Ax2,Az,rfl,A6⟩;have B:=hid (B.call a);have J:=hid (a);have Y:=hid (Sl.of_own A6);clear a A6)
        |(at_builtin;refine zR yx _ _ 169 rfl w.heap.size 5 (.int .u8 0) 1 1 underlying169 jg rfl yv (.slice A1 (m+1+(jT ds (G,(E:Int))).length) c1) (m+1+(jT ds (G,(E:Int))).length) (idV (g++[4]++jT ds (G,(E:Int)))) rfl B.own Ax2 (jH (L xq)).length Az u2.heap.size (idV (jH (L xq))) rfl Y.out (kV _) (by have Z:=AA;have Am:=I;unfold maxLen;omega) (by have Z:=AA;have Am:=I;omega) B.bel.size ?_
          intro v2 B5 C D;obtain⟨A2,c2,rfl⟩:=kO C;have B:=hid (B.app C rfl D);clear C D))
      go_wp2_with fail
      go_roundw
      case rel=>exact⟨i+1,_,A2,_,c2,by omega,by go_num,rfl,R,hid B.drop,by omega⟩
      case measure=>(simp [intOf])<;>omega
     ·obtain⟨E,rfl⟩:∃E:Nat,di=(E:Int):=⟨di.toNat,by have:=(n1 rfl).2;omega⟩;have M:=hid (show za (G,(E:Int)) from O.1.1);have P:=hid (n1 rfl).1;have Ag:E<9223372036854775808:=by have hb:=(zJ O.1.1.2).2;dsimp only at hb;omega
      have I:=ZM (deps:=ds) (rc:=G) (ri:=E) yz Ag;clear n1 n3 n5 n7 n9;have R:Hid (g++[5]++jT ds (G,(E:Int))=xh++Uy ds (os.take (i+1))):=hid (by
        rw[A9.out,←List.append_assoc,←HY.out];have e1:opE ds (5,(G,(E:Int)),(U,ai),xt,xn,xq)=[5]++jT ds (G,(E:Int)):=by
          simp [opE,ifE,kD]
        rw[e1];simp only[List.append_assoc])
      have AU:AP.cell? ⟨H,0,none⟩=some (.int .u8 5):=(B.cellAt (z:=H) (cs:=W) (T:=112) yq 0).trans F.1
      go_upto_region 19 with fail
      go_upto_region 20 with (first
        |(with_reducible refine k6 ?_
          refine k5 yx (zQ 34 _ rfl (p:=⟨d,1,none⟩) rfl underlying34 rfl (y.out B.drop)) ?_)
        |(with_reducible refine k6 ?_
          refine k5 yx (ldR (b:=H) (f:=1) (r:=(G,(E:Int))) M.out (fun j u hj=>(B.cellAt (z:=H) (cs:=W) (T:=112) yq (1+j)).trans (F.2.1 j u hj))) ?_)
        |(go_at_call 205;refine(Zc ds G E Ad cd _ An V.out l.out o.out M.out P.out Ag ((X.keep B.bel).more B.bel.size)).mono ?_;rintro e u1 ⟨N,Ax1,Ae,rfl,S⟩;have B:=hid (B.call N);have J:=hid (N);have K:=hid (Sl.of_own S);clear N S)
        |(at_builtin;refine zR yx _ _ 169 rfl w.heap.size 5 (.int .u8 0) 1 1 underlying169 jg rfl yv (.slice A0 (m+1) AQ) (m+1) (idV (g++[5])) rfl B.own Ax1 (jT ds (G,(E:Int))).length Ae u1.heap.size (idV (jT ds (G,(E:Int)))) rfl K.out (kV _) (by have Z:=I;unfold maxLen;omega) (by have Z:=I;omega) B.bel.size ?_
          intro v1 Al C D;obtain⟨A1,c1,rfl⟩:=kO C;have B:=hid (B.app C rfl D);clear C D))
      have AS:Al.cell? ⟨H,0,none⟩=some (.int .u8 5):=(B.cellAt (z:=H) (cs:=W) (T:=112) yq 0).trans F.1;go_wp2_with fail
      go_roundw
      case rel=>exact⟨i+1,_,A1,_,c1,by omega,by go_num,rfl,R,hid B.drop,by omega⟩
      case measure=>(simp [intOf])<;>omega
    ·have i1:¬(i:Int)<(os.length:Int):=by omega
     have Bp:i=os.length:=by omega
     have HF:Hid (g=J4 ((n:Int),ds,au,os)):=hid (by rw[HY.out,Bp,List.take_length,AY.out]);clear Bp;go_wp2_with fail;go_ret;have Bb:=HB.len;exact⟨HB.bel,A,c,by rw[←HF.out,Bb];rfl,by rw[←HF.out,Bb];exact HB.own⟩
theorem refBytesO_any(o:ZT)(v:Value)(w:World)(h:ObjIn w w.heap.size v o)(hr:zk o=true)(hone:RowKit.Hid (o.1=1)):
    Calls prog 162 #[v] w (uc (J5 o) w):=by
  obtain⟨k,⟨n,A,B,C⟩,⟨D,E,F,G,H⟩⟩:=o;unfold zk at hr;unfold J5;dsimp only at hr ⊢;by_cases h1:k=1
  ·rw[if_pos h1] at hr ⊢;simp only[Bool.and_eq_true] at hr;exact refBytesCh_any k n A B C D E F G H v w h h1 hr.2
  ·exact absurd hone.out h1
end
section
open Go.RowKit

def W32(x:Int):Prop:=0≤x∧x≤4294967295
def zA(a b:Int):Int:=(a+b) % 4294967296
def JK(a b:Int):Int:=bits BinOp.xor IntKind.u32 a b
def andS(a b:Int):Int:=bits BinOp.and IntKind.u32 a b
def jO(n:Nat)(x:Int):Int:=bits BinOp.or IntKind.u32 (x / 2 ^ n) (x*2 ^ (32 - n) % 4294967296)
def notS(x:Int):Int:=bits BinOp.xor IntKind.u32 (if IntKind.u32.signed=true then -1 else IntKind.u32.max) x
theorem JV(a b:Int):W32 (zA a b):=⟨by unfold zA;omega,by unfold zA;omega⟩
theorem bits_or_comm(k:IntKind)(a b:Int):bits BinOp.or k a b=bits BinOp.or k b a:=by
  simp only[bits,BitVec.or_comm]
def wordS(a b c d:Nat):Int:=bits BinOp.or IntKind.u32 (bits BinOp.or IntKind.u32 (bits BinOp.or IntKind.u32 ((a:Int)*16777216) ((b:Int)*65536)) ((c:Int)*256)) (d:Int)
theorem w32_word(a b c d:Nat):W32 (wordS a b c d):=⟨bits_lo_u32 _ _ _,bits_hi_u32 _ _ _⟩
def j3(l:List UInt8)(i:Nat):Nat:=(l.getD i 0).toNat
theorem JF(l:List UInt8)(i:Nat):j3 l i<256:=(l.getD i 0).toNat_lt
def zX(l:List UInt8)(at' t:Nat):Int:=
  if t<16 then wordS (j3 l (at'+4*t)) (j3 l (at'+4*t+1)) (j3 l (at'+4*t+2)) (j3 l (at'+4*t+3))
  else
    zA (zA (zA (JK (JK (jO 17 (zX l at' (t - 2))) (jO 19 (zX l at' (t - 2)))) (zX l at' (t - 2) / 1024)) (zX l at' (t - 7)))
      (JK (JK (jO 7 (zX l at' (t - 15))) (jO 18 (zX l at' (t - 15)))) (zX l at' (t - 15) / 8))) (zX l at' (t - 16))
termination_by t
theorem Uo{l:List UInt8}{at' t:Nat}(h:t<16):zX l at' t=wordS (j3 l (at'+4*t)) (j3 l (at'+4*t+1)) (j3 l (at'+4*t+2)) (j3 l (at'+4*t+3)):=by
  rw[zX,if_pos h]
theorem Up{l:List UInt8}{at' t:Nat}(h:¬t<16):zX l at' t=zA (zA (zA (JK (JK (jO 17 (zX l at' (t - 2))) (jO 19 (zX l at' (t - 2)))) (zX l at' (t - 2) / 1024)) (zX l at' (t - 7)))
      (JK (JK (jO 7 (zX l at' (t - 15))) (jO 18 (zX l at' (t - 15)))) (zX l at' (t - 15) / 8))) (zX l at' (t - 16)):=by
  rw[zX,if_neg h]
theorem Zk(l:List UInt8)(at' t:Nat):W32 (zX l at' t):=by
  by_cases h:t<16
  ·rw[Uo h];exact w32_word _ _ _ _
  ·rw[Up h];exact JV _ _
def keysS:List Int:=[1116352408,1899447441,3049323471,3921009573,961987163,1508970993,2453635748,2870763221,3624381080,310598401,607225278,1426881987,1925078388,2162078206,2614888103,3248222580,3835390401,4022224774,264347078,604807628,770255983,1249150122,1555081692,1996064986,2554220882,2821834349,2952996808,3210313671,3336571891,3584528711,113926993,338241895,666307205,773529912,1294757372,1396182291,1695183700,1986661051,2177026350,2456956037,2730485921,2820302411,3259730800,3345764771,3516065817,3600352804,4094571909,275423344,430227734,506948616,659060556,883997877,958139571,1322822218,1537002063,1747873779,1955562222,2024104815,2227730452,2361852424,2428436474,2756734187,3204031479,3329325298]
def keyS(t:Nat):Int:=keysS.getD t 0
theorem w32_key(t:Nat):W32 (keyS t):=by
  by_cases h:t<64
  ·exact(show ∀i:Fin 64,0≤keyS i.val∧keyS i.val≤4294967295 by decide+kernel) ⟨t,h⟩
  ·unfold keyS;rw[List.getD_eq_getElem?_getD,List.getElem?_eq_none (by have:keysS.length=64:=rfl;omega)];exact⟨by decide,by decide⟩
abbrev St8:=Int×Int×Int×Int×Int×Int×Int×Int
def st8(s:St8):List Int:=[s.1,s.2.1,s.2.2.1,s.2.2.2.1,s.2.2.2.2.1,s.2.2.2.2.2.1,s.2.2.2.2.2.2.1,s.2.2.2.2.2.2.2]
def firstS:St8:=(1779033703,3144134277,1013904242,2773480762,1359893119,2600822924,528734635,1541459225)
def St8.ok(s:St8):Prop:=∀x∈st8 s,W32 x
def t1S(s:St8)(k w:Int):Int:=
  let (_,_,_,_,e,f,g,h):=s
  zA (zA (zA (zA h (JK (JK (jO 6 e) (jO 11 e)) (jO 25 e))) (JK (andS e f) (andS (notS e) g))) k) w
def t2S(s:St8):Int:=
  let (a,b,c,_,_,_,_,_):=s
  zA (JK (JK (jO 2 a) (jO 13 a)) (jO 22 a)) (JK (JK (andS a b) (andS a c)) (andS b c))
def Q3(s:St8)(k w:Int):St8:=
  let (a,b,c,d,e,f,g,_):=s
  (zA (t1S s k w) (t2S s),a,b,c,zA d (t1S s k w),e,f,g)
def uz(l:List UInt8)(at':Nat)(s:St8):Nat→St8
  | 0=>s
  |t+1=>Q3 (uz l at' s t) (keyS t) (zX l at' t)
def sumS(a b:St8):St8:=(zA a.1 b.1,zA a.2.1 b.2.1,zA a.2.2.1 b.2.2.1,zA a.2.2.2.1 b.2.2.2.1,zA a.2.2.2.2.1 b.2.2.2.2.1,zA a.2.2.2.2.2.1 b.2.2.2.2.2.1,zA a.2.2.2.2.2.2.1 b.2.2.2.2.2.2.1,zA a.2.2.2.2.2.2.2 b.2.2.2.2.2.2.2)
def KG(l:List UInt8)(at':Nat)(s:St8):St8:=sumS (uz l at' s 64) s
def jU(l:List UInt8)(s:St8):Nat→St8
  | 0=>s
  |n+1=>KG l (64*n) (jU l s n)
theorem Q4:firstS.ok:=by simp [St8.ok,st8,firstS,W32]
theorem ok_step{s:St8}(h:s.ok)(k w:Int):(Q3 s k w).ok:=by
  obtain⟨a,b,c,d,e,f,g,x⟩:=s;simp only[St8.ok,st8,Q3,List.mem_cons,List.not_mem_nil,or_false,forall_eq_or_imp,forall_eq] at h ⊢;exact⟨JV _ _,h.1,h.2.1,h.2.2.1,JV _ _,h.2.2.2.2.1,h.2.2.2.2.2.1,h.2.2.2.2.2.2.1⟩
theorem ok_run{l:List UInt8}{at':Nat}{s:St8}(h:s.ok):∀t,(uz l at' s t).ok
  | 0=>h
  |t+1=>ok_step (ok_run h t) _ _
theorem ok_sum(a b:St8):(sumS a b).ok:=by
  simp only[St8.ok,st8,sumS,List.mem_cons,List.not_mem_nil,or_false,forall_eq_or_imp,forall_eq];exact⟨JV _ _,JV _ _,JV _ _,JV _ _,JV _ _,JV _ _,JV _ _,JV _ _⟩
theorem ok_hash{l:List UInt8}{s:St8}(h:s.ok):∀n,(jU l s n).ok
  | 0=>h
  |n+1=>ok_sum _ _
def jY(n:Nat):Nat:=(119 - n % 64) % 64
def lenS(n:Nat):List UInt8:=(List.range 8).map fun i=>UInt8.ofNat (n*8 / 2 ^ (56 - 8*i))
def Uz(l:List UInt8):List UInt8:=l++(128::List.replicate (jY l.length) 0++lenS l.length)
theorem vy(l:List UInt8):(Uz l).length=l.length+1+jY l.length+8:=by
  unfold Uz lenS;simp;omega
theorem padS_mod(l:List UInt8):(Uz l).length % 64=0:=by rw[vy];unfold jY;omega
def UA(s:St8):List UInt8:=(st8 s).flatMap fun x=>[UInt8.ofNat (x.toNat / 16777216),UInt8.ofNat (x.toNat / 65536),UInt8.ofNat (x.toNat / 256),UInt8.ofNat x.toNat]
def ZJ(l:List UInt8):List UInt8:=UA (jU (Uz l) firstS ((Uz l).length / 64))
theorem J0(l:List UInt8):(ZJ l).length=32:=rfl
theorem schS_congr{l m:List UInt8}{a b:Nat}(h:∀i,i<64→j3 l (a+i)=j3 m (b+i))(t:Nat):t<64→zX l a t=zX m b t:=by
  induction t using Nat.strongRecOn with
  |ind t ih=>
   intro A;by_cases h16:t<16
   ·rw[Uo h16,Uo h16,h (4*t) yz,Nat.add_assoc a,Nat.add_assoc b,h (4*t+1) yz,Nat.add_assoc a,Nat.add_assoc b,h (4*t+2) yz,Nat.add_assoc a,Nat.add_assoc b,h (4*t+3) yz]
   ·rw[Up h16,Up h16,ih (t - 2) yz yz,ih (t - 7) yz yz,ih (t - 15) yz yz,ih (t - 16) yz yz]
theorem runS_congr{l m:List UInt8}{a b:Nat}(h:∀i,i<64→j3 l (a+i)=j3 m (b+i))(s:St8):∀t,t≤64→uz l a s t=uz m b s t
  | 0,_=>rfl
  |t+1,ht=>by unfold uz;rw[runS_congr h s t yz,schS_congr h t yz]
theorem Q5{l m:List UInt8}{a b:Nat}(h:∀i,i<64→j3 l (a+i)=j3 m (b+i))(s:St8):KG l a s=KG m b s:=by
  unfold KG;rw[runS_congr h s 64 (Nat.le_refl _)]
theorem byteAt_app{l m:List UInt8}{i:Nat}(h:i<l.length):j3 (l++m) i=j3 l i:=by
  unfold j3;rw[List.getD_eq_getElem?_getD,List.getD_eq_getElem?_getD,List.getElem?_append_left h]
theorem Qx(l m:List UInt8)(s:St8):∀n,64*n≤l.length→jU (l++m) s n=jU l s n
  | 0,_=>rfl
  |n+1,h=>by
   unfold jU;rw[Qx l m s n yz,Q5 (m:=l) (b:=64*n) fun i hi=>byteAt_app yz]
end
section
open Go.RowKit Go.Maps
theorem Kp(x:Int)(n:Nat)(hx:W32 x)(h0:1≤n)(h1:n≤31)(w:World):Calls prog 164 #[.int .u32 x,.int .u64 (n:Int)] w fun e w'=>e=.returned (.int .u32 (jO n x))∧w=w':=by
  obtain⟨A,B⟩:=hx;go_enter func164,ntmps164
  go_wp2
  go_ret;exact⟨rfl,rfl⟩
theorem and31:∀n:Fin 32,1≤n.val→bits BinOp.and IntKind.u64 (IntKind.u64.wrap (-(n.val:Int))) 31=((32 - n.val:Nat):Int):=by decide+kernel
theorem rotL_any(x:Int)(n:Nat)(hx:W32 x)(h0:1≤n)(h1:n≤31)(w:World):Calls prog 257 #[.int .u32 x,.int .i64 (-(n:Int))] w fun e w'=>e=.returned (.int .u32 (jO n x))∧w=w':=by
  obtain⟨E,F⟩:=hx;have C:=and31 ⟨n,by omega⟩ h0;obtain⟨m,B⟩:∃m,32 - n=m:=⟨_,rfl⟩;simp only at C;rw[B] at C;have G:1≤m:=by omega
  have H:m≤31:=by omega
  have A:=Lib.hid B;clear B;go_enter func257,ntmps257
  go_wp2
  go_ret;refine⟨?_,rfl⟩;show Ending.returned (.int .u32 (bits BinOp.or IntKind.u32 (x*2 ^ m % 4294967296) (x / 2 ^ (32 - m))))=_;have D:32 - m=n:=by have:=A.out;omega
  unfold jO;rw[bits_or_comm,A.out,D]
theorem Ji(x:Int)(n:Nat)(hx:W32 x)(h0:1≤n)(h1:n≤31)(w:World):Calls prog 233 #[.int .u32 x,.int .i64 (n:Int)] w fun e w'=>e=.returned (.int .u32 (jO n x))∧w=w':=by
  go_enter func233,ntmps233
  go_wp2_with (go_at_call 257;refine(rotL_any x n hx h0 h1 w).mono ?_;rintro e w' ⟨rfl,rfl⟩)
  go_ret;exact⟨rfl,rfl⟩
def jB(l:List Int):List Value:=l.map fun x=>.int .u32 x
theorem Zy(l:List Int):∀u∈jB l,u.oneCell'=true:=by
  intro u A;obtain⟨x,_,rfl⟩:=List.mem_map.1 A;rfl
theorem Ku{l:List Int}{i:Nat}(h:i<l.length):(jB l)[i]?=some (.int .u32 (l.getD i 0)):=by
  unfold jB;rw[List.getElem?_map,List.getElem?_eq_getElem h,List.getD_eq_getElem?_getD,List.getElem?_eq_getElem h];rfl
theorem keys_built(w:World):(Instr.build 289 #[(0,.int .u32 1116352408),(1,.int .u32 1899447441),(2,.int .u32 3049323471),(3,.int .u32 3921009573),(4,.int .u32 961987163),(5,.int .u32 1508970993),(6,.int .u32 2453635748),(7,.int .u32 2870763221),(8,.int .u32 3624381080),(9,.int .u32 310598401),(10,.int .u32 607225278),(11,.int .u32 1426881987),(12,.int .u32 1925078388),(13,.int .u32 2162078206),(14,.int .u32 2614888103),(15,.int .u32 3248222580),(16,.int .u32 3835390401),(17,.int .u32 4022224774),(18,.int .u32 264347078),(19,.int .u32 604807628),(20,.int .u32 770255983),(21,.int .u32 1249150122),(22,.int .u32 1555081692),(23,.int .u32 1996064986),(24,.int .u32 2554220882),(25,.int .u32 2821834349),(26,.int .u32 2952996808),(27,.int .u32 3210313671),(28,.int .u32 3336571891),(29,.int .u32 3584528711),(30,.int .u32 113926993),(31,.int .u32 338241895),(32,.int .u32 666307205),(33,.int .u32 773529912),(34,.int .u32 1294757372),(35,.int .u32 1396182291),(36,.int .u32 1695183700),(37,.int .u32 1986661051),(38,.int .u32 2177026350),(39,.int .u32 2456956037),(40,.int .u32 2730485921),(41,.int .u32 2820302411),(42,.int .u32 3259730800),(43,.int .u32 3345764771),(44,.int .u32 3516065817),(45,.int .u32 3600352804),(46,.int .u32 4094571909),(47,.int .u32 275423344),(48,.int .u32 430227734),(49,.int .u32 506948616),(50,.int .u32 659060556),(51,.int .u32 883997877),(52,.int .u32 958139571),(53,.int .u32 1322822218),(54,.int .u32 1537002063),(55,.int .u32 1747873779),(56,.int .u32 1955562222),(57,.int .u32 2024104815),(58,.int .u32 2227730452),(59,.int .u32 2361852424),(60,.int .u32 2428436474),(61,.int .u32 2756734187),(62,.int .u32 3204031479),(63,.int .u32 3329325298)]).run prog w=.ok (.agg (jB keysS).toArray) w:=by kernel_rfl
theorem refKey_any(t:Nat)(ht:t<64)(w:World):Calls prog 165 #[.int .i64 (t:Int)] w fun e w'=>e=.returned (.int .u32 (keyS t))∧Below w.heap.size w w':=by
  go_enter func165,ntmps165
  go_upto_region 2 with (first
    |(refine k5 yx (kj 289 _ rfl (keys_built _)) ?_)
    |(with_reducible refine kA ?_
      refine ks yx 289 rfl (List.replicate 64 (.int .u32 0)) yy ?_;intro M E F G;have A:=Lib.hid E;have B:=Lib.hid F;have J:=Lib.hid G
      clear E F G)
    |(with_reducible refine kw ?_
      refine ko yx 289 _ _ rfl w.heap.size 0 [] (List.replicate 64 (.int .u32 0)) [] (jB keysS) 289 (.agg (jB keysS).toArray) rfl rfl rfl rfl (by simpa using B.out) rfl yy (Zy _) ?_;intro K H I L;have C:=Lib.hid (A.trans (H.below A.size (fun k N e=>by omega)));have D:Hid (K.heap[w.heap.size]?=some (.cells (jB keysS).toArray 289 (0,0))):=Lib.hid (by simpa using I);clear H I L))
  have O:K.cell? ⟨w.heap.size,t,none⟩=some (.int .u32 (keyS t)):=(k4 D.out t).trans (Ku (l:=keysS) ht)
  go_wp2
  go_ret;exact⟨rfl,C.out⟩
end
section
open Go.RowKit Go.Maps
open Lib (hid)
def schL(l:List UInt8)(a t:Nat):List Int:=(List.range 64).map fun k=>if k<t then zX l a k else 0
def UB(l:List UInt8)(a t:Nat):List Value:=jB (schL l a t)
theorem JG(l:List UInt8)(a t:Nat):(UB l a t).length=64:=by simp [UB,schL,jB]
theorem schV_at{l:List UInt8}{a t k:Nat}(hk:k<t)(ht:t≤64):(UB l a t)[k]?=some (.int .u32 (zX l a k)):=by
  unfold UB jB schL;rw[List.map_map,List.getElem?_map,List.getElem?_range yz];simp [hk]
theorem schV_set{l:List UInt8}{a t:Nat}(ht:t<64):(UB l a t).toArray.setIfInBounds t (.int .u32 (zX l a t))=(UB l a (t+1)).toArray:=by
  rw[List.setIfInBounds_toArray]
  congr 1
  apply List.ext_getElem?;intro i;rw[List.getElem?_set];by_cases hi:t=i
  ·subst hi;rw[if_pos rfl,if_pos (by rw[JG];exact ht),schV_at yz yz]
  ·rw[if_neg hi];unfold UB jB schL;rw[List.map_map,List.map_map,List.getElem?_map,List.getElem?_map];by_cases h6:i<64
   ·rw[List.getElem?_range h6];by_cases h7:i<t
    ·simp [h7,show i<t+1 by omega]
    ·simp [h7,show ¬i<t+1 by omega]
   ·rw[List.getElem?_eq_none yj];rfl
theorem Kh{w:World}{b j:Nat}{cs:Array Value}{t:TypeId}{fz:Nat×Nat}(h:w.heap[b]?=some (.cells cs t fz))(v:Value):(w.setCell ⟨b,j,none⟩ v).heap[b]?=some (.cells (cs.setIfInBounds j v) t fz):=by
  have A:=(qX h);have B:w.heap[b]=.cells cs t fz:=by simpa [Array.getElem?_eq_getElem A] using h
  show (w.heap.modify b _)[b]?=_;rw[Array.getElem?_eq_getElem (by simpa using A),Array.getElem_modify_self,B];rfl
structure SchAt (w:World) (z:Nat) (l:List UInt8) (a t:Nat) (wx:World):Prop where
  but:But (fun k=>k=z) w wx
  row:wx.heap[z]?=some (.cells (UB l a t).toArray 289 (0,0))
theorem SchAt.lt{w:World}{z:Nat}{l:List UInt8}{a t:Nat}{wx:World}(h:SchAt w z l a t wx):z<wx.heap.size:=(qX h.row)
theorem SchAt.keep{w:World}{z:Nat}{l:List UInt8}{a t:Nat}{wx wy:World}(h:SchAt w z l a t wx)(hb:Below wx.heap.size wx wy):SchAt w z l a t wy:=
  ⟨h.but.andBelow hb,(hb.block z h.lt).trans h.row⟩
theorem SchAt.cell{w:World}{z:Nat}{l:List UInt8}{a t:Nat}{wx:World}(h:SchAt w z l a t wx){k:Nat}(hk:k<t)(ht:t≤64):wx.cell? ⟨z,k,none⟩=some (.int .u32 (zX l a k)):=(k4 h.row k).trans (schV_at hk ht)
theorem SchAt.any{w:World}{z:Nat}{l:List UInt8}{a t:Nat}{wx:World}(h:SchAt w z l a t wx){k:Nat}(hk:k<64):∃u,wx.cell? ⟨z,k,none⟩=some u:=
  ⟨(UB l a t)[k]'(by rw[JG];exact hk),(k4 h.row k).trans (List.getElem?_eq_getElem _)⟩
theorem SchAt.fr{w:World}{z:Nat}{l:List UInt8}{a t:Nat}{wx:World}(h:SchAt w z l a t wx)(k:Nat):wx.frozen? ⟨z,k,none⟩=false:=frozen_of_row _ _ _ _ _ h.row
theorem SchAt.next{w:World}{z:Nat}{l:List UInt8}{a t:Nat}{wx:World}(h:SchAt w z l a t wx)(ht:t<64){x:Int}(hx:zX l a t=x):SchAt w z l a (t+1) (wx.setCell ⟨z,t,none⟩ (.int .u32 x)):=by
  refine⟨h.but.setCell (fun _=>rfl) _,?_⟩;rw[←schV_set ht,hx];exact Kh h.row _
theorem schedule_any(b off c:Nat)(l:List UInt8)(w:World)(hl:l.length=64)(hbw:b<w.heap.size)(hb:∀j (hj:j<64),w.cell? ⟨b,off+j,none⟩=some (.int .u8 (j3 l j:Int)))(hc:64≤c):
    Calls prog 232 #[.slice (some ⟨b,off,none⟩) 64 c] w fun e w'=>e=.returned (.agg (UB l 0 64).toArray)∧Below w.heap.size w w':=by
  have S:=hid hb;clear hb;go_enter func232,ntmps232
  go_upto_region 1 with (first
    |(with_reducible refine kA ?_
      refine ks yx 289 rfl (List.replicate 64 (.int .u32 0)) yy ?_;intro W0 Ae Af Ag;have F:=hid Ae;have T:=hid Af;have G:=hid Ag
      clear Ae Af Ag))
  go_upto_region 3 with (first
    |(with_reducible refine kA ?_
      refine ks yx 289 rfl (List.replicate 64 (.int .u32 0)) yy ?_;intro f Ah Ai Aj;have I:=hid Ah;have W:=hid Ai;have Z:=hid Aj
      clear Ah Ai Aj))
  obtain⟨y,hy⟩:∃y,w.heap.size=y:=⟨_,rfl⟩;obtain⟨z,hz⟩:∃z,W0.heap.size=z:=⟨_,rfl⟩;have A4:Hid (f.heap[y]?=some (.cells (List.replicate 64 (.int .u32 0)).toArray 289 (0,0))):=hid (by rw[←hy];exact(I.block _ (by have:=G.out;omega)).trans T.out);have A:Hid (SchAt f z l 0 0 f):=hid ⟨But.refl _ _,by rw[←hz];exact W.out⟩;have C:Hid (y<z∧w.heap.size≤y∧z<f.heap.size):=hid (by have:=G.out;have:=Z.out;omega);have D:=hid (F.trans (I.mono F.size));have J:Hid (b<f.heap.size):=hid (qL hbw D.size);have E:=hid (fun (u:World) (hu:But (fun k=>k=z) f u) (j:Nat) (hj:j<64)=>(show u.cell? ⟨b,off+j,none⟩=some (.int .u8 (j3 l j:Int)) from (hu.cell J.out (by have:=C.out;omega)).trans ((D.cell (p:=⟨b,off+j,none⟩) hbw).trans (S.out j hj))));clear S;rw[hy];rw[hz]
  try go_frame
  clear T W F I G Z hz hy
  go_loopw [10] (fun t10 wr=>∃t:Nat,t≤16∧t10=.int .i64 (t:Int)∧Hid (SchAt f z l 0 t wr)) (fun t10 _=>16 - (intOf t10).toNat)
  case atStart=>exact⟨0,by omega,rfl,A⟩
  case round=>
    obtain⟨t,ht,rfl,A⟩:=hrel;by_cases hlt:t<16
    ·have i1:(t:Int)<16:=by omega
     obtain⟨m,hm⟩:∃m,4*t=m:=⟨_,rfl⟩;have e4:IntKind.i64.wrap (4*(t:Int))=((m:Nat):Int):=by rw[IntWalk.i64_in _ yz];omega
     have e5:IntKind.i64.wrap ((m:Int)+1)=((m+1:Nat):Int):=by rw[IntWalk.i64_in _ yz];omega
     have e6:IntKind.i64.wrap ((m:Int)+2)=((m+2:Nat):Int):=by rw[IntWalk.i64_in _ yz];omega
     have e7:IntKind.i64.wrap ((m:Int)+3)=((m+3:Nat):Int):=by rw[IntWalk.i64_in _ yz];omega
     have Av:m+3<64:=by omega
     have o:b<wr.heap.size:=qL J.out A.but.size;obtain⟨k0,q⟩:∃k,j3 l m=k:=⟨_,rfl⟩;obtain⟨k1,r⟩:∃k,j3 l (m+1)=k:=⟨_,rfl⟩;obtain⟨k2,s⟩:∃k,j3 l (m+2)=k:=⟨_,rfl⟩;obtain⟨k3,v⟩:∃k,j3 l (m+3)=k:=⟨_,rfl⟩;have F0:=Wg.cell (q▸E.out wr A.but m yz) o;have F1:=Wg.cell (r▸E.out wr A.but (m+1) yz) o;have F2:=Wg.cell (s▸E.out wr A.but (m+2) yz) o;have F3:=Wg.cell (v▸E.out wr A.but (m+3) yz) o;have q0:k0<256:=q▸JF _ _;have q1:k1<256:=r▸JF _ _;have q2:k2<256:=s▸JF _ _;have q3:k3<256:=v▸JF _ _;have HW:=hid (show zX l 0 t=wordS k0 k1 k2 k3 by rw[Uo hlt,qZ,hm,q,r,s,v]);clear q r s v hm
     go_upto_region 5 with fail
     refine zn 35 yy yy yy yy yy ?_;simp only[List.take_succ_cons,List.take_zero,List.drop_succ_cons,List.drop_zero]
     repeat (first
       |go_big_quiet_skip
       |(go_big_quiet_want
         first
            |(go_big_quiet_op
              first
                 |go_big_quiet_on
                 |go_big_quiet_call (first|(fail)))))
     refine wpQuiet_nil ?_;rintro w' ⟨R,rfl⟩;have g:=R.2;generalize R.val=w9 at *;clear R;clear F0 F1 F2 F3 e4 e5 e6 e7;have B:=hid (A.keep g.below);obtain⟨u9,c9⟩:=B.any (show t<64 by omega);have f9:=B.fr t;go_wp2_with fail
     go_roundw
     case rel=>
       refine⟨t+1,by omega,by go_num,hid (B.next yz ?_)⟩;rw[HW.out];rfl
     case measure=>(simp [intOf])<;>omega
    ·have i1:¬(t:Int)<16:=by omega
     obtain rfl:t=16:=by omega
     go_upto_region 8 with fail
     go_loopw [5] (fun t5 wr=>∃t:Nat,16≤t∧t≤64∧t5=.int .i64 (t:Int)∧Hid (SchAt f z l 0 t wr)) (fun t5 _=>64 - (intOf t5).toNat)
     case atStart=>exact⟨16,by omega,by omega,rfl,A⟩
     case round=>
       clear A;obtain⟨t,Aw,ht,rfl,A⟩:=hrel;by_cases hlt:t<64
       ·have i2:(t:Int)<64:=by omega
        obtain⟨m2,Ak⟩:∃m,t - 2=m:=⟨_,rfl⟩;obtain⟨m7,Al⟩:∃m,t - 7=m:=⟨_,rfl⟩;obtain⟨A0,Ab⟩:∃m,t - 15=m:=⟨_,rfl⟩;obtain⟨A1,Ac⟩:∃m,t - 16=m:=⟨_,rfl⟩;have e2:IntKind.i64.wrap ((t:Int) - 2)=((m2:Nat):Int):=by rw[IntWalk.i64_in _ yz];omega
        have e7:IntKind.i64.wrap ((t:Int) - 7)=((m7:Nat):Int):=by rw[IntWalk.i64_in _ yz];omega
        have Ap:IntKind.i64.wrap ((t:Int) - 15)=((A0:Nat):Int):=by rw[IntWalk.i64_in _ yz];omega
        have Aq:IntKind.i64.wrap ((t:Int) - 16)=((A1:Nat):Int):=by rw[IntWalk.i64_in _ yz];omega
        have l2:m2<64:=by omega
        have l7:m7<64:=by omega
        have Ax:A0<64:=by omega
        have Ay:A1<64:=by omega
        obtain⟨Y,hY⟩:∃x,zX l 0 m2=x:=⟨_,rfl⟩;obtain⟨V,hV⟩:∃x,zX l 0 m7=x:=⟨_,rfl⟩;obtain⟨X,hX⟩:∃x,zX l 0 A0=x:=⟨_,rfl⟩;obtain⟨U,hU⟩:∃x,zX l 0 A1=x:=⟨_,rfl⟩;have a:=hid (fun (u:World) (hu:Below wr.heap.size wr u)=>(show u.cell? ⟨z,m2,none⟩=some (.int .u32 Y)∧u.cell? ⟨z,m7,none⟩=some (.int .u32 V)∧u.cell? ⟨z,A0,none⟩=some (.int .u32 X)∧u.cell? ⟨z,A1,none⟩=some (.int .u32 U) from by
          have h:=A.keep hu;rw[←hY,←hV,←hX,←hU];exact⟨h.cell yz ht,h.cell yz ht,h.cell yz ht,h.cell yz ht⟩))
        have K:Hid (W32 Y):=hid (hY▸Zk _ _ _);have M:Hid (W32 X):=hid (hX▸Zk _ _ _);have A5:Hid (W32 V):=hid (hV▸Zk _ _ _);have A6:Hid (W32 U):=hid (hU▸Zk _ _ _);have HE:=hid (show zX l 0 t=zA (zA (zA (JK (JK (jO 17 Y) (jO 19 Y)) (Y / 1024)) V) (JK (JK (jO 7 X) (jO 18 X)) (X / 8))) U by rw[Up yz,Ak,Al,Ab,Ac,hY,hV,hX,hU]);clear Ak Al Ab Ac hY hV hX hU;obtain⟨y0,y1⟩:=K.out;obtain⟨x0,x1⟩:=M.out;obtain⟨c2,c7,A2,A3⟩:=a.out wr (qB _ _);have Am:=A.lt;have F2:=Wg.cell c2 Am;have Ar:=Wg.cell A2 Am;clear c2 c7 A2 A3
        go_upto_region 10 with fail
        refine j8 yy yy ?_
        repeat (first
          |go_big_quiet_skip
          |(go_big_quiet_want
            first
               |(go_big_quiet_op
                 first
                    |go_big_quiet_on
                    |go_big_quiet_call (first|(fail)))))
        refine wpQuiet_nil ?_;rintro w' ⟨R,rfl⟩;have g:=R.2;generalize R.val=w9 at *;clear R;clear F2 Ar;have d:Hid (∀u:World,Calls prog 233 #[.int .u32 X,.int .i64 7] u fun i n=>i=.returned (.int .u32 (jO 7 X))∧u=n):=hid (fun u=>Ji X 7 M.out yv yv u);have N:Hid (∀u:World,Calls prog 233 #[.int .u32 X,.int .i64 18] u fun i n=>i=.returned (.int .u32 (jO 18 X))∧u=n):=hid (fun u=>Ji X 18 M.out yv yv u);have O:Hid (∀u:World,Calls prog 233 #[.int .u32 Y,.int .i64 17] u fun i n=>i=.returned (.int .u32 (jO 17 Y))∧u=n):=hid (fun u=>Ji Y 17 K.out yv yv u);have P:Hid (∀u:World,Calls prog 233 #[.int .u32 Y,.int .i64 19] u fun i n=>i=.returned (.int .u32 (jO 19 Y))∧u=n):=hid (fun u=>Ji Y 19 K.out yv yv u)
        go_upto_region 13 with (first|(go_at_call 233;(with_reducible refine(d.out _).mono ?_);rintro e w' ⟨rfl,rfl⟩)|(go_at_call 233;(with_reducible refine(N.out _).mono ?_);rintro e w' ⟨rfl,rfl⟩)|(go_at_call 233;(with_reducible refine(O.out _).mono ?_);rintro e w' ⟨rfl,rfl⟩)|(go_at_call 233;(with_reducible refine(P.out _).mono ?_);rintro e w' ⟨rfl,rfl⟩))
        generalize hL:bits BinOp.xor IntKind.u32 (bits BinOp.xor IntKind.u32 (jO 7 X) (jO 18 X)) (X / 8)=L;generalize hH:bits BinOp.xor IntKind.u32 (bits BinOp.xor IntKind.u32 (jO 17 Y) (jO 19 Y)) (Y / 1024)=H;have A7:Hid (zX l 0 t=zA (zA (zA H V) L) U):=hid (by rw[HE.out,←hL,←hH];rfl);obtain⟨p0,p1⟩:0≤L∧L≤4294967295:=by rw[←hL];exact⟨bits_lo_u32 _ _ _,bits_hi_u32 _ _ _⟩
        obtain⟨r0,r1⟩:0≤H∧H≤4294967295:=by rw[←hH];exact⟨bits_lo_u32 _ _ _,bits_hi_u32 _ _ _⟩
        obtain⟨v0,v1⟩:=A5.out;obtain⟨s0,s1⟩:=A6.out;clear hL hH d N O P HE;obtain⟨c2,c7,A2,A3⟩:=a.out w9 g.below;have B:=hid (A.keep g.below);have Ad:=B.lt;have F7:=Wg.cell c7 Ad;have As:=Wg.cell A3 Ad;clear c2 c7 A2 A3 g;refine zn 15 yy yy yy yy yy ?_;simp only[List.take_succ_cons,List.take_zero,List.drop_succ_cons,List.drop_zero]
        repeat (first
          |go_big_quiet_skip
          |(go_big_quiet_want
            first
               |(go_big_quiet_op
                 first
                    |go_big_quiet_on
                    |go_big_quiet_call (first|(fail)))))
        refine wpQuiet_nil ?_;rintro w' ⟨R,rfl⟩;have At:=R.2;generalize R.val=w8 at *;clear R;clear F7 As e2 e7 Ap Aq;have Q:=hid (B.keep At.below);obtain⟨u8,c8⟩:=Q.any (show t<64 by omega);have f8:=Q.fr t;go_wp2_with fail
        go_roundw
        case rel=>
          refine⟨t+1,by omega,by omega,by go_num,hid (Q.next yz ?_)⟩;rw[A7.out];unfold zA;omega
        case measure=>(simp [intOf])<;>omega
       ·have i2:¬(t:Int)<64:=by omega
        obtain rfl:t=64:=by omega
        have A8:=hid ((A.but.block y (by have:=C.out;omega) (by have:=C.out;omega)).trans A4.out)
        go_wp2_with (first
          |(with_reducible refine k6 ?_
            refine k5 yx (kc 289 _ rfl (p:=⟨z,0,none⟩) rfl (qV _ _ _ _ (UB l 0 64) _ (fun j u hj=>by rw[qZ];exact(k4 A.row j).trans hj) underlying289 rfl (by rw[JG];kernel_rfl))) ?_)
          |(with_reducible refine kw ?_
            refine ko yx 289 _ _ rfl y 0 [] (List.replicate 64 (.int .u32 0)) [] (UB l 0 64) 289 (.agg (UB l 0 64).toArray) rfl rfl rfl rfl (by simpa using A8.out) (by rw[JG];rfl) (by rw[JG];kernel_rfl) (Zy _) ?_;intro W9 An Ao Au;have A9:=hid An;have Aa:Hid (W9.heap[y]?=some (.cells (UB l 0 64).toArray 289 (0,0))):=hid (by simpa using Ao);clear An Ao Au))
        refine bodyPost_ret (jk results232 _ _ rfl (qV _ y 0 289 (UB l 0 64) _ (fun j u hj=>by rw[qZ];exact(k4 Aa.out j).trans hj) underlying289 rfl (by rw[JG];kernel_rfl))) rfl ?_;exact⟨rfl,D.trans ((A.but.below D.size (fun k hk e=>by have:=C.out;omega)).trans (A9.below (qT D.size A.but.size) fun k hk e=>by have:=C.out;omega))⟩
theorem ex_idx64{ρ:Operand→Value}{o:Oper}{w:World}(x y:Operand)(ho:o.op=.index 289 x y){xs:List Int}(hl:xs.length=64)(hx:ρ x=.agg (jB xs).toArray){t:Nat}(ht:t<64)(hy:ρ y=.int .i64 (t:Int)){V:Int}(hv:xs.getD t 0=V):
    (execOp ρ o).run prog w=.ok (.value (.int .u32 V)) w:=by
  have h:=Ku (l:=xs) (i:=t) yz;rw[hv] at h;obtain⟨i,B,A⟩:=Option.map_eq_some_iff.1 (show (prog.info? 262).map (·.size)=some 1 by kernel_rfl);unfold execOp;simp only[ho,hx,hy,Instr.index,asIntOf,run_underlying underlying289,Sem.run_bind,Result.andThen_ok,Sem.run_pure];simp only[show ((0:Int)≤(t:Int)∧(t:Int)<((64:Nat):Int)) from⟨by omega,by omega⟩,and_self,if_true];simp [part,isAgg,run_underlying underlying262,Sem.run_bind,Result.andThen,h,sizeOf,typeInfo,B,A]
def ShaG(w:World):Prop:=(∀j,j<8→w.cell? ⟨1,j,none⟩=some (.int .u32 ((st8 firstS).getD j 0)))∧∀j,j<64→w.cell? ⟨2,j,none⟩=some (.int .u32 (keyS j))
theorem Zl{w:World}{b j:Nat}{v:Value}(h:w.cell? ⟨b,j,none⟩=some v):b<w.heap.size:=by
  unfold World.cell? at h;rcases Nat.lt_or_ge b w.heap.size with A|A
  ·exact A
  ·rw[show w.heap[(⟨b,j,none⟩:Addr).block]?=none from Array.getElem?_eq_none A] at h;cases h
theorem ShaG.keep{w w':World}{B:Nat}(h:ShaG w)(hb:Below B w w')(h1:1<B)(h2:2<B):ShaG w':=
  ⟨fun j A=>(hb.cell (p:=⟨1,j,none⟩) h1).trans (h.1 j A),fun j A=>(hb.cell (p:=⟨2,j,none⟩) h2).trans (h.2 j A)⟩
theorem ShaG.next{w w':World}(h:ShaG w)(hb:Below w.heap.size w w'):ShaG w':=h.keep hb (Zl (h.1 0 yv)) (Zl (h.2 0 yv))
structure RndAt (w:World) (z:Nat) (s:St8) (wx:World):Prop where
  but:But (fun k=>k=z) w wx
  row:wx.heap[z]?=some (.cells (jB (st8 s)).toArray 287 (0,0))
theorem RndAt.lt{w:World}{z:Nat}{s:St8}{wx:World}(h:RndAt w z s wx):z<wx.heap.size:=(qX h.row)
theorem RndAt.keep{w:World}{z:Nat}{s:St8}{wx wy:World}(h:RndAt w z s wx)(hb:Below wx.heap.size wx wy):RndAt w z s wy:=
  ⟨h.but.andBelow hb,(hb.block z h.lt).trans h.row⟩
theorem RndAt.cell{w:World}{z:Nat}{s:St8}{wx:World}(h:RndAt w z s wx)(j:Nat)(hj:j<8):wx.cell? ⟨z,j,none⟩=some (.int .u32 ((st8 s).getD j 0)):=(k4 h.row j).trans (Ku (l:=st8 s) hj)
theorem RndAt.fr{w:World}{z:Nat}{s:St8}{wx:World}(h:RndAt w z s wx)(k:Nat):wx.frozen? ⟨z,k,none⟩=false:=frozen_of_row _ _ _ _ _ h.row
theorem Kq{s:St8}(h:s.ok)(j:Nat)(hj:j<8):W32 ((st8 s).getD j 0):=by
  have A:j<(st8 s).length:=hj;rw[List.getD_eq_getElem?_getD,List.getElem?_eq_getElem A];exact h _ (List.getElem_mem A)
theorem wpS_built(a b c d e f g h:Int)(w:World):(Instr.build 287 #[(0,.int .u32 a),(1,.int .u32 b),(2,.int .u32 c),(3,.int .u32 d),(4,.int .u32 e),(5,.int .u32 f),(6,.int .u32 g),(7,.int .u32 h)]).run prog w=.ok (.agg (jB [a,b,c,d,e,f,g,h]).toArray) w:=by kernel_rfl
def mixS(x y:List Int)(i:Nat):List Int:=(List.range 8).map fun k=>if k<i then zA (x.getD k 0) (y.getD k 0) else x.getD k 0
theorem mixS_at(x y:List Int){i:Nat}(hi:i<8):(jB (mixS x y i))[i]?=some (.int .u32 (x.getD i 0)):=by
  unfold jB mixS;rw[List.map_map,List.getElem?_map,List.getElem?_range hi];simp
theorem mixS_set(x y:List Int){i:Nat}(hi:i<8):(jB (mixS x y i)).toArray.setIfInBounds i (.int .u32 (zA (x.getD i 0) (y.getD i 0)))=(jB (mixS x y (i+1))).toArray:=by
  match i,hi with
  | 0,_ | 1,_ | 2,_ | 3,_ | 4,_ | 5,_ | 6,_ | 7,_=>rfl
structure MixAt (w:World) (z:Nat) (x y:List Int) (i:Nat) (wx:World):Prop where
  but:But (fun k=>k=z) w wx
  row:wx.heap[z]?=some (.cells (jB (mixS x y i)).toArray 287 (0,0))
section
variable {w:World} {z:Nat} {x y:List Int} {i:Nat} {wx wy:World}
theorem MixAt.lt(h:MixAt w z x y i wx):z<wx.heap.size:=(qX h.row)
theorem MixAt.keep(h:MixAt w z x y i wx)(hb:Below wx.heap.size wx wy):MixAt w z x y i wy:=⟨h.but.andBelow hb,(hb.block z h.lt).trans h.row⟩
theorem MixAt.cell(h:MixAt w z x y i wx)(hi:i<8):wx.cell? ⟨z,i,none⟩=some (.int .u32 (x.getD i 0)):=(k4 h.row i).trans (mixS_at x y hi)
theorem MixAt.fr(h:MixAt w z x y i wx)(k:Nat):wx.frozen? ⟨z,k,none⟩=false:=frozen_of_row _ _ _ _ _ h.row
theorem MixAt.next(h:MixAt w z x y i wx)(hi:i<8){u:Int}(hu:zA (x.getD i 0) (y.getD i 0)=u):MixAt w z x y (i+1) (wx.setCell ⟨z,i,none⟩ (.int .u32 u)):=by
  refine⟨h.but.setCell (fun _=>rfl) _,?_⟩;rw[←mixS_set x y hi,hu];exact Kh h.row _
end
theorem rounds_any(s:St8)(b off c:Nat)(l:List UInt8)(w:World)(hs:s.ok)(hl:l.length=64)(hbw:b<w.heap.size)(hb:∀j (hj:j<64),w.cell? ⟨b,off+j,none⟩=some (.int .u8 (j3 l j:Int)))(hc:64≤c)(hg:ShaG w):
    Calls prog 197 #[.agg (jB (st8 s)).toArray,.slice (some ⟨b,off,none⟩) 64 c] w fun e w'=>e=.returned (.agg (jB (st8 (KG l 0 s))).toArray)∧Below w.heap.size w w':=by
  have Aq:=hid hb;have HG:=hid hg;have U:=hid hs
  clear hb hg hs;go_enter func197,ntmps197
  go_upto_region 1 with (first
    |(with_reducible refine kB ?_
      refine kr yx 287 _ rfl (jB (st8 s)) (.agg (jB (st8 s)).toArray) rfl rfl yy ?_;intro Wa AC AD AE;have Y:=hid AC;have A7:=hid AD;have Z:=hid AE
      clear AC AD AE)
    |(with_reducible refine kA ?_
      refine ks yx 287 rfl (List.replicate 8 (.int .u32 0)) yy ?_;intro W0 AF AG AH;have f:=hid AF;have A8:=hid AG;have A9:=hid AH
      clear AF AG AH))
  obtain⟨zs,Ay⟩:∃z,w.heap.size=z:=⟨_,rfl⟩;obtain⟨zr,Az⟩:∃z,Wa.heap.size=z:=⟨_,rfl⟩;have g:Hid (W0.heap[zs]?=some (.cells (jB (st8 s)).toArray 287 (0,0))):=hid (by rw[←Ay];exact(f.block _ (by have:=Z.out;omega)).trans A7.out);have Aa:Hid (W0.heap[zr]?=some (.cells (List.replicate 8 (.int .u32 0)).toArray 287 (0,0))):=hid (by rw[←Az];exact A8.out);have Ab:=hid (Y.trans (f.mono Y.size));rw[Ay,Az]
  try go_frame
  go_upto_region 2 with (first
    |(with_reducible refine k6 ?_
      refine k5 yx (kc 287 _ rfl (p:=⟨zs,0,none⟩) rfl (qV _ _ _ _ (jB (st8 s)) _ (fun j u hj=>by rw[qZ];exact(k4 g.out j).trans hj) underlying287 rfl yy)) ?_)
    |(with_reducible refine kA ?_
      refine ks yx 287 rfl (List.replicate 8 (.int .u32 0)) yy ?_;intro W2 AI AJ AK;have L:=hid AI;have Ac:=hid AJ;have Ad:=hid AK
      clear AI AJ AK)
    |(with_reducible refine kw ?_
      refine ko yx 287 _ _ rfl W0.heap.size 0 [] (List.replicate 8 (.int .u32 0)) [] (jB (st8 s)) 287 (.agg (jB (st8 s)).toArray) rfl rfl rfl rfl (by simpa using Ac.out) rfl yy (Zy _) ?_;intro W3 AL AM AN;have X:=hid AL;have m:Hid (W3.heap[W0.heap.size]?=some (.cells (jB (st8 s)).toArray 287 (0,0))):=hid (by simpa using AM);have Ae:=hid AN;clear AL AM AN))
  obtain⟨F,AO⟩:∃z,W0.heap.size=z:=⟨_,rfl⟩;have I:=hid (Ab.trans ((L.trans (X.below L.size fun k hk e=>by omega)).mono Ab.size));have n:=hid (L.trans (X.below L.size fun k hk e=>by omega));have C:=hid (show zs<zr∧zr<F∧w.heap.size≤zs∧F<W3.heap.size by have:=Z.out;have:=A9.out;have:=Ad.out;have:=Ae.out;omega);rw[AO] at m X ⊢
  try go_frame
  go_upto_region 3 with (first
    |(go_at_call 232;refine(schedule_any b off c l W3 hl (qL hbw I.size) (fun j hj=>(I.cell (p:=⟨b,off+j,none⟩) hbw).trans (Aq.out j hj)) hc).mono ?_;rintro e W4 ⟨rfl,AP⟩;have M:=hid AP;clear AP))
  have Af:=hid (HG.next (I.trans (M.mono I.size)));have J:Hid (RndAt W4 F (uz l 0 s 0) W4):=hid ⟨But.refl _ _,(M.block F C.2.2.2).trans m.out⟩;have N:Hid (F<W4.heap.size∧2<W4.heap.size∧¬2=F):=hid ⟨J.lt,Zl (Af.2 0 yv),by have h:=Zl (HG.2 0 yv);have h2:=C.out;omega⟩;obtain⟨W5,AS⟩:∃u:World,u=W4:=⟨_,rfl⟩;subst AS;have Ar:=hid (show W5.heap[zs]?=some (.cells (jB (st8 s)).toArray 287 (0,0)) from (M.block zs (by have:=C.out;omega)).trans ((n.block zs (by have:=C.out;omega)).trans g.out));have An:=hid (show W5.heap[zr]?=some (.cells (List.replicate 8 (.int .u32 0)).toArray 287 (0,0)) from (M.block zr (by have:=C.out;omega)).trans ((n.block zr (by have:=C.out;omega)).trans Aa.out));clear Ay Az AO A7 A8 Ac Y f L X m A9 Z Ad Ae g Aa
  go_loopw [17] (fun t17 wr=>∃t:Nat,t≤64∧t17=.int .i64 (t:Int)∧Hid (RndAt W5 F (uz l 0 s t) wr)) (fun t17 _=>64 - (intOf t17).toNat)
  case atStart=>exact⟨0,by omega,rfl,J⟩
  case round=>
    clear J;obtain⟨t,ht,rfl,J⟩:=hrel;by_cases hlt:t<64
    ·have i1:(t:Int)<64:=by omega
     obtain⟨K,hK⟩:∃K,keyS t=K:=⟨_,rfl⟩;obtain⟨V,hV⟩:∃V,zX l 0 t=V:=⟨_,rfl⟩;have Ag:=hid (show ∀S,Q3 S (keyS t) (zX l 0 t)=Q3 S K V by rw[hK,hV];exact fun _=>rfl);have As:=hid (show (schL l 0 64).getD t 0=V by
       have h:=schV_at (l:=l) (a:=0) (t:=64) hlt (qR _);have h2:=Ku (l:=schL l 0 64) (i:=t) (by simp [schL];omega);unfold UB at h;rw[h2] at h;injection h with h;injection h with _ h;rw[h,hV])
     have At:=hid (fun (u:World) (hu:But (fun k=>k=F) W5 u)=>(show u.cell? ⟨2,t,none⟩=some (.int .u32 K) from by rw[←hK];exact(hu.cell N.2.1 N.2.2).trans (Af.2 t hlt)));obtain⟨K0,K1⟩:0≤K∧K≤4294967295:=hK▸w32_key t;obtain⟨V0,V1⟩:0≤V∧V≤4294967295:=hV▸Zk _ _ _;have G:=hid (ok_run (l:=l) (at':=0) U.out t);have Au:=hid (show uz l 0 s (t+1)=Q3 (uz l 0 s t) K V from Ag.out _);generalize hS:uz l 0 s t=S at *;obtain⟨a,P,Q,d,E,R,T,h'⟩:=S;clear hK hV Ag hS;obtain⟨a0,a1⟩:=Kq G.out 0 yv;change 0≤a at a0;change a≤4294967295 at a1;obtain⟨b0,b1⟩:=Kq G.out 1 yv;change 0≤P at b0;change P≤4294967295 at b1;obtain⟨c0,c1⟩:=Kq G.out 2 yv;change 0≤Q at c0;change Q≤4294967295 at c1;obtain⟨d0,d1⟩:=Kq G.out 3 yv;change 0≤d at d0;change d≤4294967295 at d1;obtain⟨e0,e1⟩:=Kq G.out 4 yv;change 0≤E at e0;change E≤4294967295 at e1;obtain⟨f0,f1⟩:=Kq G.out 5 yv;change 0≤R at f0;change R≤4294967295 at f1;obtain⟨g0,g1⟩:=Kq G.out 6 yv;change 0≤T at g0;change T≤4294967295 at g1;obtain⟨h0,h1⟩:=Kq G.out 7 yv;change 0≤h' at h0;change h'≤4294967295 at h1;have q4:wr.cell? ⟨F,4,none⟩=some (.int .u32 E):=J.cell 4 yv;have Ap:=J.lt;have F4:=Wg.cell q4 Ap;clear q4
     go_upto_region 5 with (first
       |(refine k5 yx (ex_idx64 _ _ rfl (xs:=schL l 0 64) rfl rfl (t:=t) hlt rfl As.out) ?_))
     have He'W:Hid (W32 E):=hid ⟨e0,e1⟩;have HaW:Hid (W32 a):=hid ⟨a0,a1⟩;have Ah:Hid (∀u:World,Calls prog 233 #[.int .u32 E,.int .i64 6] u fun ee ww=>ee=.returned (.int .u32 (jO 6 E))∧u=ww):=hid (fun u=>Ji E 6 He'W.out yv yv u);have o:Hid (∀u:World,Calls prog 233 #[.int .u32 E,.int .i64 11] u fun ee ww=>ee=.returned (.int .u32 (jO 11 E))∧u=ww):=hid (fun u=>Ji E 11 He'W.out yv yv u);have r:Hid (∀u:World,Calls prog 233 #[.int .u32 E,.int .i64 25] u fun ee ww=>ee=.returned (.int .u32 (jO 25 E))∧u=ww):=hid (fun u=>Ji E 25 He'W.out yv yv u);have Ai:Hid (∀u:World,Calls prog 233 #[.int .u32 a,.int .i64 2] u fun ee ww=>ee=.returned (.int .u32 (jO 2 a))∧u=ww):=hid (fun u=>Ji a 2 HaW.out yv yv u);have v:Hid (∀u:World,Calls prog 233 #[.int .u32 a,.int .i64 13] u fun ee ww=>ee=.returned (.int .u32 (jO 13 a))∧u=ww):=hid (fun u=>Ji a 13 HaW.out yv yv u);have y:Hid (∀u:World,Calls prog 233 #[.int .u32 a,.int .i64 22] u fun ee ww=>ee=.returned (.int .u32 (jO 22 a))∧u=ww):=hid (fun u=>Ji a 22 HaW.out yv yv u);refine j8 yy yy ?_
     repeat (first
       |go_big_quiet_skip
       |(go_big_quiet_want
         first
            |(go_big_quiet_op
              first
                 |go_big_quiet_on
                 |go_big_quiet_call (first|(go_at_call 233;(with_reducible refine(Ah.out _).mono ?_);exact fun e Aj ⟨he,hw⟩=>⟨he,⟨_,hw.symm⟩⟩)|(go_at_call 233;(with_reducible refine(o.out _).mono ?_);exact fun e Aj ⟨he,hw⟩=>⟨he,⟨_,hw.symm⟩⟩)|(go_at_call 233;(with_reducible refine(r.out _).mono ?_);exact fun e Aj ⟨he,hw⟩=>⟨he,⟨_,hw.symm⟩⟩)))))
     refine wpQuiet_nil ?_;rintro w' ⟨W,rfl⟩;have AA:=W.2;generalize W.val=w9 at *;clear W;clear F4 Ah o r;generalize hS1:bits BinOp.xor IntKind.u32 (bits BinOp.xor IntKind.u32 (jO 6 E) (jO 11 E)) (jO 25 E)=S1;obtain⟨AV,AW⟩:0≤S1∧S1≤4294967295:=by rw[←hS1];exact⟨bits_lo_u32 _ _ _,bits_hi_u32 _ _ _⟩
     have H:=hid (J.keep AA.below);have q4:w9.cell? ⟨F,4,none⟩=some (.int .u32 E):=H.cell 4 yv;have q5:w9.cell? ⟨F,5,none⟩=some (.int .u32 R):=H.cell 5 yv;have q6:w9.cell? ⟨F,6,none⟩=some (.int .u32 T):=H.cell 6 yv;have q7:w9.cell? ⟨F,7,none⟩=some (.int .u32 h'):=H.cell 7 yv
     go_upto_region 7 with fail
     generalize hCH:bits BinOp.xor IntKind.u32 (bits BinOp.and IntKind.u32 E R) (bits BinOp.and IntKind.u32 (bits BinOp.xor IntKind.u32 (if IntKind.u32.signed=true then -1 else IntKind.u32.max) E) T)=CH;obtain⟨AX,AY⟩:0≤CH∧CH≤4294967295:=by rw[←hCH];exact⟨bits_lo_u32 _ _ _,bits_hi_u32 _ _ _⟩
     have AQ:=H.lt;have F7:=Wg.cell q7 AQ;have FK:=Wg.cell (At.out w9 H.but) (qL N.2.1 H.but.size);clear q4 q5 q6 q7;refine j8 yy yy ?_
     repeat (first
       |go_big_quiet_skip
       |(go_big_quiet_want
         first
            |(go_big_quiet_op
              first
                 |go_big_quiet_on
                 |go_big_quiet_call (first|(fail)))))
     refine wpQuiet_nil ?_;rintro w' ⟨W,rfl⟩;have AT:=W.2;generalize W.val=w8 at *;clear W;clear F7 FK;generalize hUP:((h'+S1+CH+K) % 4294967296+V) % 4294967296=UP;obtain⟨AZ,B2⟩:0≤UP∧UP≤4294967295:=by omega
     have A2:=hid (H.keep AT.below);have q0:w8.cell? ⟨F,0,none⟩=some (.int .u32 a):=A2.cell 0 yv;have AR:=A2.lt;have F0:=Wg.cell q0 AR;clear q0
     go_upto_region 8 with fail
     refine j8 yy yy ?_
     repeat (first
       |go_big_quiet_skip
       |(go_big_quiet_want
         first
            |(go_big_quiet_op
              first
                 |go_big_quiet_on
                 |go_big_quiet_call (first|(go_at_call 233;(with_reducible refine(Ai.out _).mono ?_);exact fun e Aj ⟨he,hw⟩=>⟨he,⟨_,hw.symm⟩⟩)|(go_at_call 233;(with_reducible refine(v.out _).mono ?_);exact fun e Aj ⟨he,hw⟩=>⟨he,⟨_,hw.symm⟩⟩)|(go_at_call 233;(with_reducible refine(y.out _).mono ?_);exact fun e Aj ⟨he,hw⟩=>⟨he,⟨_,hw.symm⟩⟩)))))
     refine wpQuiet_nil ?_;rintro w' ⟨W,rfl⟩;have AU:=W.2;generalize W.val=w7 at *;clear W;clear F0 Ai v y;generalize hTW:bits BinOp.xor IntKind.u32 (bits BinOp.xor IntKind.u32 (jO 2 a) (jO 13 a)) (jO 22 a)=TW;obtain⟨B3,B4⟩:0≤TW∧TW≤4294967295:=by rw[←hTW];exact⟨bits_lo_u32 _ _ _,bits_hi_u32 _ _ _⟩
     have D:=hid (A2.keep AU.below);have q0:w7.cell? ⟨F,0,none⟩=some (.int .u32 a):=D.cell 0 yv;have q1:w7.cell? ⟨F,1,none⟩=some (.int .u32 P):=D.cell 1 yv;have q2:w7.cell? ⟨F,2,none⟩=some (.int .u32 Q):=D.cell 2 yv;have q3:w7.cell? ⟨F,3,none⟩=some (.int .u32 d):=D.cell 3 yv;have q4:w7.cell? ⟨F,4,none⟩=some (.int .u32 E):=D.cell 4 yv;have q5:w7.cell? ⟨F,5,none⟩=some (.int .u32 R):=D.cell 5 yv;have q6:w7.cell? ⟨F,6,none⟩=some (.int .u32 T):=D.cell 6 yv;have q7:w7.cell? ⟨F,7,none⟩=some (.int .u32 h'):=D.cell 7 yv
     go_upto_region 10 with fail
     generalize hMJ:bits BinOp.xor IntKind.u32 (bits BinOp.xor IntKind.u32 (bits BinOp.and IntKind.u32 a P) (bits BinOp.and IntKind.u32 a Q)) (bits BinOp.and IntKind.u32 P Q)=MJ;obtain⟨B5,B6⟩:0≤MJ∧MJ≤4294967295:=by rw[←hMJ];exact⟨bits_lo_u32 _ _ _,bits_hi_u32 _ _ _⟩
     have Av:Hid (st8 (uz l 0 s (t+1))=[((UP+TW) % 4294967296+MJ) % 4294967296,a,P,Q,(d+UP) % 4294967296,E,R,T]):=hid (by
       have e1:t1S (a,P,Q,d,E,R,T,h') K V=UP:=by
         rw[←hUP,←hS1,←hCH];simp only[t1S,zA,JK,andS,notS];omega
       have e2:t2S (a,P,Q,d,E,R,T,h')=(TW+MJ) % 4294967296:=by rw[←hTW,←hMJ];rfl
       rw[Au.out];show [zA (t1S (a,P,Q,d,E,R,T,h') K V) (t2S (a,P,Q,d,E,R,T,h')),a,P,Q,zA d (t1S (a,P,Q,d,E,R,T,h') K V),E,R,T]=_;rw[e1,e2];unfold zA;rw[show (UP+(TW+MJ) % 4294967296) % 4294967296=((UP+TW) % 4294967296+MJ) % 4294967296 by omega])
     clear hUP hS1 hCH hTW hMJ
     go_wp2_with (first
       |(with_reducible refine kJ ?_
         refine k5 yx (kj 287 #[(0,.tmp 88),(1,.tmp 90),(2,.tmp 92),(3,.tmp 94),(4,.tmp 98),(5,.tmp 100),(6,.tmp 102),(7,.tmp 104)] rfl (by simp only[List.map_toArray,List.map_cons,List.map_nil];exact wpS_built (((UP+TW) % 4294967296+MJ) % 4294967296) a P Q ((d+UP) % 4294967296) E R T _)) ?_)
       |(with_reducible refine kw ?_
         refine ko yx 287 _ _ rfl F 0 [] (jB (st8 (a,P,Q,d,E,R,T,h'))) [] (jB ([((UP+TW) % 4294967296+MJ) % 4294967296,a,P,Q,(d+UP) % 4294967296,E,R,T])) 287 (.agg (jB ([((UP+TW) % 4294967296+MJ) % 4294967296,a,P,Q,(d+UP) % 4294967296,E,R,T])).toArray) rfl rfl rfl rfl (by simpa using D.row) rfl yy (Zy _) ?_;intro W6 Ak Al Am;have A3:=hid Ak;have A4:Hid (W6.heap[F]?=some (.cells (jB ([((UP+TW) % 4294967296+MJ) % 4294967296,a,P,Q,(d+UP) % 4294967296,E,R,T])).toArray 287 (0,0))):=hid (by simpa using Al);have Aw:=hid Am;clear Ak Al Am))
     go_roundw
     case rel=>
       refine⟨t+1,by omega,by go_num,hid ⟨D.but.trans A3.out fun _ _ q=>q,?_⟩⟩;rw[Av.out];exact A4.out
     case measure=>(simp [intOf])<;>omega
    ·have i1:¬(t:Int)<64:=by omega
     obtain rfl:t=64:=by omega
     go_upto_region 13 with fail
     have A5:=J
     go_loopw [107] (fun t107 wr=>∃i:Nat,i≤8∧t107=.int .i64 (i:Int)∧Hid (MixAt W5 F (st8 (uz l 0 s 64)) (st8 s) i wr)) (fun t107 _=>8 - (intOf t107).toNat)
     case atStart=>exact⟨0,by omega,rfl,hid ⟨A5.but,A5.row⟩⟩
     case round=>
       clear J A5;obtain⟨i,hi,rfl,O⟩:=hrel;by_cases hlt:i<8
       ·have i2:(i:Int)<8:=by omega
        obtain⟨A,hA⟩:∃x,(st8 (uz l 0 s 64)).getD i 0=x:=⟨_,rfl⟩;obtain⟨B,hB⟩:∃x,(st8 s).getD i 0=x:=⟨_,rfl⟩;obtain⟨A0,A1⟩:0≤A∧A≤4294967295:=hA▸Kq (ok_run U.out 64) i hlt;obtain⟨B0,B1⟩:0≤B∧B≤4294967295:=hB▸Kq U.out i hlt;have q1:wr.cell? ⟨F,i,none⟩=some (.int .u32 A):=by rw[←hA];exact O.cell hlt
        have q2:wr.cell? ⟨zs,i,none⟩=some (.int .u32 B):=by
          rw[←hB];exact(O.but.cell (Nat.lt_trans (by have:=C.out;omega) N.1) (by have:=C.out;omega)).trans ((k4 Ar.out i).trans (Ku (l:=st8 s) hlt))
        have Ap:=O.lt;have F1:=Wg.cell q1 Ap;have F2:=Wg.cell q2 (Nat.lt_trans (by have:=C.out;omega) Ap);have HA:=hid hA;have HB:=hid hB
        clear q1 q2 hA hB
        go_upto_region 15 with fail
        refine zn 8 yy yy yy yy yy ?_;simp only[List.take_succ_cons,List.take_zero,List.drop_succ_cons,List.drop_zero]
        repeat (first
          |go_big_quiet_skip
          |(go_big_quiet_want
            first
               |(go_big_quiet_op
                 first
                    |go_big_quiet_on
                    |go_big_quiet_call (first|(fail)))))
        refine wpQuiet_nil ?_;rintro w' ⟨W,rfl⟩;have AA:=W.2;generalize W.val=w9 at *;clear W;clear F1 F2;have A6:=hid (O.keep AA.below);have c9:=A6.cell hlt;have f9:=A6.fr i;go_wp2_with fail
        go_roundw
        case rel=>
          refine⟨i+1,by omega,by go_num,hid (A6.next hlt ?_)⟩;rw[HA.out,HB.out];rfl
        case measure=>(simp [intOf])<;>omega
       ·have i2:¬(i:Int)<8:=by omega
        obtain rfl:i=8:=by omega
        have Ao:Hid (wr.heap[F]?=some (.cells (jB (st8 (KG l 0 s))).toArray 287 (0,0))):=hid O.row;have Ax:=hid ((O.but.block zr (Nat.lt_trans (by have:=C.out;omega) N.1) (by have:=C.out;omega)).trans An.out)
        go_wp2_with (first
          |(with_reducible refine k6 ?_
            refine k5 yx (kc 287 _ rfl (p:=⟨F,0,none⟩) rfl (qV _ _ _ _ (jB (st8 (KG l 0 s))) _ (fun j u hj=>by rw[qZ];exact(k4 Ao.out j).trans hj) underlying287 rfl yy)) ?_)
          |(with_reducible refine kw ?_
            refine ko yx 287 _ _ rfl zr 0 [] (List.replicate 8 (.int .u32 0)) [] (jB (st8 (KG l 0 s))) 287 (.agg (jB (st8 (KG l 0 s))).toArray) rfl rfl rfl rfl (by simpa using Ax.out) rfl yy (Zy _) ?_;intro W6 Ak Al Am;have A3:=hid Ak;have A4:Hid (W6.heap[zr]?=some (.cells (jB (st8 (KG l 0 s))).toArray 287 (0,0))):=hid (by simpa using Al);have Aw:=hid Am;clear Ak Al Am))
        refine bodyPost_ret (jk results197 _ _ rfl (qV _ zr 0 287 (jB (st8 (KG l 0 s))) _ (fun j u hj=>by rw[qZ];exact(k4 A4.out j).trans hj) underlying287 rfl yy)) rfl ?_;have AB:=I.trans (M.mono I.size);exact⟨rfl,AB.trans ((O.but.below AB.size (fun k hk e=>by have:=C.out;omega)).trans (A3.below (qT AB.size O.but.size) fun k hk e=>by have:=C.out;omega))⟩
end
end Go.Proofs.YtdgbjhfkmembdaaGreatDoor