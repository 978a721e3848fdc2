/-
  Plain facts, and contracts of the functions that the claim's walk comes to, one behind the other. Conditions: as each says.
-/
import Derived.Test.YtdgbjhfkmembdaaGreatDoorPart4
import Derived.Test.YtdgbjhfkmembdaaGreatDoorPart15
import Derived.Test.YtdgbjhfkmembdaaGreatDoorPart10
import Derived.Test.YtdgbjhfkmembdaaGreatDoorPart14
set_option linter.unusedVariables false
set_option linter.unusedSimpArgs false
set_option maxHeartbeats 4000000
set_option maxRecDepth 100000
open Go.Proofs.Tryz
namespace Go.Proofs.YtdgbjhfkmembdaaGreatDoor
section
open Go.RowKit Go.Maps
open Lib (hid)
theorem firstS_built(w:World):(Instr.build 287 #[(0,.int .u32 1779033703),(1,.int .u32 3144134277),(2,.int .u32 1013904242),(3,.int .u32 2773480762),(4,.int .u32 1359893119),(5,.int .u32 2600822924),(6,.int .u32 528734635),(7,.int .u32 1541459225)]).run prog w=.ok (.agg (jB (st8 firstS)).toArray) w:=by kernel_rfl
theorem refSum_any(l:List UInt8)(A:Option Addr)(c:Nat)(w:World)(hs:Sl w w.heap.size A l.length 1 (idV l))(hl:l.length≤1099511627776):
    Calls prog 104 #[.slice A l.length c] w fun e w'=>e=.returned (.agg (idV (ZJ l)).toArray)∧Below w.heap.size w w':=by
  have E:=hid hs;clear hs;go_enter func104,ntmps104
  go_upto_region 1 with (first
    |(with_reducible refine kA ?_
      refine ks yx 41 rfl (List.replicate 32 (.int .u8 0)) yy ?_;intro W0 Bk Bl Bm;have A7:=hid Bk;have Ao:=hid Bl;have A8:=hid Bm
      clear Bk Bl Bm))
  go_upto_region 2 with (first
    |(with_reducible refine kJ ?_
      refine k5 yx (kj 287 _ rfl (firstS_built _)) ?_)
    |(with_reducible refine kA ?_
      refine ks yx 287 rfl (List.replicate 8 (.int .u32 0)) yy ?_;intro W1 Bn Bo Bp;have A9:=hid Bn;have Ap:=hid Bo;have Aq:=hid Bp
      clear Bn Bo Bp)
    |(with_reducible refine kw ?_
      refine ko yx 287 _ _ rfl W0.heap.size 0 [] (List.replicate 8 (.int .u32 0)) [] (jB (st8 firstS)) 287 (.agg (jB (st8 firstS)).toArray) rfl rfl rfl rfl (by simpa using Ap.out) rfl yy (Zy _) ?_;intro W2 Bq Br Bs;have Ar:=hid Bq;have As:Hid (W2.heap[W0.heap.size]?=some (.cells (jB (st8 firstS)).toArray 287 (0,0))):=hid (by simpa using Br);have At:=hid Bs;clear Bq Br Bs))
  obtain⟨zi,Bb⟩:∃x,w.heap.size=x:=⟨_,rfl⟩;obtain⟨H,Bt⟩:∃x,W0.heap.size=x:=⟨_,rfl⟩;have Aa:=hid (A9.trans (Ar.below A9.size fun k hk e=>by omega));have r:=hid (A7.trans (Aa.mono A7.size));have D:=hid (show w.heap.size=zi∧zi<H∧H<W2.heap.size by have:=A8.out;have:=Aq.out;have:=At.out;omega);have AW:Hid (W2.heap[zi]?=some (.cells (List.replicate 32 (.int .u8 0)).toArray 41 (0,0))):=hid (by rw[←Bb];exact(Aa.block _ (by have:=A8.out;omega)).trans Ao.out);rw[Bt] at As ⊢;rw[Bb]
  try go_frame
  clear Bb Bt Ao Ap A7 A9 Ar A8 Aq At
  go_upto_region 4 with (first
    |(go_at_call 163;refine(padded_any l A c W2 ((E.keep r.out).more r.size) hl).mono ?_;rintro e W3 ⟨A3,c3,rfl,Bu,Bv⟩;have Au:=hid Bu;have A5:=hid Bv
      clear Bu Bv))
  obtain⟨P,hP⟩:∃P,Uz l=P:=⟨_,rfl⟩;rw[hP] at Au ⊢;obtain⟨N,hN⟩:∃N,P.length / 64=N:=⟨_,rfl⟩;have Av:=hid (show P.length=64*N by have h:=padS_mod l;rw[hP] at h;omega);have Aw:=hid (show P.length≤1099511627900 by rw[←hP,vy];unfold jY;omega);have AX:=hid (show ZJ l=UA (jU P firstS N) by unfold ZJ;rw[hP,hN]);clear hP hN;have L:Hid (RndAt W3 H (jU P firstS 0) W3):=hid ⟨But.refl _ _,(A5.block H D.2.2).trans As.out⟩;have AY:=hid (own_bytes Au.out L.row yv)
  go_loopw [5] (fun t5 wr=>∃n:Nat,n≤N∧t5=.int .i64 ((64*n:Nat):Int)∧Hid (RndAt W3 H (jU P firstS n) wr)) (fun t5 _=>P.length - (intOf t5).toNat)
  case atStart=>exact⟨0,Nat.zero_le _,rfl,L⟩
  case round=>
    clear L;obtain⟨n,hn,rfl,L⟩:=hrel;obtain⟨Z,Bc⟩:∃x,64*n=x:=⟨_,rfl⟩;rw[Bc];by_cases hlt:n<N
    ·have Bd:=Av.out;have i1:(Z:Int)<(P.length:Int):=by omega
     have z:=hid (show Z+64≤P.length∧64*n=Z by omega);have Bw:0<P.length:=by omega
     obtain⟨b,BI,rfl,BG,BH,Bx⟩:=AY.out Bw;have AZ:=hid Bx;clear Bx Bc Bd Bw
     go_upto_region 7 with (first
       |(with_reducible refine kA ?_
         refine ks yx 289 rfl (List.replicate 64 (.int .u32 0)) yy ?_;intro W4 AF AG AH;have f:=hid AF;have W:=hid AG;have A0:=hid AH
         clear AF AG AH))
     obtain⟨z6,By⟩:∃x,wr.heap.size=x:=⟨_,rfl⟩;have A1:=hid (show z6<W4.heap.size∧H<z6∧b<z6∧W3.heap.size≤z6 by have h1:=L.lt;have h2:=L.but.size;have h3:=A0.out;omega);rw[By] at W ⊢
     try go_frame
     have Ax:=hid (L.keep f.out);have Ab:=hid (show b<W4.heap.size by have:=A1.out;omega);have A6:=hid (fun (u:World) (hu:But (fun k=>k=z6) W4 u) (j:Nat) (hj:j<P.length)=>(show u.cell? ⟨b,BI+j,none⟩=some (.int .u8 (j3 P j:Int)) from (hu.cell Ab.out (by have:=A1.out;omega)).trans ((Ax.but.cell BG BH).trans (AZ.out j hj))));obtain⟨wo,BJ⟩:∃u:World,u=wr:=⟨_,rfl⟩;subst BJ;have E:Hid (SchAt W4 z6 P Z 0 W4):=hid ⟨But.refl _ _,W.out⟩;clear By W A0
     go_upto_region 8 with fail
     go_loopw [7] (fun t7 wr=>∃t:Nat,t≤64∧t7=.int .i64 (t:Int)∧Hid (SchAt W4 z6 P Z t wr)) (fun t7 _=>64 - (intOf t7).toNat)
     case atStart=>exact⟨0,by omega,rfl,E⟩
     case round=>
       clear E;obtain⟨t,ht,rfl,E⟩:=hrel;have AL:=E.lt;by_cases hlt:t<64
       ·have i2:(t:Int)<64:=by omega
        by_cases h16:t<16
        ·have i3:(t:Int)<16:=by omega
         obtain⟨q,hq⟩:∃q,4*t=q:=⟨_,rfl⟩;obtain⟨m,hm⟩:∃m,Z+q=m:=⟨_,rfl⟩;have BQ:m+3<P.length:=by have:=z.out;omega
         have hP:=Aw.out;have e4:IntKind.i64.wrap (4*(t:Int))=((q:Nat):Int):=by rw[IntWalk.i64_in _ yz];omega
         have e0:IntKind.i64.wrap ((Z:Int)+(q:Int))=((m:Nat):Int):=by rw[IntWalk.i64_in _ yz];omega
         have e5:IntKind.i64.wrap ((m:Int)+1)=((m+1:Nat):Int):=by rw[IntWalk.i64_in _ yz];omega
         have e6:IntKind.i64.wrap ((m:Int)+2)=((m+2:Nat):Int):=by rw[IntWalk.i64_in _ yz];omega
         have e7:IntKind.i64.wrap ((m:Int)+3)=((m+3:Nat):Int):=by rw[IntWalk.i64_in _ yz];omega
         have AM:b<wr.heap.size:=qL Ab.out E.but.size;obtain⟨k0,AN⟩:∃k,j3 P m=k:=⟨_,rfl⟩;obtain⟨k1,AO⟩:∃k,j3 P (m+1)=k:=⟨_,rfl⟩;obtain⟨k2,AP⟩:∃k,j3 P (m+2)=k:=⟨_,rfl⟩;obtain⟨k3,AQ⟩:∃k,j3 P (m+3)=k:=⟨_,rfl⟩;have F0:=Wg.cell (AN▸A6.out wr E.but m yz) AM;have F1:=Wg.cell (AO▸A6.out wr E.but (m+1) yz) AM;have F2:=Wg.cell (AP▸A6.out wr E.but (m+2) yz) AM;have F3:=Wg.cell (AQ▸A6.out wr E.but (m+3) yz) AM;have q0:k0<256:=AN▸JF _ _;have q1:k1<256:=AO▸JF _ _;have q2:k2<256:=AP▸JF _ _;have q3:k3<256:=AQ▸JF _ _;have HW:=hid (show zX P Z t=wordS k0 k1 k2 k3 by rw[Uo h16,hq,hm,AN,AO,AP,AQ]);clear AN AO AP AQ hm hq
         go_upto_region 11 with fail
         refine zn 43 yy yy yy yy yy ?_;simp only[List.take_succ_cons,List.take_zero,List.drop_succ_cons,List.drop_zero]
         repeat (first
           |go_big_quiet_skip
           |(go_big_quiet_want
             first
                |(go_big_quiet_op
                  first
                     |go_big_quiet_on
                     |go_big_quiet_call (first|(fail)))))
         refine wpQuiet_nil ?_;rintro w' ⟨s,rfl⟩;have A2:=s.2;generalize s.val=w9 at *;clear s;clear F0 F1 F2 F3 e0 e4 e5 e6 e7;have I:=hid (E.keep A2.below);obtain⟨u9,c9⟩:=I.any (show t<64 by omega);have f9:=I.fr t;go_wp2_with fail
         go_roundw
         case rel=>
           refine⟨t+1,by omega,by go_num,hid (I.next yz ?_)⟩;rw[HW.out];rfl
         case measure=>(simp [intOf])<;>omega
        ·have i3:¬(t:Int)<16:=by omega
         obtain⟨m2,Bz⟩:∃m,t - 2=m:=⟨_,rfl⟩;obtain⟨m7,BA⟩:∃m,t - 7=m:=⟨_,rfl⟩;obtain⟨AR,Be⟩:∃m,t - 15=m:=⟨_,rfl⟩;obtain⟨AS,Bf⟩:∃m,t - 16=m:=⟨_,rfl⟩;have e2:IntKind.i64.wrap ((t:Int) - 2)=((m2:Nat):Int):=by rw[IntWalk.i64_in _ yz];omega
         have e7:IntKind.i64.wrap ((t:Int) - 7)=((m7:Nat):Int):=by rw[IntWalk.i64_in _ yz];omega
         have BK:IntKind.i64.wrap ((t:Int) - 15)=((AR:Nat):Int):=by rw[IntWalk.i64_in _ yz];omega
         have BL:IntKind.i64.wrap ((t:Int) - 16)=((AS:Nat):Int):=by rw[IntWalk.i64_in _ yz];omega
         have l2:m2<64:=by omega
         have l7:m7<64:=by omega
         have BR:AR<64:=by omega
         have BS:AS<64:=by omega
         obtain⟨Y,hY⟩:∃x,zX P Z m2=x:=⟨_,rfl⟩;obtain⟨V,hV⟩:∃x,zX P Z m7=x:=⟨_,rfl⟩;obtain⟨X,hX⟩:∃x,zX P Z AR=x:=⟨_,rfl⟩;obtain⟨U,hU⟩:∃x,zX P Z AS=x:=⟨_,rfl⟩;have Ay:=hid (fun (u:World) (hu:Below wr.heap.size wr u)=>(show u.cell? ⟨z6,m2,none⟩=some (.int .u32 Y)∧u.cell? ⟨z6,m7,none⟩=some (.int .u32 V)∧u.cell? ⟨z6,AR,none⟩=some (.int .u32 X)∧u.cell? ⟨z6,AS,none⟩=some (.int .u32 U) from by
           have h:=E.keep hu;rw[←hY,←hV,←hX,←hU];exact⟨h.cell yz ht,h.cell yz ht,h.cell yz ht,h.cell yz ht⟩))
         have Ac:Hid (W32 Y):=hid (hY▸Zk _ _ _);have Ad:Hid (W32 X):=hid (hX▸Zk _ _ _);have B0:Hid (W32 V):=hid (hV▸Zk _ _ _);have B1:Hid (W32 U):=hid (hU▸Zk _ _ _);have HE:=hid (show zX P Z t=zA (zA (zA (JK (JK (jO 17 Y) (jO 19 Y)) (Y / 1024)) V) (JK (JK (jO 7 X) (jO 18 X)) (X / 8))) U by rw[Up yz,Bz,BA,Be,Bf,hY,hV,hX,hU]);clear Bz BA Be Bf hY hV hX hU;obtain⟨y0,y1⟩:=Ac.out;obtain⟨x0,x1⟩:=Ad.out;obtain⟨v0,v1⟩:=B0.out;obtain⟨s0,s1⟩:=B1.out;obtain⟨c2,c7,AT,AU⟩:=Ay.out wr (qB _ _);have F2:=Wg.cell c2 AL;have BM:=Wg.cell AT AL;clear c2 c7 AT AU
         go_upto_region 12 with fail
         refine j8 yy yy ?_
         repeat (first
           |go_big_quiet_skip
           |(go_big_quiet_want
             first
                |(go_big_quiet_op
                  first
                     |go_big_quiet_on
                     |go_big_quiet_call (first|(fail)))))
         refine wpQuiet_nil ?_;rintro w' ⟨s,rfl⟩;have A2:=s.2;generalize s.val=w9 at *;clear s;clear F2 BM;have Az:Hid (∀u:World,Calls prog 164 #[.int .u32 X,.int .u64 7] u fun R T=>R=.returned (.int .u32 (jO 7 X))∧u=T):=hid (fun u=>Kp X 7 Ad.out yv yv u);have Ae:Hid (∀u:World,Calls prog 164 #[.int .u32 X,.int .u64 18] u fun R T=>R=.returned (.int .u32 (jO 18 X))∧u=T):=hid (fun u=>Kp X 18 Ad.out yv yv u);have Af:Hid (∀u:World,Calls prog 164 #[.int .u32 Y,.int .u64 17] u fun R T=>R=.returned (.int .u32 (jO 17 Y))∧u=T):=hid (fun u=>Kp Y 17 Ac.out yv yv u);have Ag:Hid (∀u:World,Calls prog 164 #[.int .u32 Y,.int .u64 19] u fun R T=>R=.returned (.int .u32 (jO 19 Y))∧u=T):=hid (fun u=>Kp Y 19 Ac.out yv yv u);obtain⟨c2,c7,AT,AU⟩:=Ay.out w9 A2.below;have I:=hid (E.keep A2.below);have Bg:=I.lt;have F7:=Wg.cell c7 Bg;have BN:=Wg.cell AU Bg;clear c2 c7 AT AU A2
         go_upto_region 13 with fail
         refine zn 29 yy yy yy yy yy ?_;simp only[List.take_succ_cons,List.take_zero,List.drop_succ_cons,List.drop_zero]
         repeat (first
           |go_big_quiet_skip
           |(go_big_quiet_want
             first
                |(go_big_quiet_op
                  first
                     |go_big_quiet_on
                     |go_big_quiet_call (first|(go_at_call 164;(with_reducible refine(Af.out _).mono ?_);exact fun e Bh ⟨he,hw⟩=>⟨he,⟨_,hw.symm⟩⟩)|(go_at_call 164;(with_reducible refine(Ag.out _).mono ?_);exact fun e Bh ⟨he,hw⟩=>⟨he,⟨_,hw.symm⟩⟩)|(go_at_call 164;(with_reducible refine(Az.out _).mono ?_);exact fun e Bh ⟨he,hw⟩=>⟨he,⟨_,hw.symm⟩⟩)|(go_at_call 164;(with_reducible refine(Ae.out _).mono ?_);exact fun e Bh ⟨he,hw⟩=>⟨he,⟨_,hw.symm⟩⟩)))))
         refine wpQuiet_nil ?_;rintro w' ⟨s,rfl⟩;have AV:=s.2;generalize s.val=w8 at *;clear s;clear F7 BN e2 e7 BK BL Az Ae Af Ag;have Ah:=hid (I.keep AV.below);obtain⟨u8,c8⟩:=Ah.any (show t<64 by omega);have f8:=Ah.fr t;go_wp2_with fail
         go_roundw
         case rel=>
           refine⟨t+1,by omega,by go_num,hid (Ah.next yz ?_)⟩;rw[HE.out];unfold zA JK;omega
         case measure=>(simp [intOf])<;>omega
       ·have i2:¬(t:Int)<64:=by omega
        obtain rfl:t=64:=by omega
        obtain⟨W6,BO⟩:∃u:World,u=wr:=⟨_,rfl⟩;subst BO;have G:=hid (show W6.heap[H]?=some (.cells (jB (st8 (jU P firstS n))).toArray 287 (0,0)) from (E.but.block H (by have:=A1.out;omega) (by have:=A1.out;omega)).trans Ax.row);have Ai:=hid (ok_hash (l:=P) Q4 n);have B2:=hid (show jU P firstS (n+1)=KG P Z (jU P firstS n) by show KG P (64*n) _=_;rw[z.2]);generalize jU P firstS n=S at *;have C:=hid (qX G.out);have F0:=Wg.cell ((k4 G.out 0).trans (Ku (l:=st8 S) (i:=0) (show 0<8 by decide))) C.out;have F1:=Wg.cell ((k4 G.out 1).trans (Ku (l:=st8 S) (i:=1) (show 1<8 by decide))) C.out;have F2:=Wg.cell ((k4 G.out 2).trans (Ku (l:=st8 S) (i:=2) (show 2<8 by decide))) C.out;have F3:=Wg.cell ((k4 G.out 3).trans (Ku (l:=st8 S) (i:=3) (show 3<8 by decide))) C.out;have F4:=Wg.cell ((k4 G.out 4).trans (Ku (l:=st8 S) (i:=4) (show 4<8 by decide))) C.out;have F5:=Wg.cell ((k4 G.out 5).trans (Ku (l:=st8 S) (i:=5) (show 5<8 by decide))) C.out;have F6:=Wg.cell ((k4 G.out 6).trans (Ku (l:=st8 S) (i:=6) (show 6<8 by decide))) C.out;have F7:=Wg.cell ((k4 G.out 7).trans (Ku (l:=st8 S) (i:=7) (show 7<8 by decide))) C.out
        go_upto_region 14 with fail
        refine j8 yy yy ?_
        repeat (first
          |go_big_quiet_skip
          |(go_big_quiet_want
            first
               |(go_big_quiet_op
                 first
                    |go_big_quiet_on
                    |go_big_quiet_call (first|(fail)))))
        refine wpQuiet_nil ?_;rintro w' ⟨s,rfl⟩;have A2:=s.2;generalize s.val=w9 at *;clear s;clear F0 F1 F2 F3 F4 F5 F6 F7
        go_upto_region 16 with fail
        have I:=hid (E.keep A2.below);have B3:=hid ((A2.below.block H C.out).trans G.out);have AA:=hid A2.below;clear A2
        go_loopw [18,10,11,12,13,14,15,16,17] (fun t18 t10 t11 t12 t13 t14 t15 t16 t17 wr=>∃(t:Nat) (a g o d F v y h':Int),t≤64∧t18=.int .i64 (t:Int)∧t10=.int .u32 a∧t11=.int .u32 g∧t12=.int .u32 o∧t13=.int .u32 d∧t14=.int .u32 F∧t15=.int .u32 v∧t16=.int .u32 y∧t17=.int .u32 h'∧Hid (uz P Z S t=(a,g,o,d,F,v,y,h'))∧Hid (Below w9.heap.size w9 wr)) (fun t18 _ _ _ _ _ _ _ _ _=>64 - (intOf t18).toNat)
        case atStart=>exact⟨0,_,_,_,_,_,_,_,_,by omega,rfl,rfl,rfl,rfl,rfl,rfl,rfl,rfl,rfl,hid rfl,hid (qB _ _)⟩
        case round=>
          obtain⟨t,a,g,o,d,F,v,y,h',ht,rfl,rfl,rfl,rfl,rfl,rfl,rfl,rfl,rfl,A4,HB⟩:=hrel;have M:=hid (show St8.ok (a,g,o,d,F,v,y,h') from A4.out▸ok_run (l:=P) (at':=Z) Ai.out t);obtain⟨BB,BC⟩:=Kq M.out 0 yv;change 0≤a at BB;change a≤4294967295 at BC;obtain⟨b0,b1⟩:=Kq M.out 1 yv;change 0≤g at b0;change g≤4294967295 at b1;obtain⟨c0,c1⟩:=Kq M.out 2 yv;change 0≤o at c0;change o≤4294967295 at c1;obtain⟨d0,d1⟩:=Kq M.out 3 yv;change 0≤d at d0;change d≤4294967295 at d1;obtain⟨e0,e1⟩:=Kq M.out 4 yv;change 0≤F at e0;change F≤4294967295 at e1;obtain⟨f0,f1⟩:=Kq M.out 5 yv;change 0≤v at f0;change v≤4294967295 at f1;obtain⟨g0,g1⟩:=Kq M.out 6 yv;change 0≤y at g0;change y≤4294967295 at g1;obtain⟨h0,h1⟩:=Kq M.out 7 yv;change 0≤h' at h0;change h'≤4294967295 at h1;by_cases hlt:t<64
          ·have i2:(t:Int)<64:=by omega
           obtain⟨K,hK⟩:∃K,keyS t=K:=⟨_,rfl⟩;obtain⟨V,hV⟩:∃V,zX P Z t=V:=⟨_,rfl⟩;obtain⟨K0,K1⟩:0≤K∧K≤4294967295:=hK▸w32_key t;obtain⟨V0,V1⟩:0≤V∧V≤4294967295:=hV▸Zk _ _ _;have B4:=hid (show uz P Z S (t+1)=Q3 (a,g,o,d,F,v,y,h') K V by show Q3 _ _ _=_;rw[A4.out,hK,hV]);have AB:Hid (∀u:World,Calls prog 165 #[.int .i64 (t:Int)] u fun R T=>Below u.heap.size u T∧R=.returned (.int .u32 K)):=hid (fun u=>(refKey_any t hlt u).mono fun R T ⟨he,hb⟩=>⟨hb,by rw[he,hK]⟩);have AL:=(I.keep HB.out).lt;have FV:∀n:Wd wr.heap.size wr,n.val.cell? ⟨z6,t,none⟩=some (.int .u32 V):=Wd.cell (by rw[←hV];exact(I.keep HB.out).cell hlt (qR _)) AL;have HaW:Hid (W32 a):=hid ⟨BB,BC⟩;have He'W:Hid (W32 F):=hid ⟨e0,e1⟩;have AC:Hid (∀u:World,Calls prog 164 #[.int .u32 F,.int .u64 6] u fun R T=>Below u.heap.size u T∧R=.returned (.int .u32 (jO 6 F))):=hid (fun u=>(Kp F 6 He'W.out yv yv u).mono fun R T ⟨he,hw⟩=>⟨hw▸qB _ _,he⟩);have Aj:Hid (∀u:World,Calls prog 164 #[.int .u32 F,.int .u64 11] u fun R T=>Below u.heap.size u T∧R=.returned (.int .u32 (jO 11 F))):=hid (fun u=>(Kp F 11 He'W.out yv yv u).mono fun R T ⟨he,hw⟩=>⟨hw▸qB _ _,he⟩);have Ak:Hid (∀u:World,Calls prog 164 #[.int .u32 F,.int .u64 25] u fun R T=>Below u.heap.size u T∧R=.returned (.int .u32 (jO 25 F))):=hid (fun u=>(Kp F 25 He'W.out yv yv u).mono fun R T ⟨he,hw⟩=>⟨hw▸qB _ _,he⟩);have AD:Hid (∀u:World,Calls prog 164 #[.int .u32 a,.int .u64 2] u fun R T=>R=.returned (.int .u32 (jO 2 a))∧u=T):=hid (fun u=>Kp a 2 HaW.out yv yv u);have Al:Hid (∀u:World,Calls prog 164 #[.int .u32 a,.int .u64 13] u fun R T=>R=.returned (.int .u32 (jO 13 a))∧u=T):=hid (fun u=>Kp a 13 HaW.out yv yv u);have Am:Hid (∀u:World,Calls prog 164 #[.int .u32 a,.int .u64 22] u fun R T=>R=.returned (.int .u32 (jO 22 a))∧u=T):=hid (fun u=>Kp a 22 HaW.out yv yv u);clear hK hV
           go_upto_region 18 with fail
           refine zj (base:=wr.heap.size) wr (qB _ _) yy yy ?_
           repeat (first
             |go_big_quiet_skip
             |(go_big_quiet_want
               first
                  |(go_big_quiet_op
                    first
                       |go_big_quiet_on
                       |go_big_quiet_call (first|(go_at_call 165;with_reducible exact Wd.call (fun u _=>AB.out u) (qR _) _)|(go_at_call 164;with_reducible exact Wd.call (fun u _=>AC.out u) (qR _) _)|(go_at_call 164;with_reducible exact Wd.call (fun u _=>Aj.out u) (qR _) _)|(go_at_call 164;with_reducible exact Wd.call (fun u _=>Ak.out u) (qR _) _)))))
           refine wpQuiet_nil ?_;rintro w' ⟨s,rfl⟩;have AV:=s.2;generalize s.val=w8 at *;clear s;clear FV AC Aj Ak AB
           go_upto_region 20 with (first|(go_at_call 164;(with_reducible refine(AD.out _).mono ?_);rintro e w' ⟨rfl,rfl⟩)|(go_at_call 164;(with_reducible refine(Al.out _).mono ?_);rintro e w' ⟨rfl,rfl⟩)|(go_at_call 164;(with_reducible refine(Am.out _).mono ?_);rintro e w' ⟨rfl,rfl⟩))
           generalize hS1:bits BinOp.xor IntKind.u32 (bits BinOp.xor IntKind.u32 (jO 6 F) (jO 11 F)) (jO 25 F)=S1;obtain⟨BT,BU⟩:0≤S1∧S1≤4294967295:=by rw[←hS1];exact⟨bits_lo_u32 _ _ _,bits_hi_u32 _ _ _⟩
           generalize hCH:bits BinOp.xor IntKind.u32 (bits BinOp.and IntKind.u32 F v) (bits BinOp.and IntKind.u32 (bits BinOp.xor IntKind.u32 (if IntKind.u32.signed=true then -1 else IntKind.u32.max) F) y)=CH;obtain⟨BV,BW⟩:0≤CH∧CH≤4294967295:=by rw[←hCH];exact⟨bits_lo_u32 _ _ _,bits_hi_u32 _ _ _⟩
           generalize hTW:bits BinOp.xor IntKind.u32 (bits BinOp.xor IntKind.u32 (jO 2 a) (jO 13 a)) (jO 22 a)=TW;obtain⟨BX,BY⟩:0≤TW∧TW≤4294967295:=by rw[←hTW];exact⟨bits_lo_u32 _ _ _,bits_hi_u32 _ _ _⟩
           generalize hMJ:bits BinOp.xor IntKind.u32 (bits BinOp.xor IntKind.u32 (bits BinOp.and IntKind.u32 a g) (bits BinOp.and IntKind.u32 a o)) (bits BinOp.and IntKind.u32 g o)=MJ;obtain⟨BZ,C0⟩:0≤MJ∧MJ≤4294967295:=by rw[←hMJ];exact⟨bits_lo_u32 _ _ _,bits_hi_u32 _ _ _⟩
           generalize hT1:(h'+S1+CH+K+V) % 4294967296=T1;generalize hT2:(TW+MJ) % 4294967296=T2;obtain⟨C1,C2⟩:0≤T1∧T1≤4294967295:=by omega
           obtain⟨C3,C4⟩:0≤T2∧T2≤4294967295:=by omega
           have B5:Hid (uz P Z S (t+1)=((T1+T2) % 4294967296,a,g,o,(d+T1) % 4294967296,F,v,y)):=hid (by
             have e1:t1S (a,g,o,d,F,v,y,h') K V=T1:=by
               rw[←hT1,←hS1,←hCH];simp only[t1S,zA,JK,andS,notS];omega
             have e2:t2S (a,g,o,d,F,v,y,h')=T2:=by rw[←hT2,←hTW,←hMJ];rfl
             rw[B4.out];show (zA (t1S (a,g,o,d,F,v,y,h') K V) (t2S (a,g,o,d,F,v,y,h')),a,g,o,zA d (t1S (a,g,o,d,F,v,y,h') K V),F,v,y)=_;rw[e1,e2];rfl)
           have B6:=hid (HB.trans (AV.mono HB.size));clear hT1 hT2 hS1 hCH hTW hMJ AV AD Al Am;go_wp2_with fail
           go_roundw
           case rel=>exact⟨t+1,_,_,_,_,_,_,_,_,by omega,by go_num,rfl,rfl,rfl,rfl,rfl,rfl,rfl,rfl,B5,B6⟩
           case measure=>(simp [intOf])<;>omega
          ·have i2:¬(t:Int)<64:=by omega
           obtain rfl:t=64:=by omega
           have B:=hid ((HB.block H (qL C.out AA.size)).trans B3.out);have HN:=hid (show st8 (jU P firstS (n+1))=st8 (sumS (a,g,o,d,F,v,y,h') S) by rw[B2.out];unfold KG;rw[A4.out]);obtain⟨s0,s1,s2,s3,s4,s5,s6,s7⟩:=S;have O:=hid (fun j hj=>Kq Ai.out j hj);obtain⟨l0,r0⟩:0≤s0∧s0≤4294967295:=O.out 0 yv;obtain⟨l1,r1⟩:0≤s1∧s1≤4294967295:=O.out 1 yv;obtain⟨l2,r2⟩:0≤s2∧s2≤4294967295:=O.out 2 yv;obtain⟨l3,r3⟩:0≤s3∧s3≤4294967295:=O.out 3 yv;obtain⟨l4,r4⟩:0≤s4∧s4≤4294967295:=O.out 4 yv;obtain⟨l5,r5⟩:0≤s5∧s5≤4294967295:=O.out 5 yv;obtain⟨l6,r6⟩:0≤s6∧s6≤4294967295:=O.out 6 yv;obtain⟨l7,r7⟩:0≤s7∧s7≤4294967295:=O.out 7 yv;have p0:wr.cell? ⟨H,0,none⟩=some (.int .u32 s0):=k4 B.out 0;have p1:wr.cell? ⟨H,1,none⟩=some (.int .u32 s1):=k4 B.out 1;have p2:wr.cell? ⟨H,2,none⟩=some (.int .u32 s2):=k4 B.out 2;have p3:wr.cell? ⟨H,3,none⟩=some (.int .u32 s3):=k4 B.out 3;have p4:wr.cell? ⟨H,4,none⟩=some (.int .u32 s4):=k4 B.out 4;have p5:wr.cell? ⟨H,5,none⟩=some (.int .u32 s5):=k4 B.out 5;have p6:wr.cell? ⟨H,6,none⟩=some (.int .u32 s6):=k4 B.out 6;have p7:wr.cell? ⟨H,7,none⟩=some (.int .u32 s7):=k4 B.out 7;have y0:wr.frozen? ⟨H,0,none⟩=false:=frozen_of_row _ _ _ _ _ B.out;have y1:wr.frozen? ⟨H,1,none⟩=false:=frozen_of_row _ _ _ _ _ B.out;have y2:wr.frozen? ⟨H,2,none⟩=false:=frozen_of_row _ _ _ _ _ B.out;have y3:wr.frozen? ⟨H,3,none⟩=false:=frozen_of_row _ _ _ _ _ B.out;have y4:wr.frozen? ⟨H,4,none⟩=false:=frozen_of_row _ _ _ _ _ B.out;have y5:wr.frozen? ⟨H,5,none⟩=false:=frozen_of_row _ _ _ _ _ B.out;have y6:wr.frozen? ⟨H,6,none⟩=false:=frozen_of_row _ _ _ _ _ B.out;have y7:wr.frozen? ⟨H,7,none⟩=false:=frozen_of_row _ _ _ _ _ B.out;have C5:Z+64≤1099511627900:=by have:=z.out;have:=Aw.out;omega
           go_wp2_with fail
           go_roundw
           case rel=>
             refine⟨n+1,by omega,congrArg (Value.int .i64) (by have:=z.out;omega),hid ⟨?_,?_⟩⟩
             ·have hb:=((((L.but.andBelow f.out).trans E.but fun i hi e=>by have:=A1.out;omega).andBelow AA.out).andBelow HB.out);exact(((((((hb.setCell (fun _=>rfl) _).setCell (fun _=>rfl) _).setCell (fun _=>rfl) _).setCell (fun _=>rfl) _).setCell (fun _=>rfl) _).setCell (fun _=>rfl) _).setCell (fun _=>rfl) _).setCell (fun _=>rfl) _
             ·rw[HN.out,show st8 (sumS (a,g,o,d,F,v,y,h') (s0,s1,s2,s3,s4,s5,s6,s7))=[zA a s0,zA g s1,zA o s2,zA d s3,zA F s4,zA v s5,zA y s6,zA h' s7] from rfl];unfold zA;rw[Int.add_comm a,Int.add_comm g,Int.add_comm o,Int.add_comm d,Int.add_comm F,Int.add_comm v,Int.add_comm y,Int.add_comm h'];exact Kh (Kh (Kh (Kh (Kh (Kh (Kh (Kh B.out _) _) _) _) _) _) _) _
           case measure=>
             have:=z.out;simp only[intOf];omega
    ·obtain rfl:n=N:=by omega
     have Bd:=Av.out;have i1:¬(Z:Int)<(P.length:Int):=by omega
     clear Bc Bd
     go_upto_region 31 with (first
       |(with_reducible refine kA ?_
         refine ks yx 41 rfl (List.replicate 32 (.int .u8 0)) yy ?_;intro W4 AF AG AH;have f:=hid AF;have W:=hid AG;have A0:=hid AH
         clear AF AG AH))
     obtain⟨zo,BD⟩:∃x,wr.heap.size=x:=⟨_,rfl⟩;have B7:Hid (St8.ok (jU P firstS n)):=hid (ok_hash Q4 n);have Bi:=r.trans (A5.mono r.size);have Bj:=Bi.trans (L.but.below Bi.size fun k hk e=>by have:=D.out;omega);have An:=hid (Bj.trans (f.mono Bj.size));have AI:=hid ((f.block H L.lt).trans L.row);have Q:=hid (show H<zo∧zo<W4.heap.size by have h1:=L.lt;have h3:=A0.out;omega);have AJ:=hid (((L.but.andBelow f.out).block zi (qL (by have:=D.out;omega) A5.size) (by have:=D.out;omega)).trans ((A5.block zi (by have:=D.out;omega)).trans AW.out));rw[BD] at W ⊢
     try go_frame
     generalize jU P firstS n=S at *;have AE:Hid (OutAt W4 zo S 0 W4):=hid ⟨But.refl _ _,W.out⟩;clear BD A0 W Bi Bj i1
     go_loopw [22] (fun t22 wr=>∃i:Nat,i≤8∧t22=.int .i64 (i:Int)∧Hid (OutAt W4 zo S i wr)) (fun t22 _=>8 - (intOf t22).toNat)
     case atStart=>exact⟨0,by omega,rfl,AE⟩
     case round=>
       clear AE;obtain⟨i,hi,rfl,J⟩:=hrel;by_cases hlt:i<8
       ·have i8:(i:Int)<8:=by omega
        obtain⟨X,hX⟩:∃x,(st8 S).getD i 0=x:=⟨_,rfl⟩;obtain⟨X0,X1⟩:0≤X∧X≤4294967295:=hX▸Kq B7.out i hlt;have HX:=hid hX;have qx:wr.cell? ⟨H,i,none⟩=some (.int .u32 X):=by
          rw[←hX];exact(J.but.cell (Nat.lt_trans Q.1 Q.2) (by have:=Q.out;omega)).trans ((k4 AI.out i).trans (Ku (l:=st8 S) hlt))
        clear hX;obtain⟨m,hm⟩:∃m,4*i=m:=⟨_,rfl⟩;have e4:4*(i:Int)=(m:Int):=by omega
        have C6:m+3<32:=by omega
        have HM:=hid hm;obtain⟨u0,q0⟩:=J.any (k:=m) yz;obtain⟨u1,q1⟩:=J.any (k:=m+1) yz;obtain⟨u2,q2⟩:=J.any (k:=m+2) yz;obtain⟨u3,q3⟩:=J.any (k:=m+3) yz;have f0:=J.fr m;have f1:=J.fr (m+1);have f2:=J.fr (m+2);have f3:=J.fr (m+3);have n1:zo≠H:=by have:=Q.out;omega
        have n2:H≠zo:=by have:=Q.out;omega
        clear hm;go_wp2_with fail
        go_roundw
        case rel=>
          refine⟨i+1,by omega,by go_num,hid ?_⟩;have h:=J.next hlt;rw[HX.out,HM.out] at h;rw[b8_top X0 X1,b8_low X0,show Value.int .u8 (X / 65536 % 256)=b8 X 65536 from b8_mid (d:=65536) X0,show Value.int .u8 (X / 256 % 256)=b8 X 256 from b8_mid (d:=256) X0];exact h
        case measure=>(simp [intOf])<;>omega
       ·obtain rfl:i=8:=by omega
        have i8:¬((8:Nat):Int)<8:=by omega
        have AK:Hid (wr.heap[zo]?=some (.cells (idV (UA S)).toArray 41 (0,0))):=hid J.row;have B8:=hid ((J.but.block zi (by have:=Q.out;have:=D.out;omega) (by have:=Q.out;have:=D.out;omega)).trans AJ.out)
        go_wp2_with (first
          |(with_reducible refine k6 ?_
            refine k5 yx (kc 41 _ rfl (p:=⟨zo,0,none⟩) rfl (qV _ _ _ _ (idV (UA S)) _ (fun j u hj=>by rw[qZ];exact(k4 AK.out j).trans hj) underlying41 rfl yy)) ?_)
          |(with_reducible refine kw ?_
            refine ko yx 41 _ _ rfl zi 0 [] (List.replicate 32 (.int .u8 0)) [] (idV (UA S)) 41 (.agg (idV (UA S)).toArray) rfl rfl rfl rfl (by simpa using B8.out) rfl yy (kV _) ?_;intro W6 BE BF BP;have B9:=hid BE;have Ba:Hid (W6.heap[zi]?=some (.cells (idV (UA S)).toArray 41 (0,0))):=hid (by simpa using BF);clear BE BF BP))
        refine bodyPost_ret (jk results104 _ _ rfl (qV _ zi 0 41 (idV (UA S)) _ (fun j u hj=>by rw[qZ];exact(k4 Ba.out j).trans hj) underlying41 rfl yy)) rfl ?_;exact⟨by rw[AX.out],An.trans ((J.but.below An.size (fun k hk e=>by have:=Q.out;have:=D.out;omega)).trans (B9.below (qT An.size J.but.size) fun k hk e=>by have:=D.out;omega))⟩
theorem id0_built(w:World):(Instr.build 41 #[]).run prog w=.ok (.agg (idV (List.replicate 32 0)).toArray) w:=by kernel_rfl
theorem Zm(l:List UInt8):(idV l).length=l.length:=by simp [idV]
theorem Ur(o:ZT)(v:Value)(w:World)(h:ObjIn w w.heap.size v o)(hl1:o.2.1.2.1.length≤1099511627776)(hl2:o.2.1.2.2.2.length≤1099511627776)(hl3:o.2.2.1.length≤1099511627776)(hl4:o.2.2.2.1.length≤1099511627776)(hg:Glob w)(hsg:ShaG w)(hone:RowKit.Hid (o.1=1)):
    Calls prog 46 #[v] w fun e w'=>e=.returned (.tuple #[.agg (idV (idD o)).toArray,.int .i64 (JL o)])∧Below w.heap.size w w':=by
  obtain⟨c0,rfl,z,A0⟩:=h.ten;have P:=hid h;have H:=hid z;have Ab:=hid A0;have b:=hid hg;have c:=hid hsg
  clear h z A0 hg hsg;go_enter func46,ntmps46
  go_upto_region 1 with (first
    |(with_reducible refine kB ?_
      refine kr yx 70 _ rfl c0 (.agg (c0).toArray) rfl rfl (by rw[H.out];kernel_rfl) ?_;intro W0 A1 A3 A4;have I:=hid A1;have Q:=hid A3;have J:=hid A4
      clear A1 A3 A4)
    |(with_reducible refine kA ?_
      refine ks yx 41 rfl (List.replicate 32 (.int .u8 0)) yy ?_;intro m A5 A6 A7;have K:=hid A5;have R:=hid A6;have S:=hid A7
      clear A5 A6 A7))
  obtain⟨zb,n⟩:∃x,w.heap.size=x:=⟨_,rfl⟩;obtain⟨G,q⟩:∃x,W0.heap.size=x:=⟨_,rfl⟩;have A:=hid (I.trans (K.mono I.size));have E:=hid (show w.heap.size<G∧G<m.heap.size by have:=J.out;have:=S.out;omega);have T:Hid (m.heap[zb]?=some (.cells c0.toArray 70 (0,0))):=hid (by rw[←n];exact(K.block _ (by have:=J.out;omega)).trans Q.out);have U:Hid (m.heap[G]?=some (.cells (List.replicate 32 (.int .u8 0)).toArray 41 (0,0))):=hid (by rw[←q];exact R.out);rw[n,q]
  try go_frame
  clear n q Q R I K J S;by_cases hok:zk o=true∧¬262144<(J5 o).length
  ·have HR:=hid hok.1;have d:=hid hok.2
   have F:=hid (show JL o=0 by unfold JL;rw[if_pos hok.1,if_neg hok.2]);have Aa:(J5 o).length≤1099511627776:=by have:=hok.2;omega
   clear hok
   go_upto_region 4 with (first
     |(with_reducible refine k6 ?_
       refine k5 yx (kc 70 _ rfl (p:=⟨zb,0,none⟩) rfl (vf T.out H.out)) ?_)
     |(go_at_call 91;refine(UH o _ m ((P.keep A.out).more A.size) hl1 hl2 hl3 hl4 (b.next A.out) hone).mono ?_;rintro e Z ⟨N,O⟩;unfold JT at O;rw[if_pos HR.out,if_neg d.out] at O;obtain⟨A2,c2,rfl,A8,A9⟩:=O;have f:=hid A8;have g:=hid A9
       clear A8 A9;have C:=hid (A.trans (N.mono A.size));have D:=hid ((N.block G E.2).trans U.out);clear N))
   have B:=hid (show Below Z.heap.size Z (Z.alloc (.cells #[.slice A2 (J5 o).length c2] 169)) from (qB _ _).alloc (qR _) _)
   go_wp2_with (first
     |(go_at_call 92;refine(shaSum_any (J5 o) A2 c2 Z.heap.size 0 1 (Z.alloc (.cells #[.slice A2 (J5 o).length c2] 169)) g.out Aa yq (k4 (heap_alloc_new Z _) 0) ((f.keep B.out).more B.size) ((c.next C.out).next B.out)).mono ?_;rintro e W5 ⟨rfl,r⟩;have i:=hid ((r.block G (qL (qX D.out) B.size)).trans ((B.block G (qX D.out)).trans D.out));have V:=hid (C.trans ((B.trans (r.mono B.size)).mono C.size));clear r)
     |(with_reducible refine kw ?_
       refine ko yx 41 _ _ rfl G 0 [] (List.replicate 32 (.int .u8 0)) [] (idV (ZJ (J5 o))) 41 (.agg (idV (ZJ (J5 o))).toArray) rfl rfl rfl rfl (by simpa using i.out) (by rw[Zm,J0];rfl) (by rw[Zm,J0];kernel_rfl) (kV _) ?_;intro V6 X Y s;have L:=hid X;have M:Hid (V6.heap[G]?=some (.cells (idV (ZJ (J5 o))).toArray 41 (0,0))):=hid (by simpa using Y);clear X Y s))
   have W:=hid (show (idV (ZJ (J5 o))).length=32 by rw[Zm,J0]);refine bodyPost_ret (K8 results46 _ _ rfl rfl (qV _ G 0 41 (idV (ZJ (J5 o))) _ (fun j u hj=>by rw[qZ];exact(k4 M.out j).trans hj) underlying41 rfl (by first|kernel_rfl|(rw[W.out];kernel_rfl)))) rfl ?_;exact⟨by unfold idD;rw[if_pos F.out,F.out];rfl,V.trans (L.below V.size fun kk hk e=>by have:=E.out;omega)⟩
  ·obtain⟨t,a⟩:∃t:Int,JL o=t:=⟨_,rfl⟩;have y:t≠0:=by
     rw[←a];unfold JL
     split
     ·split
      ·decide
      ·exact absurd ⟨‹_›,‹_›⟩ hok
     ·decide
   have F:=hid a;have e1:(t != 0)=true:=by rw[bne_iff_ne];exact y
   have k:Hid (∀(e:Ending) (w':World),JT o e w'→e=.returned (.tuple #[.slice none 0 0,.int .i64 t])):=hid (fun e w' h=>by
     unfold JT at h;rw[←a];unfold JL
     split at h
     ·rename_i O;rw[if_pos O]
      split at h
      ·rename_i h2;rw[if_pos h2];exact h
      ·rename_i h2;exact absurd ⟨O,h2⟩ hok
     ·rename_i O;rw[if_neg O];exact h)
   have l:=hid y;clear hok a y
   go_wp2_with (first
     |(with_reducible refine k6 ?_
       refine k5 yx (kc 70 _ rfl (p:=⟨zb,0,none⟩) rfl (vf T.out H.out)) ?_)
     |(go_at_call 91;refine(UH o _ m ((P.keep A.out).more A.size) hl1 hl2 hl3 hl4 (b.next A.out) hone).mono ?_;rintro e Z ⟨N,O⟩;obtain rfl:=k.out _ _ O;clear O;have C:=hid (A.trans (N.mono A.size));have D:=hid ((N.block G E.2).trans U.out);clear N)
     |(with_reducible refine kJ ?_
       refine k5 yx (kj 41 #[] rfl (id0_built _)) ?_)
     |(with_reducible refine kw ?_
       refine ko yx 41 _ _ rfl G 0 [] (List.replicate 32 (.int .u8 0)) [] (idV (List.replicate 32 0)) 41 (.agg (idV (List.replicate 32 0)).toArray) rfl rfl rfl rfl (by simpa using D.out) (by rw[Zm,List.length_replicate];rfl) (by rw[Zm,List.length_replicate];kernel_rfl) (kV _) ?_;intro V6 X Y s;have L:=hid X;have M:Hid (V6.heap[G]?=some (.cells (idV (List.replicate 32 0)).toArray 41 (0,0))):=hid (by simpa using Y);clear X Y s))
   refine bodyPost_ret (K8 results46 _ _ rfl rfl (qV _ G 0 41 (idV (List.replicate 32 0)) _ (fun j u hj=>by rw[qZ];exact(k4 M.out j).trans hj) underlying41 rfl (by first|kernel_rfl|(rw[W.out];kernel_rfl)))) rfl ?_;exact⟨by unfold idD;rw[F.out,if_neg l.out];rfl,C.trans (L.below C.size fun kk hk e=>by have:=E.out;omega)⟩
def AddGives(w:World)(B s:Nat)(S S':kz)(q:j5)(n:Int)(m:Nat)(e:Ending)(w':World):Prop:=e=.returned (.int .i64 n)∧∃q',StateAt w' B s S' q'∧But (StX s S q) w w'∧NewerX w s S S' q q'∧q'.nd≤q.nd+m
theorem AddGives.same{w w':World}{B s:Nat}{S:kz}{q:j5}{n:Int}{m:Nat}(h:StateAt w B s S q)(hb:Below w.heap.size w w'):AddGives w B s S S q n m (.returned (.int .i64 n)) w':=⟨rfl,q,h.keep hb,But.of_below hb,NewerX.refl _ _ _ _,Nat.le_add_right _ _⟩
def chC(t:Int)(Ad:Option Addr)(nd cd:Nat)(au:ByteArray)(Ao:Option Addr)(no co:Nat):List Value:=[.int .i64 t,.slice Ad nd cd,.string au,.slice Ao no co]
def obC(t:Int)(Ad:Option Addr)(nd cd:Nat)(au:ByteArray)(Ao:Option Addr)(no co:Nat):List Value:=.int .u8 1::(chC t Ad nd cd au Ao no co++[.slice none 0 0,.slice none 0 0,.string kM,.string kM,.int .i64 0])
theorem Zz(t:Int)(Ad:Option Addr)(nd cd:Nat)(au:ByteArray)(Ao:Option Addr)(no co:Nat)(w:World):(Instr.build 70 #[(0,.int .u8 1),(1,.agg (chC t Ad nd cd au Ao no co).toArray)]).run prog w=.ok (.agg (obC t Ad nd cd au Ao no co).toArray) w:=by kernel_rfl
theorem Q7(t:Int)(Ad:Option Addr)(nd cd:Nat)(au:ByteArray)(Ao:Option Addr)(no co:Nat):∀u∈chC t Ad nd cd au Ao no co,u.oneCell'=true:=by
  unfold chC;intro u A;simp only[List.mem_cons,List.not_mem_nil,or_false] at A;rcases A with rfl|rfl|rfl|rfl<;>rfl
theorem vg{w:World}{B:Nat}{c:kQ}{Ad:Option Addr}{cd:Nat}{Ao:Option Addr}{co:Nat}(hok:Zt c)(hops:∀x∈c.2.2.2,KR x)(hau:c.2.2.1.size≤maxLen)(h1:Sl w B Ad c.2.1.length 32 (zf c.2.1))(h2:Sl w B Ao c.2.2.2.length 70 (ke opV c.2.2.2)):ObjIn w B (.agg (obC c.1 Ad c.2.1.length cd c.2.2.1 Ao c.2.2.2.length co).toArray) (1,c,kK):=
  ⟨⟨hok,(fun x A=>by cases A),(fun x A=>by cases A),(by decide:(Lit.int .i64 0).wf=true)⟩,hops,hau,(by show (0:Nat)≤maxLen;omega),(by show (0:Nat)≤maxLen;omega),Ad,cd,Ao,co,none,0,none,0,rfl,h1,h2,Sl.nil,Sl.nil⟩
theorem JH(o:ZT):(idD o).length=32:=by
  unfold idD
  split
  ·exact J0 _
  ·simp
theorem Jy{w:World}{zo:Nat}{v:Value}(h:w.heap[zo]?=some (.cells [v].toArray 29 (0,0))):(loadVar 29 ⟨zo,0,none⟩).run prog w=.ok v w:=load_err15 h
theorem add_bad(B s:Nat)(S:kz)(q:j5)(i:List UInt8)(c:kQ)(Ad:Option Addr)(cd:Nat)(Ao:Option Addr)(co:Nat)(w:World)(h:StateAt w B s S q)(hi:jp i)(h1:Sl w w.heap.size Ad c.2.1.length 32 (zf c.2.1))(h2:Sl w w.heap.size Ao c.2.2.2.length 70 (ke opV c.2.2.2))(hf:Q6 S q c)(hg:Glob w)(hsg:ShaG w)(he:encC c≠0):Calls prog 17 #[.pointer (some ⟨s,0,none⟩),.agg (idV i).toArray,.agg (chC c.1 Ad c.2.1.length cd c.2.2.1 Ao c.2.2.2.length co).toArray] w (AddGives w B s S S q (encC c) c.2.2.2.length):=by
  have r:=hid he;clear he;have t:=hid h;have HI:=hid hi;have H1:=hid h1;have H2:=hid h2;have M:=hid hf;have HG:=hid hg;have v:=hid hsg
  have Av:∀(fn:Fn) (first cap:Array Value) (w:World),(Instr.makeFunc fn first cap).run prog w=.ok (.func fn first cap) w:=fun _ _ _ _=>rfl
  have Aq:=kf i;have An:i.length=32:=hi;clear h hi h1 h2 hf hg hsg
  go_enter_defers func17,ntmps17
  go_upto_region 1 with (first
    |(with_reducible refine kB ?_
      refine kr yx 41 _ rfl (idV i) _ rfl rfl (by rw[Aq,An];kernel_rfl) ?_;intro W0 A5 A6 A7;have D:=hid A5;have G:=hid A6;have W:=hid A7
      clear A5 A6 A7)
    |(with_reducible refine kB ?_
      refine kr yx 37 _ rfl (chC c.1 Ad c.2.1.length cd c.2.2.1 Ao c.2.2.2.length co) _ rfl rfl yy ?_;intro W1 A8 A9 Aa;have E:=hid A8;have N:=hid A9;have X:=hid Aa
      clear A8 A9 Aa)
    |(with_reducible refine kA ?_
      refine wp_allocM1 yx 29 rfl (.int .i64 0) rfl (fun _=>by kernel_rfl) ?_;intro W2 Ab Ac Ae;have H:=hid Ab;have I:=hid Ac;have x:=hid Ae
      clear Ab Ac Ae))
  obtain⟨b4,T⟩:∃z,w.heap.size=z:=⟨_,rfl⟩;obtain⟨o,U⟩:∃z,W0.heap.size=z:=⟨_,rfl⟩;obtain⟨L,Af⟩:∃z,W1.heap.size=z:=⟨_,rfl⟩;have A:Hid (Below w.heap.size w W2):=hid ((D.trans (E.mono D.size)).trans (H.mono (D.trans (E.mono D.size)).size));have J:=hid ((H.block w.heap.size (qL (qX G.out) E.size)).trans ((E.block w.heap.size (qX G.out)).trans G.out));have F:=hid ((H.block W0.heap.size (qX N.out)).trans N.out);rw[T] at J ⊢;rw[U] at F ⊢;rw[Af] at I ⊢;have V:=hid (show w.heap.size≤b4∧w.heap.size≤o∧w.heap.size≤L∧b4<o∧o<L from by have:=W.out;have:=X.out;omega);have y:=hid (t.keep A.out);clear D E H W X x G N T U Af;have Y:=hid (show W2.rangeAt o 0 (chC c.1 Ad c.2.1.length cd c.2.2.1 Ao c.2.2.2.length co) from fun j u hj=>by rw[qZ];exact(k4 F.out j).trans hj);have Z:=hid (Ur (1,c,kK) _ W2 (vg (cd:=cd) (co:=co) M.ok M.ops M.author ((H1.keep A.out).more A.size) ((H2.keep A.out).more A.size)) (by have:=M.deps;show c.2.1.length≤_;omega) (by have:=M.len;show c.2.2.2.length≤_;omega) (by show (0:Nat)≤_;omega) (by show (0:Nat)≤_;omega) (HG.next A.out) (v.next A.out) (hid rfl));have A2:(idV (idD (1,c,kK))).length=32:=by rw[kf];exact JH _
  go_upto_region 4 with (first
    |(with_reducible refine k6 ?_
      refine k5 yx (kc 37 _ rfl (p:=⟨o,0,none⟩) rfl (qV _ o 0 _ _ _ Y.out underlying37 rfl yy)) ?_)
    |(with_reducible refine kJ ?_
      refine k5 yx (kj 70 _ rfl (by simp only[List.map_toArray,List.map_cons,List.map_nil];exact Zz _ _ _ _ _ _ _ _ _)) ?_)
    |(go_at_call 46;refine Z.mono ?_;rintro e W3 ⟨rfl,A3⟩;have K:=hid A3;have C:=hid ((A3.block L (qX I.out)).trans I.out);clear A3)
    |(with_reducible refine kA ?_
      refine ks yx 41 rfl (idV k7) yy ?_;intro W4 T Ag Ar;have a:=hid T;have b:=hid Ag
      have O:=hid ((T.block L (qX C.out)).trans C.out);clear T Ag Ar)
    |(with_reducible refine kw ?_
      refine ko yx 41 _ _ rfl W3.heap.size 0 [] (idV k7) [] (idV (idD (1,c,kK))) 41 (.agg (idV (idD (1,c,kK))).toArray) rfl rfl rfl rfl (by simpa using b.out) (by rw[A2];rfl) (by rw[A2];kernel_rfl) (kV _) ?_;intro W5 U Ah As;have d:=hid U;have P:Hid (W5.heap[W3.heap.size]?=some (.cells (idV (idD (1,c,kK))).toArray 41 (0,0))):=hid (by simpa using Ah);have f:=hid ((U.block L (qX O.out) (by have:=qX C.out;omega)).trans O.out);clear U Ah As)
    |(with_reducible refine kw ?_
      refine ko yx 29 _ _ rfl L 0 [] [.int .i64 0] [] [.int .i64 (JL (1,c,kK))] 29 (.int .i64 (JL (1,c,kK))) rfl rfl rfl rfl (by simpa using f.out) rfl yy (by intro u hu;rw[List.mem_singleton.1 hu];rfl) ?_;intro W6 A4 Ai At;have g:=hid A4;have l:Hid (W6.heap[L]?=some (.cells [Value.int .i64 (JL (1,c,kK))].toArray 29 (0,0))):=hid (by simpa using Ai);have m:=hid ((A4.block W3.heap.size (qX P.out) (by have:=qX C.out;omega)).trans P.out);clear A4 Ai At))
  obtain⟨b7,n⟩:∃z,W3.heap.size=z:=⟨_,rfl⟩;rw[n] at m ⊢;have R:But (fun k=>k=L) W2 W6:=((But.of_below (K.trans (a.mono K.size))).trans d.out fun k hk e=>by have e2:k=W3.heap.size:=e;have:=K.size;omega).trans g.out fun k hk e=>e
  have Ak:=hid R;have Q:Hid (Below w.heap.size w W6):=hid (A.trans (R.below A.size fun k hk e=>by have:=V.out;omega));have Al:=hid ((R.block b4 (qX J.out) (by have:=V.out;omega)).trans J.out);have Am:=hid ((R.block o (qX F.out) (by have:=V.out;omega)).trans F.out);have Ap:=hid (show L<b7∧b7<W6.heap.size from⟨by have:=qX C.out;omega,qX m.out⟩);clear R K C a b O d P f g n J F I Y Z y;have ce:W6.cell? ⟨L,0,none⟩=some (.int .i64 (JL (1,c,kK))):=k4 l.out 0;have Aw:¬JL (1,c,kK)=0:=r.out
  go_wp2_with (first
    |(with_reducible refine kw ?_
      refine ko yx 29 _ _ rfl L 0 [] [.int .i64 (JL (1,c,kK))] [] [.int .i64 (JL (1,c,kK))] 29 (.int .i64 (JL (1,c,kK))) rfl rfl rfl rfl (by simpa using l.out) rfl yy (by intro u hu;rw[List.mem_singleton.1 hu];rfl) ?_;intro W7 n Aj Au;have A0:=hid (n.below (B:=w.heap.size) Q.size (fun k hk e=>by have:=V.out;omega));have A1:Hid (W7.heap[L]?=some (.cells [Value.int .i64 (JL (1,c,kK))].toArray 29 (0,0))):=hid (by simpa using Aj);clear n Aj Au))
  exact⟨_,jk results17 _ _ rfl (Jy A1.out),AddGives.same t.out (Q.trans A0.out)⟩
theorem sizeInt15:(prog.info? 3).map (·.size)=some 1:=by kernel_rfl
theorem textsN_snoc(l:List OpD){j:Nat}(hj:j<l.length):ve (l.take (j+1))=ve (l.take j)+jV l[j].2.2.2.1:=by
  unfold ve;rw[List.take_succ_eq_append_getElem hj,List.map_append,List.sum_append];simp
theorem textsN_le(l:List OpD)(j:Nat):ve (l.take j)≤ve l:=by
  unfold ve
  conv=>rhs;rw[←List.take_append_drop j l]
  rw[List.map_append,List.sum_append];omega
theorem mid_st{t:TypeId}(h:midTag t=true):stTag t=false:=by
  unfold midTag at h;simp only[Bool.or_eq_true,beq_iff_eq] at h;rcases h with ((rfl|rfl)|rfl)|rfl<;>decide
theorem entry_built(t:Int)(A1:Option Addr)(n1 c1:Nat)(au:ByteArray)(A2:Option Addr)(n2 c2:Nat)(A3:Option Addr)(n3 c3:Nat)(w:World):(Instr.build 105 #[(0,.agg (chC t A1 n1 c1 au A2 n2 c2).toArray),(1,.slice A3 n3 c3)]).run prog w=.ok (.agg [.int .i64 t,.slice A1 n1 c1,.string au,.slice A2 n2 c2,.slice A3 n3 c3].toArray) w:=by kernel_rfl
theorem fitsAt_ns{S:kz}{i:List UInt8}{t:Int}:∀{l:List OpD} {m0 mk:List zE} {ns:List Nat},KQ S i t m0 l=some (mk,ns)→m0.length≤mk.length∧∀n∈ns,n≤mk.length
  | [],m0,mk,ns,h=>by
    cases h
    exact⟨Nat.le_refl _,fun n A=>by cases A⟩
  |x::l,m0,mk,ns,h=>by
   unfold KQ at h;cases hf:KU S i t m0 x with
   |none=>rw[hf] at h;cases h
   |some mk2=>
    rw[hf] at h;dsimp only at h;obtain⟨p,hp,e⟩:=Option.map_eq_some_iff.1 h;obtain⟨E,F⟩:=p;cases e
    obtain⟨B,D⟩:=fitsAt_ns hp;have C:m0.length≤mk2.length:=by
        unfold KU at hf
        split at hf
        ·cases hf;simp
        ·split at hf
         ·cases hf
         ·split at hf
          ·cases hf
          ·split at hf
           ·split at hf
            ·cases hf;exact Nat.le_refl _
            ·cases hf
           ·split at hf
            ·split at hf
             ·cases hf;simp
             ·cases hf
            ·cases hf;exact Nat.le_refl _
    refine⟨Nat.le_trans C B,fun n A=>?_⟩;rcases List.mem_cons.1 A with rfl|A
    ·exact Nat.le_trans C B
    ·exact D n A
theorem StateAt.keepE{w w':World}{B s:Nat}{S:kz}{q:j5}{ze:Nat}{cur:Array Value}(h:StateAt w B s S q)(hb:But (fun k=>k=ze) w w')(he:w.heap[ze]?=some (.cells cur 29 (0,0))):StateAt w' B s S q:=by
  have C:∀{k:Nat} {cur:Array Value} {t:TypeId} {G:Nat×Nat},w.heap[k]?=some (.cells cur t G)→t≠29→¬k=ze:=fun D L e=>jr D he L e
  have H:∀{k:Nat},(∃x y,w.heap[k]?=some (.map x y))→¬k=ze:=fun D e=>Jt he D e.symm
  have I:KeepR w w':=KeepR.but hb fun k M R T G J A=>by
    subst M;rw[he] at A;injection A with A;injection A with _ A;subst A;exact absurd J yv
  refine⟨(hb.block s (qX h.box) (C h.box yv)).trans h.box,h.low,hb.map h.mapD (H h.mapD_obj),hb.map h.mapC (H h.mapC_obj),h.ne,hb.own h.claims fun g N e=>?_,h.claimsOk,fun k d E=>⟨(h.docs k d E).1,(h.docs k d E).2.but hb (fun j O e=>?_) I⟩,h.apart,fun i e K=>⟨(h.entries i e K).1,(h.entries i e K).2.keep I⟩⟩
  ·obtain⟨P,F⟩:=kE h.claims N;exact C F yv e
  ·obtain⟨P,U,Q,F⟩:=(h.docs k d E).2.tagged O;exact C F (by rcases Q with rfl|rfl<;>decide) e
def Q8(ns:List Nat):List Value:=ns.map fun (n:Nat)=>Value.int .i64 (n:Int)
theorem intsV_snoc(ns:List Nat)(n:Nat):Q8 (ns++[n])=Q8 ns++[.int .i64 (n:Int)]:=by simp [Q8]
theorem opZ15(w:World):(zeroValue 112).run prog w=.ok (.agg (opV (0,kg,kg,kM,0,kM)).toArray) w:=by kernel_rfl
theorem infoInt15:(prog.info? 3).map (fun i=>(i.zero,i.size,i.bytes))=some (some (.int .i64 0),1,8):=by kernel_rfl
def adderZ:List Value:=Value.pointer none::(idV k7++[.int .i64 0,.slice none 0 0,.string kM,.slice none 0 0,.slice none 0 0])
theorem infoAdder:(prog.info? 127).map (fun i=>(i.zero,i.size))=some (some (.agg adderZ.toArray),38):=by kernel_rfl
theorem adder_built(s:Nat)(i:List UInt8)(hi:jp i)(t:Int)(au:ByteArray)(A1 A2:Option Addr)(n1 c1 n2 c2:Nat)(w:World):(Instr.build 127 #[(0,.pointer (some ⟨s,0,none⟩)),(1,.agg (idV i).toArray),(2,.agg (chC t A1 n1 c1 au A2 n2 c2).toArray)]).run prog w=.ok (.agg (Value.pointer (some ⟨s,0,none⟩)::(idV i++[.int .i64 t,.slice A1 n1 c1,.string au,.slice A2 n2 c2,.slice none 0 0])).toArray) w:=by
  obtain⟨j,B⟩:∃j,prog.info? 127=some j:=by
    cases A:prog.info? 127 with
    |none=>have:=infoAdder;rw[A] at this;cases this
    |some j=>exact⟨j,rfl⟩
  have C:j.zero=some (.agg adderZ.toArray):=by
    have:=infoAdder;rw[B] at this;exact congrArg Prod.fst (Option.some.inj this)
  have h:=zl (P:=prog) B underlying127 C [[.pointer none],idV k7,chC 0 none 0 0 kM none 0 0,[.slice none 0 0]] rfl (places:=[(0,1),(1,32),(33,4),(37,1)]) yy yy [(0,.pointer (some ⟨s,0,none⟩)),(1,.agg (idV i).toArray),(2,.agg (chC t A1 n1 c1 au A2 n2 c2).toArray)] (by
    intro q A;simp only[List.mem_cons,List.not_mem_nil,or_false] at A;rcases A with rfl|rfl|rfl
    ·exact⟨by show 0<4;omega,rfl⟩
    ·exact⟨by show 1<4;omega,by show (idV i).toArray.size=32;rw[List.size_toArray,kf];exact hi⟩
    ·exact⟨by show 2<4;omega,rfl⟩)
  have D:=run_build (P:=prog) w 127 #[(0,.pointer (some ⟨s,0,none⟩)),(1,.agg (idV i).toArray),(2,.agg (chC t A1 n1 c1 au A2 n2 c2).toArray)] _ h;refine D.trans ?_;simp [Value.cells,chC]
theorem U0{P:Program}{fn:Func}{t1 t2:Array Value}{R:Ending→World→Prop}(h:∀w,(results fn t1).run P w=(results fn t2).run P w):∀(ds:List Deferred) (u:FrameMode) (w:World),Leaves P fn t1 R ds u w→Leaves P fn t2 R ds u w
  | [],.returning,w,⟨v,h1,h2⟩=>⟨v,(h w).symm.trans h1,h2⟩
  | [],.panicking _,w,h1=>h1
  |d::ds,u,w,⟨h0,fv,cap,f,args,h1,h2,h3⟩=>⟨h0,fv,cap,f,args,h1,h2,CallsD.mono h3 fun e u' w' hk=>by
    cases e with
    |returned v=>exact U0 h ds _ _ hk
    |panicked c=>exact U0 h ds _ _ hk
    |outgrown=>exact hk⟩
theorem results_six{fn:Func}{ty:TypeId}(h:fn.results=#[.cell 6 ty])(t:Array Value){k:Nat}(hk:k≠6)(v:Value)(w:World):(results fn (t.setIfInBounds k v)).run prog w=(results fn t).run prog w:=by
  have e:(t.setIfInBounds k v)[6]?.getD undef=t[6]?.getD undef:=by rw[Array.getElem?_setIfInBounds_ne hk]
  simp only[results,h];simp [e]
theorem jf{R:Ending→World→Prop}{k:Nat}{v:Value}{ch:List PanicEntry}{a:Act}{w:World}(hk:k≠6)(h:bodyPostD prog Tryz.f17 R (.panic ch) (a.put (some k) v) w):bodyPostD prog Tryz.f17 R (.panic ch) a w:=
  U0 (fun w=>results_six results17 a.tmps hk v w) _ _ _ h
theorem addAt_have{S:kz}{is i:List UInt8}{c:kQ}(h1:is=i)(h2:(kC S i).isSome=false):Kt S is i c=(if c.2.1.all (fun d=>(kC S d).isSome)=false then ((12:Int),S) else if c.2.1.all (fun d=>decide (jM S d<c.1))=false then (21,S) else match KQ S i c.1 [] c.2.2.2 with
    |none=>(22,S)
    |some (mk,ns)=>(0,Jg i c.1 0 (S.1,S.2.1,S.2.2++[(i,c,mk)]) c.2.2.2 ns)):=by
  unfold Kt;rw[if_neg (fun q=>q h1),if_neg (by rw[h2];decide)];rfl
theorem add_good(B s:Nat)(S:kz)(q:j5)(i:List UInt8)(c:kQ)(Ad:Option Addr)(cd:Nat)(Ao:Option Addr)(co:Nat)(w:World)(h:StateAt w B s S q)(hi:jp i)(h1:Sl w w.heap.size Ad c.2.1.length 32 (zf c.2.1))(h2:Sl w w.heap.size Ao c.2.2.2.length 70 (ke opV c.2.2.2))(hf:Q6 S q c)(hg:Glob w)(hsg:ShaG w)(he:encC c=0):Calls prog 17 #[.pointer (some ⟨s,0,none⟩),.agg (idV i).toArray,.agg (chC c.1 Ad c.2.1.length cd c.2.2.1 Ao c.2.2.2.length co).toArray] w (AddGives w B s S (Kt S (idC c) i c).2 q (Kt S (idC c) i c).1 c.2.2.2.length):=by
  have Ch:=hid he;clear he;have HS:=hid h;have T:=hid hi;have H1:=hid h1;have H2:=hid h2;have G:=hid hf;have HG:=hid hg;have Dh:=hid hsg
  have EV:∀(fn:Fn) (first cap:Array Value) (w:World),(Instr.makeFunc fn first cap).run prog w=.ok (.func fn first cap) w:=fun _ _ _ _=>rfl
  have DX:=kf i;have Dq:i.length=32:=hi;clear h hi h1 h2 hf hg hsg
  go_enter_defers func17,ntmps17
  go_upto_region 1 with (first
    |(with_reducible refine kB ?_
      refine kr yx 41 _ rfl (idV i) _ rfl rfl (by rw[DX,Dq];kernel_rfl) ?_;intro W0 DY DZ E0;have AX:=hid DY;have Be:=hid DZ;have Ci:=hid E0
      clear DY DZ E0)
    |(with_reducible refine kB ?_
      refine kr yx 37 _ rfl (chC c.1 Ad c.2.1.length cd c.2.2.1 Ao c.2.2.2.length co) _ rfl rfl yy ?_;intro W1 E1 E2 E3;have AY:=hid E1;have Bx:=hid E2;have Cj:=hid E3
      clear E1 E2 E3)
    |(with_reducible refine kA ?_
      refine wp_allocM1 yx 29 rfl (.int .i64 0) rfl (fun _=>by kernel_rfl) ?_;intro W2 E4 E5 E6;have Bf:=hid E4;have Bg:=hid E5;have Di:=hid E6
      clear E4 E5 E6))
  obtain⟨b4,Bu⟩:∃z,w.heap.size=z:=⟨_,rfl⟩;obtain⟨L,C9⟩:∃z,W0.heap.size=z:=⟨_,rfl⟩;obtain⟨R,E7⟩:∃z,W1.heap.size=z:=⟨_,rfl⟩;have A5:Hid (Below w.heap.size w W2):=hid ((AX.trans (AY.mono AX.size)).trans (Bf.mono (AX.trans (AY.mono AX.size)).size));have Al:=hid ((Bf.block w.heap.size (qL (qX Be.out) AY.size)).trans ((AY.block w.heap.size (qX Be.out)).trans Be.out));have AZ:=hid ((Bf.block W0.heap.size (qX Bx.out)).trans Bx.out);rw[Bu] at Al ⊢;rw[C9] at AZ ⊢;rw[E7] at Bg ⊢;have HL:=hid (show w.heap.size≤b4∧w.heap.size≤L∧w.heap.size≤R∧b4<L∧L<R from by have:=Ci.out;have:=Cj.out;omega);have Dj:=hid (HS.keep A5.out);clear AX AY Bf Ci Cj Di Be Bx Bu C9 E7;have B0:=hid (show W2.rangeAt L 0 (chC c.1 Ad c.2.1.length cd c.2.2.1 Ao c.2.2.2.length co) from fun j u hj=>by rw[qZ];exact(k4 AZ.out j).trans hj);have Ck:=hid (Ur (1,c,kK) _ W2 (vg (cd:=cd) (co:=co) G.ok G.ops G.author ((H1.keep A5.out).more A5.size) ((H2.keep A5.out).more A5.size)) (by have:=G.deps;show c.2.1.length≤_;omega) (by have:=G.len;show c.2.2.2.length≤_;omega) (by show (0:Nat)≤_;omega) (by show (0:Nat)≤_;omega) (HG.next A5.out) (Dh.next A5.out) (hid rfl));have Dr:(idV (idD (1,c,kK))).length=32:=by rw[kf];exact JH _
  go_upto_region 4 with (first
    |(with_reducible refine k6 ?_
      refine k5 yx (kc 37 _ rfl (p:=⟨L,0,none⟩) rfl (qV _ L 0 _ _ _ B0.out underlying37 rfl yy)) ?_)
    |(with_reducible refine kJ ?_
      refine k5 yx (kj 70 _ rfl (by simp only[List.map_toArray,List.map_cons,List.map_nil];exact Zz _ _ _ _ _ _ _ _ _)) ?_)
    |(go_at_call 46;refine Ck.mono ?_;rintro e W3 ⟨rfl,Ca⟩;have Ap:=hid Ca;have AB:=hid ((Ca.block R (qX Bg.out)).trans Bg.out);clear Ca)
    |(with_reducible refine kA ?_
      refine ks yx 41 rfl (idV k7) yy ?_;intro W4 Bu CJ Ds;have B1:=hid Bu;have Cl:=hid CJ
      have By:=hid ((Bu.block R (qX AB.out)).trans AB.out);clear Bu CJ Ds)
    |(with_reducible refine kw ?_
      refine ko yx 41 _ _ rfl W3.heap.size 0 [] (idV k7) [] (idV (idD (1,c,kK))) 41 (.agg (idV (idD (1,c,kK))).toArray) rfl rfl rfl rfl (by simpa using Cl.out) (by rw[Dr];rfl) (by rw[Dr];kernel_rfl) (kV _) ?_;intro W5 C9 E8 EC;have Cm:=hid C9;have Bz:Hid (W5.heap[W3.heap.size]?=some (.cells (idV (idD (1,c,kK))).toArray 41 (0,0))):=hid (by simpa using E8);have Cn:=hid ((C9.block R (qX By.out) (by have:=qX AB.out;omega)).trans By.out);clear C9 E8 EC)
    |(with_reducible refine kw ?_
      refine ko yx 29 _ _ rfl R 0 [] [.int .i64 0] [] [.int .i64 (JL (1,c,kK))] 29 (.int .i64 (JL (1,c,kK))) rfl rfl rfl rfl (by simpa using Cn.out) rfl yy (by intro u hu;rw[List.mem_singleton.1 hu];rfl) ?_;intro W6 Dt E9 ED;have Co:=hid Dt;have Ab:Hid (W6.heap[R]?=some (.cells [Value.int .i64 (JL (1,c,kK))].toArray 29 (0,0))):=hid (by simpa using E9);have BA:=hid ((Dt.block W3.heap.size (qX Bz.out) (by have:=qX AB.out;omega)).trans Bz.out);clear Dt E9 ED))
  obtain⟨b7,AA⟩:∃z,W3.heap.size=z:=⟨_,rfl⟩;rw[AA] at BA ⊢;have C0:But (fun k=>k=R) W2 W6:=((But.of_below (Ap.trans (B1.mono Ap.size))).trans Cm.out fun k C e=>by have e2:k=W3.heap.size:=e;have:=Ap.size;omega).trans Co.out fun k C e=>e
  have CT:=hid C0;have U:Hid (Below w.heap.size w W6):=hid (A5.trans (C0.below A5.size fun k C e=>by have:=HL.out;omega));have AJ:=hid ((C0.block b4 (qX Al.out) (by have:=HL.out;omega)).trans Al.out);have B8:=hid ((C0.block L (qX AZ.out) (by have:=HL.out;omega)).trans AZ.out);have EB:=hid (show R<b7∧b7<W6.heap.size from⟨by have:=qX AB.out;omega,qX BA.out⟩);clear C0 Ap AB B1 Cl By Cm Bz Cn Co AA Al AZ Bg B0 Ck Dj;have ce:W6.cell? ⟨R,0,none⟩=some (.int .i64 (JL (1,c,kK))):=k4 Ab.out 0;have Ea:JL (1,c,kK)=0:=Ch.out;rw[Ea] at ce Ab;clear Ea CT;have Bh:Hid (jp (idD (1,c,kK))):=hid (JH _)
  go_upto_region 7 with fail
  clear ce;have BB:=hid (show W6.rangeAt b7 0 (idV (idD (1,c,kK))) from fun j u hj=>by rw[qZ];exact(k4 BA.out j).trans hj);have Ac:=hid (show W6.rangeAt b4 0 (idV i) from fun j u hj=>by rw[qZ];exact(k4 AJ.out j).trans hj);have BC:=hid (HS.keep U.out);by_cases his:idD (1,c,kK)=i
  rotate_left
  ·have EQ:Hid (decide (idD (1,c,kK)=i)=false):=hid (dF his);have N:Hid (Kt S (idC c) i c=(18,S)):=hid (by unfold Kt;rw[if_pos (show idC c≠i from his)]);clear his
   go_wp2_with (first
     |(with_reducible refine k6 ?_
       refine k5 yx (ldD Bh.out BB.out) ?_;go_frame)
     |(with_reducible refine k6 ?_
       refine k5 yx (ldD T.out Ac.out) ?_;go_frame)
     |(with_reducible refine kG ?_
       refine k5 yx (eqD Bh.out T.out EQ.out) ?_;go_frame;try simp only[nTF])
     |(go_at_call 51;refine(JR 18 _).mono ?_;rintro e wn ⟨rfl,Ax⟩;cases Ax))
   refine leaves_cons (f:=50) (args:=#[.pointer (some ⟨R,0,none⟩)]) yq (by simp [go_sem]) ?_;refine(uZ R 18 0 _ Ab.out).mono ?_;rintro e u' w9 ⟨rfl,AV,Bv,Ay⟩;simp only[AV];refine⟨_,jk results17 _ _ rfl (Jy Bv),?_⟩;rw[N.out];exact AddGives.same HS.out (U.trans (Ay.below U.size fun k C e=>by have:=HL.out;omega))
  have EQ:Hid (decide (idD (1,c,kK)=i)=true):=hid (dT his);have Cp:=hid his;clear his
  go_upto_region 8 with (first
    |(with_reducible refine k6 ?_
      refine k5 yx (ldD Bh.out BB.out) ?_;go_frame)
    |(with_reducible refine k6 ?_
      refine k5 yx (ldD T.out Ac.out) ?_;go_frame)
    |(with_reducible refine kG ?_
      refine k5 yx (eqD Bh.out T.out EQ.out) ?_;go_frame;try simp only[nTF])
    |(go_at_call 51;refine(JD 18 _).mono ?_;rintro e wn ⟨rfl,Ax⟩;cases Ax))
  clear BB EQ;cases hh:(kC S i).isSome
  rotate_left
  ·have HH:=hid hh;have N:Hid (Kt S (idC c) i c=(11,S)):=hid (by unfold Kt;rw[if_neg (fun q=>q Cp.out),if_pos hh]);clear hh
   go_wp2_with (first
     |(refine k5 yx (ldD T.out Ac.out) ?_)
     |(go_at_call 26;refine(has_any B s S q i W6 BC.out T.out).mono ?_;rintro e W7 ⟨AA,rfl⟩;rw[HH.out];have Cq:=hid AA;have Aq:=hid ((AA.block R (qX Ab.out)).trans Ab.out);have V:Hid (Below w.heap.size w W7):=hid (U.trans (AA.mono U.size));clear AA)
     |(go_at_call 51;refine(JR 11 _).mono ?_;rintro e wn ⟨rfl,Ax⟩;cases Ax))
   refine leaves_cons (f:=50) (args:=#[.pointer (some ⟨R,0,none⟩)]) yq (by simp [go_sem]) ?_;refine(uZ R 11 0 _ Aq.out).mono ?_;rintro e u' w9 ⟨rfl,AV,Bv,Ay⟩;simp only[AV];refine⟨_,jk results17 _ _ rfl (Jy Bv),?_⟩;rw[N.out];exact AddGives.same HS.out (V.trans (Ay.below V.size fun k C e=>by have:=HL.out;omega))
  have HH:=hid hh;have B9:=hid (addAt_have (S:=S) (c:=c) Cp.out hh);clear hh;have Eb:=G.deps
  go_upto_region 9 with (first
    |(refine k5 yx (ldD T.out Ac.out) ?_)
    |(go_at_call 26;refine(has_any B s S q i W6 BC.out T.out).mono ?_;rintro e W7 ⟨AA,rfl⟩;rw[HH.out];have Cq:=hid AA;have Aq:=hid ((AA.block R (qX Ab.out)).trans Ab.out);have V:Hid (Below w.heap.size w W7):=hid (U.trans (AA.mono U.size));have AK:=hid ((AA.block L (qX B8.out)).trans B8.out);have Ba:=hid ((AA.block b4 (qX AJ.out)).trans AJ.out);clear AA)
    |(go_at_call 51;refine(JD 11 _).mono ?_;rintro e wn ⟨rfl,Ax⟩;cases Ax))
  have Du:W7.cell? ⟨L,1,none⟩=some (.slice Ad c.2.1.length cd):=k4 AK.out 1
  go_upto_region 10 with fail
  clear Du Ac BC Ab AJ B8 Cq U
  go_loopw [42] (fun t42 wr=>∃j:Nat,j≤c.2.1.length∧t42=.int .i64 (j:Int)∧Hid (Below W7.heap.size W7 wr)∧Hid (∀k (C:k<c.2.1.length),k<j→(kC S c.2.1[k]).isSome=true)) (fun t42 _=>c.2.1.length - (intOf t42).toNat)
  case atStart=>exact⟨0,Nat.zero_le _,rfl,hid (qB _ _),hid fun k C h=>absurd h yz⟩
  case round=>
    obtain⟨j,hj,rfl,A,r⟩:=hrel;have W:Hid (Below w.heap.size w wr):=hid (V.trans (A.mono V.size));have K:=hid (HS.keep W.out);by_cases hlt:j<c.2.1.length
    ·have i0:(0:Int)≤(j:Int):=by omega
     have i1:(j:Int)<(c.2.1.length:Int):=by omega
     obtain⟨bd,off,rfl,EE,CK⟩:=(H1.keep W.out).2 yz;have F:=hid (show wr.rangeAt bd (off+j*32) (idV c.2.1[j]) from fun k u C=>Sl.id (B:=0) G.ok.2.1 CK hlt k u C);have M:Hid (jp c.2.1[j]):=hid (G.ok.2.1 _ (List.getElem_mem hlt));have BD:=hid (show ∀b:Bool,(kC S c.2.1[j]).isSome=b→(∀k (C:k<c.2.1.length),k<j+1→(kC S c.2.1[k]).isSome=true)∨b=false from fun b hb=>by
       cases b
       ·exact .inr rfl
       ·refine .inl fun k C EF=>?_
        rcases (by omega:k<j∨k=j) with q|rfl
        ·exact r.out k C q
        ·exact hb)
     have AC:=hid (show (kC S c.2.1[j]).isSome=false→c.2.1.all (fun d=>(kC S d).isSome)=false from fun hb=>List.all_eq_false.2 ⟨_,List.getElem_mem hlt,by rw[hb];decide⟩);clear CK;generalize c.2.1[j]=dj at *;have CL:(idV dj).length=32:=by rw[kf];exact M.out
     go_upto_region 12 with (first
       |(with_reducible refine k6 ?_
         refine k5 yx (ldD M.out F.out) ?_)
       |(with_reducible refine kA ?_
         refine ks yx 41 rfl (idV k7) yy ?_;intro W8 CM CN Dv;have Ar:=hid CM;have B2:=hid CN
         clear CM CN Dv)
       |(with_reducible refine kw ?_
         refine ko yx 41 _ _ rfl wr.heap.size 0 [] (idV k7) [] (idV dj) 41 (.agg (idV dj).toArray) rfl rfl rfl rfl (by simpa using B2.out) (by rw[CL];rfl) (by rw[CL];kernel_rfl) (kV _) ?_;intro W9 Ay CO Dw;have As:=hid (Ar.trans (Ay.below (B:=wr.heap.size) Ar.size (fun k C e=>by have e2:k=wr.heap.size:=e;omega)));have AD:Hid (W9.rangeAt wr.heap.size 0 (idV dj)):=hid fun k u C=>by rw[qZ];exact(k4 CO k).trans (by simpa using C)
         clear Ay CO Dw))
     have AE:=hid (K.keep As.out);have O:Hid (Below W7.heap.size W7 W9):=hid (A.trans (As.mono A.size));clear Ar B2 F As K;cases hb:(kC S dj).isSome
     ·have BE:=hid hb;have N:Hid (Kt S (idC c) i c=(12,S)):=hid (B9.trans (if_pos (AC.out hb)));clear hb
      go_wp2_with (first
        |(with_reducible refine k6 ?_
          refine k5 yx (ldD M.out AD.out) ?_)
        |(go_at_call 26;refine(has_any B s S q dj W9 AE.out M.out).mono ?_;rintro e AI ⟨C1,rfl⟩;rw[BE.out];have AL:=hid (O.trans (C1.mono O.size));clear C1)
        |(go_at_call 51;refine(JR 12 _).mono ?_;rintro e wn ⟨rfl,Ax⟩;cases Ax))
      have D8:=(AL.block R (qX Aq.out)).trans Aq.out;have Bw:Below w.heap.size w AI:=V.trans (AL.mono V.size);refine leaves_cons (f:=50) (args:=#[.pointer (some ⟨R,0,none⟩)]) yq (by simp [go_sem]) ?_;refine(uZ R 12 0 _ D8).mono ?_;rintro e u' w9 ⟨rfl,AV,Bv,Ay⟩;simp only[AV];refine⟨_,jk results17 _ _ rfl (Jy Bv),?_⟩;rw[N.out];exact AddGives.same HS.out (Bw.trans (Ay.below Bw.size fun k C e=>by have:=HL.out;omega))
     ·have BE:=hid hb;have BF:=hid ((BD.out true hb).resolve_right yv);clear hb
      go_wp2_with (first
        |(with_reducible refine k6 ?_
          refine k5 yx (ldD M.out AD.out) ?_)
        |(go_at_call 26;refine(has_any B s S q dj W9 AE.out M.out).mono ?_;rintro e AI ⟨C1,rfl⟩;rw[BE.out];have AL:=hid (O.trans (C1.mono O.size));clear C1)
        |(go_at_call 51;refine(JD 12 _).mono ?_;rintro e wn ⟨rfl,Ax⟩;cases Ax))
      go_roundw
      case rel=>exact⟨j+1,by omega,by go_num,AL,BF⟩
      case measure=>(simp [intOf])<;>omega
    ·have BG:Hid (c.2.1.all (fun d=>(kC S d).isSome)=true):=hid (List.all_eq_true.2 fun d hd=>by
       obtain⟨k,C,rfl⟩:=List.getElem_of_mem hd;exact r.out k C yz)
     have AM:=hid (B9.trans (if_neg (by rw[BG.out];decide)));have AF:=hid ((A.block R (qX Aq.out)).trans Aq.out);have A0:=hid ((A.block L (qX AK.out)).trans AK.out);have AN:=hid ((A.block b4 (qX Ba.out)).trans Ba.out);have Du:wr.cell? ⟨L,1,none⟩=some (.slice Ad c.2.1.length cd):=k4 A0.out 1
     go_upto_region 15 with fail
     clear Du Aq AK Ba B9 BG r hj K;clear V;obtain⟨De,Dx⟩:∃z,wr=z:=⟨_,rfl⟩;rw[Dx] at W AF A0 AN ⊢;clear A Dx;rename_i EW;clear hlt
     go_loopw [54] (fun t54 wr=>∃j:Nat,j≤c.2.1.length∧t54=.int .i64 (j:Int)∧Hid (Below De.heap.size De wr)∧Hid (∀k (C:k<c.2.1.length),k<j→jM S c.2.1[k]<c.1)) (fun t54 _=>c.2.1.length - (intOf t54).toNat)
     case atStart=>exact⟨0,Nat.zero_le _,rfl,hid (qB _ _),hid fun k C h=>absurd h yz⟩
     case round=>
       obtain⟨j,hj,rfl,A,r⟩:=hrel;have D:Hid (Below w.heap.size w wr):=hid (W.trans (A.mono W.size));have K:=hid (HS.keep D.out);by_cases hlt:j<c.2.1.length
       ·have i0:(0:Int)≤(j:Int):=by omega
        have i1:(j:Int)<(c.2.1.length:Int):=by omega
        obtain⟨bd,off,rfl,EE,CK⟩:=(H1.keep D.out).2 yz;have F:=hid (show wr.rangeAt bd (off+j*32) (idV c.2.1[j]) from fun k u C=>Sl.id (B:=0) G.ok.2.1 CK hlt k u C);have M:Hid (jp c.2.1[j]):=hid (G.ok.2.1 _ (List.getElem_mem hlt));have BD:=hid (show jM S c.2.1[j]<c.1→(∀k (C:k<c.2.1.length),k<j+1→jM S c.2.1[k]<c.1) from fun hb k C EF=>by
          rcases (by omega:k<j∨k=j) with q|rfl
          ·exact r.out k C q
          ·exact hb)
        have AC:=hid (show ¬jM S c.2.1[j]<c.1→c.2.1.all (fun d=>decide (jM S d<c.1))=false from fun hb=>List.all_eq_false.2 ⟨_,List.getElem_mem hlt,by rw[dF hb];decide⟩);clear CK;generalize c.2.1[j]=dj at *;have CL:(idV dj).length=32:=by rw[kf];exact M.out
        go_upto_region 17 with (first
          |(with_reducible refine k6 ?_
            refine k5 yx (ldD M.out F.out) ?_)
          |(with_reducible refine kA ?_
            refine ks yx 41 rfl (idV k7) yy ?_;intro W8 CM CN Dv;have Ar:=hid CM;have B2:=hid CN
            clear CM CN Dv)
          |(with_reducible refine kw ?_
            refine ko yx 41 _ _ rfl wr.heap.size 0 [] (idV k7) [] (idV dj) 41 (.agg (idV dj).toArray) rfl rfl rfl rfl (by simpa using B2.out) (by rw[CL];rfl) (by rw[CL];kernel_rfl) (kV _) ?_;intro W9 Ay CO Dw;have As:=hid (Ar.trans (Ay.below (B:=wr.heap.size) Ar.size (fun k C e=>by have e2:k=wr.heap.size:=e;omega)));have AD:Hid (W9.heap[wr.heap.size]?=some (.cells (idV dj).toArray 41 (0,0))):=hid (by simpa using CO);clear Ay CO Dw))
        have AE:=hid (K.keep As.out);have O:Hid (Below De.heap.size De W9):=hid (A.trans (As.mono A.size));have I:=hid ((O.block L (qX A0.out)).trans A0.out);clear Ar B2 F As K;obtain⟨Ec,Dy⟩:∃z,wr.heap.size=z:=⟨_,rfl⟩;rw[Dy] at AD ⊢;clear Dy;obtain⟨g1,g2,g3,g4,Ed⟩:=QQ S q dj;have Cr:=hid Ed;clear Ed;have E:=hid (show ∀u:World,Below W9.heap.size W9 u→u.cell? ⟨s,2,none⟩=some (.map (some q.bc))∧u.rangeAt Ec 0 (idV dj)∧u.cell? ⟨L,0,none⟩=some (.int .i64 c.1) from fun u hu=>⟨k4 (AE.keep hu).box 2,fun k v C=>by rw[qZ];exact(k4 ((hu.block Ec (qX AD.out)).trans AD.out) k).trans C,k4 ((hu.block L (qX I.out)).trans I.out) 0⟩);have CP:=enE func51 rfl;by_cases hb:jM S dj<c.1
        ·have BH:Hid (decide (jM S dj<c.1)=true):=hid (dT hb);have BF:=hid (BD.out hb);clear hb;refine rN 11 (fun u=>Below W9.heap.size W9 u) (qD _ _) fun l=>?_
         refine tw 0 (.pointer (some ⟨s,0,none⟩)) ?_ (hQ:=by exact fun _ _ _ h=>jf yv h);go_frame;refine tw 1 (.pointer (some ⟨s,0,none⟩)) ?_ (hQ:=by exact fun _ _ _ h=>jf yv h);go_frame;refine tw 2 (.pointer (some ⟨s,2,none⟩)) ?_ (hQ:=by exact fun _ _ _ h=>jf yv h);go_frame;refine tl 3 (.map (some q.bc)) rfl l (fun w' H=>l1 underlying85 (E.out w' H).1) ?_ (hQ:=by exact fun _ _ _ h=>jf yv h);go_frame;refine tl 4 (.agg (idV dj).toArray) rfl l (fun w' H=>ldD M.out (E.out w' H).2.1) ?_ (hQ:=by exact fun _ _ _ h=>jf yv h);go_frame;refine tl 5 (.agg [.int .i64 (jM S dj),g1,g2,g3,g4].toArray) rfl l (fun w' H=>KF QM underlying85 (KY _) (AE.keep H).mapC M.out ((Z9 S q dj).trans (by rw[Cr.out]))) ?_ (hQ:=by exact fun _ _ _ h=>jf yv h);go_frame;refine tw 6 (.agg [.int .i64 (jM S dj),g1,g2,g3].toArray) ?_ (hQ:=by exact fun _ _ _ h=>jf yv h);go_frame;refine tw 7 (.int .i64 (jM S dj)) ?_ (hQ:=by exact fun _ _ _ h=>jf yv h);go_frame;refine tw 8 (.pointer (some ⟨L,0,none⟩)) ?_ (hQ:=by exact fun _ _ _ h=>jf yv h);go_frame;refine tl 9 (.int .i64 c.1) rfl l (fun w' H=>l1 underlying3 (E.out w' H).2.2) ?_ (hQ:=by exact fun _ _ _ h=>jf yv h);go_frame;refine tk 10 (.bool true) rfl (fun w' H=>Um _ _ _ rfl rfl rfl BH.out) ?_ (hQ:=by exact fun _ _ _ h=>jf yv h);go_frame;refine ta 11 ?_;refine tc #[.bool true,.int .i64 21] CP rfl ?_;refine(JD 21 _).mono ?_;rintro e wn ⟨rfl,Ax⟩;cases Ax
         refine⟨_,rfl,fun h=>absurd h yv,?_⟩;go_frame;refine ku yy ?_ _;go_wp2_with fail
         go_roundw
         case rel=>exact⟨j+1,by omega,by go_num,hid (O.drew),BF⟩
         case measure=>(simp [intOf])<;>omega
        ·have BH:Hid (decide (jM S dj<c.1)=false):=hid (dF hb);have N:Hid (Kt S (idC c) i c=(21,S)):=hid (AM.trans (if_pos (AC.out hb)));clear hb;refine rN 11 (fun u=>Below W9.heap.size W9 u) (qD _ _) fun l=>?_
         refine tw 0 (.pointer (some ⟨s,0,none⟩)) ?_ (hQ:=by exact fun _ _ _ h=>jf yv h);go_frame;refine tw 1 (.pointer (some ⟨s,0,none⟩)) ?_ (hQ:=by exact fun _ _ _ h=>jf yv h);go_frame;refine tw 2 (.pointer (some ⟨s,2,none⟩)) ?_ (hQ:=by exact fun _ _ _ h=>jf yv h);go_frame;refine tl 3 (.map (some q.bc)) rfl l (fun w' H=>l1 underlying85 (E.out w' H).1) ?_ (hQ:=by exact fun _ _ _ h=>jf yv h);go_frame;refine tl 4 (.agg (idV dj).toArray) rfl l (fun w' H=>ldD M.out (E.out w' H).2.1) ?_ (hQ:=by exact fun _ _ _ h=>jf yv h);go_frame;refine tl 5 (.agg [.int .i64 (jM S dj),g1,g2,g3,g4].toArray) rfl l (fun w' H=>KF QM underlying85 (KY _) (AE.keep H).mapC M.out ((Z9 S q dj).trans (by rw[Cr.out]))) ?_ (hQ:=by exact fun _ _ _ h=>jf yv h);go_frame;refine tw 6 (.agg [.int .i64 (jM S dj),g1,g2,g3].toArray) ?_ (hQ:=by exact fun _ _ _ h=>jf yv h);go_frame;refine tw 7 (.int .i64 (jM S dj)) ?_ (hQ:=by exact fun _ _ _ h=>jf yv h);go_frame;refine tw 8 (.pointer (some ⟨L,0,none⟩)) ?_ (hQ:=by exact fun _ _ _ h=>jf yv h);go_frame;refine tl 9 (.int .i64 c.1) rfl l (fun w' H=>l1 underlying3 (E.out w' H).2.2) ?_ (hQ:=by exact fun _ _ _ h=>jf yv h);go_frame;refine tk 10 (.bool false) rfl (fun w' H=>Um _ _ _ rfl rfl rfl BH.out) ?_ (hQ:=by exact fun _ _ _ h=>jf yv h);go_frame;refine ta 11 ?_;refine wpOp_callP (ch:=qM 21) _ rfl yy (Ue (f:=51) (args:=#[.bool false,.int .i64 21]) rfl rfl (fun args w=>CP w args) (by simp only[List.map_toArray,List.map_cons,List.map_nil];rfl)) ?_;refine(JR 21 _).mono ?_;rintro e wn ⟨rfl,Ax⟩;cases Ax
         refine⟨rfl,?_⟩;have D8:W9.drew.heap[R]?=_:=(O.block R (qX AF.out)).trans AF.out;have Bw:Below w.heap.size w W9.drew:=(W.trans (O.mono W.size)).drew;refine leaves_cons (f:=50) (args:=#[.pointer (some ⟨R,0,none⟩)]) yq (by simp [go_sem]) ?_;refine(uZ R 21 0 _ D8).mono ?_;rintro e u' w9 ⟨rfl,AV,Bv,Ay⟩;simp only[AV];refine⟨_,jk results17 _ _ rfl (Jy Bv),?_⟩;rw[N.out];exact AddGives.same HS.out (Bw.trans (Ay.below Bw.size fun k C e=>by have:=HL.out;omega))
       ·have Cs:Hid (c.2.1.all (fun d=>decide (jM S d<c.1))=true):=hid (List.all_eq_true.2 fun d hd=>by
          obtain⟨k,C,rfl⟩:=List.getElem_of_mem hd;exact dT (r.out k C yz))
        have AO:=hid (AM.trans (if_neg (by rw[Cs.out];decide)));have Bi:=hid ((A.block R (qX AF.out)).trans AF.out);have I:=hid ((A.block L (qX A0.out)).trans A0.out);have AP:=hid ((A.block b4 (qX AN.out)).trans AN.out);have EX:=G.len
        go_upto_region 19 with fail
        obtain⟨AI,Dz⟩:∃z,wr=z:=⟨_,rfl⟩;rw[Dz] at D Bi I AP ⊢;clear A r Cs hj K AF A0 AN AM hlt Dz W;rename_i EY;have CU:=hid (HS.keep D.out);have E:=hid (show ∀u:World,Below AI.heap.size AI u→u.cell? ⟨L,1,none⟩=some (.slice Ad c.2.1.length cd)∧u.cell? ⟨L,3,none⟩=some (.slice Ao c.2.2.2.length co) from fun u hu=>⟨k4 ((hu.block L (qX I.out)).trans I.out) 1,k4 ((hu.block L (qX I.out)).trans I.out) 3⟩);have Ee:=enE func42 rfl;have Ef:=enE func43 rfl;refine rN 6 (fun u=>Below AI.heap.size AI u) (qD _ _) fun l=>?_
        refine tw 0 (.pointer (some ⟨L,1,none⟩)) ?_ (hQ:=by exact fun _ _ _ h=>jf yv h);go_frame;refine tl 1 (.slice Ad c.2.1.length cd) rfl l (fun w' H=>l1 underlying34 (E.out w' H).1) ?_ (hQ:=by exact fun _ _ _ h=>jf yv h);go_frame;refine tw 3 (.pointer (some ⟨L,3,none⟩)) ?_ (hQ:=by exact fun _ _ _ h=>jf yv h);go_frame;refine tl 4 (.slice Ao c.2.2.2.length co) rfl l (fun w' H=>l1 underlying35 (E.out w' H).2) ?_ (hQ:=by exact fun _ _ _ h=>jf yv h);go_frame;refine ta 2 ?_;refine tc #[.slice Ad c.2.1.length cd] Ee rfl ?_;refine(cloneIds15 c.2.1 Ad cd AI.drew Eb (((H1.keep D.out).more D.size).keep (qD _ _))).mono ?_;rintro e u1 ⟨Eg,v1,rfl,DA⟩;have At:=hid ((qD AI.heap.size AI).trans (Eg.mono (qD AI.heap.size AI).size));have Ct:=hid DA
        obtain⟨A1,c1,rfl⟩:=jd DA;clear Eg DA;refine⟨_,rfl,fun _ _=>At.out,?_⟩;go_frame;refine tw 6 (.pointer (some ⟨L,1,none⟩)) ?_ (hQ:=by exact fun _ _ _ h=>jf yv h);go_frame;refine ta 5 ?_;refine tc #[.slice Ao c.2.2.2.length co] Ef rfl ?_;refine(cloneOps15 c.2.2.2 Ao co u1 yz (((H2.keep D.out).more D.size).keep At.out|>.more At.size)).mono ?_;rintro e u2 ⟨DB,v2,rfl,DC⟩;have Au:=hid (At.trans (DB.mono At.size));have BI:=hid DC
        have Bb:=hid ((But.of_below (X:=NoB) DB).own Ct.out fun _ _ q=>q);have Cu:=hid (show AI.heap.size≤u1.heap.size from At.size);obtain⟨A2,c2,rfl⟩:=jd DC;clear DB DC;refine⟨_,rfl,fun _ _=>Au.out,?_⟩;go_frame;have Av:=hid ((Au.block L (qX I.out)).trans I.out);refine ta 7 ?_;refine kW _ rfl yy 34 _ _ rfl L 1 [.int .i64 c.1] [.slice Ad c.2.1.length cd] [.string c.2.2.1,.slice Ao c.2.2.2.length co] [.slice A1 c.2.1.length c1] 37 (.slice A1 c.2.1.length c1) rfl rfl rfl rfl Av.out rfl yy (by intro u hu;rw[List.mem_singleton.1 hu];rfl) ?_;intro u3 Ca Eh EG;have Ap:=hid Ca;have Cv:=hid Eh
        clear Ca Eh EG;refine⟨fun h=>absurd h yv,?_⟩;go_frame;refine tw 8 (.pointer (some ⟨L,3,none⟩)) ?_ (hQ:=by exact fun _ _ _ h=>jf yv h);go_frame;refine ta 9 ?_;refine kW _ rfl yy 35 _ _ rfl L 3 [.int .i64 c.1,.slice A1 c.2.1.length c1,.string c.2.2.1] [.slice Ao c.2.2.2.length co] [] [.slice A2 c.2.2.2.length c2] 37 (.slice A2 c.2.2.2.length c2) rfl rfl rfl rfl Cv.out rfl yy (by intro u hu;rw[List.mem_singleton.1 hu];rfl) ?_;intro u4 Bu CJ Ds;have B1:=hid Bu;have Al:=hid CJ
        clear Bu CJ Ds;refine⟨fun h=>absurd h yv,?_⟩;go_frame;refine ku yy ?_ _;have C2:But (fun k=>k=L) u2 u4:=Ap.trans B1.out fun k _ e=>e
        have A6:Hid (Below w.heap.size w u4):=hid ((D.trans (Au.mono D.size)).trans (C2.below (qT D.size Au.size) fun k C e=>by have:=HL.out;omega));have D9:∀{k:Nat} {Ag:Array Value} {t:TypeId} {fr:Nat×Nat},u2.heap[k]?=some (.cells Ag t fr)→t≠37→u4.heap[k]?=some (.cells Ag t fr):=fun {k Ag t fr} hc ht=>(C2.block k (qX hc) (jr hc Av.out ht)).trans hc
        have Bj:Hid (AddMid u4 b4 L R w.heap.size i c A1 c1 A2 c2):=hid ⟨D9 ((Au.block b4 (qX AP.out)).trans AP.out) yv,by simpa using Al.out,D9 ((Au.block R (qX Bi.out)).trans Bi.out) yv,JE (C2.own Bb.out fun g hg e=>by
            obtain⟨cc,A4⟩:=kE Bb.out hg;exact jr A4 Av.out yv e) D.size,JE (C2.own BI.out fun g hg e=>by
            obtain⟨cc,A4⟩:=kE BI.out hg;exact jr A4 Av.out yv e) (qT D.size Cu.out)⟩
        have CV:=hid (HS.keep A6.out);clear C2 D9 Ap Cv B1 Al Av At Au Ct BI Bb l E CU Bi I AP D Cu Ee Ef;have Ac:=hid (show u4.rangeAt b4 0 (idV i) from fun j u hj=>by rw[qZ];exact(k4 Bj.id j).trans hj);have B0:=hid (show u4.rangeAt L 0 (chC c.1 A1 c.2.1.length c1 c.2.2.1 A2 c.2.2.2.length c2) from fun j u hj=>by rw[qZ];exact(k4 Bj.chg j).trans hj);have Ev:(Value.pointer (some ⟨s,0,none⟩)::(idV i++[.int .i64 c.1,.slice A1 c.2.1.length c1,.string c.2.2.1,.slice A2 c.2.2.2.length c2,.slice none 0 0])).length=38:=by simp [DX,Dq]
        go_upto_region 21 with (first
          |(with_reducible refine k6 ?_
            refine k5 yx (ldD T.out Ac.out) ?_)
          |(with_reducible refine k6 ?_
            refine k5 yx (kc 37 _ rfl (p:=⟨L,0,none⟩) rfl (qV _ L 0 _ _ _ B0.out underlying37 rfl yy)) ?_)
          |(with_reducible refine kJ ?_
            refine k5 yx (kj 127 _ rfl (by simp only[List.map_toArray,List.map_cons,List.map_nil];exact adder_built s i T.out _ _ _ _ _ _ _ _ _)) ?_)
          |(with_reducible refine kB ?_
            refine kr yx 127 _ rfl _ _ rfl rfl (by rw[Ev];kernel_rfl) ?_;intro C3 DD DE Ew;have Bc:=hid DD;have Bd:=hid DE
            clear DD DE Ew))
        obtain⟨a,ha⟩:∃z,u4.heap.size=z:=⟨_,rfl⟩;have Dk:=hid (show w.heap.size≤a by have:=A6.size;omega);rw[ha] at Bd ⊢;have Bk:Hid (AdderAt C3 a s i c (.slice A1 c.2.1.length c1) (.slice A2 c.2.2.2.length c2) (.slice none 0 0)):=hid ⟨Bd.out,T.out⟩;have Ah:Hid (Below w.heap.size w C3):=hid (A6.trans (Bc.mono A6.size));have AQ:=hid (Bj.keep Bc.out);clear ha Bc Bd Ac B0 Bj A6 CV;have CQ:C3.cell? ⟨L,3,none⟩=some (.slice A2 c.2.2.2.length c2):=k4 AQ.chg 3;obtain⟨im,Ei,Ej,Ek,El⟩:=info_parts infoInt15
        go_upto_region 22 with (first
          |(refine wpList_make_own C3 rfl _ _ 128 rfl w.heap.size 3 im (.int .i64 0) 1 underlying128 Ei Ej Ek .i64 .i64 _ c.2.2.2.length rfl rfl rfl (by rw[El];omega) yk (by have:=Ah.size;omega) ?_;intro DF DG DH;have CW:=hid DG;have AR:Hid (Below C3.heap.size C3 DF):=hid ((qB _ _).grown DH (qR _) (fun k e=>by cases e));clear DG DH))
        clear CQ Ei Ej Ek El;have Cb:=hid (Bk.keep AR.out);have Bl:=hid (AQ.keep AR.out);have Cc:Hid (Below w.heap.size w DF):=hid (Ah.trans (AR.mono Ah.size));clear Bk AQ Ah AR;have CQ:DF.cell? ⟨L,3,none⟩=some (.slice A2 c.2.2.2.length c2):=k4 Bl.chg 3
        go_upto_region 23 with fail
        clear CQ;have DI:=G.fine Ch.out;have Cw:=hid DI;clear DI
        go_loopw [13,91] (fun t13 t91 wr=>∃(j:Nat) (An:Option Addr) (cn:Nat) (Am:Option Addr) (cm:Nat) (o:List zE) (ns:List Nat),j≤c.2.2.2.length∧t91=.int .i64 (j:Int)∧t13=.slice An j cn∧ns.length=j∧Hid (Below w.heap.size w wr)∧Hid (wr.ownsRow w.heap.size 3 1 (.slice An j cn) j (Q8 ns))∧Hid (AdderAt wr a s i c (.slice A1 c.2.1.length c1) (.slice A2 c.2.2.2.length c2) (.slice Am o.length cm))∧Hid (wr.ownsRow w.heap.size 199 35 (.slice Am o.length cm) o.length (ke kY o))∧Hid (AddMid wr b4 L R w.heap.size i c A1 c1 A2 c2)∧Hid (KQ S i c.1 [] (c.2.2.2.take j)=some (o,ns))∧Hid ((∀m∈o,kN m.2)∧o.length≤mkN (c.2.2.2.take j))) (fun _ t91 _=>c.2.2.2.length - (intOf t91).toNat)
        case atStart=>exact⟨0,some ⟨C3.heap.size,0,none⟩,c.2.2.2.length,none,0,[],[],Nat.zero_le _,rfl,rfl,rfl,Cc,CW,Cb,hid (World.ownsRow_nil _ _ _ _),Bl,hid rfl,hid ⟨fun m hm=>(by cases hm),Nat.zero_le _⟩⟩
        case round=>
          obtain⟨j,An,cn,Am,cm,o,ns,hj,rfl,rfl,Em,A,B3,B4,Bm,P,B5,Ae⟩:=hrel;have K:=hid (HS.keep A.out);by_cases hlt:j<c.2.2.2.length
          ·have i0:(0:Int)≤(j:Int):=by omega
           have i1:(j:Int)<(c.2.2.2.length:Int):=by omega
           have EH:o.length≤1073741824:=Nat.le_trans Ae.2 (Nat.le_trans (mkN_le _ _) G.made);obtain⟨g2,Ex,DW,DJ,EI,CR,_⟩:=KJ P.ops yz;injection DJ with eA _ eC;subst eA eC;have Af:=hid (Cw.out _ (List.getElem_mem hlt));have F:=hid (show wr.rangeAt g2 (j*70) (opV c.2.2.2[j]) from fun k u C=>by
             have hr:=K9 (enc:=opV) (sz:=70) (fun x hx=>kH (G.ops x hx)) j hlt k u C;rw[k4 CR,List.getElem?_append_left (List.getElem?_eq_some_iff.1 hr).1];exact hr)
           have B6:=hid (List.take_succ_eq_append_getElem hlt);have Cx:=hid (mkN_snoc c.2.2.2 hlt);have Cy:=hid (show c.2.2.2=(c.2.2.2.take j++[c.2.2.2[j]])++c.2.2.2.drop (j+1) by rw[←List.take_succ_eq_append_getElem hlt,List.take_append_drop]);clear CR;obtain⟨x,hx⟩:∃x,c.2.2.2[j]=x:=⟨_,rfl⟩;rw[hx] at Af F B6 Cx Cy;clear hx;have B7:=kH Af.fin
           go_upto_region 25 with (first
             |(with_reducible refine k6 ?_
               refine j9 rfl 112 _ rfl g2 _ rfl (opV x) _ F.out underlying112 rfl (by rw[B7];kernel_rfl) ?_)
             |(with_reducible refine kA ?_
               refine ks yx 112 rfl (opV (0,kg,kg,kM,0,kM)) (opZ15 _) ?_;intro EJ C4 C5 Da;have A3:=hid C4;have Aw:=hid C5
               clear C4 C5 Da)
             |(with_reducible refine kw ?_
               refine ko yx 112 _ _ rfl wr.heap.size 0 [] (opV (0,kg,kg,kM,0,kM)) [] (opV x) 112 _ rfl rfl rfl rfl (by simpa using Aw.out) (by rw[B7];rfl) (by rw[B7];kernel_rfl) (Ud _) ?_;intro A8 Az C6 Db;have J:=hid (A3.trans (Az.below (B:=wr.heap.size) A3.size (fun k C e=>by have e2:k=wr.heap.size:=e;omega)));have Q:Hid (A8.heap[wr.heap.size]?=some (.cells (opV x).toArray 112 (0,0))):=hid (by simpa using C6);clear Az C6 Db))
           obtain⟨AW,Az⟩:∃z,wr.heap.size=z:=⟨_,rfl⟩;have Eu:=hid (show w.heap.size≤AW by have:=A.size;omega);rw[Az] at Q ⊢;have A7:=hid (B4.keep J.out);have Ai:=hid ((But.of_below (X:=NoB) J.out).own B3.out fun _ _ q=>q);have AS:=hid ((But.of_below (X:=NoB) J.out).own Bm.out fun _ _ q=>q);have Bn:=hid (P.keep J.out);have Aj:Hid (Below w.heap.size w A8):=hid (A.trans (J.mono A.size));clear A3 Aw Az J B4 B3 Bm P F K;have EK:A8.cell? ⟨a,37,none⟩=some (.slice Am o.length cm):=A7.rest 4;have Dl:=hid Aj.size;have AC:=hid (fun (u:World) (hu:Below A8.heap.size A8 u)=>(But.of_below (X:=NoB) hu).own Ai.out fun _ _ q=>q)
           go_upto_region 26 with (first
             |(at_builtin;refine KM yx _ _ 128 rfl w.heap.size 3 (.int .i64 0) 1 8 underlying128 infoInt15 rfl yv (.slice An j cn) j (Q8 ns) rfl (AC.out _ ((qB _ _).alloc (qR _) _)) ⟨A8.heap.size,0,none⟩ 1 1 [.int .i64 (o.length:Int)] rfl rfl (Km A8 _ _) (by intro u hu;rw[List.mem_singleton.1 hu];rfl) yk yz (by have:=Dl.out;simp;omega) ?_
               intro EZ C7 Dc DK Ey;have A9:Hid (But (fun k=>(Value.slice An j cn).ownBlock=some k) A8 C7):=hid (((But.refl _ A8).alloc _).grown DK fun k e _=>e);have BJ:=hid Dc;obtain⟨EL,EM,rfl⟩:=jd Dc;clear Dc DK Ey))
           clear EK AC;have C8:∀{k:Nat},(Value.slice An j cn).ownBlock=some k→∃Ag,A8.heap[k]?=some (.cells Ag 3 (0,0)):=fun h=>kE Ai.out h
           have Df:Below w.heap.size w C7:=Aj.trans (A9.below Aj.size fun k C e=>by
             have h1:=(Ai.lt k e).1;omega)
           have Z:=hid Df;have AT:=hid (Bn.but A9.out fun k C Ag t fr hc=>by
             obtain⟨cc,A4⟩:=C8 C;rw[hc] at A4;injection A4 with A4;injection A4 with _ A4;subst A4;decide)
           have Bo:Hid (AdderAt C7 a s i c (.slice A1 c.2.1.length c1) (.slice (some ⟨g2,0,none⟩) c.2.2.2.length c2) (.slice Am o.length cm)):=hid ⟨(A9.block a (qX A7.box) fun e=>by
             obtain⟨cc,A4⟩:=C8 e;exact jr A4 A7.box yv rfl).trans A7.box,T.out⟩
           have Ak:=hid (A9.own AS.out fun g hg e=>by
             obtain⟨c3,h3⟩:=kE AS.out hg;obtain⟨cc,A4⟩:=C8 e;exact jr A4 h3 yv rfl)
           have BK:=hid ((A9.block AW (qX Q.out) fun e=>by
             obtain⟨cc,A4⟩:=C8 e;exact jr A4 Q.out yv rfl).trans Q.out)
           have BL:=hid (show C7.rangeAt AW 0 (opV x) from fun k u C=>by rw[qZ];exact(k4 BK.out k).trans C);have Dm:Hid (MidAt C7 B a s S q i c (.slice A1 c.2.1.length c1) (.slice (some ⟨g2,0,none⟩) c.2.2.2.length c2) Am cm o):=hid ⟨HS.keep Z.out,Bo.out,JE Ak.out (Nat.zero_le _),Ae.1,by omega⟩;have BM:=hid (fit_any w.heap.size B a s S q i c _ _ Am cm o x C7 Dm.out Ak.out Z.size EH G.ok.1 Af.out);clear C8 Df Bn A7 AS Q Aj A9 Ai BK;have BN:=hid (QY S i c.1 x (c.2.2.2.take j) []);rw[B5.out,Option.bind_some] at BN;cases hfa:KU S i c.1 o x with
           |none=>
            have N:Hid (Kt S (idC c) i c=(22,S)):=hid (AO.trans (by
               have e:KQ S i c.1 [] c.2.2.2=none:=by
                 rw[Cy.out];refine QZ S i c.1 _ _ [] ?_;rw[BN.out,hfa];rfl
               rw[e]))
            have Bp:=hid hfa;clear hfa
            go_wp2_with (first
               |(with_reducible refine k6 ?_
                 refine k5 yx (kc 112 _ rfl (p:=⟨AW,0,none⟩) rfl (qV _ AW 0 _ (opV x) _ BL.out underlying112 rfl (by rw[B7];kernel_rfl))) ?_)
               |(go_at_call 52;refine BM.mono ?_;rintro e DL (⟨mk2,hq,_⟩|⟨_,rfl,hb17⟩)
                 ·rw[Bp.out] at hq;cases hq
                 have Aa:=hid hb17;clear hb17))
            have Ez:=(Aa.block R (qX AT.err)).trans AT.err;have Dg:Below w.heap.size w DL:=Z.trans (Aa.mono Z.size);refine leaves_cons (f:=50) (args:=#[.pointer (some ⟨R,0,none⟩)]) yq (by simp [go_sem]) ?_;refine(uZ R 22 0 _ Ez).mono ?_;rintro e u' w9 ⟨rfl,AV,Bv,Ay⟩;simp only[AV];refine⟨_,jk results17 _ _ rfl (Jy Bv),?_⟩;rw[N.out];exact AddGives.same HS.out (Dg.trans (Ay.below Dg.size fun k C e=>by have:=HL.out;omega))
           |some mk2=>
            have Bp:=hid hfa;have Cz:=hid (fitAt_len hfa);have CX:Hid (KQ S i c.1 [] (c.2.2.2.take (j+1))=some (mk2,ns++[o.length])):=hid (by rw[B6.out,BN.out,hfa];rfl);clear hfa
            go_wp2_with (first
               |(with_reducible refine k6 ?_
                 refine k5 yx (kc 112 _ rfl (p:=⟨AW,0,none⟩) rfl (qV _ AW 0 _ (opV x) _ BL.out underlying112 rfl (by rw[B7];kernel_rfl))) ?_)
               |(go_at_call 52;refine BM.mono ?_;rintro e DL (⟨mk3,hq,rfl,hbt17,Am2,cm2,had17,hom17,_⟩|⟨hq,_⟩)
                 rotate_left
                 ·rw[Bp.out] at hq;cases hq
                 obtain rfl:mk2=mk3:=Option.some.inj (Bp.symm.trans hq);have Aa:=hid hbt17;have Cd:=hid had17;have Ce:=hid hom17
                 clear hbt17 had17 hom17 hq))
            go_roundw
            case rel=>
               have Dd:∀k,(k=a∨(Value.slice Am o.length cm).ownBlock=some k)→∃Ag t,C7.heap[k]?=some (.cells Ag t (0,0))∧(t=127∨t=199)∧w.heap.size≤k:=fun k C=>by
                 rcases C with rfl|C
                 ·exact⟨_,_,Bo.box,.inl rfl,Dk.out⟩
                 ·obtain⟨cc,A4⟩:=kE Ak.out C;exact⟨cc,_,A4,.inr rfl,(Ak.lt k C).1⟩
               refine⟨j+1,EL,EM,Am2,cm2,mk2,ns++[o.length],by omega,by go_num,rfl,by simp [Em],hid (Z.trans (Aa.below Z.size fun k C e=>?_)),hid ?_,Cd,Ce,hid (AT.but Aa.out fun k C Ag t fr hc=>?_),CX,hid ⟨fun m hm=>?_,?_⟩⟩
               ·obtain⟨_,_,_,_,h4⟩:=Dd k e;omega
               ·rw[intsV_snoc];refine Aa.own BJ.out fun g hg e=>?_
                obtain⟨c3,h3⟩:=kE BJ.out hg;obtain⟨Ag,t,h4,h5,_⟩:=Dd g e;exact jr h3 h4 (by rcases h5 with rfl|rfl<;>decide) rfl
               ·obtain⟨ES,t2,h4,h5,_⟩:=Dd k C;rw[hc] at h4;injection h4 with h4;injection h4 with _ h4;subst h4;rcases h5 with rfl|rfl<;>decide
               ·rcases Cz.2 m hm with h4|h4|h4
                ·exact Ae.1 m h4
                ·rw[h4];exact⟨(by decide:(Lit.int .i64 0).wf=true),jL,(by decide:(Lit.int .i64 0).wf=true)⟩
                ·rw[h4];exact ua HS.out T.out G.ok.1 Af.fin.1.1
               ·rw[Cx.out];have:=Cz.1;have:=Ae.2;omega
            case measure=>(simp [intOf])<;>omega
          ·obtain rfl:j=c.2.2.2.length:=by omega
           rw[List.take_length] at B5 Ae;have BO:=hid (show Kt S (idC c) i c=(0,Jg i c.1 0 (S.1,S.2.1,S.2.2++[(i,c,o)]) c.2.2.2 ns) from AO.trans (by rw[B5.out]));have CP:kC S i=none:=by
             cases hq:kC S i with
             |none=>rfl
             |some e=>have:=HH.out;rw[hq] at this;cases this
           have CA:=hid CP;clear CP
           go_upto_region 28 with fail
           have E:=hid (show ∀u:World,Below wr.heap.size wr u→u.cell? ⟨s,2,none⟩=some (.map (some q.bc))∧u.rangeAt b4 0 (idV i)∧u.rangeAt L 0 (chC c.1 A1 c.2.1.length c1 c.2.2.1 A2 c.2.2.2.length c2)∧u.cell? ⟨a,37,none⟩=some (.slice Am o.length cm) from fun u hu=>⟨k4 (K.keep hu).box 2,fun k v C=>by rw[qZ];exact(k4 (P.keep hu).id k).trans C,fun k v C=>by rw[qZ];exact(k4 (P.keep hu).chg k).trans C,(B4.keep hu).rest 4⟩);refine rN 11 (fun u=>Below wr.heap.size wr u) (qD _ _) fun l=>?_
           refine tw 0 (.pointer (some ⟨s,0,none⟩)) ?_ (hQ:=by exact fun _ _ _ h=>jf yv h);go_frame;refine tw 1 (.pointer (some ⟨s,0,none⟩)) ?_ (hQ:=by exact fun _ _ _ h=>jf yv h);go_frame;refine tw 2 (.pointer (some ⟨s,2,none⟩)) ?_ (hQ:=by exact fun _ _ _ h=>jf yv h);go_frame;refine tl 3 (.map (some q.bc)) rfl l (fun w' H=>l1 underlying85 (E.out w' H).1) ?_ (hQ:=by exact fun _ _ _ h=>jf yv h);go_frame;refine tl 4 (.agg (idV i).toArray) rfl l (fun w' H=>ldD T.out (E.out w' H).2.1) ?_ (hQ:=by exact fun _ _ _ h=>jf yv h);go_frame;refine tl 5 (.agg (chC c.1 A1 c.2.1.length c1 c.2.2.1 A2 c.2.2.2.length c2).toArray) rfl l (fun w' H=>kc 37 _ rfl (p:=⟨L,0,none⟩) rfl (qV w' L 0 _ _ _ (E.out w' H).2.2.1 underlying37 rfl yy)) ?_ (hQ:=by exact fun _ _ _ h=>jf yv h);go_frame;refine tw 6 (.pointer (some ⟨a,0,none⟩)) ?_ (hQ:=by exact fun _ _ _ h=>jf yv h);go_frame;refine tw 7 (.pointer (some ⟨a,0,none⟩)) ?_ (hQ:=by exact fun _ _ _ h=>jf yv h);go_frame;refine tw 8 (.pointer (some ⟨a,37,none⟩)) ?_ (hQ:=by exact fun _ _ _ h=>jf yv h);go_frame;refine tl 9 (.slice Am o.length cm) rfl l (fun w' H=>l1 underlying103 (E.out w' H).2.2.2) ?_ (hQ:=by exact fun _ _ _ h=>jf yv h);go_frame;refine tk 10 (.agg (Kl (c,o) (.slice A1 c.2.1.length c1,.slice A2 c.2.2.2.length c2,.slice Am o.length cm)).toArray) rfl (fun w' H=>kj 105 _ rfl (by simp only[List.map_toArray,List.map_cons,List.map_nil];exact entry_built _ _ _ _ _ _ _ _ _ _ _ _)) ?_ (hQ:=by exact fun _ _ _ h=>jf yv h);go_frame;refine ta 11 ?_;refine J8 _ rfl yy ?_;have EN:=G.chg;refine op_mapPut _ _ _ 85 rfl 105 QM underlying85 rfl (K.keep (qD _ _)).mapC yk i T.out rfl (.agg (Kl (c,o) (.slice A1 c.2.1.length c1,.slice A2 c.2.2.2.length c2,.slice Am o.length cm)).toArray) rfl ?_;intro wM En Eo;have AG:Hid (But (fun j=>j=q.bc) wr.drew wM):=hid ((But.refl _ wr.drew).grown Eo fun k e _=>(Option.some.inj e).symm);have DM:EntryIn wr.drew (c,o) (.slice A1 c.2.1.length c1,.slice A2 c.2.2.2.length c2,.slice Am o.length cm):=⟨G.ok.1,JE (P.keep (qD _ _)).ids (Nat.zero_le _),JE (P.keep (qD _ _)).ops (Nat.zero_le _),JE ((But.of_below (X:=NoB) (qD wr.heap.size wr)).own Bm.out fun _ _ q=>q) (Nat.zero_le _),G.ok.2.1,G.ops,Ae.1⟩;have DN:=(K.keep (qD wr.heap.size wr)).putEntry T.out CA.out DM En AG.out;clear En Eo DM;refine⟨fun h=>absurd h yv,?_⟩;go_frame;refine ku yy ?_ _;obtain⟨q1,DO⟩:∃z:j5,z={ q with em:=fun x=>if x=i then (Value.slice A1 c.2.1.length c1,Value.slice A2 c.2.2.2.length c2,Value.slice Am o.length cm) else q.em x}:=⟨_,rfl⟩;rw[←DO] at DN;have CB:=hid DN;have BP:=hid DO
           have Cf:∃x y,wr.drew.heap[q.bc]?=some (.map x y):=(K.keep (qD wr.heap.size wr)).mapC_obj;have Ep:∀{k:Nat} {Ag:Array Value} {t:TypeId} {fr:Nat×Nat},wr.heap[k]?=some (.cells Ag t fr)→wM.heap[k]?=some (.cells Ag t fr):=fun {k Ag t fr} hc=>(AG.block k (qX (show wr.drew.heap[k]?=_ from hc)) (Jt (show wr.drew.heap[k]?=_ from hc) Cf)).trans hc
           have CY:Hid (AdderAt wM a s i c (.slice A1 c.2.1.length c1) (.slice A2 c.2.2.2.length c2) (.slice Am o.length cm)):=hid ⟨Ep B4.box,T.out⟩;have BQ:Hid (AddMid wM b4 L R w.heap.size i c A1 c1 A2 c2):=hid ((P.keep (qD wr.heap.size wr)).but AG.out fun k C Ag t fr hc=>absurd hc (by
             obtain⟨x,y,h⟩:=Cf;rw[C,h];intro e;cases e))
           have CZ:Hid (wM.ownsRow w.heap.size 3 1 (.slice An c.2.2.2.length cn) c.2.2.2.length (Q8 ns)):=hid (AG.own ((But.of_below (X:=NoB) (qD wr.heap.size wr)).own B3.out fun _ _ q=>q) fun g hg e=>by
             obtain⟨cc,A4⟩:=kE B3.out hg;exact Jt (show wr.drew.heap[g]?=_ from A4) Cf e)
           have BR:Hid (But (StX s S q) w wM):=hid ((But.of_below (A.trans ((qD wr.heap.size wr).mono A.size))).trans AG.out fun k C e=>.inr (.inr (.inl e)));obtain⟨S1,CS⟩:∃z:kz,z=(S.1,S.2.1,S.2.2++[(i,c,o)]):=⟨_,rfl⟩;rw[←CS] at CB BO;have CC:=hid (show ∀j,StX s S1 q1 j↔StX s S q j from fun j=>by rw[BP.out,CS];exact Iff.rfl);have BS:Hid (q1.nd=q.nd):=hid (by rw[BP.out]);have D0:Hid (DocsIx S1):=hid (by rw[CS];exact G.ix);obtain⟨c0,t0,DP,F0,F1⟩:=G.le;have D1:Hid (StateLe S1 c0 t0):=hid (by rw[CS];exact⟨DP.claims,DP.size⟩);have Eb:=G.nd;have D2:=hid (show o.length≤1073741824 from Nat.le_trans Ae.2 G.made);have D3:=hid (show ∀n∈ns,n≤1099511627776 from fun n hn=>by
             have:=(fitsAt_ns B5.out).2 n hn;have:=D2.out;omega)
           clear DN DO Cf Ep AG CS DP CA HH E K l B4 Bm P B3 B5 Ae AO hj hlt BP EN;have CQ:wM.cell? ⟨L,3,none⟩=some (.slice A2 c.2.2.2.length c2):=k4 BQ.chg 3
           go_upto_region 30 with fail
           clear CQ
           go_loopw [121] (fun t121 wr=>∃(j:Nat) (qj:j5),j≤c.2.2.2.length∧t121=.int .i64 (j:Int)∧Hid (StateAt wr B s (Jg i c.1 0 S1 (c.2.2.2.take j) (ns.take j)) qj)∧Hid (But (StX s S1 q1) wM wr)∧Hid (NewerX wM s S1 (Jg i c.1 0 S1 (c.2.2.2.take j) (ns.take j)) q1 qj)∧qj.nd≤q1.nd+j∧Hid (AdderAt wr a s i c (.slice A1 c.2.1.length c1) (.slice A2 c.2.2.2.length c2) (.slice Am o.length cm))∧Hid (AddMid wr b4 L R w.heap.size i c A1 c1 A2 c2)∧Hid (wr.ownsRow w.heap.size 3 1 (.slice An c.2.2.2.length cn) c.2.2.2.length (Q8 ns))∧Hid (DocsIx (Jg i c.1 0 S1 (c.2.2.2.take j) (ns.take j)))∧Hid (StateLe (Jg i c.1 0 S1 (c.2.2.2.take j) (ns.take j)) (c0+j) (t0+ve (c.2.2.2.take j)))) (fun t121 _=>c.2.2.2.length - (intOf t121).toNat)
           case atStart=>exact⟨0,q1,Nat.zero_le _,rfl,hid CB.out,hid (But.refl _ _),hid (NewerX.refl _ _ _ _),Nat.le_refl _,CY,BQ,CZ,D0,D1⟩
           case round=>
             obtain⟨j,qj,hj,rfl,BT,BU,Bq,DQ,BV,Br,BW,CD,BX⟩:=hrel;by_cases hlt:j<c.2.2.2.length
             ·have i0:(0:Int)≤(j:Int):=by omega
              have i1:(j:Int)<(c.2.2.2.length:Int):=by omega
              have DR:j<ns.length:=by omega
              obtain⟨g2,Ex,DW,DJ,EI,CR,_⟩:=KJ Br.ops yz;injection DJ with eA _ eC;subst eA eC;obtain⟨gn,ET,ER,EO,F2,Eq,_⟩:=KJ BW.out yz;injection EO with eN _ eM;subst eN eM;have Af:=hid (Cw.out _ (List.getElem_mem hlt));have F:=hid (show wr.rangeAt g2 (j*70) (opV c.2.2.2[j]) from fun k u C=>by
                have hr:=K9 (enc:=opV) (sz:=70) (fun x hx=>kH (G.ops x hx)) j hlt k u C;rw[k4 CR,List.getElem?_append_left (List.getElem?_eq_some_iff.1 hr).1];exact hr)
              have B6:=hid (List.take_succ_eq_append_getElem hlt);have CE:=hid (List.take_succ_eq_append_getElem DR);have CF:=hid (textsN_snoc c.2.2.2 hlt);have Dn:=hid (textsN_le c.2.2.2 j);have BY:=hid Eq;have CG:=hid (D3.out _ (List.getElem_mem DR));have BZ:=hid (show (Q8 ns)[j]?=some (.int .i64 (ns[j]:Int)) by unfold Q8;rw[List.getElem?_map,List.getElem?_eq_getElem DR];rfl);clear CR Eq;obtain⟨x,hx⟩:∃x,c.2.2.2[j]=x:=⟨_,rfl⟩;obtain⟨nj,Er⟩:∃x,ns[j]=x:=⟨_,rfl⟩;rw[hx] at Af F B6 CF;rw[Er] at CE CG BZ;clear hx Er;have B7:=kH Af.fin
              go_upto_region 32 with (first
                |(with_reducible refine k6 ?_
                  refine j9 rfl 112 _ rfl g2 _ rfl (opV x) _ F.out underlying112 rfl (by rw[B7];kernel_rfl) ?_)
                |(with_reducible refine kA ?_
                  refine ks yx 112 rfl (opV (0,kg,kg,kM,0,kM)) (opZ15 _) ?_;intro EJ C4 C5 Da;have A3:=hid C4;have Aw:=hid C5
                  clear C4 C5 Da)
                |(with_reducible refine kw ?_
                  refine ko yx 112 _ _ rfl wr.heap.size 0 [] (opV (0,kg,kg,kM,0,kM)) [] (opV x) 112 _ rfl rfl rfl rfl (by simpa using Aw.out) (by rw[B7];rfl) (by rw[B7];kernel_rfl) (Ud _) ?_;intro A8 Az C6 Db;have J:=hid (A3.trans (Az.below (B:=wr.heap.size) A3.size (fun k C e=>by have e2:k=wr.heap.size:=e;omega)));have Q:Hid (A8.heap[wr.heap.size]?=some (.cells (opV x).toArray 112 (0,0))):=hid (by simpa using C6);clear Az C6 Db))
              obtain⟨AW,Az⟩:∃z,wr.heap.size=z:=⟨_,rfl⟩;rw[Az] at Q ⊢;have AH:=hid (J.trans ((qD A8.heap.size A8).mono J.size));have Bs:=hid (BT.keep AH.out);have Bt:=hid (BV.keep AH.out);have D4:=hid (Br.keep AH.out);have Do:=hid ((But.of_below (X:=NoB) AH.out).own BW.out fun _ _ q=>q);have E:=hid (show ∀u:World,Below A8.heap.size A8 u→u.cell? ⟨gn,0+j*1,none⟩=some (.int .i64 (nj:Int))∧u.rangeAt AW 0 (opV x) from fun u hu=>by
                have h2:=(hu.block gn (qL (qX BY.out) J.size)).trans ((J.block gn (qX BY.out)).trans BY.out);refine⟨(k4 h2 _).trans ?_,fun k v C=>by rw[qZ];exact(k4 ((hu.block AW (qX Q.out)).trans Q.out) k).trans C⟩;rw[show 0+j*1=j by omega,List.getElem?_append_left (List.getElem?_eq_some_iff.1 BZ.out).1];exact BZ.out)
              have EP:=enE func53 rfl;have D5:=hid (do_any B a s S (Jg i c.1 0 S1 (c.2.2.2.take j) (ns.take j)) qj i c _ _ _ j nj x A8.drew Bs.out Bt.out Af.out G.ok.1 yz CG.out (by have:=BX.claims;omega) (by have:=BS.out;omega) CD.out (fun y hy=>by have:=BX.size y hy;have:=Dn.out;omega));clear A3 Aw Az BV Br BW F;refine rN 7 (fun u=>Below A8.heap.size A8 u) (qD _ _) fun l=>?_
              refine tw 0 (.pointer (some ⟨a,0,none⟩)) ?_ (hQ:=by exact fun _ _ _ h=>jf yv h);go_frame;refine tw 1 (.int .i64 (j:Int)) ?_ (hQ:=by exact fun _ _ _ h=>jf yv h);go_frame;refine tw 2 (.slice (some ⟨gn,0,none⟩) c.2.2.2.length cn) ?_ (hQ:=by exact fun _ _ _ h=>jf yv h);go_frame;refine tw 3 (.int .i64 (j:Int)) ?_ (hQ:=by exact fun _ _ _ h=>jf yv h);go_frame;refine tk 4 (.pointer (some ⟨gn,0+j*1,none⟩)) rfl (fun w' H=>Kc 128 _ _ rfl (b:=gn) (off:=0) (q:=j) (n:=c.2.2.2.length) (c:=cn) rfl rfl hlt underlying128 sizeInt15) ?_ (hQ:=by exact fun _ _ _ h=>jf yv h);go_frame;refine tl 5 (.int .i64 (nj:Int)) rfl l (fun w' H=>l1 underlying3 (E.out w' H).1) ?_ (hQ:=by exact fun _ _ _ h=>jf yv h);go_frame;refine tl 6 (.agg (opV x).toArray) rfl l (fun w' H=>kc 112 _ rfl (p:=⟨AW,0,none⟩) rfl (qV w' AW 0 _ (opV x) _ (E.out w' H).2 underlying112 rfl (by rw[B7];kernel_rfl))) ?_ (hQ:=by exact fun _ _ _ h=>jf yv h);go_frame;refine ta 7 ?_;refine tc #[.pointer (some ⟨a,0,none⟩),.int .i64 (j:Int),.int .i64 (nj:Int),.agg (opV x).toArray] EP rfl ?_;refine D5.mono ?_;rintro e DL ⟨rfl,q2,DS,DT,DU,EU⟩;have D6:=hid DS;have AU:=hid DT;have D7:=hid DU
              clear DS DT DU;refine⟨_,rfl,fun h=>absurd h yv,?_⟩;go_frame;refine ku yy ?_ _;go_wp2_with fail
              go_roundw
              case rel=>
                have Cg:Jg i c.1 0 S1 (c.2.2.2.take (j+1)) (ns.take (j+1))=JP (Jg i c.1 0 S1 (c.2.2.2.take j) (ns.take j)) i c.1 j nj x:=by
                  rw[B6.out,CE.out,dosAt_snoc i c.1 x nj _ _ 0 S1 (by rw[List.length_take,List.length_take];omega)]
                  congr 1
                  rw[List.length_take];omega
                refine⟨j+1,q2,by omega,by go_num,hid ?_,hid (((BU.trans (Y:=NoB) (But.of_below AH.out) fun _ _ q=>q.elim)).trans AU.out fun k C hx=>?_),hid ?_,by omega,hid ⟨Bs.keepCells AU.out Bt.box yv,T.out⟩,hid (D4.but AU.out fun k C Ag t fr hc=>?_),hid (Bs.own AU.out Do.out yv),hid ?_,hid ?_⟩
                ·rw[Cg];exact D6.out
                ·rcases Bq.out k hx with h|h
                 ·exact h
                 ·omega
                ·rw[Cg];exact Bq.trans D7.out (qT BU.size AH.size)
                ·cases hm:midTag t with
                 |false=>rfl
                 |true=>exact absurd C (Bs.notX hc (mid_st hm))
                ·rw[Cg];exact CD.do i c.1 j nj x
                ·rw[Cg,CF.out];have:=BX.do i c.1 j nj x
                 rw[Nat.add_assoc] at this;rw[←Nat.add_assoc t0];exact this
              case measure=>(simp [intOf])<;>omega
             ·obtain rfl:j=c.2.2.2.length:=by omega
              rw[List.take_length,show ns.take c.2.2.2.length=ns by rw[←Em,List.take_length]] at BT Bq;have he:=Br.err;have CH:=hid he;clear he
              go_wp2_with (first
                |(with_reducible refine kw ?_
                  refine ko yx 29 _ _ rfl R 0 [] [.int .i64 0] [] [.int .i64 0] 29 (.int .i64 0) rfl rfl rfl rfl (by simpa using CH.out) rfl yy (by intro u hu;rw[List.mem_singleton.1 hu];rfl) ?_;intro wE Es Et DV;have CI:=hid Es;have Dp:Hid (wE.heap[R]?=some (.cells [Value.int .i64 0].toArray 29 (0,0))):=hid (by simpa using Et);clear Es Et DV))
              refine leaves_cons (f:=50) (args:=#[.pointer (some ⟨R,0,none⟩)]) yq (by simp [go_sem]) ?_;refine(add_idle ⟨R,0,none⟩ _).mono ?_;rintro e u' w9 ⟨rfl,rfl,rfl⟩;refine⟨_,jk results17 _ _ rfl (Jy Dp.out),?_⟩;rw[BO.out];have EA:But (StX s S q) w wr:=BR.trans BU.out fun k C hx=>(CC.out k).1 hx
              have DV:StateAt _ B s _ qj:=BT.keepE CI.out (CH.out);refine⟨rfl,qj,DV,EA.trans CI.out fun k C e=>absurd C (by have:=HL.out;have e2:k=R:=e;omega),fun k C=>?_,?_⟩
              ·rcases Bq.out k C with g|g
               ·exact .inl ((CC.out k).1 g)
               ·exact .inr (qT BR.size g)
              ·rw[BS.out] at DQ;exact DQ
end
section
open Go.RowKit
def nextW(l:List UInt8)(a t:Nat)(w:List Int):Int:=
  if t<16 then wordS (j3 l (a+4*t)) (j3 l (a+4*t+1)) (j3 l (a+4*t+2)) (j3 l (a+4*t+3))
  else zA (zA (zA (JK (JK (jO 17 (w.getD 1 0)) (jO 19 (w.getD 1 0))) (w.getD 1 0 / 1024)) (w.getD 6 0)) (JK (JK (jO 7 (w.getD 14 0)) (jO 18 (w.getD 14 0))) (w.getD 14 0 / 8))) (w.getD 15 0)
def nextR(t:Nat)(x:Int)(p:St8×List Int):St8×List Int:=(Q3 p.1 (keyS t) x,x::p.2)
def runL(l:List UInt8)(a:Nat)(s:St8):Nat→St8×List Int
  | 0=>(s,[])
  |t+1=>nextR t (nextW l a t (runL l a s t).2) (runL l a s t)
theorem runL_words(l:List UInt8)(a:Nat)(s:St8):∀n,(∀i,i<n→(runL l a s n).2.getD (n - 1 - i) 0=zX l a i)
  | 0=>fun i h=>by omega
  |n+1=>fun i h=>by
   have ih:=runL_words l a s n;have A:nextW l a n (runL l a s n).2=zX l a n:=by
      unfold nextW;by_cases h16:n<16
      ·rw[if_pos h16,Uo h16]
      ·rw[if_neg h16,Up h16,←ih (n - 2) yz,←ih (n - 7) yz,←ih (n - 15) yz,←ih (n - 16) yz,show n - 1 - (n - 2)=1 by omega,show n - 1 - (n - 7)=6 by omega,show n - 1 - (n - 15)=14 by omega,show n - 1 - (n - 16)=15 by omega]
   unfold runL nextR;rcases (by omega:i=n∨i<n) with rfl|B
   ·rw[show i+1 - 1 - i=0 by omega];exact A
   ·rw[show n+1 - 1 - i=(n - 1 - i)+1 by omega,List.getD_cons_succ];exact ih i B
theorem runL_run(l:List UInt8)(a:Nat)(s:St8):∀n,(runL l a s n).1=uz l a s n
  | 0=>rfl
  |n+1=>by
   have hn:nextW l a n (runL l a s n).2=zX l a n:=by
      have h:=runL_words l a s (n+1) n yz;rw[show n+1 - 1 - n=0 by omega] at h;exact h
   unfold runL nextR uz;dsimp only;rw[hn,runL_run l a s n]
theorem sha_one{l:List UInt8}(h:l.length<56):ZJ l=UA (sumS (runL (Uz l) 0 firstS 64).1 firstS):=by
  unfold ZJ;have A:(Uz l).length / 64=1:=by rw[vy];unfold jY;omega
  rw[A,runL_run];rfl
end
end Go.Proofs.YtdgbjhfkmembdaaGreatDoor