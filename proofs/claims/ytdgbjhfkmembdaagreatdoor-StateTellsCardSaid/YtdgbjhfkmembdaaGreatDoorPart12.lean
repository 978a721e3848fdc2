/-
  Facts and contracts that the walk needs. Conditions: as each says.
-/
import Derived.Test.YtdgbjhfkmembdaaGreatDoorPart7
import Derived.Test.YtdgbjhfkmembdaaGreatDoorPart8
import Derived.Test.YtdgbjhfkmembdaaGreatDoorPart11
import Derived.Test.YtdgbjhfkmembdaaGreatDoorPart9
import Derived.Defers
import Derived.Recover
set_option linter.unusedVariables false
set_option linter.unusedSimpArgs false
set_option maxHeartbeats 4000000
set_option maxRecDepth 100000
open Go.Proofs.Tryz
namespace Go.Proofs.YtdgbjhfkmembdaaGreatDoor
section
open Go.RowKit Go.Maps
open Lib (hid)
def CkGives(g:Nat)(deps:List (List UInt8))(mk:List jL)(x:OpD)(w:World)(e:Ending)(w':World):Prop:=
  Below g w w'∧e=.returned (.bool (opB deps mk x))∧(opB deps mk x=true→CkAt w' g deps (mk++zT x))
theorem Zm{w w':World}{g:Nat}(hg:g≤w.heap.size)(h:Below w.heap.size w w'):Below g w w':=h.mono hg
theorem bytes0{s:ByteArray}(h:KY s=true):J2 s=0:=by
  unfold KY at h;rw[xy,decide_eq_true_eq] at h;unfold J2;rw[if_neg yv,if_pos h.2]
theorem bytesN{s:ByteArray}(h:KY s=false):J2 s≠0:=by
  unfold KY at h;unfold J2
  split
  ·decide
  ·split
   ·rename_i B A;rw[A,dT (show s.size≤4096 by omega)] at h;cases h
   ·decide
theorem fileB_ok{s:ByteArray}(h:KY s=true):okFrom s 0:=by
  unfold KY at h;rw[xy] at h;exact h.2
theorem ckop_all(g:Nat)(deps:List (List UInt8))(mk:List jL)(k:UInt8)(d r:zy)(t:ByteArray)(n:Int)(q:ByteArray)(w:World)(hk:CkAt w g deps mk)(ho:IdsOk deps)(hn:deps.length≤1099511627776)(hmn:mk.length≤1000000000)(hm:∀m∈mk,uj m)(hx:KR (k,d,r,t,n,q))(hg:Glob w):
    Calls prog 227 #[.pointer (some ⟨g,0,none⟩),.agg (opV (k,d,r,t,n,q)).toArray] w (CkGives g deps mk (k,d,r,t,n,q) w):=by
  have K:=hid hk;have HO:=hid ho;have HM:=hid hm;have B:=hid hx;have HG:=hid hg
  clear hk ho hm hx hg;go_enter func227,ntmps227
  go_upto_region 1 with (first
    |(with_reducible refine kG ?_
      refine kz yk 112 _ rfl (opV (k,d,r,t,n,q)) _ rfl rfl (by rw[kI B.out];exact Ky) ?_;intro S Az Ac Bq;go_frame))
  have AG:w.heap.size<S.heap.size:=(qX Ac);obtain⟨zx,AO⟩:=Xy w.heap.size;rw[AO] at Ac AG ⊢;have Br:g<zx:=by rw[←AO];exact K.lt
  have Bh:w.heap.size≤zx:=yv;clear AO;have T:=hid (fun (u:World) (l:Below S.heap.size S u)=>(show u.cell? ⟨zx,0,none⟩=some (.int .u8 (k.toNat:Int)) from (l.cell (p:=⟨zx,0,none⟩) AG).trans (k6 Ac 0)));have y:=hid (show Below S.heap.size S S.drew from (qD _ _));have Ae:Hid ((vK k).getD (vi Ji)=(vi ((jO k).getD Ji))):=hid (by unfold vK;cases jO k<;>rfl);have AP:=enE func195 rfl
  go_cut [5,6] from 7 to 13 (fun t5 t6 wx=>∃zp,t5=.pointer (some ⟨zp,0,none⟩)∧t6=.bool (vK k).isSome∧S.heap.size≤zp∧Hid (Below S.heap.size S wx)∧Hid (wx.heap[zp]?=some (.cells (JD ((jO k).getD Ji)).toArray 320 (0,0))))
  case first=>
    refine rN 8 (fun u=>u.cell? ⟨zx,0,none⟩=some (.int .u8 (k.toNat:Int))) (T _ y) fun Au=>?_
    refine tw 1 _ ?_;go_frame;refine tl 2 _ rfl Au (fun w' Al=>l1 underlying5 Al) ?_;go_frame;refine uT (rs:=[0,7]) yq yZ ?_;intro q' Av;simp only[xK,YY,or_false] at Av;rcases Av with rfl|rfl
    ·refine wpOp_call _ rfl yq (UQ (f:=195) (args:=#[]) rfl rfl (fun args w=>AP w args) yZ) ?_;refine(parts_any (S.drew)).mono ?_;rintro e v1 ⟨Ag,v,rfl,⟨mg,mn,rfl,Aj⟩,-⟩;have A1:Below S.heap.size S v1:=(y).trans (Ag.mono (y).size);refine⟨_,rfl,fun _ _=>T _ A1,?_⟩;go_frame;refine uT (rs:=[3,7]) yq yZ ?_;intro q' Av;simp only[xK,YY,or_false] at Av;rcases Av with rfl|rfl
     focus
       refine zP _ rfl yq (qY 317 _ _ rfl (vm:=.map (some mg)) (vk:=u8K k) rfl rfl (MapV.look2 QF underlying317 (fun u=>QG u) Aj (k0:=k) trivial)) ?_;rw[Ae.out];refine⟨fun _ h=>h,?_⟩;go_frame;refine tw 4 _ ?_;go_frame;refine tw 5 _ ?_;go_frame;refine tw 6 _ ?_;go_frame;refine ta 7 ?_;refine zJ _ rfl yq 320 rfl (JD Ji) (UV _) ?_;intro va Ab Aw B2;have A2:Below S.heap.size S va:=(A1).trans (Ab.mono (A1).size);have AH:S.heap.size≤(v1).heap.size:=(A1).size;have B3:(v1).heap.size<va.heap.size:=yv;have B4:=Aj.below Ab;refine⟨fun _ _=>T _ A2,?_⟩
     rotate_left
     focus
       refine zJ _ rfl yq 320 rfl (JD Ji) (UV _) ?_;intro va Ab Aw B2;have A2:Below S.heap.size S va:=(A1).trans (Ab.mono (A1).size);have AH:S.heap.size≤(v1).heap.size:=(A1).size;have B3:(v1).heap.size<va.heap.size:=yv;have B4:=Aj.below Ab;refine⟨fun _ _=>T _ A2,?_⟩;go_frame;refine ta 3 ?_;refine zP _ rfl yq (qY 317 _ _ rfl (vm:=.map (some mg)) (vk:=u8K k) rfl rfl (MapV.look2 QF underlying317 (fun u=>QG u) B4 (k0:=k) trivial)) ?_;rw[Ae.out];refine⟨fun _ h=>h,?_⟩;go_frame;refine tw 4 _ ?_;go_frame;refine tw 5 _ ?_;go_frame;refine tw 6 _ ?_
     all_goals
       go_frame;refine ta 8 ?_;refine kR _ rfl yq 320 _ _ rfl ((v1).heap.size) 0 [] (JD Ji) [] (JD ((jO k).getD Ji)) 320 (vi ((jO k).getD Ji)) rfl rfl rfl rfl (by simpa using Aw) rfl yq (by intro u l;simp only[JD,xK,YY,or_false] at l;rcases l with rfl|rfl|rfl|rfl|rfl<;>rfl) ?_;intro vs AQ AR Bi;have AS:Below S.heap.size S vs:=(A2).trans (AQ.below (A2).size (fun k hk=>by omega));have AT:S.heap.size≤(v1).heap.size:=AH;refine⟨fun h=>absurd h yj,?_⟩;go_frame;refine tw 9 _ ?_;go_frame;refine ku yq ?_ _;go_wp2_with fail
       go_meet
       case rel=>exact⟨(v1).heap.size,rfl,rfl,AT,hid AS,hid (by simpa using AR)⟩
    ·refine zJ _ rfl yq 320 rfl (JD Ji) (UV _) ?_;intro va Ab Aw B2;have A2:Below S.heap.size S va:=(y).trans (Ab.mono (y).size);have AH:S.heap.size≤(S.drew).heap.size:=(y).size;have B3:(S.drew).heap.size<va.heap.size:=yv;refine⟨fun _ _=>T _ A2,?_⟩;go_frame;refine ta 0 ?_;refine wpOp_call _ rfl yq (UQ (f:=195) (args:=#[]) rfl rfl (fun args w=>AP w args) yZ) ?_;refine(parts_any (va)).mono ?_;rintro e v1 ⟨Ag,v,rfl,⟨mg,mn,rfl,Aj⟩,-⟩;have A1:Below S.heap.size S v1:=(A2).trans (Ag.mono (A2).size);have Bj:=(Ag.block _ (qX Aw)).trans Aw;refine⟨_,rfl,fun _ _=>T _ A1,?_⟩;go_frame;refine ta 3 ?_;refine zP _ rfl yq (qY 317 _ _ rfl (vm:=.map (some mg)) (vk:=u8K k) rfl rfl (MapV.look2 QF underlying317 (fun u=>QG u) Aj (k0:=k) trivial)) ?_;rw[Ae.out];refine⟨fun _ h=>h,?_⟩;go_frame;refine tw 4 _ ?_;go_frame;refine tw 5 _ ?_;go_frame;refine tw 6 _ ?_;go_frame;refine ta 8 ?_;refine kR _ rfl yq 320 _ _ rfl ((S.drew).heap.size) 0 [] (JD Ji) [] (JD ((jO k).getD Ji)) 320 (vi ((jO k).getD Ji)) rfl rfl rfl rfl (by simpa using Bj) rfl yq (by intro u l;simp only[JD,xK,YY,or_false] at l;rcases l with rfl|rfl|rfl|rfl|rfl<;>rfl) ?_;intro vs AQ AR Bi;have AS:Below S.heap.size S vs:=(A1).trans (AQ.below (A1).size (fun k hk=>by omega));have AT:S.heap.size≤(S.drew).heap.size:=AH;refine⟨fun h=>absurd h yj,?_⟩;go_frame;refine tw 9 _ ?_;go_frame;refine ku yq ?_ _;go_wp2_with fail
     go_meet
     case rel=>exact⟨(S.drew).heap.size,rfl,rfl,AT,hid AS,hid (by simpa using AR)⟩
  case rest=>
    obtain⟨zp,rfl,rfl,Bs,Ah,A7⟩:=hcut;obtain⟨ws,Bk⟩:=Xv wc;subst Bk;have U:Hid (Below w.heap.size w ws):=hid (Xx Az.out Ah.out);have E:=hid (K.keep U);have A3:=hid (HG.next U);clear T y Ae AP;rcases hp:jO k with _ |⟨fa,fb,fc,fd,fe⟩
    ·have J:Hid (opB deps mk (k,d,r,t,n,q)=false):=hid (by unfold opB;simp only[hp]);have dk:(vK k).isSome=false:=by unfold vK;rw[hp];rfl
     clear hp;go_wp2_with fail;go_ret;exact⟨Zm (YV K.lt) U,by rw[J.out];rfl,fun h=>by rw[J.out] at h;cases h⟩
    have V:=hid hp;have dk:(vK k).isSome=true:=by unfold vK;rw[hp];rfl
    have W:Hid (opB deps mk (k,d,r,t,n,q)=(kO (k,d,r,t,n,q) (fa,fb,fc,fd,fe) && (!fa || vf deps mk d) && (!fe || jZ q) &&
        (!decide (k=2) || (decide (1≤n) && decide (n≤4096) && jD deps mk r d n)) && (!decide (k=1) || ((decide (r=d) || jD deps mk r d 1) && !decide (t=noneS) && KY t)))):=hid (by unfold opB;simp only[hp])
    rw[hp] at A7;clear hp;have AE:=(qX A7);have AU:zx<ws.heap.size:=qL AG Ah.size;have Z:=hid (fun (u:World) (l:Below ws.heap.size ws u)=>(show u.rangeAt zx 0 (opV (k,d,r,t,n,q)) from fun j v hj=>by rw[qZ];exact((l.cell (p:=⟨zx,j,none⟩) AU).trans ((Ah.cell (p:=⟨zx,j,none⟩) AG).trans (k6 Ac j))).trans hj));have A4:=hid (fun (u:World) (l:Below ws.heap.size ws u)=>(show u.rangeAt zp 0 (JD (fa,fb,fc,fd,fe)) from fun j v hj=>by rw[qZ];exact((l.cell (p:=⟨zp,j,none⟩) AE).trans (k6 A7 j)).trans hj));have G:=hid (fun (u:World) (l:Below ws.heap.size ws u)=>(show u.cell? ⟨zp,0,none⟩=some (.bool fa)∧u.cell? ⟨zp,4,none⟩=some (.bool fe) from⟨(l.cell (p:=⟨zp,0,none⟩) AE).trans (k6 A7 0),(l.cell (p:=⟨zp,4,none⟩) AE).trans (k6 A7 4)⟩));have D:=hid (fun (u:World) (l:Below ws.heap.size ws u)=>(show u.cell? ⟨zx,0,none⟩=some (.int .u8 (k.toNat:Int))∧u.cell? ⟨zx,67,none⟩=some (.string t)∧u.cell? ⟨zx,68,none⟩=some (.int .i64 n)∧u.cell? ⟨zx,69,none⟩=some (.string q) from by
      have h:=fun j v hj=>(Z u l j v hj:u.cell? ⟨zx,0+j,none⟩=some v)
      simp only[qZ] at h;exact⟨h 0 _ (kB B).1,h 67 _ (kB B).2.2.2.1,h 68 _ (kB B).2.2.2.2.1,h 69 _ (kB B).2.2.2.2.2⟩))
    have a:=hid (fun (u:World) (l:Below ws.heap.size ws u)=>(show u.rangeAt zx 1 (kw d) from fun j v hj=>by have h:=Z.out u l (1+j) _ ((kB B).2.1 j v hj);rw[qZ] at h;exact h));have o:=hid (fun (u:World) (l:Below ws.heap.size ws u)=>(show u.rangeAt zx 34 (kw r) from fun j v hj=>by have h:=Z.out u l (34+j) _ ((kB B).2.2.1 j v hj);rw[qZ] at h;exact h));have A:Hid (Below ws.heap.size ws ws):=hid (qB _ _);rcases Yk (kO (k,d,r,t,n,q) (fa,fb,fc,fd,fe)) with ha|ha
    rotate_left
    focus
      have s:=hid ha;have J:Hid (opB deps mk (k,d,r,t,n,q)=false):=hid (by rw[W.out,ha];simp)
      clear ha
    rotate_right
    have s:=hid ha;clear ha;cases fa
    cases fe
    ·exact absurd (zW V) yZ
    rcases Yk (jZ q) with A6|A6
    rotate_left
    focus
      have Q:=hid A6;have J:Hid (opB deps mk (k,d,r,t,n,q)=false):=hid (by rw[W.out,A6];simp)
      clear A6
    rotate_right
    have Q:=hid A6;clear A6
    ·have hk:k=3:=by
       rcases zW V.out with⟨h,e⟩|⟨h,e⟩|⟨h,e⟩|⟨h,e⟩|⟨h,e⟩<;>first|exact h|(simp at e)
     have C:Hid ((k.toNat:Int)=3):=hid (by rw[hk];rfl);have I:=hid hk;clear hk;have c:Hid (zT (k,d,r,t,n,q)=[(true,ko)]):=hid (by unfold zT;rw[I.out];rfl);have J:Hid (opB deps mk (k,d,r,t,n,q)=true):=hid (by rw[W.out,s.out,Q.out,I.out];simp)
     go_upto_region 6 with (first
       |(with_reducible refine k8 ?_
         first
         |refine k7 yk (ldO B (Z _ A)) ?_
         |refine k7 yk (kg 320 _ rfl (p:=⟨zp,0,none⟩) rfl (qV _ _ _ _ _ _ (A4 _ A) underlying320 rfl KT)) ?_
         |refine k7 yk (ldR B.1.1 (a _ A)) ?_
         |refine k7 yk (ldR B.1.2.1 (o _ A)) ?_)
       |(go_at_call 249;refine(ZD (k,d,r,t,n,q) _ k _ B V).mono ?_;rintro e u ⟨F,rfl⟩;rw[s.out];have A:=hid (Xx A.out F)
         try clear M N H L O P
         obtain⟨M,N⟩:=G.out _ A.out;obtain⟨H,L,O,P⟩:=D.out _ A.out
         try rw[C.out] at H
         clear F)
       |(go_at_call 250;refine(q8 g deps mk d _ (E.keep A) HO hn yv HM.out B.1.1).mono ?_;rintro e u ⟨F,rfl⟩;rw[R.out];have A:=hid (Xx A.out F)
         try clear M N H L O P
         obtain⟨M,N⟩:=G.out _ A.out;obtain⟨H,L,O,P⟩:=D.out _ A.out
         try rw[C.out] at H
         clear F)
       |(go_at_call 173;refine(ZU q _ B.2.2 (A3.next A)).mono ?_;rintro e u ⟨F,rfl⟩;rw[Q.out];have A:=hid (Xx A.out F)
         try clear M N H L O P
         obtain⟨M,N⟩:=G.out _ A.out;obtain⟨H,L,O,P⟩:=D.out _ A.out
         try rw[C.out] at H
         clear F))
     obtain⟨wz,B5⟩:=Xy u;rw[B5] at A ⊢;clear B5 H L O P M N;have A8:=hid (E.keep A);obtain⟨Ad,cd,vm,h1,h2,h3⟩:=A8.out;have H1:=hid h1;have H2:=hid h2;have H3:=hid h3
     have c1:wz.cell? ⟨g,1,none⟩=some vm:=k6 (cs:=[.slice Ad deps.length cd,vm]) h1 1;have Aa:=hid (fun (u:World) (l:Below wz.heap.size wz u)=>(But.of_below (X:=NoB) l).own h3 fun _ _ q=>q);clear h1 h2 h3
     go_wp2_with (first
       |(with_reducible refine kL ?_
         refine k7 yk (kp 373 _ rfl (madeDoc_built _)) ?_)
       |(refine zE yk 347 _ rfl 373 underlying347 (.agg (j9 (false,ko)).toArray) 34 48 Uu rfl yj yj (j9 (true,ko)) rfl rfl ?_)
       |(refine Jw yk _ _ 347 rfl (g+1) 373 (.agg (j9 (false,ko)).toArray) 34 48 underlying347 Uu rfl yj vm mk.length (kf j9 mk) rfl (Aa _ ((qB _ _).alloc (qR _) _)) ⟨wz.heap.size,0,none⟩ 1 1 (j9 (true,ko)) rfl rfl (J3 wz _ _) (vv _) yY yv (by have:=A8.lt;simp;omega) ?_;intro v9 w9 Ak Ax Ay;obtain⟨A9,c9,rfl⟩:=kM Ak;obtain⟨cg,cf,B6,B7⟩:=CkAt.put (new:=[(true,ko)]) H1.out H2.out H3.out ((qB wz.heap.size wz).alloc (qR _) _) (by rw[show kf j9 [((true,ko):jL)]=j9 (true,ko) by simp [kf]];exact Ak) Ax (by simpa using Ay);have AJ:=hid B6;have AK:=hid B7
         clear Ak Ax Ay B6 B7))
     go_ret;exact⟨(Zm (YV K.lt) (Xx U.out A.out)).trans (AK.belowG A8),by rw[J.out];rfl,fun _=>by rw[c.out];exact AJ.out⟩
    rotate_left
    rcases Yk (vf deps mk d) with Am|Am
    rotate_left
    focus
      have R:=hid Am;have J:Hid (opB deps mk (k,d,r,t,n,q)=false):=hid (by rw[W.out,Am];simp)
      clear Am
    rotate_right
    have R:=hid Am;clear Am;cases fe
    rotate_left
    rcases Yk (jZ q) with A6|A6
    rotate_left
    focus
      have Q:=hid A6;have J:Hid (opB deps mk (k,d,r,t,n,q)=false):=hid (by rw[W.out,A6];simp)
      clear A6
    rotate_right
    have Q:=hid A6;clear A6
    ·have hk:k=4:=by
       rcases zW V.out with⟨h,e⟩|⟨h,e⟩|⟨h,e⟩|⟨h,e⟩|⟨h,e⟩<;>first|exact h|(simp at e)
     have C:Hid ((k.toNat:Int)=4):=hid (by rw[hk];rfl);have I:=hid hk;clear hk;have c:Hid (zT (k,d,r,t,n,q)=[]):=hid (by unfold zT;rw[I.out];rfl);have J:Hid (opB deps mk (k,d,r,t,n,q)=true):=hid (by rw[W.out,s.out,R.out,Q.out,I.out];simp)
     go_wp2_with (first
       |(with_reducible refine k8 ?_
         first
         |refine k7 yk (ldO B (Z _ A)) ?_
         |refine k7 yk (kg 320 _ rfl (p:=⟨zp,0,none⟩) rfl (qV _ _ _ _ _ _ (A4 _ A) underlying320 rfl KT)) ?_
         |refine k7 yk (ldR B.1.1 (a _ A)) ?_
         |refine k7 yk (ldR B.1.2.1 (o _ A)) ?_)
       |(go_at_call 249;refine(ZD (k,d,r,t,n,q) _ k _ B V).mono ?_;rintro e u ⟨F,rfl⟩;rw[s.out];have A:=hid (Xx A.out F)
         try clear M N H L O P
         obtain⟨M,N⟩:=G.out _ A.out;obtain⟨H,L,O,P⟩:=D.out _ A.out
         try rw[C.out] at H
         clear F)
       |(go_at_call 250;refine(q8 g deps mk d _ (E.keep A) HO hn yv HM.out B.1.1).mono ?_;rintro e u ⟨F,rfl⟩;rw[R.out];have A:=hid (Xx A.out F)
         try clear M N H L O P
         obtain⟨M,N⟩:=G.out _ A.out;obtain⟨H,L,O,P⟩:=D.out _ A.out
         try rw[C.out] at H
         clear F)
       |(go_at_call 173;refine(ZU q _ B.2.2 (A3.next A)).mono ?_;rintro e u ⟨F,rfl⟩;rw[Q.out];have A:=hid (Xx A.out F)
         try clear M N H L O P
         obtain⟨M,N⟩:=G.out _ A.out;obtain⟨H,L,O,P⟩:=D.out _ A.out
         try rw[C.out] at H
         clear F))
     go_ret;exact⟨Zm (YV K.lt) (Xx U.out A.out),by rw[J.out];rfl,fun _=>by rw[c.out,List.append_nil];exact E.keep A.out⟩
    rotate_right
    have hk:k=5∨k=2∨k=1:=by
      rcases zW V.out with⟨h,e⟩|⟨h,e⟩|⟨h,e⟩|⟨h,e⟩|⟨h,e⟩<;>first|(exact .inl h)|(exact .inr (.inl h))|(exact .inr (.inr h))|(simp at e)
    rcases hk with hk|hk|hk
    ·have C:Hid ((k.toNat:Int)=5):=hid (by rw[hk];rfl);have I:=hid hk;clear hk;have c:Hid (zT (k,d,r,t,n,q)=[]):=hid (by unfold zT;rw[I.out];rfl);have J:Hid (opB deps mk (k,d,r,t,n,q)=true):=hid (by rw[W.out,s.out,R.out,I.out];simp)
     go_wp2_with (first
       |(with_reducible refine k8 ?_
         first
         |refine k7 yk (ldO B (Z _ A)) ?_
         |refine k7 yk (kg 320 _ rfl (p:=⟨zp,0,none⟩) rfl (qV _ _ _ _ _ _ (A4 _ A) underlying320 rfl KT)) ?_
         |refine k7 yk (ldR B.1.1 (a _ A)) ?_
         |refine k7 yk (ldR B.1.2.1 (o _ A)) ?_)
       |(go_at_call 249;refine(ZD (k,d,r,t,n,q) _ k _ B V).mono ?_;rintro e u ⟨F,rfl⟩;rw[s.out];have A:=hid (Xx A.out F)
         try clear M N H L O P
         obtain⟨M,N⟩:=G.out _ A.out;obtain⟨H,L,O,P⟩:=D.out _ A.out
         try rw[C.out] at H
         clear F)
       |(go_at_call 250;refine(q8 g deps mk d _ (E.keep A) HO hn yv HM.out B.1.1).mono ?_;rintro e u ⟨F,rfl⟩;rw[R.out];have A:=hid (Xx A.out F)
         try clear M N H L O P
         obtain⟨M,N⟩:=G.out _ A.out;obtain⟨H,L,O,P⟩:=D.out _ A.out
         try rw[C.out] at H
         clear F)
       |(go_at_call 173;refine(ZU q _ B.2.2 (A3.next A)).mono ?_;rintro e u ⟨F,rfl⟩;rw[Q.out];have A:=hid (Xx A.out F)
         try clear M N H L O P
         obtain⟨M,N⟩:=G.out _ A.out;obtain⟨H,L,O,P⟩:=D.out _ A.out
         try rw[C.out] at H
         clear F))
     go_ret;exact⟨Zm (YV K.lt) (Xx U.out A.out),by rw[J.out];rfl,fun _=>by rw[c.out,List.append_nil];exact E.keep A.out⟩
    rotate_left
    ·have C:Hid ((k.toNat:Int)=1):=hid (by rw[hk];rfl);have I:=hid hk;clear hk;have c:Hid (zT (k,d,r,t,n,q)=List.replicate (zK t) (false,d)):=hid (by unfold zT;rw[I.out];rfl);obtain⟨An,AF⟩:∃An:Bool,(!((decide (r=d) || jD deps mk r d 1) && !decide (t=noneS) && KY t))=An:=⟨_,rfl⟩;have Ai:=hid AF;have J:Hid (opB deps mk (k,d,r,t,n,q)= !An):=hid (by rw[W.out,s.out,R.out,I.out,←AF];simp);clear AF
     go_upto_region 10 with (first
       |(with_reducible refine k8 ?_
         first
         |refine k7 yk (ldO B (Z _ A)) ?_
         |refine k7 yk (kg 320 _ rfl (p:=⟨zp,0,none⟩) rfl (qV _ _ _ _ _ _ (A4 _ A) underlying320 rfl KT)) ?_
         |refine k7 yk (ldR B.1.1 (a _ A)) ?_
         |refine k7 yk (ldR B.1.2.1 (o _ A)) ?_)
       |(go_at_call 249;refine(ZD (k,d,r,t,n,q) _ k _ B V).mono ?_;rintro e u ⟨F,rfl⟩;rw[s.out];have A:=hid (Xx A.out F)
         try clear M N H L O P
         obtain⟨M,N⟩:=G.out _ A.out;obtain⟨H,L,O,P⟩:=D.out _ A.out
         try rw[C.out] at H
         clear F)
       |(go_at_call 250;refine(q8 g deps mk d _ (E.keep A) HO hn yv HM.out B.1.1).mono ?_;rintro e u ⟨F,rfl⟩;rw[R.out];have A:=hid (Xx A.out F)
         try clear M N H L O P
         obtain⟨M,N⟩:=G.out _ A.out;obtain⟨H,L,O,P⟩:=D.out _ A.out
         try rw[C.out] at H
         clear F)
       |(go_at_call 173;refine(ZU q _ B.2.2 (A3.next A)).mono ?_;rintro e u ⟨F,rfl⟩;rw[Q.out];have A:=hid (Xx A.out F)
         try clear M N H L O P
         obtain⟨M,N⟩:=G.out _ A.out;obtain⟨H,L,O,P⟩:=D.out _ A.out
         try rw[C.out] at H
         clear F))
     go_cut [103] from 79 to 103 (fun t103 wx=>t103=.bool An∧Hid (Below ws.heap.size ws wx))
     case first=>
       have EQ:=hid (fun (u:World)=>jU B.1.2.1 B.1.1 u);obtain⟨v,hv⟩:=Xy (J2 t);have Ao:=hid hv;obtain⟨b1,h1⟩:∃b,decide (r=d)=b:=⟨_,rfl⟩;obtain⟨b2,h2⟩:=Xy (jD deps mk r d 1);obtain⟨b3,e3⟩:=Xy t.toList.isEmpty;obtain⟨b4,h4⟩:=Xy (KY t);have Ap:=hid h2;rw[h1] at EQ;have HV:Hid ((!((b1 || b2) && !b3 && b4))=An):=hid (by rw[←Ai.out,h1,h2,h4,←e3,jE]);clear h1 h2;cases b4
       ·have AV:v≠0:=by rw[←hv];exact bytesN h4
        have e5:(v == 0)=false:=by rw[beq_eq_false_iff_ne];exact AV
        have e6:(v != 0)=true:=by rw[bne_iff_ne];exact AV
        clear AV hv h4;cases b1<;>cases b3<;>try cases b2
        all_goals
          go_wp2_with (first
            |(with_reducible refine k8 ?_
              first
              |refine k7 yk (ldR B.1.2.1 (o _ A)) ?_
              |refine k7 yk (ldR B.1.1 (a _ A)) ?_)
            |(with_reducible refine kU ?_
              refine k7 yk (jV 110 _ _ _ rfl (xs:=(kw r).toArray) (ys:=(kw d).toArray) rfl rfl (r:=_) eqRef.noGuard (EQ _)) ?_;go_frame;try simp only[nTF])
            |(go_at_call 251;refine(uZ g deps mk r d 1 _ (E.keep A) HO hn yv HM.out B.1.2.1 B.1.1 (qR 1) yv).mono ?_;rintro e u ⟨F,rfl⟩;rw[show jD deps mk r d ((1:Nat):Int)=_ from Ap.out];have A:=hid (Xx A.out F);obtain⟨-,L,-,-⟩:=D.out _ A.out;clear F)
            |(go_at_call 252;refine(bytes_any t _ B.2.1).mono ?_;rintro e u5 ⟨rfl,rfl⟩;rw[Ao.out]))
          go_meet
          case rel=>exact⟨by rw[←HV.out];rfl,A⟩
       ·obtain rfl:v=0:=by rw[←hv];exact bytes0 h4
        clear hv h4;cases b1<;>cases b3<;>try cases b2
        all_goals
          go_wp2_with (first
            |(with_reducible refine k8 ?_
              first
              |refine k7 yk (ldR B.1.2.1 (o _ A)) ?_
              |refine k7 yk (ldR B.1.1 (a _ A)) ?_)
            |(with_reducible refine kU ?_
              refine k7 yk (jV 110 _ _ _ rfl (xs:=(kw r).toArray) (ys:=(kw d).toArray) rfl rfl (r:=_) eqRef.noGuard (EQ _)) ?_;go_frame;try simp only[nTF])
            |(go_at_call 251;refine(uZ g deps mk r d 1 _ (E.keep A) HO hn yv HM.out B.1.2.1 B.1.1 (qR 1) yv).mono ?_;rintro e u ⟨F,rfl⟩;rw[show jD deps mk r d ((1:Nat):Int)=_ from Ap.out];have A:=hid (Xx A.out F);obtain⟨-,L,-,-⟩:=D.out _ A.out;clear F)
            |(go_at_call 252;refine(bytes_any t _ B.2.1).mono ?_;rintro e u5 ⟨rfl,rfl⟩;rw[Ao.out]))
          go_meet
          case rel=>exact⟨by rw[←HV.out];rfl,A⟩
     case rest=>
       obtain⟨rfl,Y⟩:=hcut;obtain⟨wy,Bl⟩:=Xv wc;subst Bl;cases An
       ·have Aq:Hid (KY t=true):=hid (by have h:=Ai.out;revert h;cases KY t<;>simp);have Bt:wy.cell? ⟨zx,67,none⟩=some (.string t):=(D wy Y).2.1;have Bu:=vJ Aq.out;have AW:okFrom t 0:=fileB_ok Aq.out;have AA:=hid AW;have Bm:g<wy.heap.size:=qL E.lt Y.size;have Bn:zx<wy.heap.size:=qL AU Y.size;have AB:=hid (E.keep Y);have Af:=hid (Xx U.out Y.out);have Bf:=hid (Zm (YV K.lt) Af);obtain⟨zi,B8⟩:=Xy wy.heap.size;have A5:=hid B8;clear AW B8
        go_upto_region 13 with fail
        go_loopw [] (fun wr=>∃x i:Nat,x≤t.size∧Hid (InsJ g deps mk d t zx zi x i wr)∧Hid (okFrom t x)∧i+ZE t x=zK t∧Hid (Below g w wr)) (fun wr=>t.size - wr.iterPos zi)
        case atStart=>
          have AI:Below wy.heap.size wy (wy.alloc (.stringIter t 0)):=(qB _ _).alloc (qR _) _;have Ag:=Af.trans (AI.mono Af.size);refine⟨0,0,by omega,hid ⟨?_,by rw[←A5.out];simpa using World.iter_heap wy t 0,by rw[←A5.out];exact Bm,qL Bn AI.size,K.newNot Ag Bh,K.newNot Ag (by rw[←A5.out];exact Af.size),a.out _ (Xx Y.out AI),by rw[←A5.out];omega⟩,AA,by rw[runesFrom_zero];omega,hid (Zm (YV K.lt) Ag)⟩;rw[List.replicate_zero,List.append_nil];exact AB.keep AI
        case round=>
          obtain⟨x,i,Bp,HJ,AL,AX,Ar⟩:=hrel;have Bv:=uD t;have AY:=HJ.low;by_cases hlt:x<t.size
          ·have Bo:∀ty,(Instr.next (.pointer (some ⟨wy.heap.size,0,none⟩)) true ty).run prog wr=_:=fun ty=>(congrArg (fun z=>(Instr.next (.pointer (some ⟨z,0,none⟩)) true ty).run prog wr) A5).trans (Lib.run_next_any_at wr zi t x ty HJ.it hlt)
           have Bw:=vz hlt;obtain⟨ho,AZ⟩:=AL.at_ hlt;have Bx:=runesFrom_next hlt ho AZ;have AC:=hid AZ;have A0:=hid (HJ.iter (x+(Utf8.decode t x).2));have AD:=hid (Lib.below_iterAt Ar (YV AY) t (x+(Utf8.decode t x).2));clear ho AZ AY;generalize hW2:wr.iterAt zi t (x+(Utf8.decode t x).2)=W2 at *;clear hW2;obtain⟨Ad,cd,vm,h1,h2,h3⟩:=A0.ck;have H1:=hid h1;have H2:=hid h2;have H3:=hid h3
           have T:=hid (fun (u:World) (l:Below W2.heap.size W2 u)=>(show u.cell? ⟨g,1,none⟩=some vm∧u.rangeAt zx 1 (kw d) from
             ⟨(l.cell (p:=⟨g,1,none⟩) A0.ck.lt).trans (k6 (cs:=[.slice Ad deps.length cd,vm]) H1 1),fun j v hj=>(l.cell (p:=⟨zx,1+j,none⟩) A0.lx).trans (A0.doc j v hj)⟩))
           have Aa:=hid (fun (u:World) (l:Below W2.heap.size W2 u)=>(But.of_below (X:=NoB) l).own H3 fun _ _ q=>q);have AM:=hid (show g+1≤W2.heap.size from A0.ck.lt);have By:(mk++List.replicate i ((false,d):jL)).length≤1000004096:=by rw[yV,List.length_replicate];omega
           clear h1 h2 h3
           go_upto_region 14 with fail
           refine rN 10 (fun u=>u.cell? ⟨g,1,none⟩=some vm∧u.rangeAt zx 1 (kw d)) (T _ (qD W2.heap.size W2)) fun Au=>?_
           refine tw 0 _ ?_;go_frame;refine tw 1 _ ?_;go_frame;refine tw 2 _ ?_;go_frame;refine tw 3 _ ?_;go_frame;refine tl 4 _ rfl Au (fun w' Al=>l1 underlying347 Al.1) ?_;go_frame;refine tw 5 _ ?_;go_frame;refine tl 6 _ rfl Au (fun w' Al=>ldR B.1.1 Al.2) ?_;go_frame;refine tk 7 (.agg (j9 (false,d)).toArray) rfl (fun w' Al=>kp 373 #[(1,.tmp 115)] rfl (by simp only[xV,xX,Yy];exact made_built (d:=d) B.1.1 _)) ?_;go_frame;refine ta 8 ?_;refine zP _ rfl yq (ex_buildR 347 _ rfl 373 underlying347 (.agg (j9 (false,ko)).toArray) 34 48 Uu rfl yj yj (j9 (false,d)) (jI (m:=(false,d)) B.1.1) rfl) ?_;have A2:Below W2.heap.size W2 (W2.drew.alloc (.cells (j9 (false,d)).toArray 373)):=(qD W2.heap.size W2).alloc (qR _) _;have As:=T.out _ A2;refine⟨fun _ _=>As,?_⟩;go_frame;refine ta 9 ?_;refine Jy _ rfl yq ?_;refine uV _ _ 347 rfl (g+1) 373 (.agg (j9 (false,ko)).toArray) 34 48 underlying347 Uu rfl yj vm (mk++List.replicate i (false,d)).length (kf j9 (mk++List.replicate i (false,d))) rfl (Aa _ A2) ⟨W2.drew.heap.size,0,none⟩ 1 1 (j9 (false,d)) rfl (by rw[jI (m:=(false,d)) B.1.1]) (J3 W2.drew (j9 (false,d)) 373) (vv (false,d)) yY yv (qT AM A2.size) ?_;intro v9 w9 Ak Ax Ay;obtain⟨A9,c9,rfl⟩:=kM Ak;obtain⟨B0,B9,Ba,B1⟩:=A0.put H1.out H2.out H3.out A2 Ak Ax Ay;have Bb:=B0.1;refine⟨fun _ _=>B0,?_⟩;go_frame;refine tw 10 _ ?_;go_frame;refine tw 11 _ ?_;go_frame;refine ta 12 ?_;refine ZA _ rfl yq (UR 347 _ _ rfl g 1 (.slice A9 ((mk++List.replicate i (false,d)).length+1) c9) rfl rfl rfl rfl yq Bb B9) ?_;refine⟨fun h=>absurd h yj,?_⟩;go_frame;refine ku yq ?_ _;have At:=hid Ba;have AN:=hid (AD.trans (B1.belowG A0.ck));clear Ba B1 B0 Bb B9 Ak Ax Ay A2 As Au;go_wp2_with fail
           go_roundw
           case rel=>exact⟨x+(Utf8.decode t x).2,i+1,by omega,At,AC,by omega,AN⟩
           case measure=>
             simp only[World.iterPos,At.it,HJ.it];omega
          ·have Bo:∀ty,(Instr.next (.pointer (some ⟨wy.heap.size,0,none⟩)) true ty).run prog wr=_:=fun ty=>(congrArg (fun z=>(Instr.next (.pointer (some ⟨z,0,none⟩)) true ty).run prog wr) A5).trans (Lib.run_next_end_at wr zi t x ty HJ.it hlt)
           have hi:i=zK t:=by rw[runesFrom_end yv] at AX;omega
           have HI:=hid hi;clear hi AX;go_wp2_with fail;go_ret;exact⟨Ar,by rw[J.out];rfl,fun _=>by rw[c.out,←HI.out];exact HJ.ck⟩
       ·go_wp2_with fail;go_ret;exact⟨Zm (YV K.lt) (Xx U.out Y.out),by rw[J.out];rfl,fun h=>by rw[J.out] at h;cases h⟩
    rotate_right
    have C:Hid ((k.toNat:Int)=2):=hid (by rw[hk];rfl);have I:=hid hk;clear hk;have c:Hid (zT (k,d,r,t,n,q)=[]):=hid (by unfold zT;rw[I.out];rfl);by_cases hc:1≤n∧n≤4096
    rotate_left
    focus
      have Bc:(decide (1≤n) && decide (n≤4096))=false:=by
        rw[Bool.and_eq_false_iff,decide_eq_false_iff_not,decide_eq_false_iff_not];omega
      have J:Hid (opB deps mk (k,d,r,t,n,q)=false):=hid (by rw[W.out,I.out,Bc];simp);clear Bc;obtain⟨b1,d1⟩:=Xy (decide (1≤n));obtain⟨b2,d2⟩:=Xy (decide (n≤4096));have Bg:(b1 && b2)=false:=by rw[←d1,←d2,Bool.and_eq_false_iff,decide_eq_false_iff_not,decide_eq_false_iff_not];omega
      clear hc
    rotate_right
    obtain⟨m,rfl⟩:∃m:Nat,n=(m:Int):=⟨n.toNat,by omega⟩;have Bd:1≤m:=yv;have Be:m≤4096:=yv;have d1:decide ((1:Int)≤(m:Int))=true:=dT hc.1;have d2:decide ((m:Int)≤4096)=true:=dT hc.2;have Bz:decide (1≤m)=true:=dT Bd;have BA:decide (m≤4096)=true:=dT Be;have J:Hid (opB deps mk (k,d,r,t,(m:Int),q)=jD deps mk r d (m:Int)):=hid (by rw[W.out,s.out,R.out,d1,d2,I.out];simp);clear hc
    go_wp2_with (first
      |(with_reducible refine k8 ?_
        first
        |refine k7 yk (ldO B (Z _ A)) ?_
        |refine k7 yk (kg 320 _ rfl (p:=⟨zp,0,none⟩) rfl (qV _ _ _ _ _ _ (A4 _ A) underlying320 rfl KT)) ?_
        |refine k7 yk (ldR B.1.1 (a _ A)) ?_
        |refine k7 yk (ldR B.1.2.1 (o _ A)) ?_)
      |(go_at_call 249;refine(ZD (k,d,r,t,(m:Int),q) _ k _ B V).mono ?_;rintro e u ⟨F,rfl⟩;rw[s.out];have A:=hid (Xx A.out F)
        try clear M N H L O P
        obtain⟨M,N⟩:=G.out _ A.out;obtain⟨H,L,O,P⟩:=D.out _ A.out
        try rw[C.out] at H
        clear F)
      |(go_at_call 250;refine(q8 g deps mk d _ (E.keep A) HO hn yv HM.out B.1.1).mono ?_;rintro e u ⟨F,rfl⟩;rw[R.out];have A:=hid (Xx A.out F)
        try clear M N H L O P
        obtain⟨M,N⟩:=G.out _ A.out;obtain⟨H,L,O,P⟩:=D.out _ A.out
        try rw[C.out] at H
        clear F)
      |(go_at_call 173;refine(ZU q _ B.2.2 (A3.next A)).mono ?_;rintro e u ⟨F,rfl⟩;rw[Q.out];have A:=hid (Xx A.out F)
        try clear M N H L O P
        obtain⟨M,N⟩:=G.out _ A.out;obtain⟨H,L,O,P⟩:=D.out _ A.out
        try rw[C.out] at H
        clear F)
      |(go_at_call 251;refine(uZ g deps mk r d m _ (E.keep A) HO hn yv HM.out B.1.2.1 B.1.1 Bd Be).mono ?_;rintro e u ⟨F,rfl⟩;have A:=hid (Xx A.out F);clear F))
    go_ret;exact⟨Zm (YV K.lt) (Xx U.out A.out),by rw[J.out];rfl,fun h=>by rw[c.out,List.append_nil];exact E.keep A.out⟩;cases b1
    rotate_left
    cases b2
    rotate_left
    exact absurd Bg yj
    all_goals
      go_wp2_with (first
        |(with_reducible refine k8 ?_
          first
          |refine k7 yk (ldO B (Z _ A)) ?_
          |refine k7 yk (kg 320 _ rfl (p:=⟨zp,0,none⟩) rfl (qV _ _ _ _ _ _ (A4 _ A) underlying320 rfl KT)) ?_
          |refine k7 yk (ldR B.1.1 (a _ A)) ?_
          |refine k7 yk (ldR B.1.2.1 (o _ A)) ?_)
        |(go_at_call 249;refine(ZD (k,d,r,t,n,q) _ k _ B V).mono ?_;rintro e u ⟨F,rfl⟩;rw[s.out];have A:=hid (Xx A.out F)
          try clear M N H L O P
          obtain⟨M,N⟩:=G.out _ A.out;obtain⟨H,L,O,P⟩:=D.out _ A.out
          try rw[C.out] at H
          clear F)
        |(go_at_call 250;refine(q8 g deps mk d _ (E.keep A) HO hn yv HM.out B.1.1).mono ?_;rintro e u ⟨F,rfl⟩;rw[R.out];have A:=hid (Xx A.out F)
          try clear M N H L O P
          obtain⟨M,N⟩:=G.out _ A.out;obtain⟨H,L,O,P⟩:=D.out _ A.out
          try rw[C.out] at H
          clear F)
        |(go_at_call 173;refine(ZU q _ B.2.2 (A3.next A)).mono ?_;rintro e u ⟨F,rfl⟩;rw[Q.out];have A:=hid (Xx A.out F)
          try clear M N H L O P
          obtain⟨M,N⟩:=G.out _ A.out;obtain⟨H,L,O,P⟩:=D.out _ A.out
          try rw[C.out] at H
          clear F))
      go_ret;exact⟨Zm (YV K.lt) (Xx U.out A.out),by rw[J.out];rfl,fun h=>by rw[J.out] at h;cases h⟩
theorem ckop_any(g:Nat)(deps:List (List UInt8))(mk:List jL)(x:OpD)(w:World)(hk:CkAt w g deps mk)(ho:IdsOk deps)(hn:deps.length≤1099511627776)(hmn:mk.length≤1000000000)(hm:∀m∈mk,uj m)(hx:KR x)(hg:Glob w):
    Calls prog 227 #[.pointer (some ⟨g,0,none⟩),.agg (opV x).toArray] w (CkGives g deps mk x w):=by
  obtain⟨k,d,r,t,n,q⟩:=x;exact ckop_all g deps mk k d r t n q w hk ho hn hmn hm hx hg
end
section
open Go.RowKit Go.Maps
theorem QN(c:ZK)(v:Value)(B:Nat)(w:World)(h:CmIn w B v c):Calls prog 188 #[v] w fun e w'=>Below w.heap.size w w'∧e=.returned (.bool (jF c)):=by
  obtain⟨_,_,_,Ap,I,Ac,J,rfl,_,_⟩:=h;obtain⟨p,s,a,m,x⟩:=c;dsimp only;go_enter func188,ntmps188;by_cases h0:p=[]
  ·have C:(((p.length:Nat):Int) == 0)=true:=by rw[h0];rfl
   by_cases h1:s=[]
   ·have D:(((s.length:Nat):Int) == 0)=true:=by rw[h1];rfl
    by_cases h2:a=noneS
    ·have E:a.toList.isEmpty=true:=by rw[jE];exact dT h2
     by_cases h3:m=noneS
     ·have F:m.toList.isEmpty=true:=by rw[jE];exact dT h3
      by_cases h4:x=0
      ·have G:(x == 0)=true:=by rw[h4];rfl
       have A:Hid (jF (p,s,a,m,x)=true):=Lib.hid (by unfold jF;simp [h0,h1,h2,h3,h4]);clear h0 h1 h2 h3 h4;go_wp2_with fail;go_ret;exact⟨(qB _ _).alloc (qR _) _,by rw[A.out];rfl⟩
      ·have G:(x == 0)=false:=by rw[beq_eq_false_iff_ne];exact h4
       have A:Hid (jF (p,s,a,m,x)=false):=Lib.hid (by unfold jF;simp [h0,h1,h2,h3,h4]);clear h0 h1 h2 h3 h4;go_wp2_with fail;go_ret;exact⟨(qB _ _).alloc (qR _) _,by rw[A.out];rfl⟩
     ·have F:m.toList.isEmpty=false:=by rw[jE];exact dF h3
      have A:Hid (jF (p,s,a,m,x)=false):=Lib.hid (by unfold jF;simp [h0,h1,h2,h3]);clear h0 h1 h2 h3;go_wp2_with fail;go_ret;exact⟨(qB _ _).alloc (qR _) _,by rw[A.out];rfl⟩
    ·have E:a.toList.isEmpty=false:=by rw[jE];exact dF h2
     have A:Hid (jF (p,s,a,m,x)=false):=Lib.hid (by unfold jF;simp [h0,h1,h2]);clear h0 h1 h2;go_wp2_with fail;go_ret;exact⟨(qB _ _).alloc (qR _) _,by rw[A.out];rfl⟩
   ·have D:(((s.length:Nat):Int) == 0)=false:=by rw[beq_eq_false_iff_ne];intro H;exact h1 (List.eq_nil_of_length_eq_zero yv)
    have A:Hid (jF (p,s,a,m,x)=false):=Lib.hid (by unfold jF;simp [h0,h1]);clear h0 h1;go_wp2_with fail;go_ret;exact⟨(qB _ _).alloc (qR _) _,by rw[A.out];rfl⟩
  ·have C:(((p.length:Nat):Int) == 0)=false:=by rw[beq_eq_false_iff_ne];intro H;exact h0 (List.eq_nil_of_length_eq_zero yv)
   have A:Hid (jF (p,s,a,m,x)=false):=Lib.hid (by unfold jF;simp [h0]);clear h0;go_wp2_with fail;go_ret;exact⟨(qB _ _).alloc (qR _) _,by rw[A.out];rfl⟩
end
section
open Go.RowKit Go.Maps
open Lib (hid)
theorem madeL_ok{l:List OpD}(h:∀x∈l,KR x):∀m∈KV l,uj m:=by
  intro m A;unfold KV at A;obtain⟨x,B,A⟩:=List.mem_flatMap.1 A;unfold zT at A
  split at A
  ·rw[xZ.1 A];exact jd
  ·split at A
   ·rw[List.eq_of_mem_replicate A];exact(h x B).1.1
   ·cases A
theorem rightChange_any(c:ks)(v:Value)(B:Nat)(w:World)(h:ChIn w B v c)(hB:B≤w.heap.size)(hl1:c.2.1.length≤1099511627776)(hl2:c.2.2.2.length≤1099511627776)(hg:Glob w):Calls prog 189 #[v] w fun e w'=>Below w.heap.size w w'∧e=.returned (.bool (ja c)):=by
  obtain⟨ho,Av,ha,Ad,V,Ao,z,rfl,sd,so⟩:=h;obtain⟨n,I,a,D⟩:=c;have X:=hid ho;have o:=hid sd;have A9:=hid so;have s:=hid Av;have HG:=hid hg
  replace hd:I.length≤1099511627776:=hl1
  replace hl:D.length≤1099511627776:=hl2
  replace ha:a.size≤maxLen:=ha
  clear ho sd so Av hg hl1 hl2;dsimp only at X o A9 s ⊢;by_cases h0:n<1
  ·have d0:decide (n<1)=true:=dT yv;have M:Hid (ja (n,I,a,D)=false):=hid (by unfold ja;dsimp only;rw[dF (show ¬(1:Int)≤n by omega)];simp);clear h0;go_enter func189,ntmps189
   go_upto_region 1 with (first
     |(with_reducible refine kG ?_
       refine kz yk 37 _ rfl [.int .i64 n,.slice Ad I.length V,.string a,.slice Ao D.length z] _ rfl rfl yq ?_;intro H J A A8;go_frame))
   have F:w.heap.size<H.heap.size:=(qX A)
   have G:=hid (fun (u:World) (hu:Below H.heap.size H u)=>(show u.cell? ⟨w.heap.size,0,none⟩=some (.int .i64 n)∧u.cell? ⟨w.heap.size,1,none⟩=some (.slice Ad I.length V)∧u.cell? ⟨w.heap.size,2,none⟩=some (.string a)∧u.cell? ⟨w.heap.size,3,none⟩=some (.slice Ao D.length z) from
     ⟨(hu.cell (p:=⟨w.heap.size,0,none⟩) F).trans (k6 A 0),(hu.cell (p:=⟨w.heap.size,1,none⟩) F).trans (k6 A 1),(hu.cell (p:=⟨w.heap.size,2,none⟩) F).trans (k6 A 2),(hu.cell (p:=⟨w.heap.size,3,none⟩) F).trans (k6 A 3)⟩))
   have E:=hid (qB H.heap.size H);obtain⟨R,S,T,U⟩:=G.out _ E.out;have C:=J;go_wp2_with fail;go_ret;exact⟨C,by rw[M.out];rfl⟩
  by_cases h1:1099511627776<n
  ·have d0:decide (n<1)=false:=dF yv;have d1:decide (1099511627776<n)=true:=dT yv;have M:Hid (ja (n,I,a,D)=false):=hid (by unfold ja;dsimp only;rw[dT (show (1:Int)≤n by omega),dF (show ¬n≤1099511627776 by omega)];simp);clear h0 h1;go_enter func189,ntmps189
   go_upto_region 1 with (first
     |(with_reducible refine kG ?_
       refine kz yk 37 _ rfl [.int .i64 n,.slice Ad I.length V,.string a,.slice Ao D.length z] _ rfl rfl yq ?_;intro H J A A8;go_frame))
   have F:w.heap.size<H.heap.size:=(qX A)
   have G:=hid (fun (u:World) (hu:Below H.heap.size H u)=>(show u.cell? ⟨w.heap.size,0,none⟩=some (.int .i64 n)∧u.cell? ⟨w.heap.size,1,none⟩=some (.slice Ad I.length V)∧u.cell? ⟨w.heap.size,2,none⟩=some (.string a)∧u.cell? ⟨w.heap.size,3,none⟩=some (.slice Ao D.length z) from
     ⟨(hu.cell (p:=⟨w.heap.size,0,none⟩) F).trans (k6 A 0),(hu.cell (p:=⟨w.heap.size,1,none⟩) F).trans (k6 A 1),(hu.cell (p:=⟨w.heap.size,2,none⟩) F).trans (k6 A 2),(hu.cell (p:=⟨w.heap.size,3,none⟩) F).trans (k6 A 3)⟩))
   have E:=hid (qB H.heap.size H);obtain⟨R,S,T,U⟩:=G.out _ E.out;have C:=J;go_wp2_with fail;go_ret;exact⟨C,by rw[M.out];rfl⟩
  rcases Yk (vC I 4096) with m|m
  rotate_left
  ·have d0:decide (n<1)=false:=dF yv;have d1:decide (1099511627776<n)=false:=dF yv;have M:Hid (ja (n,I,a,D)=false):=hid (by unfold ja;dsimp only;rw[dT (show (1:Int)≤n by omega),dT (show n≤1099511627776 by omega),m];simp);have W:=hid m;clear m;clear h0 h1;go_enter func189,ntmps189
   go_upto_region 1 with (first
     |(with_reducible refine kG ?_
       refine kz yk 37 _ rfl [.int .i64 n,.slice Ad I.length V,.string a,.slice Ao D.length z] _ rfl rfl yq ?_;intro H J A A8;go_frame))
   have F:w.heap.size<H.heap.size:=(qX A)
   have G:=hid (fun (u:World) (hu:Below H.heap.size H u)=>(show u.cell? ⟨w.heap.size,0,none⟩=some (.int .i64 n)∧u.cell? ⟨w.heap.size,1,none⟩=some (.slice Ad I.length V)∧u.cell? ⟨w.heap.size,2,none⟩=some (.string a)∧u.cell? ⟨w.heap.size,3,none⟩=some (.slice Ao D.length z) from
     ⟨(hu.cell (p:=⟨w.heap.size,0,none⟩) F).trans (k6 A 0),(hu.cell (p:=⟨w.heap.size,1,none⟩) F).trans (k6 A 1),(hu.cell (p:=⟨w.heap.size,2,none⟩) F).trans (k6 A 2),(hu.cell (p:=⟨w.heap.size,3,none⟩) F).trans (k6 A 3)⟩))
   have E:=hid (qB H.heap.size H);obtain⟨R,S,T,U⟩:=G.out _ E.out;have C:=J;go_wp2_with fail;refine(QE I Ad V 4096 H hd yj X.2.1 ((o.keep (C.mono hB)).more (qT hB C.size))).mono ?_;rintro e W1 ⟨L,rfl⟩;rw[W.out];have K:=hid (Xx E.out L);have N:=hid (Xx C.out L);clear L R S T U;obtain⟨R,S,T,U⟩:=G.out _ K.out;go_wp2_with fail;go_ret;exact⟨N,by rw[M.out];rfl⟩
  rcases Yk (K8 a) with h3|h3
  rotate_left
  ·have d0:decide (n<1)=false:=dF yv;have d1:decide (1099511627776<n)=false:=dF yv;have M:Hid (ja (n,I,a,D)=false):=hid (by unfold ja;dsimp only;rw[dT (show (1:Int)≤n by omega),dT (show n≤1099511627776 by omega),m,h3];simp);have W:=hid m;clear m;have q:=hid h3;clear h3;clear h0 h1;go_enter func189,ntmps189
   go_upto_region 1 with (first
     |(with_reducible refine kG ?_
       refine kz yk 37 _ rfl [.int .i64 n,.slice Ad I.length V,.string a,.slice Ao D.length z] _ rfl rfl yq ?_;intro H J A A8;go_frame))
   have F:w.heap.size<H.heap.size:=(qX A)
   have G:=hid (fun (u:World) (hu:Below H.heap.size H u)=>(show u.cell? ⟨w.heap.size,0,none⟩=some (.int .i64 n)∧u.cell? ⟨w.heap.size,1,none⟩=some (.slice Ad I.length V)∧u.cell? ⟨w.heap.size,2,none⟩=some (.string a)∧u.cell? ⟨w.heap.size,3,none⟩=some (.slice Ao D.length z) from
     ⟨(hu.cell (p:=⟨w.heap.size,0,none⟩) F).trans (k6 A 0),(hu.cell (p:=⟨w.heap.size,1,none⟩) F).trans (k6 A 1),(hu.cell (p:=⟨w.heap.size,2,none⟩) F).trans (k6 A 2),(hu.cell (p:=⟨w.heap.size,3,none⟩) F).trans (k6 A 3)⟩))
   have E:=hid (qB H.heap.size H);obtain⟨R,S,T,U⟩:=G.out _ E.out;have C:=J;go_wp2_with fail;refine(QE I Ad V 4096 H hd yj X.2.1 ((o.keep (C.mono hB)).more (qT hB C.size))).mono ?_;rintro e W1 ⟨L,rfl⟩;rw[W.out];have K:=hid (Xx E.out L);have N:=hid (Xx C.out L);clear L R S T U;obtain⟨R,S,T,U⟩:=G.out _ K.out;go_wp2_with fail;refine(uR a W1 ha).mono ?_;rintro e W2 ⟨L,rfl⟩;rw[q.out];have P:=hid (Xx K.out L);have Q:=hid (Xx N.out L);clear L R S T U;obtain⟨R,S,T,U⟩:=G.out _ P.out;go_wp2_with fail;go_ret;exact⟨Q,by rw[M.out];rfl⟩
  by_cases h4:D.length<1
  ·have d0:decide (n<1)=false:=dF yv;have d1:decide (1099511627776<n)=false:=dF yv;have d4:decide ((D.length:Int)<1)=true:=dT yv;have Aw:decide (D.length<1)=true:=dT yv;have M:Hid (ja (n,I,a,D)=false):=hid (by unfold ja;dsimp only;rw[dT (show (1:Int)≤n by omega),dT (show n≤1099511627776 by omega),m,h3,dF (show ¬1≤D.length by omega)];simp);have W:=hid m;clear m;have q:=hid h3;clear h3;clear h0 h1 h4;go_enter func189,ntmps189
   go_upto_region 1 with (first
     |(with_reducible refine kG ?_
       refine kz yk 37 _ rfl [.int .i64 n,.slice Ad I.length V,.string a,.slice Ao D.length z] _ rfl rfl yq ?_;intro H J A A8;go_frame))
   have F:w.heap.size<H.heap.size:=(qX A)
   have G:=hid (fun (u:World) (hu:Below H.heap.size H u)=>(show u.cell? ⟨w.heap.size,0,none⟩=some (.int .i64 n)∧u.cell? ⟨w.heap.size,1,none⟩=some (.slice Ad I.length V)∧u.cell? ⟨w.heap.size,2,none⟩=some (.string a)∧u.cell? ⟨w.heap.size,3,none⟩=some (.slice Ao D.length z) from
     ⟨(hu.cell (p:=⟨w.heap.size,0,none⟩) F).trans (k6 A 0),(hu.cell (p:=⟨w.heap.size,1,none⟩) F).trans (k6 A 1),(hu.cell (p:=⟨w.heap.size,2,none⟩) F).trans (k6 A 2),(hu.cell (p:=⟨w.heap.size,3,none⟩) F).trans (k6 A 3)⟩))
   have E:=hid (qB H.heap.size H);obtain⟨R,S,T,U⟩:=G.out _ E.out;have C:=J;go_wp2_with fail;refine(QE I Ad V 4096 H hd yj X.2.1 ((o.keep (C.mono hB)).more (qT hB C.size))).mono ?_;rintro e W1 ⟨L,rfl⟩;rw[W.out];have K:=hid (Xx E.out L);have N:=hid (Xx C.out L);clear L R S T U;obtain⟨R,S,T,U⟩:=G.out _ K.out;go_wp2_with fail;refine(uR a W1 ha).mono ?_;rintro e W2 ⟨L,rfl⟩;rw[q.out];have P:=hid (Xx K.out L);have Q:=hid (Xx N.out L);clear L R S T U;obtain⟨R,S,T,U⟩:=G.out _ P.out;go_wp2_with fail;go_ret;exact⟨Q,by rw[M.out];rfl⟩
  by_cases h5:4096<D.length
  ·have d0:decide (n<1)=false:=dF yv;have d1:decide (1099511627776<n)=false:=dF yv;have d4:decide ((D.length:Int)<1)=false:=dF yv;have Aw:decide (D.length<1)=false:=dF yv;have d5:decide (4096<(D.length:Int))=true:=dT yv;have Az:decide (4096<D.length)=true:=dT yv;have M:Hid (ja (n,I,a,D)=false):=hid (by unfold ja;dsimp only;rw[dT (show (1:Int)≤n by omega),dT (show n≤1099511627776 by omega),m,h3,dT (show 1≤D.length by omega),dF (show ¬D.length≤4096 by omega)];simp);have W:=hid m;clear m;have q:=hid h3;clear h3;clear h0 h1 h4;clear h5;go_enter func189,ntmps189
   go_upto_region 1 with (first
     |(with_reducible refine kG ?_
       refine kz yk 37 _ rfl [.int .i64 n,.slice Ad I.length V,.string a,.slice Ao D.length z] _ rfl rfl yq ?_;intro H J A A8;go_frame))
   have F:w.heap.size<H.heap.size:=(qX A)
   have G:=hid (fun (u:World) (hu:Below H.heap.size H u)=>(show u.cell? ⟨w.heap.size,0,none⟩=some (.int .i64 n)∧u.cell? ⟨w.heap.size,1,none⟩=some (.slice Ad I.length V)∧u.cell? ⟨w.heap.size,2,none⟩=some (.string a)∧u.cell? ⟨w.heap.size,3,none⟩=some (.slice Ao D.length z) from
     ⟨(hu.cell (p:=⟨w.heap.size,0,none⟩) F).trans (k6 A 0),(hu.cell (p:=⟨w.heap.size,1,none⟩) F).trans (k6 A 1),(hu.cell (p:=⟨w.heap.size,2,none⟩) F).trans (k6 A 2),(hu.cell (p:=⟨w.heap.size,3,none⟩) F).trans (k6 A 3)⟩))
   have E:=hid (qB H.heap.size H);obtain⟨R,S,T,U⟩:=G.out _ E.out;have C:=J;go_wp2_with fail;refine(QE I Ad V 4096 H hd yj X.2.1 ((o.keep (C.mono hB)).more (qT hB C.size))).mono ?_;rintro e W1 ⟨L,rfl⟩;rw[W.out];have K:=hid (Xx E.out L);have N:=hid (Xx C.out L);clear L R S T U;obtain⟨R,S,T,U⟩:=G.out _ K.out;go_wp2_with fail;refine(uR a W1 ha).mono ?_;rintro e W2 ⟨L,rfl⟩;rw[q.out];have P:=hid (Xx K.out L);have Q:=hid (Xx N.out L);clear L R S T U;obtain⟨R,S,T,U⟩:=G.out _ P.out;go_wp2_with fail;go_ret;exact⟨Q,by rw[M.out];rfl⟩
  replace h5:D.length≤4096:=yv
  have d0:decide (n<1)=false:=dF yv;have d1:decide (1099511627776<n)=false:=dF yv;have d4:decide ((D.length:Int)<1)=false:=dF yv;have Aw:decide (D.length<1)=false:=dF yv;have d5:decide (4096<(D.length:Int))=false:=dF yv;have Az:decide (4096<D.length)=false:=dF yv;have M:Hid (ja (n,I,a,D)=Zh I [] D):=hid (by unfold ja;dsimp only;rw[dT (show (1:Int)≤n by omega),dT (show n≤1099511627776 by omega),m,h3,dT (show 1≤D.length by omega),dT (show D.length≤4096 by omega)];rfl);have W:=hid m;clear m;have q:=hid h3;clear h3;clear h0 h1 h4;have AA:D.length≤4096:=h5;clear h5;go_enter func189,ntmps189
  go_upto_region 1 with (first
    |(with_reducible refine kG ?_
      refine kz yk 37 _ rfl [.int .i64 n,.slice Ad I.length V,.string a,.slice Ao D.length z] _ rfl rfl yq ?_;intro H J A A8;go_frame))
  have F:w.heap.size<H.heap.size:=(qX A)
  have G:=hid (fun (u:World) (hu:Below H.heap.size H u)=>(show u.cell? ⟨w.heap.size,0,none⟩=some (.int .i64 n)∧u.cell? ⟨w.heap.size,1,none⟩=some (.slice Ad I.length V)∧u.cell? ⟨w.heap.size,2,none⟩=some (.string a)∧u.cell? ⟨w.heap.size,3,none⟩=some (.slice Ao D.length z) from
    ⟨(hu.cell (p:=⟨w.heap.size,0,none⟩) F).trans (k6 A 0),(hu.cell (p:=⟨w.heap.size,1,none⟩) F).trans (k6 A 1),(hu.cell (p:=⟨w.heap.size,2,none⟩) F).trans (k6 A 2),(hu.cell (p:=⟨w.heap.size,3,none⟩) F).trans (k6 A 3)⟩))
  have E:=hid (qB H.heap.size H);obtain⟨R,S,T,U⟩:=G.out _ E.out;have C:=J;go_wp2_with fail;refine(QE I Ad V 4096 H hd yj X.2.1 ((o.keep (C.mono hB)).more (qT hB C.size))).mono ?_;rintro e W1 ⟨L,rfl⟩;rw[W.out];have K:=hid (Xx E.out L);have N:=hid (Xx C.out L);clear L R S T U;obtain⟨R,S,T,U⟩:=G.out _ K.out;go_wp2_with fail;refine(uR a W1 ha).mono ?_;rintro e W2 ⟨L,rfl⟩;rw[q.out];have P:=hid (Xx K.out L);have Q:=hid (Xx N.out L);clear L R S T U;obtain⟨R,S,T,U⟩:=G.out _ P.out
  go_upto_region 4 with (first
    |(with_reducible refine kL ?_
      refine k7 yk (kp 349 _ rfl (by kernel_rfl:(Instr.build 349 #[(0,.slice Ad I.length V)]).run prog _=.ok (.agg #[.slice Ad I.length V,.slice none 0 0]) _)) ?_)
    |(with_reducible refine kG ?_
      refine kz yk 349 _ rfl [.slice Ad I.length V,.slice none 0 0] _ rfl rfl yq ?_;intro W4 A0 A1 AF;go_frame))
  have AB:W2.heap.size<W4.heap.size:=(qX A1);obtain⟨R,S,T,U⟩:=G.out _ (Xx P.out A0.out);have A6:w.heap.size≤W2.heap.size:=Q.size;obtain⟨g,Ax⟩:=Xy W2.heap.size;rw[Ax] at A1 AB A0 A6;have Y:Hid (Below w.heap.size w W4):=hid (Q.trans (A0.mono A6));have Al:=hid (HG.next Y);have Ah:Hid (CkAt W4 g I []):=hid ⟨Ad,V,_,A1,(o.keep (Y.mono hB)).more (qT hB A6),World.ownsRow_nil _ _ _ _⟩;have Ai:Hid (Sl W4 g Ao D.length 70 (kf opV D)):=hid ((A9.keep (Y.mono hB)).more (qT hB A6))
  try rw[Ax]
  go_wp2_with fail
  go_loopw [45] (fun v wr=>∃i:Nat,i≤D.length∧v=.int .i64 (i:Int)∧Hid (Zh I [] (D.take i)=true)∧Hid (CkAt wr g I (KV (D.take i)))∧Hid (Below g W4 wr)) (fun v _=>D.length - (intOf v).toNat)
  case atStart=>exact⟨0,YX _,rfl,hid rfl,Ah,hid (qB _ _)⟩
  case round=>
    obtain⟨i,hi,rfl,A2,Z,d⟩:=hrel;by_cases hlt:i<D.length
    ·obtain⟨b,AG,rfl,AC,Ay⟩:=(Ai.keep d).2 yv;have i0:(0:Int)≤(i:Int):=yv;have i1:(i:Int)<(D.length:Int):=yv;have Aj:=hid (Sl.row (fun x hx=>kI (s x hx)) Ay hlt);have r:=hid (s _ (yQ hlt));have Aa:=hid (opsB_next (deps:=I) hlt);have Ab:=hid (fun h=>opsB_stop (deps:=I) hlt h);have Ac:=hid (madeL_next hlt);have AD:(D.take i).length≤4096:=qT (by rw[Yj];exact Nat.min_le_left _ _) (qT hi AA);have At:(KV (D.take i)).length≤1000000000:=qT (madeL_len A2) yv;clear AD;have A3:=hid (madeL_ok (l:=D.take i) (fun x hx=>s x (YQ hx)));have Ae:=hid (Al.keep d (qL HG.lt A6));clear Ay AC;generalize D[i]=x at *;obtain⟨mi,Au⟩:=Xy (KV (D.take i));rw[Au] at Z Aa Ab Ac At A3;clear Au
     go_upto_region 7 with (first
       |(with_reducible refine k8 ?_
         refine kZ rfl 112 _ rfl b _ rfl (opV x) _ Aj.out underlying112 rfl (by rw[kI r.out];exact Ky) ?_)
       |(with_reducible refine kF ?_
         refine kv yk 112 rfl (opV Q5) (Q6 _) ?_;intro W6 Am An Ap)
       |(with_reducible refine kD ?_
         refine kr yk 112 _ _ rfl wr.heap.size 0 [] (opV Q5) [] (opV x) 112 _ rfl rfl rfl rfl (by simpa using An.out) (by rw[kI r.out];exact kI (zeroOp_in 0)) (by rw[kI r.out];exact Ky) (UO _) ?_;intro W7 Aq AE AH;have Af:Hid (W7.heap[wr.heap.size]?=some (.cells (opV x).toArray 112 (0,0))):=hid (by simpa using AE.out)))
     have O:Hid (Below wr.heap.size wr W7):=hid (Am.trans (Aq.below (by have:=Ap.out;omega) (fun k hk e=>by omega)));rcases Yk (opB I mi x) with A7|A7
     ·have t:=hid A7;have Ar:Hid (Zh I [] (D.take (i+1))=true):=hid (by rw[Aa.out,A2.out,A7];rfl);clear A7
      go_wp2_with (first
        |(with_reducible refine k8 ?_
          refine k7 yk (ldO (b:=wr.heap.size) (f:=0) (y:=x) r (fun j u hj=>by rw[qZ];exact(k6 Af j).trans hj)) ?_)
        |(go_at_call 227;refine(ckop_any g I mi x W7 (Z.keep O) X.2.1 hd At A3 r (Ae.next O)).mono ?_;rintro e W8 ⟨Ag,rfl,Ak⟩;rw[t.out];have A4:=hid (d.trans ((Zm (YV Z.lt) O).trans Ag));have As:=hid (Ak t);clear Ag Ak))
      go_roundw
      case rel=>exact⟨i+1,by omega,by go_num,Ar,hid (by rw[Ac.out];exact As.out),A4⟩
      case measure=>exact Xz
     ·have t:=hid A7;have A5:Hid (ja (n,I,a,D)=false):=hid (by rw[M.out];exact Ab.out A7);clear A7
      go_wp2_with (first
        |(with_reducible refine k8 ?_
          refine k7 yk (ldO (b:=wr.heap.size) (f:=0) (y:=x) r (fun j u hj=>by rw[qZ];exact(k6 Af j).trans hj)) ?_)
        |(go_at_call 227;refine(ckop_any g I mi x W7 (Z.keep O) X.2.1 hd At A3 r (Ae.next O)).mono ?_;rintro e W8 ⟨Ag,rfl,Ak⟩;rw[t.out];have A4:=hid (d.trans ((Zm (YV Z.lt) O).trans Ag));clear Ag Ak))
      go_ret;exact⟨Y.trans (A4.mono A6),by rw[A5.out];rfl⟩
    ·have A5:Hid (ja (n,I,a,D)=true):=hid (by rw[M.out,←A2.out,Yq yv]);go_wp2_with fail;go_ret;exact⟨Y.trans (d.mono A6),by rw[A5.out];rfl⟩
theorem mid1{v0 v1 v2 v3 v4 v5 v6 v7 v8 v9:Value}{j:Nat}{y:Value}(h:[v1,v2,v3,v4][j]?=some y):[v0,v1,v2,v3,v4,v5,v6,v7,v8,v9][1+j]?=some y:=by
  rcases j with _ | _ | _ | _ |j<;>simp_all
theorem mid5{v0 v1 v2 v3 v4 v5 v6 v7 v8 v9:Value}{j:Nat}{y:Value}(h:[v5,v6,v7,v8,v9][j]?=some y):[v0,v1,v2,v3,v4,v5,v6,v7,v8,v9][5+j]?=some y:=by
  rcases j with _ | _ | _ | _ | _ |j<;>simp_all
theorem right_any(o:vB)(v:Value)(B:Nat)(w:World)(h:ObjIn w B v o)(hB:B≤w.heap.size)(hl1:o.2.1.2.1.length≤1099511627776)(hl2:o.2.1.2.2.2.length≤1099511627776)(hl3:o.2.2.1.length≤1099511627776)(hl4:o.2.2.2.1.length≤1099511627776)(hg:Glob w)(hone:RowKit.Hid (o.1=1)):Calls prog 148 #[v] w fun e w'=>Below w.heap.size w w'∧e=.returned (.bool (zn o)):=by
  obtain⟨g,c,q,d,r,Ad,W,Ao,X,Ap,S,Ac,T,rfl,t,z,sp,sc⟩:=h;obtain⟨k,⟨n,H,a,I⟩,⟨p,s,G,m,x⟩⟩:=o;dsimp only at *;have Z:Hid (ChIn w B (.agg [.int .i64 n,.slice Ad H.length W,.string a,.slice Ao I.length X].toArray) (n,H,a,I)):=hid ⟨g.1,c,q,Ad,W,Ao,X,rfl,t,z⟩;have Q:Hid (CmIn w B (.agg [.slice Ap p.length S,.slice Ac s.length T,.string G,.string m,.int .i64 x].toArray) (p,s,G,m,x)):=hid ⟨g.2,d,r,Ap,S,Ac,T,rfl,sp,sc⟩;have h1:H.length≤1099511627776:=hl1;have h2:I.length≤1099511627776:=hl2;have h3:p.length≤1099511627776:=hl3;have h4:s.length≤1099511627776:=hl4;have f:=hid hg;clear g c q d r t z sp sc hl1 hl2 hl3 hl4 hg;by_cases hk1:k=1
  ·subst hk1;have K:Hid (zn (1,(n,H,a,I),(p,s,G,m,x))=(jF (p,s,G,m,x) && ja (n,H,a,I))):=hid rfl;rcases Yk (jF (p,s,G,m,x)) with J|J
   rotate_left
   ·have P:Hid (zn (1,(n,H,a,I),(p,s,G,m,x))=false):=hid (by rw[K.out,J];rfl);have i:=hid J;clear J;go_enter func148,ntmps148
    go_upto_region 1 with (first
      |(with_reducible refine kG ?_
        refine kz yk 70 _ rfl [.int .u8 1,.int .i64 n,.slice Ad H.length W,.string a,.slice Ao I.length X,.slice Ap p.length S,.slice Ac s.length T,.string G,.string m,.int .i64 x] _ rfl rfl yq ?_;intro E L A A0;go_frame))
    have U:w.heap.size<E.heap.size:=(qX A);have b0:E.cell? ⟨w.heap.size,0,none⟩=some (.int .u8 1):=k6 A.out 0;have R:=hid (fun (u:World) (hu:Below E.heap.size E u)=>(show u.rangeAt w.heap.size 1 [.int .i64 n,.slice Ad H.length W,.string a,.slice Ao I.length X] from fun j y Y=>(hu.cell (p:=⟨w.heap.size,1+j,none⟩) U).trans ((k6 A (1+j)).trans (mid1 Y))));have M:=hid (fun (u:World) (hu:Below E.heap.size E u)=>(show u.rangeAt w.heap.size 5 [.slice Ap p.length S,.slice Ac s.length T,.string G,.string m,.int .i64 x] from fun j y Y=>(hu.cell (p:=⟨w.heap.size,5+j,none⟩) U).trans ((k6 A (5+j)).trans (mid5 Y))));have C:=L;have F:=hid (qB E.heap.size E)
    go_wp2_with (first
      |(with_reducible refine k8 ?_
        refine k7 yk (kg 68 _ rfl (p:=⟨w.heap.size,5,none⟩) rfl (qV _ _ _ _ [.slice Ap p.length S,.slice Ac s.length T,.string G,.string m,.int .i64 x] _ (M _ F) underlying68 rfl yq)) ?_))
    refine(QN (p,s,G,m,x) _ _ E ((Q.keep (C.mono hB)).more (qT hB C.size))).mono ?_;rintro e W1 ⟨O,rfl⟩;rw[i.out];have N:=hid (Xx F.out O);have D:=hid (Xx C.out O);clear O;go_wp2_with fail;go_ret;exact⟨D,by rw[P.out];rfl⟩
   go_enter func148,ntmps148
   go_upto_region 1 with (first
     |(with_reducible refine kG ?_
       refine kz yk 70 _ rfl [.int .u8 1,.int .i64 n,.slice Ad H.length W,.string a,.slice Ao I.length X,.slice Ap p.length S,.slice Ac s.length T,.string G,.string m,.int .i64 x] _ rfl rfl yq ?_;intro E L A A0;go_frame))
   have U:w.heap.size<E.heap.size:=(qX A);have b0:E.cell? ⟨w.heap.size,0,none⟩=some (.int .u8 1):=k6 A.out 0;have R:=hid (fun (u:World) (hu:Below E.heap.size E u)=>(show u.rangeAt w.heap.size 1 [.int .i64 n,.slice Ad H.length W,.string a,.slice Ao I.length X] from fun j y Y=>(hu.cell (p:=⟨w.heap.size,1+j,none⟩) U).trans ((k6 A (1+j)).trans (mid1 Y))));have M:=hid (fun (u:World) (hu:Below E.heap.size E u)=>(show u.rangeAt w.heap.size 5 [.slice Ap p.length S,.slice Ac s.length T,.string G,.string m,.int .i64 x] from fun j y Y=>(hu.cell (p:=⟨w.heap.size,5+j,none⟩) U).trans ((k6 A (5+j)).trans (mid5 Y))));have C:=L;have F:=hid (qB E.heap.size E);rcases Yk (ja (n,H,a,I)) with V|V
   focus
     have P:Hid (zn (1,(n,H,a,I),(p,s,G,m,x))=true):=hid (by rw[K.out,J,V];rfl)
   rotate_left
   focus
     have P:Hid (zn (1,(n,H,a,I),(p,s,G,m,x))=false):=hid (by rw[K.out,J,V];rfl)
   all_goals
     have i:=hid J;have Q2:=hid V
     clear J V
     go_wp2_with (first
       |(with_reducible refine k8 ?_
         refine k7 yk (kg 68 _ rfl (p:=⟨w.heap.size,5,none⟩) rfl (qV _ _ _ _ [.slice Ap p.length S,.slice Ac s.length T,.string G,.string m,.int .i64 x] _ (M _ F) underlying68 rfl yq)) ?_))
     refine(QN (p,s,G,m,x) _ _ E ((Q.keep (C.mono hB)).more (qT hB C.size))).mono ?_;rintro e W1 ⟨O,rfl⟩;rw[i.out];have N:=hid (Xx F.out O);have D:=hid (Xx C.out O);clear O
     go_wp2_with (first
       |(with_reducible refine k8 ?_
         refine k7 yk (kg 37 _ rfl (p:=⟨w.heap.size,1,none⟩) rfl (qV _ _ _ _ [.int .i64 n,.slice Ad H.length W,.string a,.slice Ao I.length X] _ (R _ N) underlying37 rfl yq)) ?_))
     refine(rightChange_any (n,H,a,I) _ _ W1 ((Z.keep (D.mono hB)).more (qT hB D.size)) (qR _) h1 h2 (f.next D)).mono ?_;rintro e W2 ⟨O,rfl⟩;rw[Q2.out];have l:=hid (Xx N.out O);have b:=hid (Xx D.out O);clear O;go_wp2_with fail;go_ret;exact⟨b,by rw[P.out];rfl⟩
  exact absurd hone.out hk1
end
section
open Go.RowKit Go.Maps

section
variable {w0 w wy:World} {g b off c:Nat} {l:List UInt8} {rb zo a a2:Nat} {cs cs':List Value}
end
section
variable {r1 r2 r3 r4 r5:List UInt8} {t:Nat} {ds:List (List UInt8)} {au:ByteArray} {ops:List OpD}
end
theorem ObjIn.ten{w:World}{B:Nat}{v:Value}{o:vB}(h:ObjIn w B v o):∃cs:List Value,v=.agg cs.toArray∧cs.length=10∧∀u∈cs,u.oneCell'=true:=by
  obtain⟨_,_,_,_,_,Ad,C,Ao,D,Ap,E,Ac,F,rfl,_⟩:=h;refine⟨[.int .u8 (o.1.toNat:Int),.int .i64 o.2.1.1,.slice Ad o.2.1.2.1.length C,.string o.2.1.2.2.1,.slice Ao o.2.1.2.2.2.length D,.slice Ap o.2.2.1.length E,.slice Ac o.2.2.2.1.length F,.string o.2.2.2.2.1,.string o.2.2.2.2.2.1,.int .i64 o.2.2.2.2.2.2],rfl,rfl,?_⟩;intro u A;simp only[xK,YY,or_false] at A;rcases A with rfl|rfl|rfl|rfl|rfl|rfl|rfl|rfl|rfl|rfl<;>rfl
theorem Sl.small{X:Nat→Prop}{w w':World}{B n sz:Nat}{A:Option Addr}{xs:List Value}(h:Sl w B A n sz xs)(hb:But X w w')(hB:B≤w.heap.size)(hsz:32≤sz)(hx:∀k,X k→∃(cs:List Value) (T:TypeId),w.heap[k]?=some (.cells cs.toArray T (0,0))∧cs.length<32):Sl w' B A n sz xs:=by
  refine⟨h.1,fun D=>?_⟩;obtain⟨b,E,e,C,F⟩:=h.2 D;refine⟨b,E,e,C,fun j u H=>?_⟩;have I:¬X b:=fun q=>by
    obtain⟨cs,T,J,K⟩:=hx b q;have G:31<xs.length:=by rw[h.1];exact qL yv (qT hsz (Nat.le_mul_of_pos_left sz D))
    have:=F 31 _ (yK G);rw[k6 J] at this;have:=(yJ.1 this).1;omega
  exact(hb.cell (qL C hB) I).trans (F j u H)
theorem ObjIn.small{X:Nat→Prop}{w w':World}{B:Nat}{v:Value}{o:vB}(h:ObjIn w B v o)(hb:But X w w')(hB:B≤w.heap.size)(hx:∀k,X k→∃(cs:List Value) (T:TypeId),w.heap[k]?=some (.cells cs.toArray T (0,0))∧cs.length<32):ObjIn w' B v o:=by
  obtain⟨A,C,D,E,F,Ad,G,Ao,H,Ap,I,Ac,J,K,L,M,N,O⟩:=h;exact⟨A,C,D,E,F,Ad,G,Ao,H,Ap,I,Ac,J,K,L.small hb hB yj hx,M.small hb hB yj hx,N.small hb hB yj hx,O.small hb hB yj hx⟩
theorem vP{w:World}{zo:Nat}{cs:List Value}(h:w.heap[zo]?=some (.cells cs.toArray 70 (0,0)))(hl:cs.length=10):(loadVar 70 ⟨zo,0,none⟩).run prog w=.ok (.agg cs.toArray) w:=
  qV _ zo 0 70 cs _ (fun j u A=>by rw[qZ];exact(k6 h j).trans A) underlying70 rfl (by rw[hl];kernel_rfl)
end
section
open Go.RowKit Go.Maps
open Lib (hid)
theorem own_cap{w:World}{base n sz:Nat}{e:TypeId}{A:Option Addr}{m c:Nat}{xs:List Value}(h:w.ownsRow base e sz (.slice A m c) n xs):n≤c:=by
  rcases h.2 with⟨B,C⟩|⟨g,D,E,B,_,_,C,_⟩
  ·omega
  ·injection B with _ _ h2;omega
def Zn(o:vB)(e:Ending)(w':World):Prop:=
  if zn o=true then (if 262144<(Jv o).length then e=.returned (.tuple #[.slice none 0 0,.int .i64 2]) else ∃A c,e=.returned (.tuple #[.slice A (Jv o).length c,.int .i64 0])∧Sl w' w'.heap.size A (Jv o).length 1 (idV (Jv o))∧(Jv o).length≤c)
  else e=.returned (.tuple #[.slice none 0 0,.int .i64 1])
theorem qz(o:vB)(v:Value)(w:World)(h:ObjIn w w.heap.size v o)(hl1:o.2.1.2.1.length≤1099511627776)(hl2:o.2.1.2.2.2.length≤1099511627776)(hl3:o.2.2.1.length≤1099511627776)(hl4:o.2.2.2.1.length≤1099511627776)(hg:Glob w)(hone:RowKit.Hid (o.1=1)):
    Calls prog 91 #[v] w fun e w'=>Below w.heap.size w w'∧Zn o e w':=by
  have U:=hid h;obtain⟨ok,A1,ha,A2,hm,Ad,d,Ao,f,Ap,g,Ac,i,rfl,sd,so,sp,sc⟩:=h;obtain⟨k,⟨n,E,F,G⟩,⟨P,Q,R,S,T⟩⟩:=o;dsimp only at *;have m:=hid hg;have q:Hid (ChIn w w.heap.size (.agg [.int .i64 n,.slice Ad E.length d,.string F,.slice Ao G.length f].toArray) (n,E,F,G)):=hid ⟨ok.1,A1,ha,Ad,d,Ao,f,rfl,sd,so⟩;have A4:Hid (CmIn w w.heap.size (.agg [.slice Ap P.length g,.slice Ac Q.length i,.string R,.string S,.int .i64 T].toArray) (P,Q,R,S,T)):=hid ⟨ok.2,A2,hm,Ap,g,Ac,i,rfl,sp,sc⟩;have h1:=hl1;have h2:=hl2;have h3:=hl3;have h4:=hl4
  have A8:=(zZ ok.2.2.2).2;clear ok A1 ha A2 hm sd so sp sc hg hl1 hl2 hl3 hl4;rcases Yk (zn (k,(n,E,F,G),(P,Q,R,S,T))) with b|b
  ·have I:=hid b;by_cases hk:k=1
   ·subst hk;have r:Hid (ja (n,E,F,G)=true):=hid (by unfold zn at b;rw[if_pos rfl,xy] at b;exact b.2);have V:Hid (Jv (1,(n,E,F,G),(P,Q,R,S,T))=Ju (n,E,F,G)):=hid (by unfold Jv;rw[if_pos rfl]);clear b;go_enter func91,ntmps91
    go_upto_region 1 with (first
      |(with_reducible refine kG ?_
        refine kz yk 70 _ rfl [.int .u8 ((1:UInt8).toNat:Int),.int .i64 n,.slice Ad E.length d,.string F,.slice Ao G.length f,.slice Ap P.length g,.slice Ac Q.length i,.string R,.string S,.int .i64 T] _ rfl rfl yq ?_;intro t A B C))
    have H:=hid (show w.heap.size<t.heap.size by have:=C.out;omega);obtain⟨c,N⟩:=Xy w.heap.size;have D:=H;rw[N] at B D ⊢;have s:=hid N;clear N C
    go_upto_region 3 with (first
      |(with_reducible refine k8 ?_
        refine k7 yk (kg 70 _ rfl (p:=⟨c,0,none⟩) rfl (qV _ _ _ _ [.int .u8 ((1:UInt8).toNat:Int),.int .i64 n,.slice Ad E.length d,.string F,.slice Ao G.length f,.slice Ap P.length g,.slice Ac Q.length i,.string R,.string S,.int .i64 T] _ (fun j u x=>(k6 B (0+j)).trans (by rw[qZ];exact x)) underlying70 rfl yq)) ?_)
      |(go_at_call 148;refine(right_any ((1:UInt8),(n,E,F,G),(P,Q,R,S,T)) _ w.heap.size t (U.keep A) A.size h1 h2 h3 h4 (m.next A) hone).mono ?_;rintro e l ⟨O,rfl⟩;have J:=hid ((O.block c D).trans B);have K:=hid O;rw[I.out];clear O))
    go_upto_region 4 with (first
      |(with_reducible refine kG ?_
        refine kz yk 269 _ rfl [.slice none 0 0] _ rfl rfl yq ?_;intro W3 W A6 A9;have L:Hid (WrAt W3 l.heap.size []):=hid ⟨_,A6,World.ownsRow_nil _ _ _ _⟩;have X:=hid ((W.block c (qX J)).trans J)))
    have Y:Hid (Below w.heap.size w l):=hid (Xx A.out K.out);have M:Hid (Below w.heap.size w W3):=hid (Xx Y.out W.out);have y:w.heap.size≤l.heap.size:=Y.size;have Aa:W3.cell? ⟨c,0,none⟩=some (.int .u8 1):=(k6 X 0).trans rfl
    go_upto_region 7 with (first
      |(with_reducible refine k8 ?_
        refine k7 yk (kg 37 _ rfl (p:=⟨c,1,none⟩) rfl (qV _ _ _ _ [.int .i64 n,.slice Ad E.length d,.string F,.slice Ao G.length f] _ (fun j u x=>(k6 X (1+j)).trans (mid1 x)) underlying37 rfl yq)) ?_)
      |(go_at_call 149;refine(wchange_any l.heap.size (n,E,F,G) _ W3 L ((q.keep M).more y) r).mono ?_;rintro e W4 ⟨rfl,A7,A3⟩;have Z:=hid ((A3.belowG L));obtain⟨v,z,A0⟩:=A7;obtain⟨Ab,cb,rfl⟩:=kM A0;have Ae:W4.cell? ⟨l.heap.size,0,none⟩=some (.slice Ab _ cb):=k6 z 0;have a:=hid A0;have A5:=hid z
        clear A3 z A0))
    by_cases hlong:262144<(Ju (n,E,F,G)).length
    ·have i2:(262144:Int)<((Ju (n,E,F,G)).length:Int):=yv;go_wp2_with fail;go_ret2;exact⟨M.trans (Z.mono y),by unfold Zn;rw[if_pos I.out,V.out,if_pos hlong];rfl⟩
    ·have i2:¬(262144:Int)<((Ju (n,E,F,G)).length:Int):=yv;go_wp2_with fail;go_ret2;exact⟨M.trans (Z.mono y),by unfold Zn;rw[if_pos I.out,V.out,if_neg hlong];exact⟨Ab,cb,rfl,Sl.of_own a,own_cap a⟩⟩
   ·exact absurd hone.out hk
  ·have I:=hid b;clear b;go_enter func91,ntmps91
   go_upto_region 1 with (first
     |(with_reducible refine kG ?_
       refine kz yk 70 _ rfl [.int .u8 (k.toNat:Int),.int .i64 n,.slice Ad E.length d,.string F,.slice Ao G.length f,.slice Ap P.length g,.slice Ac Q.length i,.string R,.string S,.int .i64 T] _ rfl rfl yq ?_;intro t A B C))
   have H:=hid (show w.heap.size<t.heap.size by have:=C.out;omega);obtain⟨c,N⟩:=Xy w.heap.size;have D:=H;rw[N] at B D ⊢;have s:=hid N;clear N C
   go_wp2_with (first
     |(with_reducible refine k8 ?_
       refine k7 yk (kg 70 _ rfl (p:=⟨c,0,none⟩) rfl (qV _ _ _ _ [.int .u8 (k.toNat:Int),.int .i64 n,.slice Ad E.length d,.string F,.slice Ao G.length f,.slice Ap P.length g,.slice Ac Q.length i,.string R,.string S,.int .i64 T] _ (fun j u x=>(k6 B (0+j)).trans (by rw[qZ];exact x)) underlying70 rfl yq)) ?_)
     |(go_at_call 148;refine(right_any (k,(n,E,F,G),(P,Q,R,S,T)) _ w.heap.size t (U.keep A) A.size h1 h2 h3 h4 (m.next A) hone).mono ?_;rintro e l ⟨O,rfl⟩;have J:=hid ((O.block c D).trans B);have K:=hid O;rw[I.out];clear O))
   go_ret2;exact⟨A.trans (K.mono A.size),by unfold Zn;rw[if_neg (by rw[I.out];decide)];rfl⟩
def Q9(x:OpD):Bool:= !(decide (300<x.2.2.2.1.size) && decide (x.2.2.2.1.size≤4096))
def vh(o:vB):Bool:=decide (o.2.1.2.2.2.length≤60) && decide (o.2.1.2.1.length≤100) && decide (o.2.2.1.length≤100) && decide (o.2.2.2.1.length≤200) && o.2.1.2.2.2.all Q9
theorem lightB_lens{o:vB}(h:vh o=true):o.2.1.2.2.2.length≤60∧o.2.1.2.1.length≤100∧o.2.2.1.length≤100∧o.2.2.2.1.length≤200:=by
  unfold vh at h;simp only[xy,decide_eq_true_eq] at h;exact⟨h.1.1.1.1,h.1.1.1.2,h.1.1.2,h.1.2⟩
theorem qa{o:vB}(h:¬(o.2.1.2.2.2.length≤60∧o.2.1.2.1.length≤100∧o.2.2.1.length≤100∧o.2.2.2.1.length≤200)):vh o=false:=by
  rcases Yk (vh o) with q|q
  ·exact absurd (lightB_lens q) h
  ·exact q
theorem all_next{α:Type}{p:α→Bool}{l:List α}{i:Nat}(h:i<l.length):(l.take (i+1)).all p=((l.take i).all p && p l[i]):=by
  rw[xj h,List.all_append];simp
theorem all_stop{α:Type}{p:α→Bool}{l:List α}{i:Nat}(h:i<l.length)(hp:p l[i]=false):l.all p=false:=by
  rcases Yk (l.all p) with q|q
  ·have:=List.all_eq_true.1 q _ (yQ h);rw[hp] at this;cases this
  ·exact q
theorem light_any(o:vB)(v:Value)(w:World)(h:ObjIn w w.heap.size v o):
    Calls prog 34 #[v] w fun e w'=>Below w.heap.size w w'∧e=.returned (.bool (vh o)):=by
  obtain⟨ok,c,ha,z,hm,Ad,cd,Ao,co,Ap,cp,Ac,cc,rfl,sd,so,sp,sc⟩:=h;obtain⟨k,⟨n,I,l,B⟩,⟨J,K,m,r,y⟩⟩:=o;dsimp only at *;have T:=hid so;have L:=hid c
  clear ok c ha z hm sd so sp sc;go_enter func34,ntmps34
  go_upto_region 1 with (first
    |(with_reducible refine kG ?_
      refine kz yk 70 _ rfl [.int .u8 (k.toNat:Int),.int .i64 n,.slice Ad I.length cd,.string l,.slice Ao B.length co,.slice Ap J.length cp,.slice Ac K.length cc,.string m,.string r,.int .i64 y] _ rfl rfl yq ?_;intro N C A A6))
  have d:=(qX A);have c4:N.cell? ⟨w.heap.size,4,none⟩=some (.slice Ao B.length co):=k6 A.out 4;have c2:N.cell? ⟨w.heap.size,2,none⟩=some (.slice Ad I.length cd):=k6 A.out 2;have c5:N.cell? ⟨w.heap.size,5,none⟩=some (.slice Ap J.length cp):=k6 A.out 5;have c6:N.cell? ⟨w.heap.size,6,none⟩=some (.slice Ac K.length cc):=k6 A.out 6
  try go_frame
  clear A;by_cases h0:60<B.length
  ·have d0:decide ((60:Int)<(B.length:Int))=true:=dT yv;have A0:decide (60<B.length)=true:=dT yv;go_wp2_with fail;go_ret;exact⟨C,by rw[qa (by intro q;have O:=q.1;have P:=q.2.1;have Q:=q.2.2.1;have R:=q.2.2.2;dsimp only at O P Q R;omega)];rfl⟩
  have d0:decide ((60:Int)<(B.length:Int))=false:=dF yv;have A0:decide (60<B.length)=false:=dF yv;by_cases h1:100<I.length
  ·have d1:decide ((100:Int)<(I.length:Int))=true:=dT yv;have A1:decide (100<I.length)=true:=dT yv;go_wp2_with fail;go_ret;exact⟨C,by rw[qa (by intro q;have O:=q.1;have P:=q.2.1;have Q:=q.2.2.1;have R:=q.2.2.2;dsimp only at O P Q R;omega)];rfl⟩
  have d1:decide ((100:Int)<(I.length:Int))=false:=dF yv;have A1:decide (100<I.length)=false:=dF yv;by_cases h2:100<J.length
  ·have d2:decide ((100:Int)<(J.length:Int))=true:=dT yv;have A2:decide (100<J.length)=true:=dT yv;go_wp2_with fail;go_ret;exact⟨C,by rw[qa (by intro q;have O:=q.1;have P:=q.2.1;have Q:=q.2.2.1;have R:=q.2.2.2;dsimp only at O P Q R;omega)];rfl⟩
  have d2:decide ((100:Int)<(J.length:Int))=false:=dF yv;have A2:decide (100<J.length)=false:=dF yv;by_cases h3:200<K.length
  ·have d3:decide ((200:Int)<(K.length:Int))=true:=dT yv;have A3:decide (200<K.length)=true:=dT yv;go_wp2_with fail;go_ret;exact⟨C,by rw[qa (by intro q;have O:=q.1;have P:=q.2.1;have Q:=q.2.2.1;have R:=q.2.2.2;dsimp only at O P Q R;omega)];rfl⟩
  have d3:decide ((200:Int)<(K.length:Int))=false:=dF yv;have A3:decide (200<K.length)=false:=dF yv;have f:=c4;have U:=hid (fun (u:World) (hu:Below N.heap.size N u)=>(hu.cell (p:=⟨w.heap.size,4,none⟩) d).trans f)
  go_upto_region 4 with fail
  clear c4 c2 c5 c6 f
  go_loopw [3] (fun t wr=>∃i:Nat,i≤B.length∧t=.int .i64 i∧Hid ((B.take i).all Q9=true)∧Hid (Below N.heap.size N wr)) (fun t _=>B.length - (intOf t).toNat)
  case atStart=>exact⟨0,by omega,rfl,hid rfl,hid (qB _ _)⟩
  case round=>
    obtain⟨i,hi,rfl,E,D⟩:=hrel;have F:=hid (C.trans (D.mono (YV d)));have e4:=U.out wr D.out;by_cases hlt:i<B.length
    ·obtain⟨b,A4,rfl,A5,g⟩:=(T.keep F).2 yv;have i0:(0:Int)≤(i:Int):=yv;have i1:(i:Int)<(B.length:Int):=yv;have Z:=Sl.row (fun x hx=>kI (L x hx)) g hlt;have j:=hid (L _ (yQ hlt));have M:=hid (all_next (p:=Q9) hlt);have V:=hid (fun h=>all_stop (p:=Q9) hlt h);generalize B[i]=x at *;have W:=hid (kB j);have A7:wr.cell? ⟨b,A4+i*70+(3+64),none⟩=some (.string x.2.2.2.1):=Z 67 _ W.2.2.2.1;have G:Hid (Q9 x= !(decide (300<x.2.2.2.1.size) && decide (x.2.2.2.1.size≤4096))):=hid rfl;generalize x.2.2.2.1=s at *;clear g A5 Z;by_cases hs1:300<s.size
     ·have g1:decide ((300:Int)<(s.size:Int))=true:=dT yv;have S:decide (300<s.size)=true:=dT yv;by_cases hs2:s.size≤4096
      ·have g2:decide ((s.size:Int)≤4096)=true:=dT yv;have a:decide (s.size≤4096)=true:=dT yv;have X:Hid (vh (k,(n,I,l,B),(J,K,m,r,y))=false):=hid (by unfold vh;dsimp only;rw[V.out (by rw[G.out,S,a];rfl),Bool.and_false]);go_wp2_with fail;go_ret;exact⟨F,by rw[X.out];rfl⟩
      ·have g2:decide ((s.size:Int)≤4096)=false:=dF yv;have a:decide (s.size≤4096)=false:=dF yv;have H:=hid (show (B.take (i+1)).all Q9=true by rw[M.out,E.out,G.out,S,a];rfl);go_wp2_with fail
       go_roundw
       case rel=>exact⟨i+1,by omega,by go_num,H,D⟩
       case measure=>simp [intOf];omega
     ·have g1:decide ((300:Int)<(s.size:Int))=false:=dF yv;have S:decide (300<s.size)=false:=dF yv;have H:=hid (show (B.take (i+1)).all Q9=true by rw[M.out,E.out,G.out,S];rfl);go_wp2_with fail
      go_roundw
      case rel=>exact⟨i+1,by omega,by go_num,H,D⟩
      case measure=>simp [intOf];omega
    ·have i1:¬(i:Int)<(B.length:Int):=yv;have Y:Hid (vh (k,(n,I,l,B),(J,K,m,r,y))=true):=hid (by
       have h:=E.out;rw[Yq yv] at h;unfold vh;dsimp only;rw[h,dT (show B.length≤60 by omega),dT (show I.length≤100 by omega),dT (show J.length≤100 by omega),dT (show K.length≤200 by omega)];rfl)
     go_wp2_with fail;go_ret;exact⟨F,by rw[Y.out];rfl⟩
end
section
open Go.RowKit Go.Maps
theorem zeroCm_run(w:World):(zeroValue 68).run prog w=.ok (.agg ([.slice none 0 0,.slice none 0 0,.string noneS,.string noneS,.int .i64 0]:List Value).toArray) w:=yq
end
def U0(l:List (List UInt8)):Prop:=l.Pairwise fun a b=>jJ a b≤0
theorem idLe_trans{a b c:List UInt8}(h1:jJ a b≤0)(h2:jJ b c≤0):jJ a c≤0:=by
  rcases (by omega:jJ a b<0∨jJ a b=0) with q|q
  ·rcases (by omega:jJ b c<0∨jJ b c=0) with r|r
   ·have:=KD q r;omega
   ·rw[←Kl.1 r];exact h1
  ·rw[Kl.1 q];exact h2
structure Mg (a b out ra rb:List (List UInt8)):Prop where
  perm:(out++ra++rb).Perm (a++b)
  sorted:U0 out
  le:∀x∈out,∀y∈ra++rb,jJ x y≤0
  sra:U0 ra
  srb:U0 rb
theorem Mg.start{a b:List (List UInt8)}(ha:U0 a)(hb:U0 b):Mg a b [] a b:=⟨List.Perm.refl _,List.Pairwise.nil,fun x A=>absurd A yZ,ha,hb⟩
section
variable {a b out ra rb:List (List UInt8)} {x:List UInt8}
theorem Mg.left(h:Mg a b out (x::ra) rb)(hc:∀y t,rb=y::t→jJ x y≤0):Mg a b (out++[x]) ra rb:=by
  have C:=List.pairwise_cons.1 h.sra;refine⟨by rw[show out++[x]++ra++rb=out++(x::ra)++rb by simp];exact h.perm,List.pairwise_append.2 ⟨h.sorted,List.pairwise_singleton _ _,fun p B q A=>?_⟩,fun p B q A=>?_,C.2,h.srb⟩
  ·obtain rfl:q=x:=by simpa using A
   exact h.le p B _ yZ
  ·rcases xJ.1 B with B|B
   ·refine h.le p B q ?_;rcases xJ.1 A with A|A
    ·simp [A]
    ·simp [A]
   ·obtain rfl:p=x:=by simpa using B
    rcases xJ.1 A with A|A
    ·exact C.1 q A
    ·cases rb with
     |nil=>cases A
     |cons y t=>
      have D:=hc y t rfl;rcases xK.1 A with rfl|A
      ·exact D
      ·exact idLe_trans D ((List.pairwise_cons.1 h.srb).1 q A)
theorem Mg.swap(h:Mg a b out ra rb):Mg b a out rb ra:=
  ⟨by
    rw[Yz];refine(List.Perm.append_left out List.perm_append_comm).trans ?_;rw[←Yz];exact h.perm.trans List.perm_append_comm,h.sorted,fun p B q A=>h.le p B q (by simp only[xJ] at A ⊢;exact A.symm),h.srb,h.sra⟩
theorem Mg.right(h:Mg a b out ra (x::rb))(hc:∀y t,ra=y::t→jJ x y≤0):Mg a b (out++[x]) ra rb:=(h.swap.left hc).swap
theorem Mg.done(h:Mg a b out ra rb)(he:ra=[]∨rb=[]):U0 (out++ra++rb)∧(out++ra++rb).Perm (a++b):=by
  refine⟨?_,h.perm⟩;rw[Yz];refine List.pairwise_append.2 ⟨h.sorted,?_,h.le⟩;rcases he with rfl|rfl
  ·exact h.srb
  ·rw[List.append_nil];exact h.sra
end
structure Dd (s out:List (List UInt8)) (k:Nat):Prop where
  set:out.Pairwise fun a b=>jJ a b<0
  mem:∀x,x∈out↔x∈s.take k
theorem Dd.start(s:List (List UInt8)):Dd s [] 0:=⟨List.Pairwise.nil,fun x=>by simp⟩
section
variable {s out:List (List UInt8)} {k:Nat}
theorem Dd.add(h:Dd s out k)(hs:U0 s)(hk:k<s.length)(hn:∀A:0<out.length,out[out.length - 1]≠s[k]):Dd s (out++[s[k]]) (k+1):=by
  refine⟨List.pairwise_append.2 ⟨h.set,List.pairwise_singleton _ _,fun x C y D=>?_⟩,fun x=>?_⟩
  ·obtain rfl:y=s[k]:=by simpa using D
   obtain⟨q,E,rfl⟩:=List.getElem_of_mem C;have A:0<out.length:=yv;have F:out[out.length - 1]∈s.take k:=(h.mem _).1 (yQ _);obtain⟨p,G,B⟩:=List.getElem_of_mem F;rw[Yj] at G;rw[List.getElem_take] at B;have H:jJ out[out.length - 1] s[k]≤0:=by
     rw[←B];exact(List.pairwise_iff_getElem.1 hs) p k yv hk yv
   have I:jJ out[out.length - 1] s[k]≠0:=fun e=>hn A (Kl.1 e)
   rcases (by omega:q=out.length - 1∨q<out.length - 1) with r|r
   ·subst r;omega
   ·exact KD ((List.pairwise_iff_getElem.1 h.set) q (out.length - 1) E yv r) yv
  ·rw[xj hk,xJ,xJ,h.mem]
theorem Dd.skip(h:Dd s out k)(hk:k<s.length)(ho:0<out.length)(he:out[out.length - 1]=s[k]):Dd s out (k+1):=by
  refine⟨h.set,fun x=>?_⟩;rw[xj hk,xJ,←h.mem];constructor
  ·exact .inl
  ·rintro (q|q)
   ·exact q
   ·obtain rfl:x=s[k]:=by simpa using q
    rw[←he];exact yQ _
theorem Dd.done(h:Dd s out k)(hk:s.length≤k):jh out=true∧∀x,x∈out↔x∈s:=⟨isSetB_of_pair h.set,fun x=>by rw[h.mem,Yq hk]⟩
end
section
open Go.RowKit
section
variable {P:Program} {ρ:Operand→Value} {o:Oper} {w:World}
end
section
variable {w:World} {B n c sz:Nat} {A:Option Addr} {xs:List Value}
end
end
section
open Go.RowKit Go.Maps
theorem Kg{P:Program}{ops:Array Oper}{rest:List Oper}{o:Oper}{a:Act}{w:World}{Q:Exit→Act→World→Prop}(hw:Region.wanted o (yielded ops a.tmps)=true)(s x:Operand)(t:TypeId)
    (ho:o.op=.call { callee:=.builtin .append,args:=#[s,x],argTypes:=#[t,t]})
    (base:Nat) (e:TypeId) (z:Value) (size bytes:Nat) (ht:P.underlying t=some (.slice e)) (hinf:(P.info? e).map (fun i=>(i.zero,i.size,i.bytes))=some (some z,size,bytes))
    (hzs:z.cells.size=size) (hsz:0<size)
    (v:Value) (n:Nat) (xs:List Value) (hs:a.eval s=v) (hown:w.ownsRow base e size v n xs)
    (A:Option Addr) (m c B:Nat) (news:List Value) (hx:a.eval x=.slice A m c) (hsl:Sl w B A m size news) (h1:∀u∈news,u.oneCell'=true)
    (h63:n+m≤maxLen) (hbytes:(n+m)*bytes≤140737488355328) (hbase:base≤w.heap.size)
    (h:∀C w',w'.ownsRow base e size C (n+m) (xs++news)→w.grownBy w' v.ownBlock→wpList P ops Q rest (a.put o.dst C) w'):wpList P ops Q (o::rest) a w:=by
  obtain⟨i,G,D,E,F⟩:=info_parts hinf;refine BigFrame.wpList_want hw fun K H=>?_
  exact Jz s x t ho base e i z size bytes ht G D E F hzs hsz v n xs hs hown A m c B news hx hsl h1 h63 hbytes hbase fun C w' I J=>H _ _ (h C w' I J)
theorem own_cap8{w:World}{base n sz:Nat}{e:TypeId}{A:Option Addr}{m c:Nat}{xs:List Value}(h:w.ownsRow base e sz (.slice A m c) n xs):n≤c:=by
  rcases h.2 with⟨B,F⟩|⟨g,C,D,B,_,_,E,_⟩
  ·omega
  ·injection B with _ _ h3;omega
structure MgAt (w1:World) (pa pb out ra rb:List (List UInt8)) (Aa:Option Addr) (na ca:Nat) (Ab:Option Addr) (nb cb:Nat) (Ao:Option Addr) (no co:Nat) (w:World):Prop where
  mg:Mg pa pb out ra rb
  bel:Below w1.heap.size w1 w
  ena:ra.length=na
  enb:rb.length=nb
  eno:out.length=no
  sa:Sl w w1.heap.size Aa na 32 (zB ra)
  lca:na≤ca
  sb:Sl w w1.heap.size Ab nb 32 (zB rb)
  lcb:nb≤cb
  own:w.ownsRow w1.heap.size 41 32 (.slice Ao no co) no (zB out)
  oka:IdsOk ra
  okb:IdsOk rb
  len:no+na+nb≤1099511627776
theorem MgAt.swap{w1 w:World}{pa pb out ra rb:List (List UInt8)}{Aa Ab Ao:Option Addr}{na ca nb cb no co:Nat}(h:MgAt w1 pa pb out ra rb Aa na ca Ab nb cb Ao no co w):MgAt w1 pb pa out rb ra Ab nb cb Aa na ca Ao no co w:=
  ⟨h.mg.swap,h.bel,h.enb,h.ena,h.eno,h.sb,h.lcb,h.sa,h.lca,h.own,h.okb,h.oka,by have:=h.len;omega⟩
theorem MgAt.left{w1 w w9:World}{pa pb out ra rb:List (List UInt8)}{Aa Ab Ao A' A9:Option Addr}{na ca nb cb no co c9:Nat}{x:List UInt8}(h:MgAt w1 pa pb out (x::ra) rb Aa na ca Ab nb cb Ao no co w)(hc:∀y t,rb=y::t→jJ x y≤0)
    (hb:Below w1.heap.size w w9) (ho:w9.ownsRow w1.heap.size 41 32 (.slice A9 (no+1) c9) (no+1) (zB out++idV x)) (hs:Sl w9 w1.heap.size A' (na - 1) 32 (zB ra)):MgAt w1 pa pb (out++[x]) ra rb A' (na - 1) (ca - 1) Ab nb cb A9 (no+1) c9 w9:=by
  have A:=h.ena;have C:=h.lca;have D:=h.len;have B:=h.eno;rw[Yx] at A;refine⟨h.mg.left hc,h.bel.trans hb,by omega,h.enb,by rw[yV,B];rfl,hs,by omega,h.sb.keep hb,h.lcb,by rw[idsV_snoc];exact ho,h.oka.tail,h.okb,by omega⟩
end
section
open Go.RowKit Go.Maps
open Lib (hid)
def uE(l:List UInt8)(w:World)(e:Ending)(w':World):Prop:=Below w.heap.size w w'∧∃A c,e=.returned (.slice A l.length c)∧w'.ownsRow w.heap.size 5 1 (.slice A l.length c) l.length (idV l)
theorem KI(n:Nat)(hn:n<9223372036854775808)(w:World):Calls prog 204 #[.int .i64 (n:Int)] w (uE (jA n) w):=by
  have J:=hid (js (n:=n) yv);go_enter func204,ntmps204;go_wp2_with fail
  go_loopw [0,3] (fun t0 t3 wr=>∃(m:Nat) (A:List UInt8) (K:Option Addr) (L:Nat),t0=.int .i64 (m:Int)∧t3=.slice K A.length L∧m<9223372036854775808∧A.length≤10∧Hid (jA n=A++jA m)∧Hid (wr.ownsRow w.heap.size 5 1 (.slice K A.length L) A.length (idV A))∧Hid (Below w.heap.size w wr)) (fun t0 _ _=>(intOf t0).toNat)
  case atStart=>exact⟨n,[],none,0,rfl,rfl,hn,by simp,hid rfl,hid (World.ownsRow_nil _ _ _ _),hid (Below.refl _ _)⟩
  case round=>
    obtain⟨m,A,K,L,rfl,rfl,V,U,H,E,C⟩:=hrel;have O:A.length+(jA m).length≤10:=by
      have:=J.out;rw[H.out,yV] at this;exact this
    have P:=Ql m;by_cases h128:m<128
    ·have I:=hid (qN h128);have Q:¬(128:Int)≤(m:Int):=yv
     go_wp2_with (at_builtin;refine Jt rfl _ _ 169 rfl w.heap.size 5 (.int .u8 0) 1 underlying169 jm rfl (.slice K A.length L) A.length (idV A) rfl E _ _ rfl rfl ?c1 ?c2 ?c3 ?_)
     case c1=>unfold maxLen;omega
     case c2=>omega
     case c3=>exact C.size
     intro R S D G;have F:=hid (G _ w (xY _) C);have B:=hid D;clear G D;obtain⟨M,c3,rfl⟩:=kM B.out;go_wp2_with fail;go_ret;have N:(jA n).length=A.length+1:=by rw[H.out,I.out];simp
     have T:idV (jA n)=idV A++[.int .u8 (m:Int)]:=by
       rw[H.out,I.out];simp only[idV,List.map_append,xX,Yy];rw[u8_of yv]
     exact⟨F,M,c3,by rw[N];rfl,by rw[N,T];exact B.out⟩
    ·have Q:(128:Int)≤(m:Int):=yv
     go_wp2_with (at_builtin;refine Jt rfl _ _ 169 rfl w.heap.size 5 (.int .u8 0) 1 underlying169 jm rfl (.slice K A.length L) A.length (idV A) rfl E _ _ rfl rfl ?c1 ?c2 ?c3 ?_)
     case c1=>unfold maxLen;omega
     case c2=>omega
     case c3=>exact C.size
     intro R S D G;have F:=hid (G _ w (xY _) C);have B:=hid D;clear G D;obtain⟨M,c3,rfl⟩:=kM B.out;go_wp2_with fail
     go_roundw
     case rel=>
       refine⟨m / 128,A++[UInt8.ofNat (m % 128+128)],M,c3,congrArg (Value.int .i64) yv,by simp,by omega,by rw[yV,xQ];omega,hid ?_,hid ?_,F⟩
       ·rw[H.out,numB_big h128];simp
       ·rw[yV,xQ];have e:idV (A++[UInt8.ofNat (m % 128+128)])=idV A++[.int .u8 (128+(m:Int) % 128)]:=by
          simp only[idV,List.map_append,xX,Yy];rw[u8_of yv,show ((m % 128+128:Nat):Int)=128+(m:Int) % 128 by omega]
        rw[e];exact B.out
     case measure=>exact Xz
theorem vZ(s:ByteArray)(hs:s.size≤1099511627776)(w:World):Calls prog 203 #[.string s] w (uE (jN (L s)) w):=by
  have S:=js (n:=s.size) yv;obtain⟨O,P,J,K,M⟩:=info_parts jm;have B:=hid (show jN (L s)=jA s.size++L s by unfold jN;rw[jf]);go_enter func203,ntmps203
  go_wp2_with (first
    |(go_at_call 204;refine(KI s.size yv w).mono ?_;rintro e T ⟨H,U,c1,rfl,I⟩;have A:=hid H;have C:=hid I
      clear H I)
    |(at_builtin;refine Lib.wpList_append_own_string _ rfl _ _ 169 9 rfl w.heap.size 5 O underlying169 underlying9 P J K M _ _ _ rfl C s rfl ?c1 ?c2 ?c3 ?_))
  case c1=>unfold maxLen;omega
  case c2=>omega
  case c3=>exact A.size
  intro V W E G _;have D:=hid E;have F:=hid (A.grown G A.size (fun k e=>(C.lt k e).1));clear E G;obtain⟨Q,c3,rfl⟩:=kM D.out;go_wp2_with fail;go_ret;have N:(jN (L s)).length=(jA s.size).length+s.size:=by rw[B.out,yV,jf]
  have R:idV (jN (L s))=idV (jA s.size)++(L s).map fun b=>Value.int .u8 (b.toNat:Int):=by rw[B.out];unfold idV;rw[List.map_append]
  exact⟨F,Q,c3,by rw[N];rfl,by rw[N,R];exact D.out⟩
end
section
open Go.RowKit
open Lib (hid)
theorem cmpB_cut:∀(i:Nat) (a b:List UInt8),a.take i=b.take i→i≤a.length→i≤b.length→jJ a b=jJ (a.drop i) (b.drop i)
  | 0,_,_,_,_,_=>rfl
  |i+1,[],_,_,h,_=>by simp at h
  |i+1,_ :: _,[],_,_,h=>by simp at h
  |i+1,x::a,y::b,h,ha,hb=>by
   simp only[List.take_succ_cons,List.cons.injEq] at h;obtain⟨rfl,h⟩:=h;rw[Jb,if_neg (KZ x),if_neg (KZ x)];exact cmpB_cut i a b h (by simpa using ha) (by simpa using hb)
theorem cmpB_stop{a b:List UInt8}{i:Nat}(h:a.take i=b.take i)(ha:i<a.length)(hb:i<b.length):(a[i]<b[i]→jJ a b= -1)∧(b[i]<a[i]→jJ a b=1)∧(¬a[i]<b[i]→¬b[i]<a[i]→a.take (i+1)=b.take (i+1)):=by
  have e:=cmpB_cut i a b h yv yv;rw[List.drop_eq_getElem_cons ha,List.drop_eq_getElem_cons hb,Jb] at e;refine⟨fun q=>by rw[e,if_pos q],fun q=>by rw[e,if_neg (Zf q),if_pos q],fun q r=>?_⟩;have:a[i]=b[i]:=by
    rcases ZQ a[i] b[i] with A|A|A
    ·exact absurd A q
    ·exact absurd A r
    ·exact A
  rw[xj ha,xj hb,h,this]
theorem id_cells{l:List UInt8}(h:jr l)(i:Nat)(hi:i<32):(idV l)[i]?=some (.int .u8 ((l[i]'(by rw[h];exact hi)).toNat:Int)):=by
  have A:l.length=32:=h;simp [idV,A,hi]
theorem refCompare_gr(a b:List UInt8)(w:World)(ha:jr a)(hb:jr b):
    Calls prog 206 #[.agg (idV a).toArray,.agg (idV b).toArray] w fun e w'=>Gr w w'∧e=.returned (.int .i64 (jJ a b)):=by
  have M:(w.alloc (.cells (idV a).toArray 41)).heap[w.heap.size]?=some (.cells (idV a).toArray 41 (0,0)):=heap_alloc_new _ _;have T:a.length=32:=ha;have U:b.length=32:=hb;go_enter func206,ntmps206
  go_upto_region 1 with fail
  obtain⟨W,C⟩:=Xy ((w.alloc (.cells (idV a).toArray 41)).alloc (.cells (idV b).toArray 41));have N:W.heap[w.heap.size]?=some (.cells (idV a).toArray 41 (0,0)):=by
    rw[←C];exact(heap_alloc_old (w.alloc (.cells (idV a).toArray 41)) _ yZ).trans M
  have O:W.heap[w.heap.size+1]?=some (.cells (idV b).toArray 41 (0,0)):=by
    rw[←C];have:=heap_alloc_new (w.alloc (.cells (idV a).toArray 41)) (.cells (idV b).toArray 41);rw[World.size_alloc] at this;exact this
  have F:Gr w W:=by rw[←C];exact((Gr.refl _).alloc _).alloc _
  have J:W.heap.size=w.heap.size+2:=by rw[←C];simp
  rw[C];clear C M;have K:=hid fun (i:Nat) (G:i<32)=>(jo N i).trans (id_cells ha i G)
  have L:=hid fun (i:Nat) (G:i<32)=>(jo O i).trans (id_cells hb i G)
  have B:=hid J;have D:=hid fun (i:Nat) (G:i<32) (h:a.take i=b.take i)=>cmpB_stop h yv yv
  have E:=hid fun (h:a.take 32=b.take 32)=>(show jJ a b=0 from by
    rw[Yq yv,Yq yv] at h;exact Kl.2 h)
  clear N O J;go_wp2_with fail
  go_loopw [5] (fun t wr=>∃i:Nat,i≤32∧t=.int .i64 i∧Gr W wr∧Hid (a.take i=b.take i)) (fun t _=>32 - (intOf t).toNat)
  case atStart=>exact⟨0,by omega,rfl,Gr.refl _,hid rfl⟩
  case round=>
    obtain⟨i,G,rfl,A,P⟩:=hrel;by_cases hlt:i<32
    ·have V:=(A.below.cell (p:=⟨w.heap.size,i,none⟩) (by have:=B.out;show w.heap.size<_;omega)).trans (K i hlt);have X:=(A.below.cell (p:=⟨w.heap.size+1,i,none⟩) (by have:=B.out;show w.heap.size+1<_;omega)).trans (L i hlt);have Y:(0:Int)≤(i:Int):=yv;have R:(i:Int)<32:=yv;have H:=hid (D i hlt P);generalize a[i]'(by omega)=x at *;generalize b[i]'(by omega)=y at *;rcases ZQ x y with h|h|h
     ·have S:((x.toNat:Nat):Int)<(y.toNat:Int):=by rw[UInt8.lt_iff_toNat_lt] at h;omega
      have I:=hid (H.1 h);go_wp2_with fail
      go_quiet (fail)
      go_wp2_with fail;go_ret;exact⟨F.trans (A.drewN _),by rw[I.out];rfl⟩
     ·have S:((y.toNat:Nat):Int)<(x.toNat:Int):=by rw[UInt8.lt_iff_toNat_lt] at h;omega
      have Z:¬((x.toNat:Nat):Int)<(y.toNat:Int):=yv;have I:=hid (H.2.1 h);go_wp2_with fail
      go_quiet (fail)
      go_wp2_with fail
      go_quiet (fail)
      go_wp2_with fail;go_ret;exact⟨F.trans ((A.drewN _).drewN _),by rw[I.out];rfl⟩
     ·subst h;have Q:=hid (H.2.2 (KZ x) (KZ x));go_wp2_with fail
      go_quiet (fail)
      go_wp2_with fail
      go_quiet (fail)
      go_wp2_with fail
      go_roundw
      case rel=>exact⟨i+1,by omega,by go_num,A.drewN _,Q⟩
      case measure=>simp [intOf];omega
    ·have R:¬(i:Int)<32:=yv;have e:i=32:=yv;have I:=hid (E (by rw[←e];exact P.out));clear e;go_wp2_with fail;go_ret;exact⟨F.trans A,by rw[I.out];rfl⟩
end
section
open Go.RowKit Go.Maps
open Lib (hid)
theorem refIn_any(l:List (List UInt8))(x:List UInt8)(A:Option Addr)(c:Nat)(w:World)(hn:l.length≤1099511627776)(ho:IdsOk l)(hx:jr x)(hs:Sl w w.heap.size A l.length 32 (zB l)):
    Calls prog 30 #[.slice A l.length c,.agg (idV x).toArray] w fun e w'=>Below w.heap.size w w'∧e=.returned (.bool (decide (x∈l))):=by
  have N:=hid ho;have W:=hid hs
  clear ho hs;go_enter func30,ntmps30
  go_upto_region 1 with (first
    |(with_reducible refine kG ?_
      refine kz yk 41 _ rfl (idV x) _ rfl rfl (by rw[kn,show x.length=32 from hx];exact jq) ?_;intro Y C I g))
  have Z:=(qX I)
  try go_frame
  go_wp2_with fail
  go_loopw [5] (fun t wr=>∃i:Nat,i≤l.length∧t=.int .i64 (i:Int)∧Hid (Below Y.heap.size Y wr)∧Hid (x∉l.take i)) (fun t _=>l.length - (intOf t).toNat)
  case atStart=>exact⟨0,YX _,rfl,hid (qB _ _),hid yZ⟩
  case round=>
    obtain⟨i,k,rfl,D,O⟩:=hrel;by_cases hlt:i<l.length
    ·have m:(0:Int)≤(i:Int):=yv;have d:(i:Int)<(l.length:Int):=yv;have R:=C.trans (D.mono C.size);obtain⟨b,T,rfl,U,V⟩:=(W.keep R).2 yv;have X:=hid (Wd.row (base:=wr.heap.size) (Sl.id (B:=0) N V (i:=i) hlt) (qL U R.size));have a:=hid (Wd.row (base:=wr.heap.size) (o:=0) (cs:=idV x) (b:=w.heap.size) (fun j u f=>by rw[qZ];exact((D.cell (p:=⟨w.heap.size,j,none⟩) Z).trans (k6 I j)).trans f) (qL Z D.size));have F:=hid (show jr l[i] from N _ (yQ hlt));obtain⟨y,S⟩:=Xy (l[i]);rw[S] at X F;have P:=hid (show l.take (i+1)=l.take i++[y] by rw[xj hlt,S]);have K:=hid (show y∈l by rw[←S];exact yQ hlt);clear V U R S;by_cases he:y=x
     ·have L:=hid (show x∈l by rw[←he];exact K.out);have G:Hid (∀u:World,(Op.equalIn 10000 41 (.agg (idV y).toArray) (.agg (idV x).toArray)).run prog u=.ok true u):=hid (fun u=>(Ke F hx u).trans (by rw[dT he]));clear he;go_wp2_with fail;refine jS (base:=wr.heap.size) wr (qB _ _) yq yq ?_
      repeat (first
        |go_big_quiet_skip
        |(go_big_quiet_want
          first
             |(refine kP (fun w' E=>kg 41 _ rfl (p:=⟨b,T+i*32,none⟩) rfl (qV w' _ _ _ (idV y) _ (X w' E) underlying41 rfl (by rw[kn,show y.length=32 from F.out];exact jq))) ?_
               go_big_quiet_on
               go_frame;try simp only[nTF])
             |(refine kP (fun w' E=>kg 41 _ rfl (p:=⟨w.heap.size,0,none⟩) rfl (qV w' _ _ _ (idV x) _ (a w' E) underlying41 rfl (by rw[kn,show x.length=32 from hx];exact jq))) ?_
               go_big_quiet_on
               go_frame;try simp only[nTF])
             |(refine kP (fun w' E=>Kc 41 _ _ _ rfl (xs:=(idV y).toArray) (ys:=(idV x).toArray) rfl rfl (r:=true) eqId.noGuard (G w')) ?_
               go_big_quiet_on
               go_frame;try simp only[nTF])
             |(go_big_quiet_op
               go_big_quiet_on)))
      refine wpQuiet_nil ?_;rintro w' ⟨M,rfl⟩;have J:=M.2;generalize M.val=w9 at *;clear M;have H:=hid (Xx D.out J);clear J;go_wp2_with fail;go_ret;exact⟨C.trans (H.mono C.size),by rw[dT L.out];rfl⟩
     ·have Q:=hid (show x∉l.take (i+1) by rw[P.out];simp only[xJ,xZ,not_or];exact⟨O,fun h=>he h.symm⟩);have G:Hid (∀u:World,(Op.equalIn 10000 41 (.agg (idV y).toArray) (.agg (idV x).toArray)).run prog u=.ok false u):=hid (fun u=>(Ke F hx u).trans (by rw[dF he]));clear he;go_wp2_with fail;refine jS (base:=wr.heap.size) wr (qB _ _) yq yq ?_
      repeat (first
        |go_big_quiet_skip
        |(go_big_quiet_want
          first
             |(refine kP (fun w' E=>kg 41 _ rfl (p:=⟨b,T+i*32,none⟩) rfl (qV w' _ _ _ (idV y) _ (X w' E) underlying41 rfl (by rw[kn,show y.length=32 from F.out];exact jq))) ?_
               go_big_quiet_on
               go_frame;try simp only[nTF])
             |(refine kP (fun w' E=>kg 41 _ rfl (p:=⟨w.heap.size,0,none⟩) rfl (qV w' _ _ _ (idV x) _ (a w' E) underlying41 rfl (by rw[kn,show x.length=32 from hx];exact jq))) ?_
               go_big_quiet_on
               go_frame;try simp only[nTF])
             |(refine kP (fun w' E=>Kc 41 _ _ _ rfl (xs:=(idV y).toArray) (ys:=(idV x).toArray) rfl rfl (r:=false) eqId.noGuard (G w')) ?_
               go_big_quiet_on
               go_frame;try simp only[nTF])
             |(go_big_quiet_op
               go_big_quiet_on)))
      refine wpQuiet_nil ?_;rintro w' ⟨M,rfl⟩;have J:=M.2;generalize M.val=w9 at *;clear M;have H:=hid (Xx D.out J);clear J;go_wp2_with fail
      go_roundw
      case rel=>exact⟨i+1,by omega,by go_num,H,Q⟩
      case measure=>exact Xz
    ·have d:¬(i:Int)<(l.length:Int):=yv;have L:=hid (show x∉l by have h:=O.out;rwa [Yq yv] at h);go_wp2_with fail;go_ret;exact⟨C.trans (D.mono C.size),by rw[dF L.out];rfl⟩
theorem QO(l:List (List UInt8))(A:Option Addr)(c:Nat)(w:World)(hn:l.length≤1099511627776)(ho:IdsOk l)(hsl:Sl w w.heap.size A l.length 32 (zB l)):
    Calls prog 259 #[.slice A l.length c] w fun e w'=>Below w.heap.size w w'∧e=.returned (.bool (jh l)):=by
  have H:=hid hsl;clear hsl;have D:=hid ho;clear ho;go_enter func259,ntmps259;go_wp2_with fail
  go_loopw [3] (fun t wr=>∃i:Nat,i≤l.length∧t=.int .i64 ((i:Int)+1)∧Hid (Below w.heap.size w wr)∧Hid (∀j (h:j+1<l.length),j<i→jJ (l[j]'(by omega)) l[j+1]<0)) (fun t _=>l.length+1 - (intOf t).toNat)
  case atStart=>exact⟨0,by omega,rfl,hid (qB _ _),hid fun j _ N=>absurd N yv⟩
  case round=>
    obtain⟨i,m,rfl,C,S⟩:=hrel;by_cases hlt:i+1<l.length
    ·have n:(0:Int)≤(i:Int):=yv;have W:((i:Int)+1)<(l.length:Int):=yv;have o:(i:Int)<(l.length:Int):=yv;have p:(0:Int)≤(i:Int)+1:=yv;have r:((i:Int)+1) - 1=(i:Int):=yv;have T:((i:Int)+1)=((i+1:Nat):Int):=yv;have d:((i:Int)+1).toNat=i+1:=yv;have s:IntKind.i64.wrap (i:Int)=(i:Int):=IntWalk.i64_in _ ⟨by omega,by omega⟩;obtain⟨b,f,rfl,g,O⟩:=(H.keep C).2 yv;have X:=hid (Sl.id (B:=0) D O (i:=i) yv);have Y:=hid (Sl.id (B:=0) D O (i:=i+1) hlt);have I:=hid (show jr (l[i]'(by omega)) from D.out _ (yQ _));have J:=hid (show jr l[i+1] from D _ (yQ _));clear O T;go_wp2_with fail;refine wp_region_still_tail 9 yq yq ?_;simp only[List.take_succ_cons,List.take_zero,List.drop_succ_cons,List.drop_zero]
     repeat still_step
     refine Jc yk 41 _ rfl b _ rfl (idV (l[i]'(by omega))) _ X.out underlying41 rfl (by rw[kn,I.out];exact jq) ?_
     repeat still_step
     refine Jc yk 41 _ rfl b _ rfl (idV l[i+1]) _ Y.out underlying41 rfl (by rw[kn,J.out];exact jq) ?_;refine wpStill_nil ?_;change wpList _ _ _ _ _ wr.drew;generalize hwd:wr.drew=w2;have P:Below w.heap.size w w2:=by rw[←hwd];exact C.drew
     clear hwd;have G:0≤jJ (l[i]'(by omega)) l[i+1]→jh l=false:=by
       intro h;rw[Bool.eq_false_iff];intro Z;have:=Zz.1 Z i hlt;omega
     have Q:jJ (l[i]'(by omega)) l[i+1]<0→∀j (h:j+1<l.length),j<i+1→jJ (l[j]'(by omega)) l[j+1]<0:=by
       intro h j N k;rcases (by omega:j<i∨j=i) with q|q
       ·exact S.out j N q
       ·subst q;exact h
     have K:=hid G;clear G;have L:=hid Q;clear Q;go_wp2_with fail;refine(refCompare_gr (l[i]'(by omega)) l[i+1] _ I.out J.out).mono ?_;generalize jJ (l[i]'(by omega)) l[i+1]=q at *;rintro e u ⟨U,rfl⟩;have R:=U.below;have E:=hid (Xx P R);clear R P;by_cases hq:0≤q
     ·have M:=hid (K hq);have a:decide (0≤q)=true:=dT hq;go_wp2_with fail;go_ret;exact⟨E,by rw[M.out];rfl⟩
     ·have V:q<0:=yv;have a:decide (0≤q)=false:=dF hq;go_wp2_with fail
      go_roundw
      case rel=>exact⟨i+1,by omega,by go_num,E,hid (L V)⟩
      case measure=>exact Xz
    ·have W:¬((i:Int)+1)<(l.length:Int):=yv;have F:=hid (show jh l=true from Zz.2 fun j N=>S j N yv);go_wp2_with fail;go_ret;exact⟨C,by rw[F.out];rfl⟩
theorem ids_same{l:List (List UInt8)}{most:Nat}(ho:IdsOk l):vC l most=(decide (l.length≤most) && jh l && !decide (k9∈l)):=by
  rcases hb:vC l most with _ | _
  ·rcases A:(decide (l.length≤most) && jh l && !decide (k9∈l)) with _ | _
   ·rfl
   ·exfalso
    simp only[xy,Bool.not_eq_true',decide_eq_true_eq,decide_eq_false_iff_not] at A;unfold vC at hb;simp only[A.1.1,A.1.2,decide_true,Bool.true_and,Bool.or_eq_false_iff,decide_eq_false_iff_not,Bool.not_eq_false',decide_eq_true_eq] at hb;rcases l with _ |⟨a,t⟩
    ·exact hb.1 rfl
    ·exact A.2 (by have h:=hb.2;simp only[List.headD_cons] at h;rw[←h];exact List.mem_cons_self)
  ·obtain⟨A,B,C⟩:=UN hb ho;simp [A,B,C]
theorem refIds_any(l:List (List UInt8))(A:Option Addr)(c:Nat)(most:Nat)(w:World)(hmost:most≤1099511627776)(hn:l.length≤1099511627776)(ho:IdsOk l)(hs:Sl w w.heap.size A l.length 32 (zB l)):
    Calls prog 235 #[.slice A l.length c,.int .i64 (most:Int)] w fun e w'=>Below w.heap.size w w'∧e=.returned (.bool (vC l most)):=by
  have E:=hid (ids_same (most:=most) ho);have G:=hid ho;have H:=hid hs
  clear ho hs;by_cases h1:l.length≤most
  ·have M:decide ((l.length:Int)≤(most:Int))=true:=dT yv;have N:(l.length:Int)≤(most:Int):=yv;have C:Hid (vC l most=(jh l && !decide (k9∈l))):=hid (by rw[E.out,dT h1,Bool.true_and]);clear E h1;obtain⟨O,J⟩:=Xy (jh l);have D:=hid J;clear J;cases O
   ·go_enter func235,ntmps235
    go_wp2_with (first
      |(go_at_call 259;refine(QO l A c w hn G H).mono ?_;rintro e L ⟨F,rfl⟩;rw[D.out];have B:=hid F;clear F))
    go_ret;exact⟨B,by rw[C.out,D.out];rfl⟩
   ·go_enter func235,ntmps235
    go_wp2_with (first
      |(refine k7 yk (kp 41 #[] rfl (zH _)) ?_)
      |(go_at_call 259;refine(QO l A c w hn G H).mono ?_;rintro e L ⟨F,rfl⟩;rw[D.out];have B:=hid F;clear F)
      |(go_at_call 30;refine(refIn_any l k9 A c L hn G jT ((H.keep B).more B.size)).mono ?_;rintro e P ⟨K,rfl⟩;have I:=hid (Xx B.out K);clear K))
    go_ret;exact⟨I,by rw[C.out,D.out];rfl⟩
  ·have M:decide ((l.length:Int)≤(most:Int))=false:=dF yv;have N:¬(l.length:Int)≤(most:Int):=yv;have C:Hid (vC l most=false):=hid (by rw[E.out,dF h1];rfl);clear E h1;go_enter func235,ntmps235;go_wp2_with fail;go_ret;exact⟨qB _ _,by rw[C.out];rfl⟩
theorem idsE_take{l:List (List UInt8)}{i:Nat}(h:i<l.length):(l.take (i+1)).flatten=(l.take i).flatten++l[i]:=by
  rw[xj h,List.flatten_append];simp
theorem flat_len8{l:List (List UInt8)}(h:IdsOk l):l.flatten.length=l.length*32:=by
  induction l with
  |nil=>rfl
  |cons a t ih=>
   have A:a.length=32:=h a yZ;have B:=ih h.tail;simp only[List.flatten_cons,yV,Yx,A,B];omega
theorem refList_any(l:List (List UInt8))(A:Option Addr)(c:Nat)(w:World)(hn:l.length≤1099511627776)(ho:IdsOk l)(hs:Sl w w.heap.size A l.length 32 (zB l)):
    Calls prog 202 #[.slice A l.length c] w (uE (ZT l) w):=by
  have I:=hid ho;have Z:=hid hs
  have L:=hid (js (n:=l.length) yv);have a:=hid (show ZT l=jA l.length++l.flatten by unfold ZT;rw[zF]);clear ho hs;go_enter func202,ntmps202
  go_upto_region 2 with (first
    |(go_at_call 204;refine(KI l.length yv w).mono ?_;rintro e v ⟨V,f,g,rfl,W⟩;have M:=hid V;have N:=hid W
      clear V W))
  go_wp2_with fail
  go_loopw [3,4] (fun t3 t4 wr=>∃(i:Nat) (Ao:Option Addr) (S F:Nat),i≤l.length∧t4=.int .i64 (i:Int)∧t3=.slice Ao F S∧Hid ((jA l.length++(l.take i).flatten).length=F)∧Hid (Below w.heap.size w wr)∧Hid (wr.ownsRow w.heap.size 5 1 (.slice Ao F S) F (idV (jA l.length++(l.take i).flatten)))) (fun _ t4 _=>l.length - (intOf t4).toNat)
  case atStart=>exact⟨0,f,g,_,YX _,rfl,rfl,hid yZ,M,hid (by rw[List.take_zero,List.flatten_nil,List.append_nil];exact N.out)⟩
  case round=>
    obtain⟨i,Ao,S,F,z,rfl,rfl,D,C,E⟩:=hrel;by_cases hlt:i<l.length
    ·have i0:(0:Int)≤(i:Int):=yv;have h:(i:Int)<(l.length:Int):=yv;obtain⟨b,K,rfl,s,X⟩:=(Z.keep C).2 yv;have J:=Sl.id (B:=0) I.out X (i:=i) hlt;obtain⟨x,U⟩:=Xy (l[i]);have O:=hid (show x.length=32 by rw[←U];exact I.out _ (yQ hlt));rw[U] at J;have G:=hid (show (l.take (i+1)).flatten=(l.take i).flatten++x by rw[idsE_take hlt,U]);have t:F≤10+i*32:=by
       rw[←D.out,yV,flat_len8 (I.sub fun y m=>YQ m),Yj];have:=L.out;have:min i l.length≤i:=Nat.min_le_left _ _;omega
     have P:=hid (show ∀j u,(idV x)[j]?=some u→wr.cell? ((⟨b,K+i*32,none⟩:Addr).add j)=some u from fun j u o=>by
       have p:(⟨b,K+i*32,none⟩:Addr).add j=⟨b,K+i*32+j,none⟩:=by unfold Addr.add;split<;>simp_all
       rw[p];exact J j u o)
     clear U J X
     go_wp2_with (first
       |(at_builtin;refine Jw yk _ _ 169 rfl w.heap.size 5 (.int .u8 0) 1 1 underlying169 jm rfl yj (.slice Ao F S) F (idV (jA l.length++(l.take i).flatten)) rfl E.out ⟨b,K+i*32,none⟩ 32 32 (idV x) rfl (by rw[kn,O.out]) P.out (kW _) yY yv C.size ?_
         intro v9 w9 T Y d;obtain⟨q,r,rfl⟩:=kM T;have Q:=hid T;have R:=hid (C.grown Y C.size (fun k e=>(E.lt k e).1));clear T Y d))
     go_roundw
     case rel=>exact⟨i+1,q,r,F+32,by omega,by go_num,rfl,hid (by rw[G.out,←Yz,yV,D.out,O.out]),R,hid (by rw[G.out,←Yz,uU];exact Q.out)⟩
     case measure=>exact Xz
    ·have h:¬(i:Int)<(l.length:Int):=yv;have H:=hid (show jA l.length++(l.take i).flatten=ZT l by rw[a.out,Yq yv]);go_wp2_with fail;go_ret;exact⟨C,Ao,S,by rw[←H.out,D.out];rfl,by rw[←H.out,D.out];exact E.out⟩
theorem ZF(deps:List (List UInt8))(rc:List UInt8)(ri:Nat)(A:Option Addr)(c:Nat)(w:World)(hn:deps.length≤1099511627776)(ho:IdsOk deps)(hset:jh deps=true)(hz:k9∉deps)(hr:zz (rc,((ri:Nat):Int)))(hin:rc=k9∨rc∈deps)(hri:ri<9223372036854775808)(hs:Sl w w.heap.size A deps.length 32 (zB deps)):
    Calls prog 205 #[.slice A deps.length c,.agg (kw (rc,((ri:Nat):Int))).toArray] w (uE (zj deps (rc,((ri:Nat):Int))) w):=by
  have a:=hid ho;have HS:=hid hs;have F:=hid hr
  have d:=hid hz;have U:=hid hset;have f:=hid hin
  clear ho hs hr hz hset hin;have A6:=enE func204 rfl;go_enter func205,ntmps205
  go_upto_region 1 with (first
    |(with_reducible refine kG ?_
      refine kz yk 110 _ rfl (kw (rc,((ri:Nat):Int))) _ rfl rfl (by rw[kq F.out];exact Ka) ?_;intro V G H Ap))
  obtain⟨S,z⟩:=Xy w.heap.size;have J:=hid (show S<V.heap.size by rw[←z];exact(qX H));rw[z] at H ⊢
  try go_frame
  clear z;have K:=hid (fun (u:World) (hu:Below V.heap.size V u)=>(show u.cell? ⟨S,32,none⟩=some (.int .i64 ((ri:Nat):Int)) from (hu.cell (p:=⟨S,32,none⟩) J).trans ((k6 H 32).trans (kK F).2)));go_wp2_with fail
  go_loopw [5,6] (fun t5 t6 wr=>∃(i n:Nat),i≤deps.length∧t6=.int .i64 (i:Int)∧t5=.int .i64 (n:Int)∧n≤i∧Hid (Below V.heap.size V wr)∧Hid ((n=0∧rc∉deps.take i)∨(0<n∧deps[n - 1]?=some rc))) (fun _ t6 _=>deps.length - (intOf t6).toNat)
  case atStart=>exact⟨0,0,YX _,rfl,rfl,qR _,hid (qB _ _),hid (.inl ⟨rfl,by simp⟩)⟩
  case round=>
    obtain⟨i,n,hi,rfl,rfl,Aq,C,g⟩:=hrel;by_cases hlt:i<deps.length
    ·have i0:(0:Int)≤(i:Int):=yv;have i1:(i:Int)<(deps.length:Int):=yv;have A0:=G.trans (C.mono G.size);obtain⟨b,A7,rfl,A8,Aa⟩:=(HS.keep A0).2 yv;have R1:=hid (Wd.row (base:=wr.heap.size) (Sl.id (B:=0) a Aa (i:=i) hlt) (qL A8 A0.size));have R2:=hid (Wd.row (base:=wr.heap.size) (o:=0) (cs:=idV rc) (b:=S) (fun j u hj=>by rw[qZ];exact((C.cell (p:=⟨S,j,none⟩) J).trans (k6 H j)).trans ((kK F).1 j u hj)) (qL J C.size));have L:=hid (show jr deps[i] from a _ (yQ hlt));obtain⟨y,hy⟩:=Xy (deps[i]);rw[hy] at R1 L;have l:=hid (show deps.take (i+1)=deps.take i++[y] by rw[xj hlt,hy]);have m:=hid (show deps[i]?=some y by rw[yK hlt,hy]);clear Aa A8 A0 hy;by_cases he:y=rc
     ·have M:=hid (show (i+1=0∧rc∉deps.take (i+1))∨(0<i+1∧deps[i+1 - 1]?=some rc) from .inr ⟨by omega,by rw[Nat.add_sub_cancel,m.out,he]⟩);have N:Hid (∀u:World,(Op.equalIn 10000 41 (.agg (idV y).toArray) (.agg (idV rc).toArray)).run prog u=.ok true u):=hid (fun u=>(Ke L F.1 u).trans (by rw[dT he]));clear he;go_wp2_with fail;refine jS (base:=wr.heap.size) wr (qB _ _) yq yq ?_
      repeat (first
        |go_big_quiet_skip
        |(go_big_quiet_want
          first
             |(refine kP (fun w' E=>kg 41 _ rfl (p:=⟨b,A7+i*32,none⟩) rfl (qV w' _ _ _ (idV y) _ (R1 w' E) underlying41 rfl (by rw[kn,show y.length=32 from L.out];exact jq))) ?_
               go_big_quiet_on
               go_frame;try simp only[nTF])
             |(refine kP (fun w' E=>kg 41 _ rfl (p:=⟨S,0,none⟩) rfl (qV w' _ _ _ (idV rc) _ (R2 w' E) underlying41 rfl (by rw[kn,show rc.length=32 from F.1];exact jq))) ?_
               go_big_quiet_on
               go_frame;try simp only[nTF])
             |(refine kP (fun w' E=>Kc 41 _ _ _ rfl (xs:=(idV y).toArray) (ys:=(idV rc).toArray) rfl rfl (r:=true) eqId.noGuard (N w')) ?_
               go_big_quiet_on
               go_frame;try simp only[nTF])
             |(go_big_quiet_op
               go_big_quiet_on)))
      refine wpQuiet_nil ?_;rintro w' ⟨W,rfl⟩;have T:=W.2;generalize W.val=w9 at *;clear W;have O:=hid (Xx C.out T);clear T;go_wp2_with fail
      go_roundw
      case rel=>exact⟨i+1,i+1,by omega,by go_num,by go_num,qR _,O,M⟩
      case measure=>exact Xz
     ·have M:=hid (show (n=0∧rc∉deps.take (i+1))∨(0<n∧deps[n - 1]?=some rc) from by
        rcases g.out with⟨q1,Z⟩|q
        ·exact .inl ⟨q1,by rw[l.out];simp only[xJ,xZ,not_or];exact⟨Z,fun h=>he h.symm⟩⟩
        ·exact .inr q)
      have N:Hid (∀u:World,(Op.equalIn 10000 41 (.agg (idV y).toArray) (.agg (idV rc).toArray)).run prog u=.ok false u):=hid (fun u=>(Ke L F.1 u).trans (by rw[dF he]));clear he;go_wp2_with fail;refine jS (base:=wr.heap.size) wr (qB _ _) yq yq ?_
      repeat (first
        |go_big_quiet_skip
        |(go_big_quiet_want
          first
             |(refine kP (fun w' E=>kg 41 _ rfl (p:=⟨b,A7+i*32,none⟩) rfl (qV w' _ _ _ (idV y) _ (R1 w' E) underlying41 rfl (by rw[kn,show y.length=32 from L.out];exact jq))) ?_
               go_big_quiet_on
               go_frame;try simp only[nTF])
             |(refine kP (fun w' E=>kg 41 _ rfl (p:=⟨S,0,none⟩) rfl (qV w' _ _ _ (idV rc) _ (R2 w' E) underlying41 rfl (by rw[kn,show rc.length=32 from F.1];exact jq))) ?_
               go_big_quiet_on
               go_frame;try simp only[nTF])
             |(refine kP (fun w' E=>Kc 41 _ _ _ rfl (xs:=(idV y).toArray) (ys:=(idV rc).toArray) rfl rfl (r:=false) eqId.noGuard (N w')) ?_
               go_big_quiet_on
               go_frame;try simp only[nTF])
             |(go_big_quiet_op
               go_big_quiet_on)))
      refine wpQuiet_nil ?_;rintro w' ⟨W,rfl⟩;have T:=W.2;generalize W.val=w9 at *;clear W;have O:=hid (Xx C.out T);clear T;go_wp2_with fail
      go_roundw
      case rel=>exact⟨i+1,n,by omega,by go_num,rfl,by omega,O,M⟩
      case measure=>exact Xz
    ·have i1:¬(i:Int)<(deps.length:Int):=yv;have Q:=hid (show zj deps (rc,((ri:Nat):Int))=jA n++jA ri from by
       unfold zj;simp only;rcases g.out with⟨q1,Z⟩|⟨q1,Z⟩
       ·rw[Yq yv] at Z;have hz:=f.resolve_right Z;rw[if_neg (by simp [hz]),q1];exact(congrArg (· ++qO (ri:Int)) (zF 0)).trans (by rw[zF])
       ·obtain⟨g1,g2⟩:=yJ.1 Z;have Ai:rc≠k9:=fun e=>d.out (by rw[←e,←g2];exact yQ g1)
        have Ab:=idxOf_at U.out (n - 1) g1;rw[g2] at Ab;rw[if_pos Ai,Ab,show (((n - 1:Nat):Int)+1)=((n:Nat):Int) by omega,zF,zF])
     have Aj:n<9223372036854775808:=yv;have Ar:=js (n:=n) yv;have As:=js (n:=ri) yv
     go_upto_region 7 with fail
     obtain⟨Y,A1⟩:=Xy wr.drew;have D:=hid (show Below V.heap.size V Y by rw[←A1];exact C.drew);have s:=hid (K Y D);refine rN 4 (fun u=>u.cell? ⟨S,32,none⟩=some (.int .i64 ((ri:Nat):Int))) (by rw[A1];exact s.out) fun Ac=>?_
     rw[A1] at Ac ⊢;refine tw 0 _ ?_;go_frame;refine tw 2 _ ?_;go_frame;refine tl 3 _ rfl Ac (fun w' E=>l1 underlying3 E) ?_;go_frame;refine ta 1 ?_;refine tc #[.int .i64 (n:Int)] A6 rfl ?_;refine(KI n Aj Y).mono ?_;rintro e w2 ⟨A4,A2,c2,rfl,Ad⟩;have P:=hid A4;have R:=hid Ad
     have Ak:=K.out w2 (Xx D.out A4);clear A4 Ad;refine⟨_,rfl,fun _ _=>Ak,?_⟩;go_frame;refine ta 4 ?_;refine tc #[.int .i64 ((ri:Nat):Int)] A6 rfl ?_;refine(KI ri hri w2).mono ?_;rintro e w3 ⟨Ae,A3,c3,rfl,Af⟩;have I:=hid Ae;have t:=hid Af
     clear Ae Af;refine⟨_,rfl,fun h=>absurd h yj,?_⟩;go_frame;refine ta 5 ?_;refine Jy _ rfl yq ?_;obtain⟨im,Al,Am,An,Ao⟩:=info_parts jm;refine Jz _ _ 169 rfl Y.heap.size 5 im (.int .u8 0) 1 1 underlying169 Al Am An Ao rfl yj (.slice A2 (jA n).length c2) (jA n).length (idV (jA n)) rfl ((But.of_below (X:=NoB) I).own R fun _ _ q=>q) A3 (jA ri).length c3 w3.heap.size (idV (jA ri)) rfl (Sl.of_own t) (kW _) yY yv (qT P.size I.size) ?_;intro v9 w9 A5 Ag;obtain⟨A9,c9,rfl⟩:=kM A5;have v:=hid A5;have x:=hid (show Below Y.heap.size Y w9 from (Xx P.out I.out).grown Ag (qT P.size I.size) (fun k e=>(R.lt k e).1));clear A5 Ag;refine⟨fun h=>absurd h yj,?_⟩;go_frame;refine tw 6 _ ?_;go_frame;refine ku yq ?_ _;go_wp2_with fail;go_ret;have e1:(zj deps (rc,((ri:Nat):Int))).length=(jA n).length+(jA ri).length:=by rw[Q.out,yV]
     have Ah:w.heap.size≤Y.heap.size:=qT G.size D.size;exact⟨(Xx G.out D.out).trans (x.mono Ah),A9,c9,by rw[e1];rfl,by rw[e1,Q.out,uU];exact own_base8 v.out Ah⟩
end
section
open Go.RowKit Go.Maps
structure BySt (w:World) (L:List (Nat×List Value×TypeId)) (ys:List UInt8) (A:Option Addr) (n c:Nat) (wx:World):Prop where
  bel:Below w.heap.size w wx
  own:wx.ownsRow w.heap.size 5 1 (.slice A n c) n (idV ys)
  len:ys.length=n
  boxes:∀t∈L,wx.heap[t.1]?=some (.cells t.2.1.toArray t.2.2 (0,0))∧t.2.2≠5
section
variable {w wx wy:World} {L:List (Nat×List Value×TypeId)} {ys X:List UInt8} {A A9:Option Addr} {n c m c9:Nat}
theorem BySt.call(h:BySt w L ys A n c wx)(hb:Below wx.heap.size wx wy):BySt w L ys A n c wy:=
  ⟨h.bel.trans (hb.mono h.bel.size),(But.of_below (X:=NoB) hb).own h.own (fun _ _ q=>q),h.len,fun t B=>⟨(hb.block t.1 (qX (h.boxes t B).1)).trans (h.boxes t B).1,(h.boxes t B).2⟩⟩
theorem BySt.app'(h:BySt w L ys A n c wx)(ho:wy.ownsRow w.heap.size 5 1 (.slice A9 (n+m) c9) (n+m) (idV ys++idV X))(hX:X.length=m)(hB:Below w.heap.size w wy)(hg:∀k,k<wx.heap.size→(Value.slice A n c).ownBlock≠some k→wy.heap[k]?=wx.heap[k]?):BySt w L (ys++X) A9 (n+m) c9 wy:=
  ⟨hB,by rw[uU];exact ho,by rw[yV,h.len,hX],fun t D=>by
    obtain⟨B,C⟩:=h.boxes t D;exact⟨(hg t.1 (qX B) (own_not h.own B (fun e=>C e.symm))).trans B,C⟩⟩
theorem BySt.app(h:BySt w L ys A n c wx)(ho:wy.ownsRow w.heap.size 5 1 (.slice A9 (n+m) c9) (n+m) (idV ys++idV X))(hX:X.length=m)(hg:wx.grownBy wy (Value.slice A n c).ownBlock):BySt w L (ys++X) A9 (n+m) c9 wy:=
  h.app' ho hX (h.bel.grown hg h.bel.size fun k e=>(h.own.lt k e).1) fun k C B=>hg.block k C (fun e=>B e.symm)
theorem BySt.cellAt(h:BySt w L ys A n c wx){z:Nat}{cs:List Value}{T:TypeId}(ht:(z,cs,T)∈L)(j:Nat):wx.cell? ⟨z,j,none⟩=cs[j]?:=k6 (h.boxes _ ht).1 j
theorem BySt.add(h:BySt w L ys A n c wx){z:Nat}{cs:List Value}{T:TypeId}(hz:wx.heap[z]?=some (.cells cs.toArray T (0,0)))(hT:T≠5):BySt w ((z,cs,T)::L) ys A n c wx:=
  ⟨h.bel,h.own,h.len,fun t B=>by
    rcases xK.1 B with rfl|B
    ·exact⟨hz,hT⟩
    ·exact h.boxes t B⟩
end
theorem idsE_len8{l:List (List UInt8)}(ho:IdsOk l)(h:l.length≤1099511627776):(ZT l).length≤10+l.length*32:=by
  unfold ZT;rw[zF,yV,flat_len8 ho];have:=js (n:=l.length) yv;omega
theorem U1{s:ByteArray}(h:s.size≤1099511627776):(jN (L s)).length≤10+s.size:=by
  unfold jN;rw[yV,jf];have:=js (n:=s.size) yv;omega
theorem own_lit8(w0 w:World)(v:Value)(hb:w0.heap.size≤w.heap.size):(w.alloc (.cells [v].toArray 5)).ownsRow w0.heap.size 5 1 (.slice (some ⟨w.heap.size,0,none⟩) 1 1) 1 [v]:=
  ⟨rfl,.inr ⟨w.heap.size,1,#[v],rfl,hb,heap_alloc_new _ _,qR _,by decide,by simp,by simp⟩⟩
theorem vw{deps:List (List UInt8)}{rc:List UInt8}{ri:Nat}(hd:deps.length≤1099511627776)(hr:ri<9223372036854775808):(zj deps (rc,((ri:Nat):Int))).length≤20:=by
  have B:=js (n:=ri) yv;have C:deps.idxOf rc≤deps.length:=List.idxOf_le_length;unfold zj;simp only
  split
  ·rw[show ((deps.idxOf rc:Int)+1)=((deps.idxOf rc+1:Nat):Int) by omega,zF,zF,yV];have A:=js (n:=deps.idxOf rc+1) yv;omega
  ·rw[show qO 0=jA 0 from zF 0,zF,yV];have A:=js (n:=0) yv;omega
end
section
open Go.RowKit Go.Maps
open Lib (hid)
theorem Zo:(prog.info? 110).map (·.size)=some 33:=yq
theorem Uv(deps:List (List UInt8))(r:zy)(A:Option Addr)(c:Nat)(w:World)(hn:deps.length≤1099511627776)(ho:IdsOk deps)(hr:zz r)(hset:jh deps=true)(hs:Sl w w.heap.size A deps.length 32 (zB deps)):
    Calls prog 276 #[.slice A deps.length c,.agg (kw r).toArray] w fun e w'=>Below w.heap.size w w'∧e=.returned (.bool (zC deps r)):=by
  obtain⟨I,H⟩:=r;have S:=hid ho;have T:=hid hs;have B:=hid hr
  have L:=hid (show zC deps (I,H)=(decide (I∈deps) && decide (0≤H) && decide (H≤2147483647)) by unfold zC;rw[hset,Bool.true_and]);clear ho hs hr hset;obtain⟨m,X⟩:=Xy (decide (I∈deps));have F:=hid X;clear X;go_enter func276,ntmps276
  go_upto_region 1 with (first
    |(with_reducible refine kG ?_
      refine kz yk 110 _ rfl (kw (I,H)) _ rfl rfl (by rw[kq B.out];exact Zo) ?_;intro O E G a))
  obtain⟨z,Y⟩:=Xy w.heap.size;rw[Y] at G ⊢;have Q:=hid (show z<O.heap.size from (qX G))
  try go_frame
  clear Y;have J:=hid (show O.rangeAt z 0 (idV I) from fun j u U=>by rw[qZ];exact(k6 G j).trans ((kK B).1 j u U));have W:=hid (show O.rangeAt z 0 (kw (I,H)) from fun j u U=>by rw[qZ];exact(k6 G j).trans U);have N:O.cell? ⟨z,32,none⟩=some (.int .i64 H):=(k6 G 32).trans (kK B).2;have M:=hid ((refIn_any deps I A c O hn S B.1 ((T.keep E).more E.size)));cases m
  ·go_wp2_with (first
     |(refine k7 yk (kg 41 _ rfl (p:=⟨z,0,none⟩) rfl (qV _ _ _ _ (idV I) _ J underlying41 rfl (by rw[kn,show I.length=32 from B.1];exact jq))) ?_)
     |(go_at_call 30;refine M.mono ?_;rintro e P ⟨D,rfl⟩;rw[F.out];have C:=hid (Xx E.out D);clear D))
   go_ret;exact⟨C,by rw[L.out,F.out];rfl⟩
  ·have K:=hid (fun (u:World) (hu:Below O.heap.size O u)=>(show u.cell? ⟨z,32,none⟩=some (.int .i64 H) from (hu.cell (p:=⟨z,32,none⟩) Q).trans N));clear N;rcases (by omega:H<0∨(0≤H∧2147483647<H)∨(0≤H∧H≤2147483647)) with q|⟨q,Z⟩|⟨q,Z⟩
   ·have R:decide ((0:Int)≤H)=false:=by simp;omega
    go_wp2_with (first
      |(refine k7 yk (kg 41 _ rfl (p:=⟨z,0,none⟩) rfl (qV _ _ _ _ (idV I) _ J underlying41 rfl (by rw[kn,show I.length=32 from B.1];exact jq))) ?_)
      |(go_at_call 30;refine M.mono ?_;rintro e P ⟨D,rfl⟩;rw[F.out];have N:=K.out P D;have C:=hid (Xx E.out D);clear D))
    go_ret;exact⟨C,by rw[L.out,F.out];simp only[R,Bool.and_true,Bool.and_false,Bool.true_and];try rfl⟩
   ·have R:decide ((0:Int)≤H)=true:=by simp;omega
    have V:decide (H≤2147483647)=false:=by simp;omega
    go_wp2_with (first
      |(refine k7 yk (kg 41 _ rfl (p:=⟨z,0,none⟩) rfl (qV _ _ _ _ (idV I) _ J underlying41 rfl (by rw[kn,show I.length=32 from B.1];exact jq))) ?_)
      |(go_at_call 30;refine M.mono ?_;rintro e P ⟨D,rfl⟩;rw[F.out];have N:=K.out P D;have C:=hid (Xx E.out D);clear D))
    go_ret;exact⟨C,by rw[L.out,F.out];simp only[R,V,Bool.and_true,Bool.and_false,Bool.true_and];try rfl⟩
   ·have R:decide ((0:Int)≤H)=true:=by simp;omega
    have V:decide (H≤2147483647)=true:=by simp;omega
    go_wp2_with (first
      |(refine k7 yk (kg 41 _ rfl (p:=⟨z,0,none⟩) rfl (qV _ _ _ _ (idV I) _ J underlying41 rfl (by rw[kn,show I.length=32 from B.1];exact jq))) ?_)
      |(go_at_call 30;refine M.mono ?_;rintro e P ⟨D,rfl⟩;rw[F.out];have N:=K.out P D;have C:=hid (Xx E.out D);clear D))
    go_ret;exact⟨C,by rw[L.out,F.out];simp only[R,V,Bool.and_true,Bool.and_false,Bool.true_and];try rfl⟩
theorem refDoc_any(deps:List (List UInt8))(mk:List jL)(r:zy)(A:Option Addr)(c:Nat)(Am:Option Addr)(cm:Nat)(w:World)(hn:deps.length≤1099511627776)(hmn:mk.length≤1099511627776)(ho:IdsOk deps)(hm:∀m∈mk,uj m)(hr:zz r)(hset:jh deps=true)(hs:Sl w w.heap.size A deps.length 32 (zB deps))(hsm:Sl w w.heap.size Am mk.length 34 (kf j9 mk)):
    Calls prog 261 #[.slice A deps.length c,.slice Am mk.length cm,.agg (kw r).toArray] w fun e w'=>Below w.heap.size w w'∧e=.returned (.bool (vf deps mk r)):=by
  obtain⟨E,F⟩:=r;have Z:=hid ho;have a:=hid hs;have C:=hid hr;have N:=hid hsm;have d:=hid hm
  clear ho hs hr hsm hm;by_cases hz0:E=k9
  ·have Q:Hid (∀u:World,(Op.equalIn 10000 41 (.agg (idV E).toArray) (.agg (idV k9).toArray)).run prog u=.ok true u):=hid (fun u=>(Ke C.1 jT u).trans (by rw[dT hz0]));have K:=hid (show vf deps mk (E,F)=(decide (0≤F) && decide (F<mk.length) && (mk.getD F.toNat (false,ko)).1) by unfold vf;rw[if_neg (by simp [hz0])]);clear hz0;rcases (by omega:F<0∨(0≤F∧(mk.length:Int)≤F)∨(0≤F∧F<mk.length)) with q|⟨q,l⟩|⟨q,l⟩
   ·have R:decide ((0:Int)≤F)=false:=by simp;omega
    go_enter func261,ntmps261
    go_upto_region 1 with (first
      |(with_reducible refine kG ?_
        refine kz yk 110 _ rfl (kw (E,F)) _ rfl rfl (by rw[kq C.out];exact Zo) ?_;intro H D B S))
    obtain⟨z,M⟩:=Xy w.heap.size;rw[M] at B ⊢;have L:=hid (show z<H.heap.size from (qX B))
    try go_frame
    clear M;have G:=hid (show H.rangeAt z 0 (idV E) from fun j u I=>by rw[qZ];exact(k6 B j).trans ((kK C).1 j u I));have J:=hid (show H.rangeAt z 0 (kw (E,F)) from fun j u I=>by rw[qZ];exact(k6 B j).trans I);have T:H.cell? ⟨z,32,none⟩=some (.int .i64 F):=(k6 B 32).trans (kK C).2
    go_wp2_with (first
      |(refine k7 yk (kg 41 _ rfl (p:=⟨z,0,none⟩) rfl (qV _ _ _ _ (idV E) _ G underlying41 rfl (by rw[kn,show E.length=32 from C.1];exact jq))) ?_)
      |(refine k7 yk (kp 41 #[] rfl (zH _)) ?_)
      |(refine k7 yk (jV 41 _ _ _ rfl (xs:=(idV E).toArray) (ys:=(idV k9).toArray) rfl rfl (r:=true) eqId.noGuard (Q _)) ?_;go_frame;try simp only[nTF]))
    go_ret;exact⟨D,by rw[K.out];simp only[R,Bool.false_and];rfl⟩
   ·have R:decide ((0:Int)≤F)=true:=by simp;omega
    have g:decide (F<(mk.length:Int))=false:=by simp;omega
    go_enter func261,ntmps261
    go_upto_region 1 with (first
      |(with_reducible refine kG ?_
        refine kz yk 110 _ rfl (kw (E,F)) _ rfl rfl (by rw[kq C.out];exact Zo) ?_;intro H D B S))
    obtain⟨z,M⟩:=Xy w.heap.size;rw[M] at B ⊢;have L:=hid (show z<H.heap.size from (qX B))
    try go_frame
    clear M;have G:=hid (show H.rangeAt z 0 (idV E) from fun j u I=>by rw[qZ];exact(k6 B j).trans ((kK C).1 j u I));have J:=hid (show H.rangeAt z 0 (kw (E,F)) from fun j u I=>by rw[qZ];exact(k6 B j).trans I);have T:H.cell? ⟨z,32,none⟩=some (.int .i64 F):=(k6 B 32).trans (kK C).2
    go_wp2_with (first
      |(refine k7 yk (kg 41 _ rfl (p:=⟨z,0,none⟩) rfl (qV _ _ _ _ (idV E) _ G underlying41 rfl (by rw[kn,show E.length=32 from C.1];exact jq))) ?_)
      |(refine k7 yk (kp 41 #[] rfl (zH _)) ?_)
      |(refine k7 yk (jV 41 _ _ _ rfl (xs:=(idV E).toArray) (ys:=(idV k9).toArray) rfl rfl (r:=true) eqId.noGuard (Q _)) ?_;go_frame;try simp only[nTF]))
    go_ret;exact⟨D,by rw[K.out];simp only[R,g,Bool.true_and,Bool.false_and];rfl⟩
   ·obtain⟨i,rfl⟩:∃i:Nat,F=(i:Int):=⟨F.toNat,by omega⟩;have V:i<mk.length:=yv;have R:decide ((0:Int)≤(i:Int))=true:=by simp
    have g:decide ((i:Int)<(mk.length:Int))=true:=by simp;omega
    obtain⟨b,W,rfl,k,X⟩:=N.2 yv;have U:=Sl.row (fun m h=>jI (d m h)) X V 0 (.bool mk[i].1) rfl;have O:=hid U;have f:=hid (show (mk.getD (i:Int).toNat (false,ko))=mk[i] by rw[Int.toNat_natCast,List.getD_eq_getElem?_getD,yK V];rfl);clear U X;go_enter func261,ntmps261
    go_upto_region 1 with (first
      |(with_reducible refine kG ?_
        refine kz yk 110 _ rfl (kw (E,(i:Int))) _ rfl rfl (by rw[kq C.out];exact Zo) ?_;intro H D B S))
    obtain⟨z,M⟩:=Xy w.heap.size;rw[M] at B ⊢;have L:=hid (show z<H.heap.size from (qX B))
    try go_frame
    clear M;have G:=hid (show H.rangeAt z 0 (idV E) from fun j u I=>by rw[qZ];exact(k6 B j).trans ((kK C).1 j u I));have J:=hid (show H.rangeAt z 0 (kw (E,(i:Int))) from fun j u I=>by rw[qZ];exact(k6 B j).trans I);have T:H.cell? ⟨z,32,none⟩=some (.int .i64 (i:Int)):=(k6 B 32).trans (kK C).2;have n:H.cell? ⟨b,W+i*34,none⟩=some (.bool mk[i].1):=(D.cell (p:=⟨b,W+i*34,none⟩) k).trans O.out
    go_wp2_with (first
      |(refine k7 yk (kg 41 _ rfl (p:=⟨z,0,none⟩) rfl (qV _ _ _ _ (idV E) _ G underlying41 rfl (by rw[kn,show E.length=32 from C.1];exact jq))) ?_)
      |(refine k7 yk (kp 41 #[] rfl (zH _)) ?_)
      |(refine k7 yk (jV 41 _ _ _ rfl (xs:=(idV E).toArray) (ys:=(idV k9).toArray) rfl rfl (r:=true) eqId.noGuard (Q _)) ?_;go_frame;try simp only[nTF]))
    go_ret;exact⟨D,by rw[K.out];simp only[R,g,Bool.true_and];rw[f.out];rfl⟩
  ·have Q:Hid (∀u:World,(Op.equalIn 10000 41 (.agg (idV E).toArray) (.agg (idV k9).toArray)).run prog u=.ok false u):=hid (fun u=>(Ke C.1 jT u).trans (by rw[dF hz0]));have K:=hid (show vf deps mk (E,F)=zC deps (E,F) by unfold vf;rw[if_pos (by simp [hz0])]);clear hz0;go_enter func261,ntmps261
   go_upto_region 1 with (first
     |(with_reducible refine kG ?_
       refine kz yk 110 _ rfl (kw (E,F)) _ rfl rfl (by rw[kq C.out];exact Zo) ?_;intro H D B S))
   obtain⟨z,M⟩:=Xy w.heap.size;rw[M] at B ⊢;have L:=hid (show z<H.heap.size from (qX B))
   try go_frame
   clear M;have G:=hid (show H.rangeAt z 0 (idV E) from fun j u I=>by rw[qZ];exact(k6 B j).trans ((kK C).1 j u I));have J:=hid (show H.rangeAt z 0 (kw (E,F)) from fun j u I=>by rw[qZ];exact(k6 B j).trans I);have T:H.cell? ⟨z,32,none⟩=some (.int .i64 F):=(k6 B 32).trans (kK C).2
   go_wp2_with (first
     |(refine k7 yk (kg 41 _ rfl (p:=⟨z,0,none⟩) rfl (qV _ _ _ _ (idV E) _ G underlying41 rfl (by rw[kn,show E.length=32 from C.1];exact jq))) ?_)
     |(refine k7 yk (kp 41 #[] rfl (zH _)) ?_)
     |(refine k7 yk (jV 41 _ _ _ rfl (xs:=(idV E).toArray) (ys:=(idV k9).toArray) rfl rfl (r:=false) eqId.noGuard (Q _)) ?_;go_frame;try simp only[nTF])
     |(refine k7 yk (ldR C J) ?_)
     |(go_at_call 276;refine(Uv deps (E,F) A c H hn Z C hset ((a.keep D).more D.size)).mono ?_;rintro e o ⟨Y,rfl⟩;have P:=hid (Xx D.out Y);clear Y))
   go_ret;exact⟨P,by rw[K.out];rfl⟩
def ElUpto(mk:List jL)(ri:Int)(d:zy)(i:Nat):Prop:=∀j,j<i→0≤ri∧∃h:ri.toNat+j<mk.length,mk[ri.toNat+j].1=false∧mk[ri.toNat+j].2=d
theorem refEls_all{deps:List (List UInt8)}{mk:List jL}{rc:List UInt8}{ri:Int}{d:zy}{m:Nat}(hz:rc=k9)(hm:1≤m)(h:ElUpto mk ri d m):jD deps mk (rc,ri) d (m:Int)=true:=by
  obtain⟨A,G,_⟩:=h (m - 1) yv;unfold jD;rw[if_neg (by simp [hz])];simp only[xy,decide_eq_true_eq];refine⟨⟨⟨A,by omega⟩,by omega⟩,?_⟩;rw[List.all_eq_true];intro x B;obtain⟨j,C,rfl⟩:=List.getElem_of_mem B;rw[Yj,List.length_drop] at C;rw[List.getElem_take,List.getElem_drop];obtain⟨_,F,D,E⟩:=h j yv;simp [D,E]
theorem refEls_not{deps:List (List UInt8)}{mk:List jL}{rc:List UInt8}{ri:Int}{d:zy}{m j:Nat}(hz:rc=k9)(hj:j<m)(h:0≤ri→∀D:ri.toNat+j<mk.length,mk[ri.toNat+j].1=true∨mk[ri.toNat+j].2≠d):jD deps mk (rc,ri) d (m:Int)=false:=by
  rw[Bool.eq_false_iff];intro A;unfold jD at A;rw[if_neg (by simp [hz])] at A;simp only[xy,decide_eq_true_eq] at A;obtain⟨⟨⟨F,G⟩,H⟩,E⟩:=A;have D:ri.toNat+j<mk.length:=yv;rw[List.all_eq_true] at E;have B:=E mk[ri.toNat+j] (by
    have C:j<((mk.drop ri.toNat).take (m:Int).toNat).length:=by rw[Yj,List.length_drop];omega
    have:=yQ C
    rwa [List.getElem_take,List.getElem_drop] at this)
  simp only[xy,Bool.not_eq_true',decide_eq_true_eq] at B;rcases h F D with q|q
  ·rw[q] at B;exact absurd B.1 yZ
  ·exact q B.2
theorem refElems_any(deps:List (List UInt8))(mk:List jL)(r d:zy)(m:Nat)(A:Option Addr)(c:Nat)(Am:Option Addr)(cm:Nat)(w:World)(hm1:1≤m)(hm2:m≤4096)(hn:deps.length≤1099511627776)(hmn:mk.length≤1099511627776)(ho:IdsOk deps)(hm:∀m∈mk,uj m)(hr:zz r)(hd:zz d)(hset:jh deps=true)(hs:Sl w w.heap.size A deps.length 32 (zB deps))(hsm:Sl w w.heap.size Am mk.length 34 (kf j9 mk)):
    Calls prog 263 #[.slice A deps.length c,.slice Am mk.length cm,.agg (kw r).toArray,.agg (kw d).toArray,.int .i64 (m:Int)] w fun e w'=>Below w.heap.size w w'∧e=.returned (.bool (jD deps mk r d (m:Int))):=by
  obtain⟨O,ri⟩:=r;have HO:=hid ho;have HS:=hid hs;have D:=hid hr;have M:=hid hd;have A2:=hid hsm;have HM:=hid hm
  have A3:=hid (zZ hr.2);clear ho hs hr hsm hm hd;by_cases hz0:O=k9
  ·have EQ:Hid (∀u:World,(Op.equalIn 10000 41 (.agg (idV O).toArray) (.agg (idV k9).toArray)).run prog u=.ok true u):=hid (fun u=>(Ke D.1 jT u).trans (by rw[dT hz0]));have l:=hid hz0;clear hz0;go_enter func263,ntmps263
   go_upto_region 1 with (first
     |(with_reducible refine kG ?_
       refine kz yk 110 _ rfl (kw (O,ri)) _ rfl rfl (by rw[kq D.out];exact Zo) ?_;intro W0 R G Aa)
     |(with_reducible refine kG ?_
       refine kz yk 110 _ rfl (kw d) _ rfl rfl (by rw[kq M.out];exact Zo) ?_;intro Q H K Ab))
   obtain⟨z,hz⟩:=Xy w.heap.size;obtain⟨z1,f⟩:=Xy W0.heap.size;have Y:=hid (show z<Q.heap.size by rw[←hz];exact qL (qX G) H.size);have U:=hid (show z1<Q.heap.size by rw[←f];exact(qX K));have F:=hid ((H.block _ (qX G)).trans G);have B:=hid (Xx R.out H.out);rw[hz] at F ⊢;rw[f] at K ⊢
   try go_frame
   clear hz f G R H;have V:=hid (show Q.rangeAt z 0 (idV O) from fun j u W=>by rw[qZ];exact(k6 F j).trans ((kK D).1 j u W));have Z:=hid (show Q.rangeAt z 0 (kw (O,ri)) from fun j u W=>by rw[qZ];exact(k6 F j).trans W);have A1:Q.cell? ⟨z,32,none⟩=some (.int .i64 ri):=(k6 F 32).trans (kK D).2
   go_upto_region 4 with (first
     |(refine k7 yk (kg 41 _ rfl (p:=⟨z,0,none⟩) rfl (qV _ _ _ _ (idV O) _ V underlying41 rfl (by rw[kn,show O.length=32 from D.1];exact jq))) ?_)
     |(refine k7 yk (kp 41 #[] rfl (zH _)) ?_)
     |(refine k7 yk (jV 41 _ _ _ rfl (xs:=(idV O).toArray) (ys:=(idV k9).toArray) rfl rfl (r:=true) eqId.noGuard (EQ _)) ?_;go_frame;try simp only[nTF]))
   have n:=hid (fun (u:World) (hu:Below Q.heap.size Q u)=>(show u.cell? ⟨z,32,none⟩=some (.int .i64 ri) from (hu.cell (p:=⟨z,32,none⟩) Y).trans A1));have s:=hid (fun (u:World) (hu:Below Q.heap.size Q u)=>(show ∀j v,(kw d)[j]?=some v→u.cell? ⟨z1,0+j,none⟩=some v from fun j v W=>by rw[qZ];exact((hu.cell (p:=⟨z1,j,none⟩) U).trans (k6 K j)).trans W));clear A1 V Z K F;go_wp2_with fail
   go_loopw [11] (fun t wr=>∃i:Nat,i≤m∧t=.int .i64 (i:Int)∧Hid (Below Q.heap.size Q wr)∧Hid (ElUpto mk ri d i)) (fun t _=>m - (intOf t).toNat)
   case atStart=>exact⟨0,YX _,rfl,hid (qB _ _),hid fun j W=>absurd W yv⟩
   case round=>
     obtain⟨i,hi,rfl,E,x⟩:=hrel;by_cases hlt:i<m
     ·have i1:(i:Int)<(m:Int):=yv;have A1:=Wd.cell (base:=wr.heap.size) (n wr E) (qL Y E.size);have N:=hid (fun h=>refEls_not (deps:=deps) (mk:=mk) (ri:=ri) (d:=d) (m:=m) (j:=i) l hlt h);by_cases hneg:ri<0
      ·have d1:decide (ri<0)=true:=dT hneg;have C:=hid (N fun h=>absurd h yv);go_wp2_with fail;refine jS (base:=wr.heap.size) wr (qB _ _) yq yq ?_
       repeat (first
         |go_big_quiet_skip
         |(go_big_quiet_want
           first
              |(go_big_quiet_op
                go_big_quiet_on)))
       refine wpQuiet_nil ?_;rintro w' ⟨P,rfl⟩;have L:=P.2;generalize P.val=w9 at *;clear P;have I:=hid (Xx E.out L);clear L;go_wp2_with fail;go_ret;exact⟨B.trans (I.mono B.size),by rw[C.out];rfl⟩
      ·obtain⟨k,rfl⟩:∃k:Nat,ri=(k:Int):=⟨ri.toNat,by omega⟩;have Ad:=A3.out;have d1:decide ((k:Int)<0)=false:=by simp
       have ew:IntKind.i64.wrap ((mk.length:Int) - (i:Int))=(mk.length:Int) - (i:Int):=IntWalk.i64_in _ ⟨by omega,by omega⟩;by_cases hfar:(mk.length:Int) - (i:Int)≤(k:Int)
       ·have d2:decide ((mk.length:Int) - (i:Int)≤(k:Int))=true:=dT hfar;have C:=hid (N fun _ hl=>absurd hl (by rw[Int.toNat_natCast];omega));go_wp2_with fail;refine jS (base:=wr.heap.size) wr (qB _ _) yq yq ?_
        repeat (first
          |go_big_quiet_skip
          |(go_big_quiet_want
            first
               |(go_big_quiet_op
                 go_big_quiet_on)))
        refine wpQuiet_nil ?_;rintro w' ⟨P,rfl⟩;have L:=P.2;generalize P.val=w9 at *;clear P;have I:=hid (Xx E.out L);clear L;go_wp2_with fail;go_ret;exact⟨B.trans (I.mono B.size),by rw[C.out];rfl⟩
       ·have d2:decide ((mk.length:Int) - (i:Int)≤(k:Int))=false:=dF hfar;have Ae:IntKind.i64.wrap ((k:Int)+(i:Int))=((k+i:Nat):Int):=by rw[IntWalk.i64_in _ ⟨by omega,by omega⟩];omega
        have A5:k+i<mk.length:=yv;have q1:((k+i:Nat):Int)<(mk.length:Int):=yv;have q0:(0:Int)≤((k+i:Nat):Int):=yv;obtain⟨b,A7,rfl,Ac,A8⟩:=((A2.keep B).keep (E.mono B.size)).2 yv;have g:=Sl.row (fun m h=>jI (HM m h)) A8 A5;have A6:b<wr.heap.size:=qL Ac (qT B.size E.size);have S:=hid (show zz mk[k+i].2 from HM _ (yQ A5));have T:=hid (show mk[k+i].1=false→mk[k+i].2=d→ElUpto mk (k:Int) d (i+1) from fun h1 h2 j W=>by
          rcases (by omega:j<i∨j=i) with q|q
          ·exact x.out j q
          ·subst q;exact⟨by omega,by simpa using A5,by simpa using h1,by simpa using h2⟩)
        have J:=hid (show (mk[k+i].1=true∨mk[k+i].2≠d)→jD deps mk (O,(k:Int)) d (m:Int)=false from fun h=>N fun _ hl=>by simpa using h);clear N A8 x;obtain⟨y,hy⟩:=Xy (mk[k+i]);rw[hy] at g S T J;clear hy;have CD:=Wd.cell (base:=wr.heap.size) (b:=b) (o:=A7+(k+i)*34) (g 0 (.bool y.1) rfl) A6;have R1:=hid (Wd.row (base:=wr.heap.size) (b:=b) (o:=A7+(k+i)*34+1) (cs:=kw y.2) (fun j u W=>by rw[Nat.add_assoc];exact g (1+j) u (by unfold j9;rw[Nat.add_comm 1 j];exact W)) A6);have R2:=hid (Wd.row (base:=wr.heap.size) (s wr E) (qL U E.size));clear g;rcases hy1:y.1 with _ | _
        ·rw[hy1] at CD;by_cases hy2:y.2=d
         ·have a:Hid (∀u:World,(Op.equalIn 10000 110 (.agg (kw y.2).toArray) (.agg (kw d).toArray)).run prog u=.ok true u):=hid (fun u=>(jU S M u).trans (by rw[dT hy2]));have HN:=hid (T hy1 hy2);clear hy1 hy2 T J;go_wp2_with fail;refine jS (base:=wr.heap.size) wr (qB _ _) yq yq ?_
          repeat (first
            |go_big_quiet_skip
            |(go_big_quiet_want
              first
                 |(refine kP (fun w' X=>ldR S (R1 w' X)) ?_
                   go_big_quiet_on
                   go_frame;try simp only[nTF])
                 |(refine kP (fun w' X=>ldR M (R2 w' X)) ?_
                   go_big_quiet_on
                   go_frame;try simp only[nTF])
                 |(refine kP (fun w' X=>jV 110 _ _ _ rfl (xs:=(kw y.2).toArray) (ys:=(kw d).toArray) rfl rfl (r:=true) eqRef.noGuard (a w')) ?_
                   go_big_quiet_on
                   go_frame;try simp only[nTF])
                 |(go_big_quiet_op
                   go_big_quiet_on)))
          refine wpQuiet_nil ?_;rintro w' ⟨P,rfl⟩;have L:=P.2;generalize P.val=w9 at *;clear P;have I:=hid (Xx E.out L);clear L;go_wp2_with fail
          go_roundw
          case rel=>exact⟨i+1,by omega,by go_num,I,HN⟩
          case measure=>exact Xz
         ·have a:Hid (∀u:World,(Op.equalIn 10000 110 (.agg (kw y.2).toArray) (.agg (kw d).toArray)).run prog u=.ok false u):=hid (fun u=>(jU S M u).trans (by rw[dF hy2]));have C:=hid (J (.inr hy2));clear hy1 hy2 T J;go_wp2_with fail;refine jS (base:=wr.heap.size) wr (qB _ _) yq yq ?_
          repeat (first
            |go_big_quiet_skip
            |(go_big_quiet_want
              first
                 |(refine kP (fun w' X=>ldR S (R1 w' X)) ?_
                   go_big_quiet_on
                   go_frame;try simp only[nTF])
                 |(refine kP (fun w' X=>ldR M (R2 w' X)) ?_
                   go_big_quiet_on
                   go_frame;try simp only[nTF])
                 |(refine kP (fun w' X=>jV 110 _ _ _ rfl (xs:=(kw y.2).toArray) (ys:=(kw d).toArray) rfl rfl (r:=false) eqRef.noGuard (a w')) ?_
                   go_big_quiet_on
                   go_frame;try simp only[nTF])
                 |(go_big_quiet_op
                   go_big_quiet_on)))
          refine wpQuiet_nil ?_;rintro w' ⟨P,rfl⟩;have L:=P.2;generalize P.val=w9 at *;clear P;have I:=hid (Xx E.out L);clear L;go_wp2_with fail;go_ret;exact⟨B.trans (I.mono B.size),by rw[C.out];rfl⟩
        ·rw[hy1] at CD;have C:=hid (J (.inl hy1));clear hy1 T J;go_wp2_with fail;refine jS (base:=wr.heap.size) wr (qB _ _) yq yq ?_
         repeat (first
           |go_big_quiet_skip
           |(go_big_quiet_want
             first
                |(go_big_quiet_op
                  go_big_quiet_on)))
         refine wpQuiet_nil ?_;rintro w' ⟨P,rfl⟩;have L:=P.2;generalize P.val=w9 at *;clear P;have I:=hid (Xx E.out L);clear L;go_wp2_with fail;go_ret;exact⟨B.trans (I.mono B.size),by rw[C.out];rfl⟩
     ·have i1:¬(i:Int)<(m:Int):=yv;have A0:=hid (refEls_all (deps:=deps) (m:=m) l hm1 (by have h:=x.out;rwa [show i=m by omega] at h));go_wp2_with fail;go_ret;exact⟨B.trans (E.mono B.size),by rw[A0.out];rfl⟩
  ·have EQ:Hid (∀u:World,(Op.equalIn 10000 41 (.agg (idV O).toArray) (.agg (idV k9).toArray)).run prog u=.ok false u):=hid (fun u=>(Ke D.1 jT u).trans (by rw[dF hz0]));have HF:=hid (show jD deps mk (O,ri) d (m:Int)=zC deps (O,ri) by unfold jD;rw[if_pos (by simp [hz0])]);clear hz0;go_enter func263,ntmps263
   go_upto_region 1 with (first
     |(with_reducible refine kG ?_
       refine kz yk 110 _ rfl (kw (O,ri)) _ rfl rfl (by rw[kq D.out];exact Zo) ?_;intro W0 R G Aa)
     |(with_reducible refine kG ?_
       refine kz yk 110 _ rfl (kw d) _ rfl rfl (by rw[kq M.out];exact Zo) ?_;intro Q H K Ab))
   obtain⟨z,hz⟩:=Xy w.heap.size;obtain⟨z1,f⟩:=Xy W0.heap.size;have Y:=hid (show z<Q.heap.size by rw[←hz];exact qL (qX G) H.size);have U:=hid (show z1<Q.heap.size by rw[←f];exact(qX K));have F:=hid ((H.block _ (qX G)).trans G);have B:=hid (Xx R.out H.out);rw[hz] at F ⊢;rw[f] at K ⊢
   try go_frame
   clear hz f G R H;have V:=hid (show Q.rangeAt z 0 (idV O) from fun j u W=>by rw[qZ];exact(k6 F j).trans ((kK D).1 j u W));have Z:=hid (show Q.rangeAt z 0 (kw (O,ri)) from fun j u W=>by rw[qZ];exact(k6 F j).trans W);have A1:Q.cell? ⟨z,32,none⟩=some (.int .i64 ri):=(k6 F 32).trans (kK D).2
   go_wp2_with (first
     |(refine k7 yk (kg 41 _ rfl (p:=⟨z,0,none⟩) rfl (qV _ _ _ _ (idV O) _ V underlying41 rfl (by rw[kn,show O.length=32 from D.1];exact jq))) ?_)
     |(refine k7 yk (kp 41 #[] rfl (zH _)) ?_)
     |(refine k7 yk (jV 41 _ _ _ rfl (xs:=(idV O).toArray) (ys:=(idV k9).toArray) rfl rfl (r:=false) eqId.noGuard (EQ _)) ?_;go_frame;try simp only[nTF])
     |(refine k7 yk (ldR D Z) ?_)
     |(go_at_call 276;refine(Uv deps (O,ri) A c Q hn HO D hset ((HS.keep B).more B.size)).mono ?_;rintro e w2 ⟨A9,rfl⟩;have A4:=hid (Xx B.out A9);clear A9))
   go_ret;exact⟨A4,by rw[HF.out];rfl⟩
end
section
open Go.RowKit
open Lib (hid)
def RF(s:ByteArray)(w:World)(e:Ending)(w':World):Prop:=Below w.heap.size w w'∧e=.returned (.bool (Kr s jQ))
theorem U2(s:ByteArray)(w:World)(hs:s.size≤1099511627776):Calls prog 260 #[.string s] w (RF s w):=by
  go_enter func260,ntmps260;go_wp2_with fail;refine(runes_any s _ hs).mono ?_;rintro e Z ⟨G,⟨l,A,c,J,rfl,N⟩|⟨J,n,rfl⟩⟩
  ·have E:Kr s jQ=l.all jQ:=by unfold Kr;rw[J]
   have B:=hid E;clear E;have V:l.length≤s.size:=by
     have H:∀(f K:Nat) (l:List Nat),Jk s f K=some l→l.length≤f:=by
       intro f
       induction f with
       |zero=>intro K l h;simp [Jk] at h;subst h;simp
       |succ f ih=>
        intro K l h;rw[Jk] at h
        split at h
        ·split at h
         ·obtain⟨a,S,rfl⟩:=Option.map_eq_some_iff.1 h;have:=ih _ _ S;simp;omega
         ·cases h
        ·cases h;simp
     exact H _ _ _ J
   clear J;have O:=hid N;clear N;go_wp2_with fail
   go_loop [6] (fun t=>∃k:Nat,k≤l.length∧t=.int .i64 k∧Hid (∀j (h:j<l.length),j<k→jQ l[j]=true)) (fun t=>l.length - (intOf t).toNat)
   case atStart=>exact⟨0,by omega,rfl,hid fun j _ L=>absurd L yv⟩
   case round=>
     obtain⟨k,d,rfl,T⟩:=hrel;by_cases hlt:k<l.length
     ·obtain⟨b,W,rfl,X,M⟩:=O.2 yv;have g:=M k (.int .i32 (l[k]:Int)) (by simp [Qv,hlt]);have R:=hid M;clear M;have I:jQ l[k]=false→Kr s jQ=false:=by
        intro h;rw[B.out,List.all_eq_false];exact⟨l[k],yQ hlt,by simp [h]⟩
      have H:jQ l[k]=true→∀j (h:j<l.length),j<k+1→jQ l[j]=true:=by
        intro h j L Y;rcases (by omega:j<k∨j=k) with P|P
        ·exact T.out j L P
        ·subst P;exact h
      generalize hr:l[k]=r at *;clear hr;have C:=hid I;clear I;have D:=hid H;clear H;rcases (by omega:r<32∨r=127∨(32≤r∧r<127)∨127<r) with h|h|h|h
      ·have F:Hid (Kr s jQ=false):=hid (C (by simp [jQ];omega));go_wp2_with fail;go_ret;exact⟨G,by rw[F.out];rfl⟩
      ·subst h;have F:Hid (Kr s jQ=false):=hid (C yj);go_wp2_with fail;go_ret;exact⟨G,by rw[F.out];rfl⟩
      ·have F:Hid (jQ r=true):=hid (by simp [jQ];omega);have Q:((r:Int) == 127)=false:=by simp;omega
       go_wp2_with fail
       go_round
       case rel=>exact⟨k+1,by omega,by go_num,hid (D F)⟩
       case measure=>simp [intOf];omega
      ·have F:Hid (jQ r=true):=hid (by simp [jQ];omega);have Q:((r:Int) == 127)=false:=by simp;omega
       go_wp2_with fail
       go_round
       case rel=>exact⟨k+1,by omega,by go_num,hid (D F)⟩
       case measure=>simp [intOf];omega
     ·go_wp2_with fail;go_ret;refine⟨G,?_⟩;have:Kr s jQ=true:=by
        rw[B.out,List.all_eq_true];intro x U;obtain⟨j,L,rfl⟩:=List.getElem_of_mem U;exact T.out j L yv
      rw[this];rfl
  ·have E:Kr s jQ=false:=by unfold Kr;rw[J]
   have B:=hid E;clear E J;go_wp2_with fail;go_ret;exact⟨G,by rw[B.out];rfl⟩
theorem KJ(s:ByteArray)(w:World)(hs:s.size≤maxLen):Calls prog 236 #[.string s] w fun e w'=>Below w.heap.size w w'∧e=.returned (.bool (K8 s)):=by
  unfold maxLen at hs;by_cases h1:1≤s.size
  ·by_cases h2:s.size≤32
   ·rw[show K8 s=Kr s jQ by simp [K8,h1,h2]];go_enter func236,ntmps236
    go_wp2_with (go_at_call 260;refine(U2 s _ yv).mono ?_;rintro e B ⟨A,rfl⟩)
    go_ret;exact⟨A,rfl⟩
   ·rw[show K8 s=false by simp [K8,h2]];go_enter func236,ntmps236;go_wp2_with fail;go_ret;exact⟨Below.refl _ _,rfl⟩
  ·rw[show K8 s=false by simp [K8,h1]];go_enter func236,ntmps236;go_wp2_with fail;go_ret;exact⟨Below.refl _ _,rfl⟩
end
end Go.Proofs.YtdgbjhfkmembdaaGreatDoor