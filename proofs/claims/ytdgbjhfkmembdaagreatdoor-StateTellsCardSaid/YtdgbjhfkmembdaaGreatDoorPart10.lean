/-
  Facts and contracts that the walk needs. Conditions: as each says.
-/
import Derived.Test.YtdgbjhfkmembdaaGreatDoorPart9
import Derived.Test.YtdgbjhfkmembdaaGreatDoorPart7
import Derived.Test.YtdgbjhfkmembdaaGreatDoorPart8
set_option linter.unusedVariables false
set_option linter.unusedSimpArgs false
set_option maxHeartbeats 4000000
set_option maxRecDepth 100000
open Go.Proofs.Tryz
namespace Go.Proofs.YtdgbjhfkmembdaaGreatDoor
section
open Go.RowKit Go.Maps
open Lib (hid)
def makeZ:List Value:=jc (false,(0,k9,0))
theorem vN:(prog.info? 199).map (fun i=>(i.zero,i.size,i.bytes))=some (some (.agg makeZ.toArray),35,56):=yq
theorem make_builtT(w:World):(Instr.build 199 #[(0,.bool true)]).run prog w=.ok (.agg (jc (true,(0,k9,0))).toArray) w:=yq
theorem make_builtF(k:kE)(hk:kJ k)(w:World):(Instr.build 199 #[(1,.agg (kc k).toArray)]).run prog w=.ok (.agg (jc (false,k)).toArray) w:=by
  obtain⟨j,B,C,_,_⟩:=info_parts vN;have h:=zl (P:=prog) B underlying199 C [[.bool false],kc (0,k9,0)] rfl (places:=[(0,1),(1,34)]) yq yq [(1,.agg (kc k).toArray)] (by
    intro q A;simp only[xK,YY,or_false] at A;subst A;exact⟨by show 1<2;omega,by show (kc k).toArray.size=34;rw[xz,ke hk]⟩)
  have D:=run_build (P:=prog) w 199 #[(1,.agg (kc k).toArray)] _ h;refine D.trans ?_;simp [jc,Value.cells]
theorem ElemAt.grown{w w':World}{ba bo bd a:Nat}{x:OpD}{k:kE}{r:Nat}(h:ElemAt w ba bo bd a x k)(hg:w.grownBy w' (some r))(hr:∀{j:Nat},j=r→∀cur t,w.heap[j]?=some (.cells cur t (0,0))→False):ElemAt w' ba bo bd a x k:=
  ⟨(hg.block ba (qX h.pa) fun e=>hr (Option.some.inj e) _ _ h.pa).trans h.pa,(hg.block bo (qX h.po) fun e=>hr (Option.some.inj e) _ _ h.po).trans h.po,(hg.block bd (qX h.pd) fun e=>hr (Option.some.inj e) _ _ h.pd).trans h.pd⟩
theorem ElemAt.but{X:Nat→Prop}{w w':World}{ba bo bd a:Nat}{x:OpD}{k:kE}(h:ElemAt w ba bo bd a x k)(hb:But X w w')(hx:∀j,X j→∃cur t,w.heap[j]?=some (.cells cur t (0,0))∧(t=127∨t=199)):ElemAt w' ba bo bd a x k:=by
  have A:∀{j:Nat} {cur:Array Value} {t:TypeId},w.heap[j]?=some (.cells cur t (0,0))→t≠127→t≠199→¬X j:=fun B F G C=>by
    obtain⟨H,I,D,E⟩:=hx _ C;exact ji B D (by rcases E with rfl|rfl<;>assumption) rfl
  exact⟨(hb.block ba (qX h.pa) (A h.pa yj yj)).trans h.pa,(hb.block bo (qX h.po) (A h.po yj yj)).trans h.po,(hb.block bd (qX h.pd) (A h.pd yj yj)).trans h.pd⟩
def MkTo(w:World)(a s B0:Nat)(i:List UInt8)(c:ks)(dv ov vm:Value)(mk2:List zD)(w':World):Prop:=
  But (fun k=>k=a∨vm.ownBlock=some k) w w'∧∃Am cm,AdderAt w' a s i c dv ov (.slice Am mk2.length cm)∧w'.ownsRow B0 199 35 (.slice Am mk2.length cm) mk2.length (kf jc mk2)∧Newer w vm (.slice Am mk2.length cm)
theorem MkTo.same{w w':World}{a s B0:Nat}{i:List UInt8}{c:ks}{dv ov:Value}{Am:Option Addr}{cm:Nat}{mk:List zD}(hA:AdderAt w a s i c dv ov (.slice Am mk.length cm))(hr:w.ownsRow B0 199 35 (.slice Am mk.length cm) mk.length (kf jc mk))(hb:Below w.heap.size w w'):MkTo w a s B0 i c dv ov (.slice Am mk.length cm) mk w':=
  ⟨But.of_below hb,Am,cm,hA.keep hb,(But.of_below (X:=NoB) hb).own hr (fun _ _ q=>q),Newer.refl _ _⟩
def FitGives(S:kj)(w:World)(a s B0:Nat)(i:List UInt8)(c:ks)(dv ov vm:Value)(mk:List zD)(x:OpD)(e:Ending)(w':World):Prop:=
  (∃mk2,J7 S i c.1 mk x=some mk2∧e=.returned (.tuple #[])∧MkTo w a s B0 i c dv ov vm mk2 w')∨(J7 S i c.1 mk x=none∧e=.panicked (QI 22)∧Below w.heap.size w w')
theorem ex_madeDoc{ρ:Operand→Value}{o:Oper}{w:World}{x:Operand}{d:Bool}{l:List Value}(ho:o.op=.field 199 x 0)(hx:ρ x=.agg (.bool d::l).toArray):(execOp ρ o).run prog w=.ok (.value (.bool d)) w:=by
  unfold execOp;simp only[ho,hx]
  kernel_rfl
theorem AdderAt.put{w w':World}{a s:Nat}{i:List UInt8}{c:ks}{dv ov vm v2:Value}(h:AdderAt w a s i c dv ov vm):∃pre:List Value,pre.length=37∧w.heap[a]?=some (.cells (pre++([vm]++[])).toArray 127 (0,0))∧∀w':World,w'.heap[a]?=some (.cells (pre++([v2]++[])).toArray 127 (0,0))→AdderAt w' a s i c dv ov v2:=by
  have A:(idV i).length=32:=by rw[kn];exact h.id
  refine⟨Value.pointer (some ⟨s,0,none⟩)::(idV i++[.int .i64 c.1,dv,.string c.2.2.1,ov]),by simp [A],?_,fun w' B=>⟨?_,h.id⟩⟩
  ·rw[h.box];simp
  ·rw[B];simp
theorem rowsV_snocM{α:Type}(enc:α→List Value)(l:List α)(x:α):kf enc (l++[x])=kf enc l++enc x:=by simp [kf]
theorem fit_create(B0 B a s:Nat)(S:kj)(q:kV)(i:List UInt8)(c:ks)(dv ov:Value)(Am:Option Addr)(cm:Nat)(mk:List zD)(x:OpD)(w:World)(h:MidAt w B a s S q i c dv ov Am cm mk)(hrow:w.ownsRow B0 199 35 (.slice Am mk.length cm) mk.length (kf jc mk))(hB0:B0≤w.heap.size)(hx:KR x)(hlm:mk.length≤1073741824)(h3:x.1=3):
    Calls prog 52 #[.pointer (some ⟨a,0,none⟩),.agg (opV x).toArray] w (FitGives S w a s B0 i c dv ov (.slice Am mk.length cm) mk x):=by
  have HM:=hid h;have HX:=hid hx;have N:=hid hrow
  have A8:=kI hx;have Ag:=qX h.ad.box;clear h hx hrow;go_enter func52,ntmps52
  go_upto_region 1 with (first
    |(with_reducible refine kG ?_
      refine kz yk 125 _ rfl [.pointer (some ⟨a,0,none⟩)] _ rfl rfl yq ?_;intro W0 E F Y)
    |(with_reducible refine kG ?_
      refine kz yk 112 _ rfl (opV x) _ rfl rfl (by rw[A8];kernel_rfl) ?_;intro K G O Z))
  obtain⟨y,U⟩:=Xy w.heap.size;obtain⟨b3,A0⟩:=Xy W0.heap.size;have C:=hid (Xx E.out G.out);have H:=hid ((G.block w.heap.size (qX F)).trans F);rw[U] at H ⊢;rw[A0] at O ⊢;have b:=hid (show w.heap.size≤y by omega);have A7:=hid (show w.heap.size≤b3 by have:=E.size;omega);have A:=hid (HM.keep C);have I:=hid ((But.of_below (X:=NoB) C).own N fun _ _ q=>q);clear E G Y Z U A0 F;have k0:K.cell? ⟨b3,0,none⟩=some (.int .u8 (x.1.toNat:Int)):=(k6 O 0).trans (kB HX).1;have ek:(x.1.toNat:Int)=3:=by rw[h3];rfl
  rw[ek] at k0;have d:Hid (J7 S i c.1 mk x=some (mk++[(true,(0,k9,0))])):=hid (by unfold J7;rw[if_pos h3]);clear ek h3
  go_upto_region 2 with fail
  clear k0;have P:=hid (show (Value.slice Am mk.length cm).ownBlock≠some a from fun e=>by
    obtain⟨cc,Aa⟩:=kH I.out e;exact ji Aa A.ad.box yj rfl)
  have f:=hid (show ∀k,(Value.slice Am mk.length cm).ownBlock=some k→k<w.heap.size from fun k M=>(N.lt k M).2);have l:Hid (B0≤K.heap.size):=hid (qT hB0 C.size);have V:Hid (∀u:World,But (fun k=>(Value.slice Am mk.length cm).ownBlock=some k) K u→u.cell? ⟨y,0,none⟩=some (.pointer (some ⟨a,0,none⟩))∧u.cell? ⟨a,37,none⟩=some (.slice Am mk.length cm)):=hid fun u z=>by
    refine⟨(z.cell (g:=y) (j:=0) (qX H) fun e=>?_).trans (k6 H 0),(z.cell (g:=a) (j:=37) (qX A.ad.box) P).trans (A.ad.rest 4)⟩;have:=f.out y e;have:=b.out;omega
  refine rN 10 (fun u=>But (fun k=>(Value.slice Am mk.length cm).ownBlock=some k) K u) (But.of_below (qD _ _)) fun p=>?_
  refine tl 0 _ rfl p (fun w' L=>l1 underlying125 (V w' L).1) ?_;go_frame;refine tl 1 _ rfl p (fun w' L=>l1 underlying125 (V w' L).1) ?_;go_frame;refine tw 2 _ ?_;go_frame;refine tw 3 _ ?_;go_frame;refine tl 4 _ rfl p (fun w' L=>l1 underlying103 (V w' L).2) ?_;go_frame;refine tk 5 (.agg (jc (true,(0,k9,0))).toArray) rfl (fun w' L=>kp 199 _ rfl (by simp only[xV,xX,Yy];exact make_builtT _)) ?_;go_frame;refine ta 6 ?_;refine zP _ rfl yq (Q7 103 _ rfl 199 underlying103 (.agg makeZ.toArray) 35 56 vN rfl yj yj (jc (true,(0,k9,0))) (show (jc (true,(0,k9,0))).length=35 from rfl) rfl) ?_;have D:=hid ((qD K.heap.size K).alloc (qR _) (.cells (jc (true,(0,k9,0))).toArray 199));refine⟨fun _ _=>But.of_below D,?_⟩;go_frame;refine ta 7 ?_;refine Jy _ rfl yq ?_;refine uV _ _ 103 rfl B0 199 (.agg makeZ.toArray) 35 56 underlying103 vN rfl yj (.slice Am mk.length cm) mk.length (kf jc mk) rfl ((But.of_below (X:=NoB) D).own I fun _ _ q=>q) ⟨K.drew.heap.size,0,none⟩ 1 1 (jc (true,(0,k9,0))) rfl (by rw[(show (jc (true,(0,k9,0))).length=35 from rfl)]) (J3 K.drew _ _) (uC _) yY yv (by have:=l.out;have:=D.size;omega) ?_;intro v9 w9 r A1 A2;have J:Hid (But (fun k=>(Value.slice Am mk.length cm).ownBlock=some k) K w9):=hid ((But.of_below D).grown A1 fun k e _=>e);have Q:=hid r;have m:Hid (Newer K (.slice Am mk.length cm) v9):=hid fun k M=>by
    rcases A2 with e|⟨g,e,hz⟩
    ·left
     rw[←e];exact M
    ·right
     rw[e] at M;have e2:g=k:=by simpa using M
     subst e2;have h1:=D.size;omega
  have R:=hid ((J.block a (qX A.ad.box) P).trans A.ad.box);obtain⟨t,v,rfl⟩:=kX r;clear r A1 A2;refine⟨fun _ _=>J,?_⟩;go_frame;refine tw 8 _ ?_;go_frame;refine tw 9 _ ?_;go_frame;obtain⟨Ab,Ac,A3,A4⟩:=(AdderAt.mk (dv:=dv) (ov:=ov) (c:=c) R A.ad.id).put (w':=w9) (v2:=.slice t (mk.length+1) v);have n:=hid A3;have o:=hid A4
  clear A3 A4;refine ta 10 ?_;refine kR _ rfl yq 103 _ _ rfl a 37 Ab [.slice Am mk.length cm] [] [.slice t (mk.length+1) v] 127 (.slice t (mk.length+1) v) rfl Ac.symm rfl rfl n.out rfl yq (by intro u z;rw[xZ.1 z];rfl) ?_;intro W2 U A5 Ad;have T:=hid U;have W:=hid A5
  clear U A5 Ad;refine⟨fun h=>absurd h yj,?_⟩;go_frame;refine ku yq ?_ _;go_wp2_with fail;refine bodyPost_ret (results_none yq _ _ _) rfl ?_;have Ae:But (fun k=>k=a∨(Value.slice Am mk.length cm).ownBlock=some k) K W2:=(J.weak fun _ _ h=>.inr h).trans T.out fun k M e=>.inl e
  have Af:W2.ownsRow B0 199 35 (.slice t (mk.length+1) v) (mk.length+1) (kf jc mk++jc (true,(0,k9,0))):=T.own Q.out fun g hg e=>by
    obtain⟨Ah,A6⟩:=kH Q.out hg;have e2:g=a:=e;subst e2;exact ji A6 R.out yj rfl
  refine .inl ⟨_,d,rfl,(But.of_below C).trans Ae (fun j hj h=>h),t,v,?_,?_,fun k M=>?_⟩
  ·rw[yV,xQ];exact o.out W2 W.out
  ·rw[yV,xQ,rowsV_snocM];exact Af
  ·rw[yV,xQ] at M;rcases m.out k M with e|e
   ·exact .inl e
   ·exact .inr (qT C.size e)
theorem fit_other(B0 B a s:Nat)(S:kj)(q:kV)(i:List UInt8)(c:ks)(dv ov:Value)(Am:Option Addr)(cm:Nat)(mk:List zD)(x:OpD)(w:World)(h:MidAt w B a s S q i c dv ov Am cm mk)(hrow:w.ownsRow B0 199 35 (.slice Am mk.length cm) mk.length (kf jc mk))(hB0:B0≤w.heap.size)(hx:KR x)(hlm:mk.length≤1073741824)(hn3:x.1≠3)(htm:(Lit.int .i64 c.1).wf=true)(hd:RefIx S x.2.1)(ha:RefIx S x.2.2.1)(htx:x.2.2.2.1.size≤1073741824)(htt:KE x.2.2.2.1=true)(hct:x.2.2.2.2.1≤1099511627776):
    Calls prog 52 #[.pointer (some ⟨a,0,none⟩),.agg (opV x).toArray] w (FitGives S w a s B0 i c dv ov (.slice Am mk.length cm) mk x):=by
  have y:=hid hd;have AM:=hid ha
  have BH:∀(fn:Fn) (first cap:Array Value) (w:World),(Instr.makeFunc fn first cap).run prog w=.ok (.func fn first cap) w:=fun _ _ _ _=>rfl
  clear hd ha;have HM:=hid h;have C:=hid hx;have Aa:=hid hrow
  have Bv:=kI hx;have BI:=qX h.ad.box;clear h hx hrow;go_enter func52,ntmps52
  go_upto_region 1 with (first
    |(with_reducible refine kG ?_
      refine kz yk 125 _ rfl [.pointer (some ⟨a,0,none⟩)] _ rfl rfl yq ?_;intro W0 Ah Ai AW)
    |(with_reducible refine kG ?_
      refine kz yk 112 _ rfl (opV x) _ rfl rfl (by rw[Bv];kernel_rfl) ?_;intro W1 Aj b AX))
  obtain⟨b2,AK⟩:=Xy w.heap.size;obtain⟨G,Bb⟩:=Xy W0.heap.size;have R:=hid (Xx Ah.out Aj.out);have d:=hid ((Aj.block w.heap.size (qX Ai)).trans Ai);rw[AK] at d ⊢;rw[Bb] at b ⊢;have Bq:=hid (show w.heap.size≤b2 by omega);have Br:=hid (show w.heap.size≤G by have:=Ah.size;omega);have P:=hid (HM.keep R);have Ak:=hid ((But.of_below (X:=NoB) R).own Aa fun _ _ q=>q);clear Ah Aj AW AX AK Bb Ai;have k0:W1.cell? ⟨G,0,none⟩=some (.int .u8 (x.1.toNat:Int)):=(k6 b 0).trans (kB C).1;have BJ:((x.1.toNat:Int) == 3)=false:=by
    rw[beq_eq_false_iff_ne];intro e;exact hn3 (UInt8.toNat_inj.1 (by show x.1.toNat=3;omega))
  have Al:=hid hn3;have A2:=hid (show W1.rangeAt G 1 (kw x.2.1) from fun j u hj=>(k6 b (1+j)).trans ((kB C).2.1 j u hj));have B7:W1.cell? ⟨b2,0,none⟩=some (.pointer (some ⟨a,0,none⟩)):=k6 d.out 0;have Ab:=hid (what_any B a s S q i c dv ov Am cm mk x.2.1 0 W1 P.st P.ad P.row P.keys y.1 y.2.1 yv P.len y.2.2);clear hn3;cases hw:Jg S mk x.2.1 0 with
  |none=>
   have z:=hid hw;have An:Hid (J7 S i c.1 mk x=none):=hid (by unfold J7;rw[if_neg Al.out,hw]);clear hw
   go_wp2_with (first
      |(with_reducible refine k8 ?_
        refine k7 yk (kg 110 _ rfl (p:=⟨G,1,none⟩) rfl (qV _ G 1 _ (kw x.2.1) _ A2 underlying110 rfl (by rw[kq C.1.1];kernel_rfl))) ?_)
      |(go_at_call 96;refine Ab.mono ?_;rintro e w5 ⟨Af,⟨m,Z,_⟩|⟨_,rfl⟩⟩
        ·rw[z.out] at Z;cases Z
        have H:=hid Af;clear Af))
   exact⟨rfl,.inr ⟨An,rfl,R.trans (H.mono R.size)⟩⟩
  |some m=>
   have z:=hid hw;clear hw;cases hmd:m.1
   ·have Ao:=hid hmd;have An:Hid (J7 S i c.1 mk x=none):=hid (by unfold J7;rw[if_neg Al.out,z.out];dsimp only;rw[if_pos hmd]);have AQ:jc m=.bool false::kc m.2:=by unfold jc;rw[hmd]
    clear hmd
    go_wp2_with (first
       |(with_reducible refine k8 ?_
         refine k7 yk (kg 110 _ rfl (p:=⟨G,1,none⟩) rfl (qV _ G 1 _ (kw x.2.1) _ A2 underlying110 rfl (by rw[kq C.1.1];kernel_rfl))) ?_)
       |(go_at_call 96;refine Ab.mono ?_;rintro e w5 ⟨Af,⟨m',Z,rfl⟩|⟨Z,_⟩⟩
         rotate_left
         ·rw[z.out] at Z;cases Z
         obtain rfl:m'=m:=Option.some.inj (Z.symm.trans z);rw[AQ];have H:=hid Af;clear Af Z)
       |(refine k7 yk (ex_madeDoc rfl rfl) ?_)
       |(go_at_call 51;refine(Zk 22 _).mono ?_;rintro e w9 ⟨rfl,rfl⟩))
    exact⟨rfl,.inr ⟨An,rfl,R.trans (H.mono R.size)⟩⟩
   ·have Ao:=hid hmd;have AQ:jc m=.bool true::kc m.2:=by unfold jc;rw[hmd]
    clear hmd;have f:=hid (ZV (t:=c.1) (r:=x.2.1) HM.st HM.ad.id htm C.1.1);have Bc:=ke f.out;have Ay:=hid (fun (u:World) (hu:Below W1.heap.size W1 u)=>Zl B a s S q i c dv ov (.slice Am mk.length cm) x.2.1 u (P.st.keep hu) (P.ad.keep hu) y.1)
    go_upto_region 4 with (first
       |(with_reducible refine k8 ?_
         refine k7 yk (kg 110 _ rfl (p:=⟨G,1,none⟩) rfl (qV _ G 1 _ (kw x.2.1) _ A2 underlying110 rfl (by rw[kq C.1.1];kernel_rfl))) ?_)
       |(go_at_call 96;refine Ab.mono ?_;rintro e w5 ⟨Af,⟨m',Z,rfl⟩|⟨Z,_⟩⟩
         rotate_left
         ·rw[z.out] at Z;cases Z
         obtain rfl:m'=m:=Option.some.inj (Z.symm.trans z);rw[AQ];have H:=hid Af;clear Af Z)
       |(refine k7 yk (ex_madeDoc rfl rfl) ?_)
       |(go_at_call 51;refine(Z6 22 _).mono ?_;rintro e w5 ⟨rfl,rfl⟩))
    clear B7 k0;have B7:w5.cell? ⟨b2,0,none⟩=some (.pointer (some ⟨a,0,none⟩)):=k6 ((H.block b2 (qX d)).trans d) 0;have Ap:=hid (show w5.rangeAt G 1 (kw x.2.1) from fun j u hj=>(H.cell (p:=⟨G,1+j,none⟩) (qX b)).trans (A2 j u hj))
    go_upto_region 5 with (first
       |(with_reducible refine k8 ?_
         refine k7 yk (kg 110 _ rfl (p:=⟨G,1,none⟩) rfl (qV _ G 1 _ (kw x.2.1) _ Ap underlying110 rfl (by rw[kq C.1.1];kernel_rfl))) ?_)
       |(go_at_call 97;refine(Ay w5 H).mono ?_;rintro e w6 ⟨Bd,rfl⟩;have Ac:=hid Bd;clear Bd)
       |(with_reducible refine kF ?_
         refine kv yk 89 rfl (kc (0,k9,0)) (zG _) ?_;intro W7 Aq Az AY)
       |(with_reducible refine kD ?_
         refine kr yk 89 _ _ rfl w6.heap.size 0 [] (kc (0,k9,0)) [] (kc (jg S i c.1 x.2.1)) 89 (.agg (kc (jg S i c.1 x.2.1)).toArray) rfl rfl rfl rfl (by simpa using Az.out) (by rw[Bc];rfl) (by rw[Bc];kernel_rfl) (j8 _) ?_;intro W8 Bw Bx BK;have AA:=hid (Bw.below (B:=w6.heap.size) Aq.size (fun k K e=>by have e2:k=w6.heap.size:=e;omega));have AB:Hid (W8.heap[w6.heap.size]?=some (.cells (kc (jg S i c.1 x.2.1)).toArray 89 (0,0))):=hid (by simpa using Bx.out)))
    obtain⟨b4,Be⟩:=Xy w6.heap.size;have L:Hid (Below W1.heap.size W1 W8):=hid (H.trans ((Ac.trans ((Aq.trans AA).mono Ac.size)).mono H.size));have D:Hid (Below w.heap.size w W8):=hid (Xx R.out L.out);have Bs:=hid (show w.heap.size≤b4 by have:=R.size;have:=H.size;have:=Ac.size;omega);rw[Be] at AB ⊢;have E:Hid (ElemAt W8 b2 G b4 a x (jg S i c.1 x.2.1)):=hid ⟨(L.block b2 (qX d)).trans d,(L.block G (qX b)).trans b,AB⟩;have n:=hid (P.keep L);have U:=hid ((But.of_below (X:=NoB) L).own Ak fun _ _ q=>q);have Ad:Hid (J7 S i c.1 mk x=(if x.1=2 then (if (List.range x.2.2.2.2.1.toNat).all (vg S i c.1 mk x) then some mk else none) else if x.1=1 then (if x.2.2.1=x.2.1∨vg S i c.1 mk x 0=true then some (mk++List.replicate (zK x.2.2.2.1) (false,jg S i c.1 x.2.1)) else none) else some mk)):=hid (by
       unfold J7;rw[if_neg Al.out,z.out];dsimp only;rw[if_neg (by rw[Ao.out];decide)])
    have o:=hid (fun (u:World) (more:Nat) (hm:more≤1099511627776) (hu:Below W8.heap.size W8 u)=>elem_any B a s b2 G b4 S q i c dv ov Am cm mk x more u (n.keep hu) (E.keep hu) C f AM hm);generalize jg S i c.1 x.2.1=ky at *;clear B7 H Ac Aq Az AY AA Be Ab Ay A2 Ap P Ak z Ao AQ;have k0:W8.cell? ⟨G,0,none⟩=some (.int .u8 (x.1.toNat:Int)):=(k6 E.po 0).trans (kB C).1;have AR:W8.cell? ⟨G,67,none⟩=some (.string x.2.2.2.1):=(k6 E.po 67).trans (kB C).2.2.2.1;have Bf:W8.cell? ⟨G,68,none⟩=some (.int .i64 x.2.2.2.2.1):=(k6 E.po 68).trans (kB C).2.2.2.2.1;have AS:((x.1.toNat:Int) == 1)=decide (x.1=1):=by
       by_cases e:x.1=1
       ·rw[dT e,e];rfl
       ·rw[dF e,beq_eq_false_iff_ne];intro e2;exact e (UInt8.toNat_inj.1 (by show x.1.toNat=1;omega))
    have AT:((x.1.toNat:Int) == 2)=decide (x.1=2):=by
       by_cases e:x.1=2
       ·rw[dT e,e];rfl
       ·rw[dF e,beq_eq_false_iff_ne];intro e2;exact e (UInt8.toNat_inj.1 (by show x.1.toNat=2;omega))
    by_cases h2:x.1=2
    ·rw[dT h2] at AT;have M:=hid (Ad.trans (if_pos h2));clear h2;have AZ:=hid (show ∀j:Nat,(j:Int)<x.2.2.2.2.1→j∈List.range x.2.2.2.2.1.toNat from fun j hj=>List.mem_range.2 yv)
     go_upto_region 9 with fail
     go_loopw [37] (fun t37 wr=>∃j:Nat,t37=.int .i64 (j:Int)∧(j=0∨(j:Int)≤x.2.2.2.2.1)∧Hid (Below W8.heap.size W8 wr)∧Hid (∀k:Nat,k<j→vg S i c.1 mk x k=true)) (fun t37 _=>x.2.2.2.2.1.toNat - (intOf t37).toNat)
     case atStart=>exact⟨0,rfl,.inl rfl,hid (qB _ _),hid fun k K=>absurd K yv⟩
     case round=>
        obtain⟨j,rfl,hj,A3,Ar⟩:=hrel;by_cases hlt:(j:Int)<x.2.2.2.2.1
        ·have BF:=hlt;cases hel:vg S i c.1 mk x j
         ·have T:=hid hel;have I:Hid (J7 S i c.1 mk x=none):=hid (M.trans (if_neg (fun q=>by
            have:=List.all_eq_true.1 q j (AZ j hlt);rw[hel] at this;cases this)))
          clear hel
          go_wp2_with (first
            |(go_at_call 98;refine(o wr j yv A3.out).mono ?_;rintro e W9 ⟨A6,⟨q,_⟩|⟨_,rfl⟩⟩
              ·rw[T.out] at q;cases q
              have F:=hid A6;clear A6))
          exact⟨rfl,.inr ⟨I,rfl,D.trans ((Xx A3.out F.out).mono D.size)⟩⟩
         ·have T:=hid hel;clear hel
          go_wp2_with (first
            |(go_at_call 98;refine(o wr j yv A3.out).mono ?_;rintro e W9 ⟨A6,⟨_,rfl⟩|⟨q,_⟩⟩
              rotate_left
              ·rw[T.out] at q;cases q
              have F:=hid A6;clear A6))
          go_roundw
          case rel=>
            refine⟨j+1,by go_num,.inr yv,hid (Xx A3.out F.out),hid fun k K=>?_⟩;rcases (by omega:k<j∨k=j) with q|rfl
            ·exact Ar.out k q
            ·exact T.out
          case measure=>exact Xz
        ·have I:Hid (J7 S i c.1 mk x=some mk):=hid (M.trans (if_pos (List.all_eq_true.2 fun k K=>Ar k (by have:=List.mem_range.1 K;omega))));go_wp2_with fail
         go_end0
         exact .inl ⟨mk,I,rfl,MkTo.same HM.ad Aa (Xx D.out A3.out)⟩
    ·rw[dF h2] at AT;have M:=hid (Ad.trans (if_neg h2));clear h2;by_cases h1:x.1=1
     ·rw[dT h1] at AS;have N:=hid (M.trans (if_pos h1));clear h1;have V:=hid (show W8.rangeAt G 34 (kw x.2.2.1) from fun j u hj=>(k6 E.po (34+j)).trans ((kB C).2.2.1 j u hj));have W:=hid (show W8.rangeAt G 1 (kw x.2.1) from fun j u hj=>(k6 E.po (1+j)).trans ((kB C).2.1 j u hj));have AN:Hid (okFrom x.2.2.2.1 0):=hid htt;by_cases hat:x.2.2.1=x.2.1
      focus
         have EQ:=hid (fun (u:World)=>(jU C.1.2.1 C.1.1 u).trans (by rw[dT hat]));have I:=hid (N.trans (if_pos (.inl hat)));clear hat
         go_upto_region 17 with (first
           |(with_reducible refine k8 ?_
             refine k7 yk (kg 110 _ rfl (p:=⟨G,34,none⟩) rfl (qV _ G 34 _ (kw x.2.2.1) _ V underlying110 rfl (by rw[kq C.1.2.1];kernel_rfl))) ?_;go_frame)
           |(with_reducible refine k8 ?_
             refine k7 yk (kg 110 _ rfl (p:=⟨G,1,none⟩) rfl (qV _ G 1 _ (kw x.2.1) _ W underlying110 rfl (by rw[kq C.1.1];kernel_rfl))) ?_;go_frame)
           |(with_reducible refine kU ?_
             refine k7 yk (jV 110 _ _ _ rfl (xs:=(kw x.2.2.1).toArray) (ys:=(kw x.2.1).toArray) (r:=true) rfl rfl eqRef.noGuard (EQ _)) ?_;go_frame;try simp only[nTF]))
         obtain⟨W9,Bg⟩:=Xy W8;rw[Bg] at n U E D ⊢;have AC:=hid n.out;have As:=hid U.out;have At:=hid E.out;have A0:=hid D.out
         clear Bg k0 AR Bf AS AT o n U E D V W L Ad M N EQ
      rotate_left
      focus
         have EQ:=hid (fun (u:World)=>(jU C.1.2.1 C.1.1 u).trans (by rw[dF hat]));cases hel:vg S i c.1 mk x 0
         ·have I:=hid (N.trans (if_neg (by rintro (q|q);exact hat q;rw[hel] at q;cases q)));have T:=hid hel;clear hat hel
          go_wp2_with (first
            |(with_reducible refine k8 ?_
              refine k7 yk (kg 110 _ rfl (p:=⟨G,34,none⟩) rfl (qV _ G 34 _ (kw x.2.2.1) _ V underlying110 rfl (by rw[kq C.1.2.1];kernel_rfl))) ?_;go_frame)
            |(with_reducible refine k8 ?_
              refine k7 yk (kg 110 _ rfl (p:=⟨G,1,none⟩) rfl (qV _ G 1 _ (kw x.2.1) _ W underlying110 rfl (by rw[kq C.1.1];kernel_rfl))) ?_;go_frame)
            |(with_reducible refine kU ?_
              refine k7 yk (jV 110 _ _ _ rfl (xs:=(kw x.2.2.1).toArray) (ys:=(kw x.2.1).toArray) (r:=false) rfl rfl eqRef.noGuard (EQ _)) ?_;go_frame;try simp only[nTF])
            |(go_at_call 98;refine(o W8 0 yv (qB _ _)).mono ?_;rintro e W9 ⟨A6,⟨q,_⟩|⟨_,rfl⟩⟩
              ·rw[T.out] at q;cases q
              have F:=hid A6;clear A6))
          exact⟨rfl,.inr ⟨I,rfl,D.trans (F.mono D.size)⟩⟩
         have I:=hid (N.trans (if_pos (.inr hel)));have T:=hid hel;clear hat hel
         go_upto_region 16 with (first
           |(with_reducible refine k8 ?_
             refine k7 yk (kg 110 _ rfl (p:=⟨G,34,none⟩) rfl (qV _ G 34 _ (kw x.2.2.1) _ V underlying110 rfl (by rw[kq C.1.2.1];kernel_rfl))) ?_;go_frame)
           |(with_reducible refine k8 ?_
             refine k7 yk (kg 110 _ rfl (p:=⟨G,1,none⟩) rfl (qV _ G 1 _ (kw x.2.1) _ W underlying110 rfl (by rw[kq C.1.1];kernel_rfl))) ?_;go_frame)
           |(with_reducible refine kU ?_
             refine k7 yk (jV 110 _ _ _ rfl (xs:=(kw x.2.2.1).toArray) (ys:=(kw x.2.1).toArray) (r:=false) rfl rfl eqRef.noGuard (EQ _)) ?_;go_frame;try simp only[nTF])
           |(go_at_call 98;refine(o W8 0 yv (qB _ _)).mono ?_;rintro e W9 ⟨A6,⟨_,rfl⟩|⟨q,_⟩⟩
             rotate_left
             ·rw[T.out] at q;cases q
             have F:=hid A6;clear A6))
         clear AR;have AR:W9.cell? ⟨G,67,none⟩=some (.string x.2.2.2.1):=(k6 ((F.block G (qX E.po)).trans E.po) 67).trans (kB C).2.2.2.1
         go_upto_region 17 with fail
         have A0:Hid (Below w.heap.size w W9):=hid (Xx D.out F.out);have AC:=hid (n.keep F);have As:=hid ((But.of_below (X:=NoB) F).own U fun _ _ q=>q);have At:=hid (E.keep F);clear k0 AR Bf AS AT o n U E D V W L Ad M N EQ
      all_goals
         generalize x.2.2.2.1=str at *;obtain⟨zi,AU⟩:=Xy W9.heap.size;have B1:=hid AU;have Ax:Hid ((W9.iter str 0).heap[zi]?=some (.stringIter str 0)):=hid (by rw[←AU];simpa using World.iter_heap W9 str 0);have Ae:Hid (Below W9.heap.size W9 (W9.iter str 0)):=hid ((qB _ _).alloc (qR _) _);rw[AU];clear AU;generalize W9.iter str 0=Wi at *;have Bt:=hid (show ∀k,(Value.slice Am mk.length cm).ownBlock=some k→k<w.heap.size from fun k K=>(Aa.lt k K).2)
         go_loopw [56] (fun _ wr=>∃(A:Nat) (l:List Nat) (Av:Option Addr) (cv:Nat),A≤str.size∧l.length≤A∧Hid (wr.heap[zi]?=some (.stringIter str A))∧Hid (okFrom str A)∧Hid (jH str=(jM str A).map (l++ ·))∧Hid (But (fun k=>k=a∨(Value.slice Am mk.length cm).ownBlock=some k) W9 wr)∧Hid (AdderAt wr a s i c dv ov (.slice Av (mk.length+l.length) cv))∧Hid (wr.ownsRow B0 199 35 (.slice Av (mk.length+l.length) cv) (mk.length+l.length) (kf jc (mk++List.replicate l.length (false,ky))))∧Hid (Newer W9 (.slice Am mk.length cm) (.slice Av (mk.length+l.length) cv))∧Hid (ElemAt wr b2 G b4 a x ky)) (fun _ wr=>str.size - wr.iterPos zi)
         case atStart=>
           exact⟨0,[],Am,cm,YX _,xY _,Ax,AN,hid (by rw[uN];simp),hid (But.of_below Ae),hid (AC.ad.keep Ae),hid (by simpa using (But.of_below (X:=NoB) Ae).own As.out fun _ _ q=>q),hid (Newer.refl _ _),hid (At.keep Ae)⟩
         case round=>
           obtain⟨A,l,Av,cv,BG,hl,Y,B2,AD,AE,A4,AF,Au,E⟩:=hrel;by_cases hlt:A<str.size
           ·have By:∀ty,(Instr.next (.pointer (some ⟨zi,0,none⟩)) true ty).run prog wr=_:=fun ty=>Lib.run_next_any_at wr zi str A ty Y.out hlt
            have BL:=vz hlt;obtain⟨ho,Bh⟩:=B2.at_ hlt;have HO:=hid ho;have AO:=hid Bh;have BM:=decode_le str A;have A1:=hid (Lib.iterAt_heap wr zi str A (A+(Utf8.decode str A).2) Y);have AL:wr.grownBy (wr.iterAt zi str (A+(Utf8.decode str A).2)) (some zi):=⟨rfl,rfl,rfl,by rw[Lib.iterAt_size];exact xY _,fun k K B8=>Lib.iterAt_other _ _ _ _ _ (fun e=>B8 (by rw[e]))⟩;have J:Hid (AdderAt (wr.iterAt zi str (A+(Utf8.decode str A).2)) a s i c dv ov (.slice Av (mk.length+l.length) cv)):=hid ⟨(AL.block a (qX A4.box) fun e=>(by cases e;have:=A4.box;rw[Y.out] at this;cases this)).trans A4.box,A4.id⟩;have Q:=hid (qP AF Y (A+(Utf8.decode str A).2));have O:Hid (ElemAt (wr.iterAt zi str (A+(Utf8.decode str A).2)) b2 G b4 a x ky):=hid (E.grown AL fun e Bz t h=>by subst e;rw[Y.out] at h;cases h);have A8:Hid (But (fun k=>k=a∨(Value.slice Am mk.length cm).ownBlock=some k) W9 (wr.iterAt zi str (A+(Utf8.decode str A).2))):=hid (AE.grown AL fun k e K=>(by cases e;have:=B1.out;omega));have Bu:Hid (wr.heap.size≤(wr.iterAt zi str (A+(Utf8.decode str A).2)).heap.size):=hid AL.size;clear ho Bh AL;generalize hW2:wr.iterAt zi str (A+(Utf8.decode str A).2)=Wn at *;clear hW2
            go_upto_region 18 with fail
            have AG:=hid (show (Value.slice Av (mk.length+l.length) cv).ownBlock≠some a from fun e=>by
              obtain⟨cc,A7⟩:=kH Q.out e;exact ji A7 J.box yj rfl)
            have B3:Hid (B0≤Wn.heap.size):=hid (qT hB0 (qT A0.size A8.size));have HF:Hid (∀u:World,But (fun k=>(Value.slice Av (mk.length+l.length) cv).ownBlock=some k) Wn u→u.cell? ⟨b2,0,none⟩=some (.pointer (some ⟨a,0,none⟩))∧u.cell? ⟨a,37,none⟩=some (.slice Av (mk.length+l.length) cv)∧u.rangeAt b4 0 (kc ky)):=hid fun u hu=>by
              refine⟨(hu.cell (g:=b2) (j:=0) (qX O.pa) fun e=>?_).trans (k6 O.pa 0),(hu.cell (g:=a) (j:=37) (qX J.box) AG).trans (J.rest 4),fun j v hj=>?_⟩
              ·obtain⟨cc,A7⟩:=kH Q.out e;exact ji A7 O.pa yj rfl
              ·rw[qZ];refine(hu.cell (g:=b4) (j:=j) (qX O.pd) fun e=>?_).trans ((k6 O.pd j).trans hj);obtain⟨cc,A7⟩:=kH Q.out e;exact ji A7 O.pd yj rfl
            refine rN 11 (fun u=>But (fun k=>(Value.slice Av (mk.length+l.length) cv).ownBlock=some k) Wn u) (But.of_below (qD _ _)) fun AV=>?_
            refine tl 0 _ rfl AV (fun w' Ag=>l1 underlying125 (HF w' Ag).1) ?_;go_frame;refine tl 1 _ rfl AV (fun w' Ag=>l1 underlying125 (HF w' Ag).1) ?_;go_frame;refine tw 2 _ ?_;go_frame;refine tw 3 _ ?_;go_frame;refine tl 4 _ rfl AV (fun w' Ag=>l1 underlying103 (HF w' Ag).2.1) ?_;go_frame;refine tl 5 _ rfl AV (fun w' Ag=>ldK f (HF w' Ag).2.2) ?_;go_frame;refine tk 6 (.agg (jc (false,ky)).toArray) rfl (fun w' Ag=>kp 199 _ rfl (by simp only[xV,xX,Yy];exact make_builtF ky f.out _)) ?_;go_frame;refine ta 7 ?_;refine zP _ rfl yq (Q7 103 _ rfl 199 underlying103 (.agg makeZ.toArray) 35 56 vN rfl yj yj (jc (false,ky)) (J4 (m:=(false,ky)) f) rfl) ?_;have A5:=hid ((qD Wn.heap.size Wn).alloc (qR _) (.cells (jc (false,ky)).toArray 199));refine⟨fun _ _=>But.of_below A5,?_⟩;go_frame;refine ta 8 ?_;refine Jy _ rfl yq ?_;refine uV _ _ 103 rfl B0 199 (.agg makeZ.toArray) 35 56 underlying103 vN rfl yj (.slice Av (mk.length+l.length) cv) (mk.length+l.length) (kf jc (mk++List.replicate l.length (false,ky))) rfl ((But.of_below (X:=NoB) A5).own Q fun _ _ q=>q) ⟨Wn.drew.heap.size,0,none⟩ 1 1 (jc (false,ky)) rfl (by rw[(J4 (m:=(false,ky)) f)]) (J3 Wn.drew _ _) (uC _) yY yv (by have:=B3.out;have:=A5.size;omega) ?_;intro v9 w9 B9 Bi Bj;have F:Hid (But (fun k=>(Value.slice Av (mk.length+l.length) cv).ownBlock=some k) Wn w9):=hid ((But.of_below A5).grown Bi fun k e _=>e);have AH:=hid B9;have B4:Hid (Newer Wn (.slice Av (mk.length+l.length) cv) v9):=hid fun k K=>by
              rcases Bj with e|⟨g,e,hz⟩
              ·left
               rw[←e];exact K
              ·right
               rw[e] at K;have e2:g=k:=by simpa using K
               subst e2;have h1:=A5.size;omega
            have AI:=hid ((F.block a (qX J.box) AG).trans J.box);obtain⟨A9,c9,rfl⟩:=kX B9;clear B9 Bi Bj;refine⟨fun _ _=>F,?_⟩;go_frame;refine tw 9 _ ?_;go_frame;refine tw 10 _ ?_;go_frame;obtain⟨BA,BB,Bk,Bl⟩:=(AdderAt.mk (dv:=dv) (ov:=ov) (c:=c) AI J.id).put (w':=w9) (v2:=.slice A9 ((mk.length+l.length)+1) c9);have B5:=hid Bk;have B6:=hid Bl
            clear Bk Bl;refine ta 11 ?_;refine kR _ rfl yq 103 _ _ rfl a 37 BA [.slice Av (mk.length+l.length) cv] [] [.slice A9 ((mk.length+l.length)+1) c9] 127 (.slice A9 ((mk.length+l.length)+1) c9) rfl BB.symm rfl rfl B5.out rfl yq (by intro u hu;rw[xZ.1 hu];rfl) ?_;intro W2 AK Bm BC;have AJ:=hid AK;have AP:=hid Bm
            clear AK Bm BC;refine⟨fun h=>absurd h yj,?_⟩;go_frame;refine ku yq ?_ _;go_wp2_with fail;have hX:∀k,(k=a∨(Value.slice Av (mk.length+l.length) cv).ownBlock=some k)→k<W9.heap.size→(k=a∨(Value.slice Am mk.length cm).ownBlock=some k):=fun k K hs=>by
              rcases K with K|K
              ·exact .inl K
              ·rcases Au.out k K with e|e
               ·exact .inr e
               ·omega
            have Ba:But (fun k=>k=a∨(Value.slice Av (mk.length+l.length) cv).ownBlock=some k) Wn W2:=(F.weak fun _ _ h=>.inr h).trans AJ.out fun k K e=>.inl e
            have BD:W2.ownsRow B0 199 35 (.slice A9 (mk.length+l.length+1) c9) (mk.length+l.length+1) (kf jc (mk++List.replicate l.length (false,ky))++jc (false,ky)):=AJ.own AH.out fun g hg e=>by
              obtain⟨Bz,Bn⟩:=kH AH.out hg;have e2:g=a:=e;subst e2;exact ji Bn AI.out yj rfl
            have B8:zi≠a:=fun e=>by
              have h1:=A1.out;rw[e,J.box] at h1;cases h1
            have Bo:W2.heap[zi]?=some (.stringIter str (A+(Utf8.decode str A).2)):=(Ba.block zi (qX A1) fun e=>by
              rcases e with e|e
              ·exact B8 e
              ·obtain⟨cc,A7⟩:=kH Q.out e;rw[A1.out] at A7;cases A7).trans A1.out
            have Aw:=hid Bo;have Bp:ElemAt W2 b2 G b4 a x ky:=O.but Ba fun k K=>by
              rcases K with rfl|K
              ·exact⟨_,_,J.box,.inl rfl⟩
              ·obtain⟨cc,A7⟩:=kH Q.out K;exact⟨cc,_,A7,.inr rfl⟩
            go_roundw
            case rel=>
              refine⟨A+(Utf8.decode str A).2,l++[(Utf8.decode str A).1],A9,c9,by omega,by simp;omega,Aw,AO,hid ?_,hid (A8.trans Ba fun k K hx=>hX k hx K),hid ?_,hid ?_,hid fun k K=>?_,hid Bp⟩
              ·rw[AD.out,Jo hlt HO.out];cases jM str (A+(Utf8.decode str A).2)<;>simp
              ·rw[yV,xQ,←Nat.add_assoc];exact B6.out W2 AP.out
              ·rw[yV,xQ,←Nat.add_assoc,List.replicate_succ',←Yz,rowsV_snocM];exact BD
              ·rw[yV,xQ,←Nat.add_assoc] at K;rcases B4.out k K with e|e
               ·exact Au.out k e
               ·exact .inr (qT A8.size e)
            case measure=>
              simp only[World.iterPos,Aw.out,Y.out];omega
           ·have By:∀ty,(Instr.next (.pointer (some ⟨zi,0,none⟩)) true ty).run prog wr=_:=fun ty=>Lib.run_next_end_at wr zi str A ty Y.out hlt
            go_wp2_with fail
            go_end0
            have BE:zK str=l.length:=by
              unfold zK;rw[AD.out,Jn yv];simp
            refine .inl ⟨mk++List.replicate l.length (false,ky),by rw[←BE];exact I.out,rfl,(But.of_below A0).trans AE.out fun k K hx=>hx,Av,cv,?_,?_,fun k K=>?_⟩
            ·rw[yV,List.length_replicate];exact A4.out
            ·rw[yV,List.length_replicate];exact AF.out
            ·rw[yV,List.length_replicate] at K;rcases Au.out k K with e|e
             ·exact .inl e
             ·exact .inr (qT A0.size e)
     ·rw[dF h1] at AS;have N:=hid (M.trans (if_neg h1));clear h1;go_wp2_with fail
      go_end0
      exact .inl ⟨mk,N,rfl,MkTo.same HM.ad Aa D⟩
end
theorem UX(a b:List kQ):Kq (a++b)=Kq a+Kq b:=by simp [Kq]
theorem vO(r:kQ)(b:List kQ):Kq (r::b)=r.2.1.length+Kq b:=by simp [Kq]
theorem sizeR_put(d:List kQ)(i:Nat)(r:kQ):Kq (Ug d i r)=Kq d+r.2.1.length:=by
  unfold Ug
  conv=>rhs;rw[←List.take_append_drop i d]
  rw[UX,vO,UX];omega
theorem sizeR_cut(d:List kQ)(i n:Nat):Kq (zg d i n)=Kq d:=by
  unfold zg
  split
  ·rfl
  ·rename_i r A
   split
   ·rename_i D;obtain⟨B,e⟩:=yJ.1 A;have C:d=d.take i++r::d.drop (i+1):=by
      conv=>lhs;rw[←List.take_append_drop i d]
      rw[List.drop_eq_getElem_cons B,e]
    conv=>rhs;rw[C]
    simp only[UX,vO,vT,zN,Yj,List.length_drop];omega
   ·rfl
theorem sizeR_insert(d:List kQ)(key at':kE)(first:Bool)(rs:List Nat):Kq (jG d key at' first rs).1≤Kq d+rs.length:=by
  unfold jG
  split
  ·simp
  ·split
   ·split
    ·rw[sizeR_put];exact xY _
    ·simp
   ·split
    ·simp
    ·split
     ·simp
     ·split
      ·rw[sizeR_put,sizeR_cut];exact xY _
      ·simp
theorem sizeR_kill2(r:kQ)(k:kE)(n:Int)(hlt:¬r.1.2.2<k.2.2):Kq (jP r k n)=r.2.1.length:=by
  by_cases hm:jz r k n=true
  ·by_cases hb:(k.2.2+n - r.1.2.2).toNat<r.2.1.length
   ·obtain⟨e,B⟩:=kill_cut2 hm hlt hb;have A:jz (zN r (k.2.2+n - r.1.2.2).toNat) k n=false:=by
      have e:(zN r (k.2.2+n - r.1.2.2).toNat).1.2.2=k.2.2+n:=by show r.1.2.2+((k.2.2+n - r.1.2.2).toNat:Int)=k.2.2+n;omega
      unfold jz;rw[e,decide_eq_false (show ¬k.2.2+n<k.2.2+n by omega)];simp
    rw[e,Z1 A];simp only[zN,Kq,xX,List.sum_cons,Yj,List.length_drop,Yy,List.sum_nil];omega
   ·rw[kill_all hm hlt hb];simp [Kq]
  ·rw[Z1 (by simpa using hm)];simp [Kq]
theorem sizeR_kill(r:kQ)(k:kE)(n:Int)(hn:1≤n):Kq (jP r k n)=r.2.1.length:=by
  by_cases hlt:r.1.2.2<k.2.2
  ·by_cases hm:jz r k n=true
   ·obtain⟨e,B,C⟩:=kill_cut1 hm hn hlt;have A:(zN r (k.2.2 - r.1.2.2).toNat).1.2.2=k.2.2:=by show r.1.2.2+((k.2.2 - r.1.2.2).toNat:Int)=k.2.2;omega
    rw[e,vO,sizeR_kill2 _ k n (by rw[A];omega)];simp only[vT,zN,Yj,List.length_drop];omega
   ·rw[Z1 (by simpa using hm)];simp [Kq]
  ·exact sizeR_kill2 r k n hlt
theorem sizeR_delete(d:List kQ)(k:kE)(n:Int):Kq (K7 d k n).1=Kq d:=by
  unfold K7
  split
  ·rfl
  ·rename_i B
   split
   ·rfl
   ·rename_i A;clear A;show Kq (d.flatMap fun r=>jP r k n)=Kq d
    induction d with
    |nil=>rfl
    |cons r d ih=>rw[List.flatMap_cons,UX,sizeR_kill _ _ _ yv,vO,ih]
theorem Uq{p:kE→Prop}:∀{d:List kQ},RunsOf p d→d.length≤Kq d
  | [],_=>by simp [Kq]
  |r::d,h=>by
   have h1:=List.length_pos_iff.2 (h r yZ).2;have B:=Uq (d:=d) fun q A=>h q (List.mem_cons_of_mem _ A)
   rw[vO,Yx];omega
theorem sum_erase{α:Type}[DecidableEq α](f:α→Nat){x:α}:∀{l:List α},x∈l→(l.map f).sum=f x+((l.erase x).map f).sum
  | [],h=>by cases h
  |y::l,h=>by
   by_cases e:y=x
   ·subst e;simp
   ·have hx:x∈l:=by
       rcases xK.1 h with h|h
       ·exact absurd h.symm e
       ·exact h
    rw[List.erase_cons_tail (by simpa using e),xX,List.sum_cons,xX,List.sum_cons,sum_erase f hx];omega
theorem sum_sub{α:Type}[DecidableEq α](f:α→Nat):∀(L l:List α),L.Nodup→(∀x∈L,x∈l)→(L.map f).sum≤(l.map f).sum
  | [],l,_,_=>by simp
  |x::L,l,hn,hs=>by
   have hx:=hs x yZ;obtain⟨B,C⟩:=List.nodup_cons.1 hn;have D:=sum_sub f L (l.erase x) C fun y A=>(List.mem_erase_of_ne (fun e=>B (by rw[←e];exact A))).2 (hs y (List.mem_cons_of_mem _ A))
   rw[sum_erase f hx,xX,List.sum_cons];omega
def RunIx(d:List kQ):Prop:=∀r∈d,0≤r.1.2.2∧r.1.2.2+(r.2.1.length:Int)≤2147483648
section
variable {d:List kQ}
theorem RunIx.put(h:RunIx d){i:Nat}{r:kQ}(h1:0≤r.1.2.2)(h2:r.1.2.2+(r.2.1.length:Int)≤2147483648):RunIx (Ug d i r):=fun q A=>by
  unfold Ug at A;rcases xJ.1 A with A|A
  ·exact h q (YQ A)
  ·rcases xK.1 A with rfl|A
   ·exact⟨h1,h2⟩
   ·exact h q (List.mem_of_mem_drop A)
theorem ix_head{r:kQ}(h1:0≤r.1.2.2)(h2:r.1.2.2+(r.2.1.length:Int)≤2147483648)(n:Nat):0≤(vT r n).1.2.2∧(vT r n).1.2.2+((vT r n).2.1.length:Int)≤2147483648:=by
  refine⟨h1,?_⟩;show r.1.2.2+((r.2.1.take n).length:Int)≤2147483648;rw[Yj];omega
theorem ix_tail{r:kQ}(h1:0≤r.1.2.2)(h2:r.1.2.2+(r.2.1.length:Int)≤2147483648){n:Nat}(hn:n≤r.2.1.length):0≤(zN r n).1.2.2∧(zN r n).1.2.2+((zN r n).2.1.length:Int)≤2147483648:=by
  show 0≤r.1.2.2+(n:Int)∧r.1.2.2+(n:Int)+((r.2.1.drop n).length:Int)≤2147483648;rw[List.length_drop];omega
theorem RunIx.cut(h:RunIx d)(i n:Nat):RunIx (zg d i n):=by
  unfold zg
  split
  ·exact h
  ·rename_i r D;have E:r∈d:=List.mem_of_getElem? D;obtain⟨B,C⟩:=h r E
   split
   ·rename_i F;intro q A;rcases xJ.1 A with A|A
    ·exact h q (YQ A)
    ·rcases xK.1 A with rfl|A
     ·exact ix_head B C n
     ·rcases xK.1 A with rfl|A
      ·exact ix_tail B C yv
      ·exact h q (List.mem_of_mem_drop A)
   ·exact h
theorem RunIx.insert(h:RunIx d)(key at':kE)(first:Bool)(rs:List Nat):RunIx (jG d key at' first rs).1:=by
  unfold jG
  split
  ·exact h
  ·rename_i A;have B:0≤key.2.2:=by
     by_cases hq:key.2.2<0
     ·exact absurd (.inr (.inl hq)) A
     ·omega
   have C:key.2.2+(rs.length:Int)≤2147483648:=by
     by_cases hq:2147483648 - (rs.length:Int)<key.2.2
     ·exact absurd (.inr (.inr hq)) A
     ·omega
   split
   ·split
    ·exact h.put B C
    ·exact h
   ·split
    ·exact h
    ·split
     ·exact h
     ·split
      ·exact(h.cut _ _).put B C
      ·exact h
theorem RunIx.kill{r:kQ}(h1:0≤r.1.2.2)(h2:r.1.2.2+(r.2.1.length:Int)≤2147483648)(k:kE)(n:Int)(hn:1≤n):RunIx (jP r k n):=by
  have D:∀{q:kQ},0≤q.1.2.2→q.1.2.2+(q.2.1.length:Int)≤2147483648→¬q.1.2.2<k.2.2→RunIx (jP q k n):=fun {q} B C hlt=>by
    by_cases hm:jz q k n=true
    ·by_cases hb:(k.2.2+n - q.1.2.2).toNat<q.2.1.length
     ·obtain⟨e,F⟩:=kill_cut2 hm hlt hb;have E:jz (zN q (k.2.2+n - q.1.2.2).toNat) k n=false:=by
        have e:(zN q (k.2.2+n - q.1.2.2).toNat).1.2.2=k.2.2+n:=by show q.1.2.2+((k.2.2+n - q.1.2.2).toNat:Int)=k.2.2+n;omega
        unfold jz;rw[e,decide_eq_false (show ¬k.2.2+n<k.2.2+n by omega)];simp
      rw[e,Z1 E];intro x A;rcases xK.1 A with rfl|A
      ·exact ix_head B C _
      ·rw[xZ] at A;subst A;exact ix_tail B C yv
     ·rw[kill_all hm hlt hb];intro x A;rw[xZ] at A;subst A;exact⟨B,C⟩
    ·rw[Z1 (by simpa using hm)];intro x A;rw[xZ] at A;subst A;exact⟨B,C⟩
  by_cases hlt:r.1.2.2<k.2.2
  ·by_cases hm:jz r k n=true
   ·obtain⟨e,F,G⟩:=kill_cut1 hm hn hlt;obtain⟨B,C⟩:=ix_tail h1 h2 (n:=(k.2.2 - r.1.2.2).toNat) yv;rw[e];intro x A;rcases xK.1 A with rfl|A
    ·exact ix_head h1 h2 _
    ·refine D B C ?_ x A;show ¬r.1.2.2+((k.2.2 - r.1.2.2).toNat:Int)<k.2.2;omega
   ·rw[Z1 (by simpa using hm)];intro x A;rw[xZ] at A;subst A;exact⟨h1,h2⟩
  ·exact D h1 h2 hlt
theorem RunIx.delete(h:RunIx d)(k:kE)(n:Int):RunIx (K7 d k n).1:=by
  unfold K7
  split
  ·exact h
  ·split
   ·exact h
   ·intro q A;obtain⟨r,B,A⟩:=List.mem_flatMap.1 A;exact RunIx.kill (h r B).1 (h r B).2 k n yv q A
theorem RunIx.len(h:RunIx d){r:kQ}(hr:r∈d):r.2.1.length≤2147483648:=by
  obtain⟨A,B⟩:=h r hr;omega
end
section
open Go.RowKit
def ZW(r:zk)(g off n:Nat):zk:=(r.1,.slice (some ⟨g,off,none⟩) n n,r.2.2.1.take n,r.2.2.2)
def ZX(r:zk)(g off cap n:Nat):zk:=(vy r.1 (n:Int),.slice (some ⟨g,off+n,none⟩) (r.2.2.1.length - n) (cap - n),r.2.2.1.drop n,r.2.2.2)
theorem headM_of(r:zk)(g off n:Nat):kA (ZW r g off n)=vT (kA r) n:=rfl
theorem tailM_of(r:zk)(g off cap n:Nat):kA (ZX r g off cap n)=zN (kA r) n:=rfl
theorem laterD_ok{k:kE}(h:kJ k){n:Nat}(h0:0≤k.2.2)(h1:k.2.2+(n:Int)≤2147483648):kJ (vy k (n:Int)):=⟨h.1,h.2.1,by
  show (Lit.int .i64 (k.2.2+(n:Int))).wf=true;simp only[Lit.wf,IntKind.min,IntKind.max,IntKind.signed,IntKind.bits,xy];simp;omega⟩
section
variable {w:World} {r:zk} {g off cap n:Nat}
theorem RunIn.head(h:RunIn w r)(hv:r.2.1=.slice (some ⟨g,off,none⟩) r.2.2.1.length cap)(h0:0<n)(hn:n<r.2.2.1.length):RunIn w (ZW r g off n):=by
  refine⟨h.1,?_,fun e=>?_⟩
  ·have:=h.2.1;rw[hv] at this;exact this.take yv
  ·have:=congrArg List.length e;simp only[ZW,Yj,YJ] at this;omega
theorem RunIn.tail(h:RunIn w r)(hv:r.2.1=.slice (some ⟨g,off,none⟩) r.2.2.1.length cap)(hn:n<r.2.2.1.length)(hx:0≤r.1.2.2)(hy:r.1.2.2+(r.2.2.1.length:Int)≤2147483648):RunIn w (ZX r g off cap n):=by
  refine⟨laterD_ok h.1 hx yv,?_,fun e=>?_⟩
  ·have:=h.2.1;rw[hv] at this;exact this.drop yv
  ·have:=congrArg List.length e;simp only[ZX,List.length_drop,YJ] at this;omega
end
theorem cutM_map{rs:List zk}{i n:Nat}(hi:i<rs.length)(h0:0<n)(hn:n<rs[i].2.2.1.length)(g off cap:Nat):
    (rs.take i++ZW rs[i] g off n::ZX rs[i] g off cap n::rs.drop (i+1)).map kA=zg (rs.map kA) i n:=by
  unfold zg;rw[List.getElem?_map,yK hi];simp only[Option.map_some];rw[if_pos ⟨h0,hn⟩];simp only[List.map_append,xX,List.map_take,List.map_drop,headM_of,tailM_of]
theorem cut_same{d:List kQ}{i n:Nat}{r:kQ}(hr:d[i]?=some r)(h:n=0∨r.2.1.length≤n):zg d i n=d:=by
  unfold zg;rw[hr];dsimp only;rw[if_neg yv]
theorem put_set{α:Type}{l:List α}{i:Nat}(hi:i<l.length)(a b:α):((l.take (i+1)++b::l.drop (i+1)).take i++a::(l.take (i+1)++b::l.drop (i+1)).drop (i+1))=l.take i++a::b::l.drop (i+1):=by
  have A:(l.take (i+1)).length=i+1:=by rw[Yj];omega
  rw[List.take_append_of_le_length yv,List.take_take,Nat.min_eq_left yv,List.drop_append_of_le_length yv,List.drop_of_length_le yv];rfl
end
section
open Go.RowKit Go.Maps
open Lib (hid)
def DTurn(w:World)(B p:Nat)(v:Value)(d:List kQ)(w':World):Prop:=∃v',DocAt w' B p v' d∧But (DocX p v) w w'∧Newer w v v'
theorem DTurn.same{w w':World}{B p:Nat}{v:Value}{d:List kQ}(h:DocAt w B p v d)(hb:Below w.heap.size w w'):DTurn w B p v d w':=⟨v,h.keep hb,But.of_below hb,Newer.refl _ _⟩
theorem DTurn.trans{w w' w2:World}{B p:Nat}{v v':Value}{d':List kQ}(h1:But (DocX p v) w w')(h2:Newer w v v')(hs:w.heap.size≤w'.heap.size)(k:DTurn w' B p v' d' w2):DTurn w B p v d' w2:=by
  obtain⟨A,C,D,E⟩:=k;exact⟨A,C,h1.trans D fun j F G=>DocX.of h2 F G,h2.trans E hs⟩
theorem DocRows.set{w w':World}{B p:Nat}{rs:List zk}{i:Nat}{x:zk}{g c:Nat}{tail:List Value}(h:DocRows w B p (.slice (some ⟨g,0,none⟩) rs.length c) rs)(hi:i<rs.length)(hx:RunIn w x)(hB:B≤g)(hc:rs.length≤c)(hm:c≤maxLen)(ht:tail.length=(c - rs.length)*36)
    (hg:w'.heap[g]?=some (.cells (kf kY (rs.take i)++(kY x++(kf kY (rs.drop (i+1))++tail))).toArray 177 (0,0))) {cur:Array Value} (hgw:w.heap[g]?=some (.cells cur 177 (0,0))) (hb:But (fun k=>k=g) w w'):
    DocRows w' B p (.slice (some ⟨g,0,none⟩) (rs.take i++x::rs.drop (i+1)).length c) (rs.take i++x::rs.drop (i+1)):=by
  obtain⟨s,t,E⟩:=h.box;have G:p≠g:=ji E hgw yj;have D:(rs.take i++x::rs.drop (i+1)).length=rs.length:=by simp;omega
  have I:KeepR w w':=KeepR.but hb fun k J K L M H A=>by
    subst J;rw[hgw] at A;injection A with A;injection A with _ A;subst A;exact absurd H yj
  have F:∀r∈rs.take i++x::rs.drop (i+1),RunIn w r:=fun r C=>by
    rcases xJ.1 C with C|C
    ·exact h.ins r (YQ C)
    ·rcases xK.1 C with rfl|C
     ·exact hx
     ·exact h.ins r (List.mem_of_mem_drop C)
  refine⟨⟨s,t,by rw[D];exact(hb.block p (qX E) G).trans E⟩,h.low,fun r C=>(F r C).keep I,?_⟩;rw[D];refine Qt (by rw[jb (vH F),D]) hB ?_ hc hm ht;rw[hg];simp [kf]
theorem ex_slice_hm{P:Program}{ρ:Operand→Value}{o:Oper}{w:World}(t:TypeId)(x hi mx:Operand)(ho:o.op=.slice t x none (some hi) (some mx)){A:Option Addr}{n c h m:Nat}{kh km:IntKind}(hx:ρ x=.slice A n c)(hh:ρ hi=.int kh (h:Int))(hm:ρ mx=.int km (m:Int))
    (ht:P.underlying t=some (.slice (P.elem t))) {size:Nat} (hs:(P.info? (P.elem t)).map (·.size)=some size) (h1:h≤m) (h2:m≤c) {V:Value} (hV:sliced A 0 h m size=V):
    (execOp ρ o).run P w=.ok (.value V) w:=by
  subst hV;have B:=run_slice_hm (w:=w) t A n c ht kh km (h:Int) (m:Int) yv yv yv;rw[vM hs] at B;simp only[Result.andThen,Int.toNat_natCast] at B;have C:=run_sliceAt_slice w t (.slice A n c) none (some (.int kh (h:Int))) (some (.int km (m:Int))) ht;rw[B] at C;unfold execOp;simp only[ho,hx,hh,hm,Option.map_some,Option.map_none,Sem.run_bind,C,Result.andThen_ok,Sem.run_pure]
theorem infoI32:(prog.info? 21).map (·.size)=some 1:=yq
theorem run_built(k:kE)(hk:kJ k)(x:Value)(hx:x.oneCell'=true)(d:Bool)(w:World):(Instr.build 177 #[(0,.agg (kc k).toArray),(1,x),(2,.bool d)]).run prog w=.ok (.agg (kc k++([x]++[Value.bool d])).toArray) w:=by
  obtain⟨j,C,D,_,_⟩:=info_parts infoRun;have A:x.cells=#[x]:=by cases x<;>first|rfl|cases hx
  have h:=zl (P:=prog) C underlying177 D [kc (0,k9,0),[.slice none 0 0],[.bool false]] rfl (places:=[(0,34),(34,1),(35,1)]) yq yq [(0,.agg (kc k).toArray),(1,x),(2,.bool d)] (by
    intro q B;simp only[xK,YY,or_false] at B;rcases B with rfl|rfl|rfl
    ·exact⟨by show 0<3;omega,by show (kc k).toArray.size=34;rw[xz,ke hk]⟩
    ·exact⟨by show 1<3;omega,by show x.cells.size=1;rw[A];rfl⟩
    ·exact⟨by show 2<3;omega,rfl⟩)
  have E:=run_build (P:=prog) w 177 #[(0,.agg (kc k).toArray),(1,x),(2,.bool d)] _ h;refine E.trans ?_;have F:(Value.agg (kc k).toArray).cells=(kc k).toArray:=rfl;have G:(Value.bool d).cells=#[.bool d]:=rfl;simp [F,G,A]
theorem dcut_mid(rs:List zk)(i m:Nat)(B p:Nat)(v:Value)(w:World)(h:DocRows w B p v rs)(hi:i<rs.length)(h0:0<m)(hm:m<rs[i].2.2.1.length)(hx:0≤rs[i].1.2.2)(hy:rs[i].1.2.2+(rs[i].2.2.1.length:Int)≤2147483648)(hl:rs.length≤1073741823):
    Calls prog 158 #[.pointer (some ⟨p,0,none⟩),.int .i64 (i:Int),.int .i64 (m:Int)] w fun e w'=>e=.returned (.tuple #[])∧DTurn w B p v (zg (rs.map kA) i m) w':=by
  have HD:=hid h;have Bf:=h.lt;have W:=hid fun g off D=>cutM_map (rs:=rs) (i:=i) (n:=m) hi h0 hm g off D
  have B1:=hid (yK hi);obtain⟨g,c',B3,AH,Bg,B4⟩:=h.row hi;have M:=hid (h.ins _ (yQ hi));have X:=hid AH;clear h AH B4;generalize rs[i]=r at *;subst B3;have AI:=jw M.out;have Ax:=hid (KQ r M.2.1.one);obtain⟨C,off,D,Bh,fr,Aj,Bi,Bj,_,_⟩:=M.2.1;have HK:Hid (kJ r.1):=hid M.1;have N:Hid (RunIn w (ZX r C off D m)):=hid (M.tail Aj hm hx hy);have Y:Hid (RunIn w (ZW r C off m)):=hid (M.head Aj h0 hm);obtain⟨p0,p1,p2,p3,p4,p5⟩:=KS M.1;have P3:=hid (p3.trans (congrArg some Aj));have P4:=hid p4;have P5:=hid p5
  have B2:=hid Aj;have A8:=hid (fun w=>later_any r.1 (m:Int) w M.1 (by unfold Ix;omega) (by unfold Ix;omega));clear p0 p1 p2 p3 p4 p5 Aj hx hy;have i0:(0:Int)≤(i:Int):=yv;have i1:(i:Int)<(rs.length:Int):=yv;have c0:w.cell? ⟨p,0,none⟩=some (.slice (some ⟨g,0,none⟩) rs.length c'):=by
    obtain⟨s,t,hb⟩:=HD.box;exact k6 hb 0
  go_enter func158,ntmps158
  go_upto_region 1 with (first
    |(with_reducible refine k8 ?_
      refine kZ rfl 177 _ rfl g _ rfl (kY r) _ X.out underlying177 rfl (by rw[AI];exact jX) ?_)
    |(with_reducible refine kF ?_
      refine kv yk 177 rfl runZ (JL _) ?_;intro W6 A9 Aa Ab)
    |(with_reducible refine kD ?_
      refine kr yk 177 _ _ rfl w.heap.size 0 [] runZ [] (kY r) 177 _ rfl rfl rfl rfl (by simpa using Aa.out) (by rw[AI];rfl) (by rw[AI];exact jX) Ax.out ?_;intro G Ac B5 Bk;have O:Hid (G.heap[w.heap.size]?=some (.cells (kY r).toArray 177 (0,0))):=hid (by simpa using B5.out)))
  have Z:Hid (Below w.heap.size w G):=hid (A9.trans (Ac.below (by have:=Ab.out;omega) (fun k hk e=>by omega)));obtain⟨b6,B6⟩:=Xy w.heap.size;have Ay:=hid (show w.heap.size≤G.heap.size from Z.size);rw[B6] at O ⊢;clear c0 A9 Aa Ab Ac;have B7:G.cell? ⟨b6,34,none⟩=some (.slice (some ⟨C,off,none⟩) r.2.2.1.length D):=(k6 O 34).trans P3.out;have j0:¬m=0:=yv;have j1:¬r.2.2.1.length≤m:=yv
  go_upto_region 2 with fail
  clear B7;have a:Hid (∀u:World,Below G.heap.size G u→u.rangeAt b6 0 (kc r.1)∧u.cell? ⟨b6,34,none⟩=some (.slice (some ⟨C,off,none⟩) r.2.2.1.length D)∧u.cell? ⟨b6,35,none⟩=some (.bool r.2.2.2)):=hid fun u hu=>by
    have hZ:=(hu.block b6 (qX O)).trans O.out;exact⟨fun j u2 hj=>(k6 hZ (0+j)).trans (P5 j u2 hj),(k6 hZ 34).trans P3,(k6 hZ 35).trans P4⟩
  refine rN 11 (fun u=>Below G.heap.size G u) (qD _ _) fun V=>?_
  refine tw 0 _ ?_;go_frame;refine tl 1 _ rfl V (fun w' A=>ldK HK (a w' A).1) ?_;go_frame;refine tw 2 _ ?_;go_frame;refine tl 3 _ rfl V (fun w' A=>l1 underlying175 (a w' A).2.1) ?_;go_frame;refine tw 4 _ ?_;go_frame;refine tw 5 _ ?_;go_frame;refine tk 6 (.slice (some ⟨C,off,none⟩) m m) rfl (fun w' A=>ex_slice_hm 175 _ _ _ rfl rfl rfl rfl underlying175 infoI32 (qR _) yv (by simp [sliced,Addr.add])) ?_;go_frame;refine tw 7 _ ?_;go_frame;refine tl 8 _ rfl V (fun w' A=>l1 underlying4 (a w' A).2.2) ?_;go_frame;refine tk 9 (.agg (kY (ZW r C off m)).toArray) rfl (fun w' A=>kp 177 _ rfl (by simp only[xV,xX,Yy];exact run_built r.1 HK.out _ rfl _ _)) ?_;go_frame;refine ta 10 ?_;refine zJ _ rfl yq 177 rfl runZ (JL _) ?_;intro W8 Ar AQ AR;have R:=hid Ar;have Ad:=hid AQ;have Az:=hid AR
  clear Ar AQ AR;refine⟨fun _ _=>(qD G.heap.size G).trans (R.mono (qD G.heap.size G).size),?_⟩;go_frame;refine ta 11 ?_;have AJ:=jw Y.out;have Ae:=hid (KQ _ Y.2.1.one);refine kR _ rfl yq 177 _ _ rfl G.drew.heap.size 0 [] runZ [] (kY (ZW r C off m)) 177 (.agg (kY (ZW r C off m)).toArray) rfl rfl rfl rfl (by simpa using Ad.out) (by rw[AJ];rfl) (by rw[AJ];exact jX) Ae.out ?_;intro K AS AT B8;have d:=hid (((qD G.heap.size G).trans (R.mono (qD G.heap.size G).size)).trans (AS.below (B:=G.heap.size) (qT (qD G.heap.size G).size R.size) (fun k hk e=>by
    have e2:k=G.drew.heap.size:=e;have e3:G.drew.heap.size=G.heap.size:=rfl;omega)))
  have S:Hid (K.heap[G.drew.heap.size]?=some (.cells (kY (ZW r C off m)).toArray 177 (0,0))):=hid (by simpa using AT);clear AS AT B8;refine⟨fun h=>absurd h yj,?_⟩;go_frame;refine ku yq ?_ _;obtain⟨b8,Ar⟩:=Xy G.drew.heap.size;rw[Ar] at S ⊢;have T:=hid fun u (hu:Below K.heap.size K u)=>a.out u (Xx d.out hu)
  clear R Ad Az V
  go_upto_region 3 with fail
  have AU:=enE func89 rfl;have Ak:=jw N.out;have Af:=hid (KQ _ N.2.1.one);have U:=hid (qD K.heap.size K)
  go_cut [8] from 35 to 45 (fun t8 wx=>∃As,t8=.pointer (some ⟨As,0,none⟩)∧Hid (Below K.heap.size K wx)∧Hid (wx.heap[As]?=some (.cells (kY (ZX r C off D m)).toArray 177 (0,0))))
  case first=>
    refine rN 12 (fun u=>Below K.heap.size K u) U.out fun V=>?_
    refine tw 0 _ ?_;go_frame;refine tl 1 _ rfl V (fun w' A=>ldK HK (T w' A).1) ?_;go_frame;refine tw 2 _ ?_;go_frame;refine tw 4 _ ?_;go_frame;refine tl 5 _ rfl V (fun w' A=>l1 underlying175 (T w' A).2.1) ?_;go_frame;refine tw 6 _ ?_;go_frame;refine tk 7 (.slice (some ⟨C,off+m,none⟩) (r.2.2.1.length - m) (D - m)) rfl (fun w' A=>uW 175 _ _ rfl rfl rfl underlying175 infoI32 yv (by rw[sliced,if_neg (show ¬D=m by omega)];simp [Addr.add];omega)) ?_;go_frame;refine tw 8 _ ?_;go_frame;refine tl 9 _ rfl V (fun w' A=>l1 underlying4 (T w' A).2.2) ?_;go_frame;refine uT (rs:=[3,11]) yq yZ ?_;intro q hq;simp only[xK,YY,or_false] at hq;rcases hq with rfl|rfl
    focus
      refine tc #[.agg (kc r.1).toArray,.int .i64 (m:Int)] AU rfl ?_;refine(A8 _).mono ?_;rintro e u3 ⟨A3,rfl⟩;have H:=hid (Xx U.out A3);clear A3;refine⟨_,rfl,fun _ _=>H,?_⟩;go_frame;refine tk 10 (.agg (kY (ZX r C off D m)).toArray) rfl (fun w' A=>kp 177 _ rfl (by simp only[xV,xX,Yy];exact run_built _ N.1 _ rfl _ _)) ?_;go_frame;refine ta 11 ?_;refine zJ _ rfl yq 177 rfl runZ (JL _) ?_;intro AK A0 A1 Ap;have E:=hid (Xx H.out A0);have Q:=hid A1
      have f:=hid (show u3.heap.size<AK.heap.size by omega);clear A0 A1 Ap;refine⟨fun _ _=>E,?_⟩;go_frame;have o:=hid (show K.heap.size≤u3.heap.size from H.size);refine ta 12 ?_;refine kR _ rfl yq 177 _ _ rfl u3.heap.size 0 [] runZ [] (kY (ZX r C off D m)) 177 (.agg (kY (ZX r C off D m)).toArray) rfl rfl rfl rfl (by simpa using Q.out) (by rw[Ak];rfl) (by rw[Ak];exact jX) Af.out ?_;intro AL A4 A5 AM;have F:=hid (E.trans (A4.below (B:=K.heap.size) E.size (fun k hk e=>by
        have e2:k=u3.heap.size:=e;have h1:=o.out;omega)))
      have J:Hid (AL.heap[u3.heap.size]?=some (.cells (kY (ZX r C off D m)).toArray 177 (0,0))):=hid (by simpa using A5)
    rotate_left
    focus
      refine zJ _ rfl yq 177 rfl runZ (JL _) ?_;intro AK A0 A1 Ap;have E:=hid (Xx U.out A0);have Q:=hid A1
      have f:=hid (show K.drew.heap.size<AK.heap.size by omega);clear A0 A1 Ap;refine⟨fun _ _=>E,?_⟩;go_frame;have o:=hid (show K.heap.size≤K.drew.heap.size from U.size);refine ta 3 ?_;refine tc #[.agg (kc r.1).toArray,.int .i64 (m:Int)] AU rfl ?_;refine(A8 _).mono ?_;rintro e u3 ⟨A3,rfl⟩;have AA:=hid ((A3.block K.drew.heap.size f).trans Q);have H:=hid (Xx E.out A3);clear A3;refine⟨_,rfl,fun _ _=>H,?_⟩;go_frame;refine tk 10 (.agg (kY (ZX r C off D m)).toArray) rfl (fun w' A=>kp 177 _ rfl (by simp only[xV,xX,Yy];exact run_built _ N.1 _ rfl _ _)) ?_;go_frame;refine ta 12 ?_;refine kR _ rfl yq 177 _ _ rfl K.drew.heap.size 0 [] runZ [] (kY (ZX r C off D m)) 177 (.agg (kY (ZX r C off D m)).toArray) rfl rfl rfl rfl (by simpa using AA.out) (by rw[Ak];rfl) (by rw[Ak];exact jX) Af.out ?_;intro AL A4 A5 AM;have F:=hid (H.trans (A4.below (B:=K.heap.size) H.size (fun k hk e=>by
        have e2:k=K.drew.heap.size:=e;have h1:=o.out;omega)))
      have J:Hid (AL.heap[K.drew.heap.size]?=some (.cells (kY (ZX r C off D m)).toArray 177 (0,0))):=hid (by simpa using A5)
    all_goals
      clear A4 A5 AM;refine⟨fun h=>absurd h yj,?_⟩;go_frame;refine ku yq ?_ _;go_wp2_with fail
      go_meet
      case rel=>exact⟨_,rfl,F,J⟩
  case rest=>
    obtain⟨As,rfl,F,J⟩:=hcut;have y:=hid ((F.block b8 (qX S)).trans S);have P:Hid (Below w.heap.size w wc):=hid (Z.trans ((Xx d.out F.out).mono Z.size));have Ag:=hid (HD.keep P);have AB:Hid (RunIn wc (ZX r C off D m)):=hid (N.keep (KeepR.below P));have AC:Hid (wc.rangeAt As 0 (kY (ZX r C off D m))):=hid fun j u hj=>by rw[qZ];exact(k6 J j).trans hj
    have ew:IntKind.i64.wrap ((i:Int)+1)=((i+1:Nat):Int):=by rw[IntWalk.i64_in _ yv];omega
    clear a T X O F d S;have AD:=hid (show ¬DocX p (.slice (some ⟨g,0,none⟩) rs.length c') b8 from fun q=>by
      have h1:=Ay.out;have h2:G.drew.heap.size=G.heap.size:=rfl;rcases q with q|q
      ·omega
      ·have:g=b8:=by simpa [Value.ownBlock] using q
       omega)
    have Aq:=AJ
    go_upto_region 5 with (first
      |(refine k7 yk (ldU Ak AC) ?_)
      |(go_at_call 159;refine(put_run rs (i+1) _ B p _ wc Ag AB yv yv).mono ?_;rintro e At ⟨rfl,v',AV,Au,AW⟩;have I:=hid AV;have z:=hid Au;have Ah:=hid AW
        clear AV Au AW))
    have Al:=hid ((z.block b8 (qX y) AD).trans y);have AE:Hid (RunIn At (ZW r C off m)):=hid ((Y.keep (KeepR.below P)).keep (KeepR.but z Ag.at.noRunes));obtain⟨L,A6⟩:∃x,rs.take (i+1)++ZX r C off D m::rs.drop (i+1)=x:=⟨_,rfl⟩;have Be:L.length=rs.length+1:=by rw[←A6];simp;omega
    have AF:Hid ((L.take i++ZW r C off m::L.drop (i+1)).map kA=zg (rs.map kA) i m):=hid (by
      rw[←A6,put_set hi];exact W.out C off D)
    rw[A6] at I;obtain⟨g1,c1,AP,rfl,B9,A7,Ba,Bb,Bc⟩:=KP I.own yv;have Av:i<L.length:=yv;rw[(rows_set (enc:=kY) (vH I.ins) Av (r:=ZW r C off m)).1] at A7;simp only[Yz] at A7;have Ai:=hid A7;have Bd:=jw (I.ins _ (yQ Av));have AX:=jb (enc:=kY) (sz:=36) (l:=L.take i) (vH fun x hx=>I.ins x (YQ hx));rw[Yj,Nat.min_eq_left yv] at AX;clear A7 A6 W;obtain⟨Bl,Bm,Aw⟩:=I.box;have Am:Hid (At.rangeAt b8 0 (kY (ZW r C off m))):=hid fun j u hj=>by rw[qZ];exact(k6 Al j).trans hj
    have AG:=hid (k6 Aw 0);clear Aw;refine rN 7 (fun u=>u.cell? ⟨p,0,none⟩=some (.slice (some ⟨g1,0,none⟩) L.length c1)∧u.rangeAt b8 0 (kY (ZW r C off m))) ⟨AG,Am⟩ fun AY=>?_
    refine tw 0 _ ?_;go_frame;refine tw 1 _ ?_;go_frame;refine tw 2 _ ?_;go_frame;refine tl 3 _ rfl AY (fun w' A=>l1 underlying190 A.1) ?_;go_frame;refine tw 4 _ ?_;go_frame;refine tl 5 _ rfl AY (fun w' A=>ldU Aq A.2) ?_;go_frame;refine tk 6 _ rfl (fun w' A=>zR 190 _ _ rfl (b:=g1) (off:=0) (q:=i) (n:=L.length) (c:=c1) rfl rfl Av underlying190 jX) ?_;go_frame;refine ta 7 ?_;refine kR _ rfl yq 177 _ _ rfl g1 (0+i*36) (kf kY (L.take i)) (kY L[i]) (kf kY (L.drop (i+1))++AP) (kY (ZW r C off m)) 177 (.agg (kY (ZW r C off m)).toArray) rfl (by rw[AX,Nat.zero_add]) rfl rfl Ai.out (by rw[Bd,Aq]) (by rw[Aq];exact jX) Ae.out ?_;intro AN A2 AO AZ;have An:=hid A2;have Ao:=hid AO
    clear A2 AO AZ;refine⟨fun h=>absurd h yj,?_⟩;go_frame;refine ku yq ?_ _;go_wp2_with fail
    go_end0
    have A2:But (fun k=>k=g1) At AN:=(But.refl _ At).drew.trans An.out fun k _ q=>q
    have B0:=I.set Av AE.out B9 Ba Bb Bc Ao.out Ai.out A2;have hd:DocAt AN B p (.slice (some ⟨g1,0,none⟩) (L.take i++ZW r C off m::L.drop (i+1)).length c1) (zg (rs.map kA) i m):=by rw[←AF.out];exact B0.at
    have Au:But (DocX p (.slice (some ⟨g,0,none⟩) rs.length c')) wc AN:=z.trans A2 fun k hk e=>by
      subst e;rcases Ah.out k rfl with q|q
      ·exact .inr q
      ·omega
    exact⟨rfl,DTurn.trans (But.of_below P) (Newer.refl _ _) P.size ⟨_,hd,Au,fun k hk=>Ah k (by simpa [Value.ownBlock] using hk)⟩⟩
theorem cut_same_run(rs:List zk)(i m:Nat)(B p:Nat)(v:Value)(w:World)(h:DocRows w B p v rs)(hi:i<rs.length)(hm:m=0∨rs[i].2.2.1.length≤m)(hl:rs.length≤1073741823):
    Calls prog 158 #[.pointer (some ⟨p,0,none⟩),.int .i64 (i:Int),.int .i64 (m:Int)] w fun e w'=>e=.returned (.tuple #[])∧Below w.heap.size w w':=by
  have N:=hid h;have n:=h.lt;obtain⟨g,W,P,K,o,Q⟩:=h.row hi;have A:=hid (h.ins _ (yQ hi));have I:=hid K;clear h K Q;generalize rs[i]=r at *;subst P;have L:=jw A.out;have J:=hid (KQ r A.2.1.one);obtain⟨X,R,S,q,fr,M,u,x,_,_⟩:=A.2.1;obtain⟨Y,Z,a,T,b,c⟩:=KS A.1;have d:=hid (T.trans (congrArg some M));clear Y Z a T b c M;have i0:(0:Int)≤(i:Int):=yv;have i1:(i:Int)<(rs.length:Int):=yv;have f:w.cell? ⟨p,0,none⟩=some (.slice (some ⟨g,0,none⟩) rs.length W):=by
    obtain⟨s,t,j⟩:=N.box;exact k6 j 0
  go_enter func158,ntmps158
  go_upto_region 1 with (first
    |(with_reducible refine k8 ?_
      refine kZ rfl 177 _ rfl g _ rfl (kY r) _ I.out underlying177 rfl (by rw[L];exact jX) ?_)
    |(with_reducible refine kF ?_
      refine kv yk 177 rfl runZ (JL _) ?_;intro W6 C D E)
    |(with_reducible refine kD ?_
      refine kr yk 177 _ _ rfl w.heap.size 0 [] runZ [] (kY r) 177 _ rfl rfl rfl rfl (by simpa using D.out) (by rw[L];rfl) (by rw[L];exact jX) J.out ?_;intro O F U y;have G:Hid (O.heap[w.heap.size]?=some (.cells (kY r).toArray 177 (0,0))):=hid (by simpa using U.out)))
  have H:Hid (Below w.heap.size w O):=hid (C.trans (F.below (by have:=E.out;omega) (fun k hk e=>by omega)));obtain⟨l,V⟩:=Xy w.heap.size;rw[V] at G ⊢;clear f C D E F;have z:O.cell? ⟨l,34,none⟩=some (.slice (some ⟨X,R,none⟩) r.2.2.1.length S):=(k6 G 34).trans d.out;by_cases h0:m=0
  ·clear hm;subst h0;go_wp2_with fail;refine bodyPost_ret (results_none yq _ _ _) rfl ?_;exact⟨rfl,H⟩
  ·have j1:r.2.2.1.length≤m:=yv;clear hm;go_wp2_with fail;refine bodyPost_ret (results_none yq _ _ _) rfl ?_;exact⟨rfl,H⟩
theorem cut_any(d:List kQ)(i m:Nat)(B p:Nat)(v:Value)(w:World)(h:DocAt w B p v d)(hi:i<d.length)(hx:RunIx d)(hl:d.length≤1073741823):
    Calls prog 158 #[.pointer (some ⟨p,0,none⟩),.int .i64 (i:Int),.int .i64 (m:Int)] w fun e w'=>e=.returned (.tuple #[])∧DTurn w B p v (zg d i m) w':=by
  obtain⟨A,rfl,C⟩:=h.runs;rw[Yv] at hi hl;obtain⟨D,E⟩:=hx (kA A[i]) (List.mem_map_of_mem (yQ hi));by_cases hm:0<m∧m<A[i].2.2.1.length
  ·exact dcut_mid A i m B p v w C hi hm.1 hm.2 D E hl
  ·have e:zg (A.map kA) i m=A.map kA:=cut_same (r:=kA A[i]) (by rw[List.getElem?_map,yK hi];rfl) (by show m=0∨A[i].2.2.1.length≤m;omega);rw[e];exact(cut_same_run A i m B p v w C hi yv hl).mono fun e w' ⟨F,G⟩=>⟨F,DTurn.same h G⟩
end
section
open Go.RowKit Go.Maps
theorem ex_lssB{P:Program}{ρ:Operand→Value}{o:Oper}{w:World}(x y:Operand)(t':TypeId)(ho:o.op=.binOp .lss 3 x y t'){m n:Int}(hx:ρ x=.int .i64 m)(hy:ρ y=.int .i64 n){r:Bool}(hr:decide (m<n)=r):(execOp ρ o).run P w=.ok (.value (.bool r)) w:=by
  subst hr;unfold execOp;simp only[ho,hx,hy];rfl
theorem UY{P:Program}{ρ:Operand→Value}{o:Oper}{w:World}(x y:Operand)(t':TypeId)(ho:o.op=.binOp .gtr 3 x y t'){m n:Int}(hx:ρ x=.int .i64 m)(hy:ρ y=.int .i64 n){r:Bool}(hr:decide (n<m)=r):(execOp ρ o).run P w=.ok (.value (.bool r)) w:=by
  subst hr;unfold execOp;simp only[ho,hx,hy];rfl
theorem RuneAt.of_own{w:World}{B c:Nat}{A:Option Addr}{l:List Nat}(h:w.ownsRow B 21 1 (.slice A l.length c) l.length (Qv l))(hl:0<l.length):RuneAt w (.slice A l.length c) l:=by
  obtain⟨g,I,D,E,_,F,G,H,_⟩:=KP h hl;injection E with e1 _ e2;subst e1 e2;refine⟨g,0,c,_,_,rfl,G,H,F,fun j u C=>?_⟩;rw[Nat.zero_add,List.getElem?_toArray,xv (yJ.1 C).1];exact C
def Ur(w:World)(B p:Nat)(v:Value)(d:List kQ)(e:Ending)(w':World):Prop:=(∃n:Int,e=.returned (.int .i64 n))∧DTurn w B p v d w'
theorem insert_bad(d:List kQ)(key at':kE)(s:ByteArray)(l:List Nat)(B p:Nat)(v:Value)(w:World)(h:DocAt w B p v d)(hk:kJ key)(ha:kJ at')(hix:RunIx d)(hl:d.length≤1073741822)(hs:s.size≤1099511627776)(hr:jH s=some l)(hln:l.length≤1099511627776)(hkx:Ix key.2.2)(first:Bool)(hb:l=[]∨key.2.2<0∨2147483648 - (l.length:Int)<key.2.2):
    Calls prog 101 #[.pointer (some ⟨p,0,none⟩),.agg (kc key).toArray,.agg (kc at').toArray,.bool first,.string s] w (Ur w B p v (jG d key at' first l).1):=by
  have P:=Lib.hid h;have Z:=Lib.hid hk;have u:=Lib.hid ha;have g:=Lib.hid hix;have L:=Lib.hid hr
  have A0:=h.lt;have o:=ke hk;have q:=ke ha;clear h hk ha hix hr;unfold Ix at hkx;obtain⟨a,b,O⟩:=key;dsimp only at hkx;obtain⟨y,r,z⟩:=Jd Z.out;have Q1:=Lib.hid r;clear y r z;go_enter func101,ntmps101
  go_upto_region 1 with (first
    |(with_reducible refine kG ?_
      refine kz yk 89 _ rfl (kc (a,b,O)) _ rfl rfl (by rw[o];kernel_rfl) ?_;intro W0 G H Q)
    |(with_reducible refine kG ?_
      refine kz yk 89 _ rfl (kc at') _ rfl rfl (by rw[q];kernel_rfl) ?_;intro W1 I D R))
  obtain⟨f,V⟩:=Xy w.heap.size;obtain⟨t,W⟩:=Xy W0.heap.size;have M:=Lib.hid (Xx G.out I.out);have E:=Lib.hid ((I.block w.heap.size (qX H)).trans H);rw[V] at E ⊢;rw[W] at D ⊢;have i:=Lib.hid (show w.heap.size≤f by omega);have j:=Lib.hid (show w.heap.size≤t by have:=G.size;omega);clear G I Q R V W H
  go_upto_region 2 with (first
    |(go_at_call 155;refine(Q8 s W1 hs).mono ?_;rintro e U ⟨X,⟨K,A,c,N,rfl,Y⟩|⟨N,_⟩⟩
      rotate_left
      ·exact absurd (L.symm.trans N) yZ
      obtain rfl:K=l:=Option.some.inj (N.symm.trans L);have F:=Lib.hid X;have x:=Lib.hid Y
      clear X Y N))
  have S:=Lib.hid ((F.block f (qX E)).trans E);have k:=Lib.hid ((F.block t (qX D)).trans D);have J:Hid (Below w.heap.size w U):=Lib.hid (Xx M.out F.out);have A1:U.cell? ⟨f,33,none⟩=some (.int .i64 O):=(k6 S 33).trans Q1.out;have m:=Lib.hid (P.keep J);clear E D F M;have A2:IntKind.i64.wrap (2147483647 - (K.length:Int))=2147483647 - (K.length:Int):=IntWalk.i64_in _ yv;have A3:IntKind.i64.wrap (2147483647 - (K.length:Int)+1)=2147483648 - (K.length:Int):=by rw[IntWalk.i64_in _ yv];omega
  have T:Hid ((jG d (a,b,O) at' first K).1=d):=Lib.hid (by unfold jG;rw[if_pos hb])
  try dsimp only at hb
  have C:Hid (∀w' n,Below U.heap.size U w'→Ur w B p v (jG d (a,b,O) at' first K).1 (.returned (.int .i64 n)) w'):=Lib.hid fun w' n hb=>by
    rw[T.out];exact⟨⟨n,rfl⟩,DTurn.same P (Xx J.out hb)⟩
  by_cases h0:K.length=0
  ·go_wp2_with fail;go_ret;exact C.out _ _ (qB _ _)
  by_cases h1:O<0
  ·go_wp2_with fail;go_ret;exact C.out _ _ (qB _ _)
  ·have h2:2147483648 - (K.length:Int)<O:=by
     rcases hb with rfl|hb|hb
     ·simp at h0
     ·omega
     ·exact hb
   go_wp2_with fail;go_ret;exact C.out _ _ (qB _ _)
theorem DocRows.setBox{w w':World}{B p:Nat}{v:Value}{rs:List zk}{s t:Int}(h:DocRows w B p v rs)(hbx:w'.heap[p]?=some (.cells [v,.int .i64 s,.int .i64 t].toArray 192 (0,0)))(hb:But (fun k=>k=p) w w'):DocRows w' B p v rs:=by
  obtain⟨J,K,C⟩:=h.box;have E:KeepR w w':=KeepR.but hb fun k F L M N D A=>by
    subst F;rw[C] at A;injection A with A;injection A with _ A;subst A;exact absurd D yj
  exact⟨⟨s,t,hbx⟩,h.low,fun r G=>(h.ins r G).keep E,hb.own h.own fun g H e=>by
    obtain⟨c,I⟩:=kH h.own H;exact ji I C yj e⟩
theorem run_built2(k:kE)(hk:kJ k)(x:Value)(hx:x.oneCell'=true)(w:World):(Instr.build 177 #[(0,.agg (kc k).toArray),(1,x)]).run prog w=.ok (.agg (kc k++([x]++[Value.bool false])).toArray) w:=by
  obtain⟨j,C,D,_,_⟩:=info_parts infoRun;have A:x.cells=#[x]:=by cases x<;>first|rfl|cases hx
  have h:=zl (P:=prog) C underlying177 D [kc (0,k9,0),[.slice none 0 0],[.bool false]] rfl (places:=[(0,34),(34,1),(35,1)]) yq yq [(0,.agg (kc k).toArray),(1,x)] (by
    intro q B;simp only[xK,YY,or_false] at B;rcases B with rfl|rfl
    ·exact⟨by show 0<3;omega,by show (kc k).toArray.size=34;rw[xz,ke hk]⟩
    ·exact⟨by show 1<3;omega,by show x.cells.size=1;rw[A];rfl⟩)
  have E:=run_build (P:=prog) w 177 #[(0,.agg (kc k).toArray),(1,x)] _ h;refine E.trans ?_;have F:(Value.agg (kc k).toArray).cells=(kc k).toArray:=rfl;simp [F,A]
theorem cutR_ge(d:List kQ)(i n:Nat):d.length≤(zg d i n).length:=by
  unfold zg
  split
  ·exact xY _
  ·rename_i r A
   split
   ·have B:=(yJ.1 A).1;simp;omega
   ·exact xY _
theorem cutR_le(d:List kQ)(i n:Nat):(zg d i n).length≤d.length+1:=by
  unfold zg
  split
  ·omega
  ·rename_i r A
   split
   ·have B:=(yJ.1 A).1;simp;omega
   ·omega
theorem insert_both(d:List kQ)(key at':kE)(first:Bool)(s:ByteArray)(l:List Nat)(B p:Nat)(v:Value)(w:World)(h:DocAt w B p v d)(hk:kJ key)(ha:kJ at')(hix:RunIx d)(hl:d.length≤1073741822)(hs:s.size≤1099511627776)(hr:jH s=some l)(hln:l.length≤1099511627776)(hkx:Ix key.2.2)(h0:0<l.length)(h1:0≤key.2.2)(h2:key.2.2≤2147483648 - (l.length:Int))(hax:Ix at'.2.2):
    Calls prog 101 #[.pointer (some ⟨p,0,none⟩),.agg (kc key).toArray,.agg (kc at').toArray,.bool first,.string s] w (Ur w B p v (jG d key at' first l).1):=by
  have HD:=Lib.hid h;have J:=Lib.hid hk;have o:=Lib.hid ha;have Ak:=Lib.hid hix;have AC:=Lib.hid hr
  have BQ:=h.lt;have BB:=ke hk;have BC:=ke ha;clear h hk ha hix hr;unfold Ix at hkx;obtain⟨G,H,E⟩:=key;dsimp only at hkx;obtain⟨q0,q1,q2⟩:=Jd J.out;have Q1:=Lib.hid q1;clear q0 q1 q2;go_enter func101,ntmps101
  go_upto_region 1 with (first
    |(with_reducible refine kG ?_
      refine kz yk 89 _ rfl (kc (G,H,E)) _ rfl rfl (by rw[BB];kernel_rfl) ?_;intro W0 Al Am AZ)
    |(with_reducible refine kG ?_
      refine kz yk 89 _ rfl (kc at') _ rfl rfl (by rw[BC];kernel_rfl) ?_;intro W1 An A8 B0))
  obtain⟨b6,Bk⟩:=Xy w.heap.size;obtain⟨b7,Bl⟩:=Xy W0.heap.size;have AD:=Lib.hid (Xx Al.out An.out);have A9:=Lib.hid ((An.block w.heap.size (qX Am)).trans Am);rw[Bk] at A9 ⊢;rw[Bl] at A8 ⊢;have B1:=Lib.hid (show w.heap.size≤b6 by omega);have Bz:=Lib.hid (show w.heap.size≤b7 by have:=Al.size;omega);clear Al An AZ B0 Bk Bl Am
  go_upto_region 2 with (first
    |(go_at_call 155;refine(Q8 s W1 hs).mono ?_;rintro e W2 ⟨Bm,⟨F,A,c,AX,rfl,Bn⟩|⟨AX,_⟩⟩
      rotate_left
      ·exact absurd (AC.symm.trans AX) yZ
      obtain rfl:F=l:=Option.some.inj (AX.symm.trans AC);have Aa:=Lib.hid Bm;have HO:=Lib.hid Bn
      clear Bm Bn AX))
  have I:=Lib.hid ((Aa.block b6 (qX A9)).trans A9);have Ab:=Lib.hid ((Aa.block b7 (qX A8)).trans A8);have m:Hid (Below w.heap.size w W2):=Lib.hid (Xx AD.out Aa.out);have AP:W2.cell? ⟨b6,33,none⟩=some (.int .i64 E):=(k6 I 33).trans Q1.out;have y:=Lib.hid (HD.keep m);clear A9 A8 Aa AD;have Bo:IntKind.i64.wrap (2147483647 - (F.length:Int))=2147483647 - (F.length:Int):=IntWalk.i64_in _ yv;have Bp:IntKind.i64.wrap (2147483647 - (F.length:Int)+1)=2147483648 - (F.length:Int):=by rw[IntWalk.i64_in _ yv];omega
  try dsimp only at h1 h2
  have g0:¬F.length=0:=yv;have g1:¬E<0:=yv;have g2:¬2147483648 - (F.length:Int)<E:=yv;have B2:Hid (F≠[]):=Lib.hid (List.length_pos_iff.1 h0);have X:Hid (¬(F=[]∨E<0∨2147483648 - (F.length:Int)<E)):=Lib.hid (by
    rintro (rfl|q|q)
    ·simp at h0
    ·omega
    ·omega)
  obtain⟨c0,Bq⟩:=Xy c;rw[Bq] at HO ⊢;clear Bq;have Ac:=Lib.hid (RuneAt.of_own HO h0);obtain⟨A1,AB,Bd⟩:=y.runs;have N:=Lib.hid Bd;have K:=Lib.hid AB;have D:=Lib.hid (show (∀r∈A1,Ix r.1.2.2)∧(∀r∈A1,r.2.2.1.length≤2305843009213693952) from by
    have h:∀r∈A1,0≤r.1.2.2∧r.1.2.2+(r.2.2.1.length:Int)≤2147483648:=fun r hr=>Ak.out (kA r) (by rw[←AB];exact List.mem_map_of_mem hr)
    exact⟨fun r hr=>by have:=h r hr;unfold Ix;omega,fun r hr=>by have:=h r hr;omega⟩)
  have Ah:A1.length≤1099511627776:=by rw[←Yv (f:=kA),AB];omega
  clear AB Bd;have L:Hid (∀w' n dd,dd=d→Below W2.heap.size W2 w'→Ur w B p v dd (.returned (.int .i64 n)) w'):=Lib.hid fun w' n dd BD hb=>by
    subst BD;exact⟨⟨n,rfl⟩,DTurn.same HD (Xx m.out hb)⟩
  cases first
  focus
    have Q:=Lib.hid (show ∀u:World,Below W2.heap.size W2 u→u.rangeAt b6 0 (kc (G,H,E)) from fun u hu j x hj=>by rw[qZ];exact(k6 ((hu.block b6 (qX I)).trans I) j).trans hj);have Ao:=Lib.hid (show ∀u:World,Below W2.heap.size W2 u→u.rangeAt b7 0 (kc at') from fun u hu j x hj=>by rw[qZ];exact(k6 ((hu.block b7 (qX Ab)).trans Ab) j).trans hj);have A2:=Lib.hid (Ao W2 (qB _ _));clear AP;cases hfd:Ud d at'
    ·have R:=Lib.hid hfd;have S:Hid ((jG d (G,H,E) at' false F).1=d):=Lib.hid (by unfold jG;rw[if_neg X.out,if_neg Bool.false_ne_true,hfd]);clear hfd;have AP:W2.cell? ⟨b6,33,none⟩=some (.int .i64 E):=(k6 I 33).trans Q1.out
     go_wp2_with (first
       |(refine k7 yk (ldK o A2) ?_)
       |(go_at_call 156;refine(find_run A1 at' B p v W2 N o D.1 hax Ah).mono ?_;rintro e W3 ⟨W,rfl⟩;rw[K.out,R.out];unfold findV;have C:=Lib.hid W;clear W))
     go_ret;exact L.out _ _ _ S.out C.out
    rename_i x;obtain⟨i,k⟩:=x;have R:=Lib.hid hfd;obtain⟨Be,Az,Bx⟩:=findR_lt hfd;have By:k≤2147483648∧i<1073741823:=by
      obtain⟨g1,g2⟩:=Ak.out d[i] (yQ Be);unfold J0 at Az;simp only[xy,decide_eq_true_eq] at Az;omega
    clear hfd Az Bx;have AP:W2.cell? ⟨b6,33,none⟩=some (.int .i64 E):=(k6 I 33).trans Q1.out
    go_upto_region 10 with (first
      |(refine k7 yk (ldK o A2) ?_)
      |(go_at_call 156;refine(find_run A1 at' B p v W2 N o D.1 hax Ah).mono ?_;rintro e W3 ⟨W,rfl⟩;rw[K.out,R.out];unfold findV;have C:=Lib.hid W;clear W))
    clear AP Bo Bp A2;have Ap:=Lib.hid (Ao W3 C);have Aq:=Lib.hid (Q W3 C);by_cases hcmp:0≤Kh at' (G,H,E)
    ·have S:Hid ((jG d (G,H,E) at' false F).1=d):=Lib.hid (by unfold jG;rw[if_neg X.out,if_neg Bool.false_ne_true,R.out];dsimp only;rw[if_pos hcmp])
     go_wp2_with (first
       |(refine k7 yk (ldK o Ap) ?_)
       |(refine k7 yk (ldK J Aq) ?_)
       |(go_at_call 78;refine(QA at' (G,H,E) W3 o J).mono ?_;rintro e W4 ⟨AQ,rfl⟩;have T:=Lib.hid (Xx C.out AQ);clear AQ))
     go_ret;exact L.out _ _ _ S.out T.out
    have A3:=Lib.hid hcmp
    go_upto_region 12 with (first
      |(refine k7 yk (ldK o Ap) ?_)
      |(refine k7 yk (ldK J Aq) ?_)
      |(go_at_call 78;refine(QA at' (G,H,E) W3 o J).mono ?_;rintro e W4 ⟨AQ,rfl⟩;have T:=Lib.hid (Xx C.out AQ);clear AQ))
    clear hcmp C Ap Aq;have Ar:=Lib.hid (Q W4 T);have A4:=Lib.hid (N.keep T);cases hfr:uL d (G,H,E) (F.length:Int)
    ·have P:=Lib.hid hfr;have S:Hid ((jG d (G,H,E) at' false F).1=d):=Lib.hid (by unfold jG;rw[if_neg X.out,if_neg Bool.false_ne_true,R.out];dsimp only;rw[if_neg (by have:=A3.out;omega),if_neg (by rw[hfr];exact Bool.false_ne_true)]);clear hfr
     go_wp2_with (first
       |(refine k7 yk (ldK J Ar) ?_)
       |(go_at_call 157;refine(US A1 (G,H,E) (F.length:Int) B p v W4 A4 J D.1 (by unfold Ix;omega) (by unfold Ix;omega) D.2 Ah).mono ?_;rintro e W5 ⟨AR,rfl⟩;rw[K.out,show Q4 d (G,H,E) (F.length:Int)=11 from if_neg (by rw[P.out];exact Bool.false_ne_true)];have M:=Lib.hid (Xx T.out AR);clear AR))
     go_ret;exact L.out _ _ _ S.out M.out
    have P:=Lib.hid hfr;have Y:Hid ((jG d (G,H,E) at' false F).1=Ug (zg d i (k+1)) (uf (zg d i (k+1)) (G,H,E) (i+1)) ((G,H,E),F,false)):=Lib.hid (by unfold jG;rw[if_neg X.out,if_neg Bool.false_ne_true,R.out];dsimp only;rw[if_neg (by have:=A3.out;omega),if_pos hfr]);clear hfr;have BE:IntKind.i64.wrap ((k:Int)+1)=((k+1:Nat):Int):=by rw[IntWalk.i64_in _ yv];omega
    have BF:IntKind.i64.wrap ((i:Int)+1)=((i+1:Nat):Int):=by rw[IntWalk.i64_in _ yv];omega
    go_upto_region 20 with (first
      |(refine k7 yk (ldK J Ar) ?_)
      |(go_at_call 157;refine(US A1 (G,H,E) (F.length:Int) B p v W4 A4 J D.1 (by unfold Ix;omega) (by unfold Ix;omega) D.2 Ah).mono ?_;rintro e W5 ⟨AR,rfl⟩;rw[K.out,show Q4 d (G,H,E) (F.length:Int)=0 from if_pos P.out];have M:=Lib.hid (Xx T.out AR);clear AR)
      |(go_at_call 158;refine(cut_any d i (k+1) B p v W5 (y.keep M) Be Ak.out yv).mono ?_;rintro e V ⟨rfl,vL,Br,Bs,Bt⟩;have z:=Lib.hid Br;have Ad:=Lib.hid Bs;have AE:=Lib.hid Bt
        clear Br Bs Bt))
    have A5:=Lib.hid (Xx m.out M.out);have Ae:Hid (But (DocX p v) w V):=Lib.hid ((But.of_below A5).trans Ad fun j hj hx=>hx);have Af:Hid (Newer w v vL):=Lib.hid fun j hj=>(AE j hj).elim .inl fun q=>.inr (qT A5.size q)
    have As:=Lib.hid ((M.block b6 (qX I)).trans I);have AF:=Lib.hid (show ¬DocX p v b6 from fun hx=>by
      have h1:=B1.out;rcases hx with q|q
      ·omega
      ·obtain⟨BR,_,_,ho⟩:=HD.rows;have:=(ho.lt b6 q).2;omega)
    have At:=Lib.hid ((Ad.block b6 (qX As) AF).trans As);have AG:=Lib.hid ((Ac.keep (KeepR.below M)).keep (KeepR.but Ad (y.keep M).noRunes));have AY:(zg d i (k+1)).length≤1073741823:=by have:=cutR_le d i (k+1);omega
    have AU:i+1≤(zg d i (k+1)).length:=by have:=cutR_ge d i (k+1);omega
    clear N K D Ah T M I As Ac Q Ao Ar A4 y Ab L HO A5 Ad AE BE BF AF;obtain⟨dL,Ai⟩:=Xy (zg d i (k+1));obtain⟨j0,Aj⟩:∃x:Nat,i+1=x:=⟨_,rfl⟩;rw[Ai] at z AY AU;have Y:Hid ((jG d (G,H,E) at' false F).1=Ug dL (uf dL (G,H,E) j0) ((G,H,E),F,false)):=Lib.hid (by rw[←Ai,←Aj];exact Y.out);rw[Aj] at AU;have AH:=Lib.hid Aj;clear Ai Aj Be By R A3 P
  rotate_left
  focus
    have Q:=Lib.hid (show W2.rangeAt b6 0 (kc (G,H,E)) from fun j x hj=>by rw[qZ];exact(k6 I j).trans hj);cases hfr:uL d (G,H,E) (F.length:Int)
    ·have P:=Lib.hid hfr;have S:Hid ((jG d (G,H,E) at' true F).1=d):=Lib.hid (by unfold jG;rw[if_neg X.out,if_pos rfl,if_neg (by rw[hfr];exact Bool.false_ne_true)]);clear hfr
     go_wp2_with (first
       |(refine k7 yk (ldK J Q) ?_)
       |(go_at_call 157;refine(US A1 (G,H,E) (F.length:Int) B p v W2 N J D.1 (by unfold Ix;omega) (by unfold Ix;omega) D.2 Ah).mono ?_;rintro e W3 ⟨W,rfl⟩;rw[K.out,show Q4 d (G,H,E) (F.length:Int)=11 from if_neg (by rw[P.out];exact Bool.false_ne_true)];have C:=Lib.hid W;clear W))
     go_ret;exact L.out _ _ _ S.out C.out
    have P:=Lib.hid hfr;have Y:Hid ((jG d (G,H,E) at' true F).1=Ug d (uf d (G,H,E) 0) ((G,H,E),F,false)):=Lib.hid (by unfold jG;rw[if_neg X.out,if_pos rfl,if_pos hfr]);clear hfr
    go_upto_region 20 with (first
      |(refine k7 yk (ldK J Q) ?_)
      |(go_at_call 157;refine(US A1 (G,H,E) (F.length:Int) B p v W2 N J D.1 (by unfold Ix;omega) (by unfold Ix;omega) D.2 Ah).mono ?_;rintro e V ⟨W,rfl⟩;rw[K.out,show Q4 d (G,H,E) (F.length:Int)=0 from if_pos P.out];have C:=Lib.hid W;clear W))
    clear AP Bo Bp;have Au:=Lib.hid (Xx m.out C.out);have z:=Lib.hid (HD.keep Au);have Ae:Hid (But (DocX p v) w V):=Lib.hid (But.of_below Au);have Af:=Lib.hid (Newer.refl w v);have At:=Lib.hid ((C.block b6 (qX I)).trans I);have AG:=Lib.hid (Ac.keep (KeepR.below C));clear N K D Ah C I Ac Q y Ab L HO;have AY:d.length≤1073741823:=yv;obtain⟨dL,Ai⟩:=Xy d;obtain⟨j0,Aj⟩:∃x:Nat,0=x:=⟨_,rfl⟩;obtain⟨vL,AV⟩:=Xy v;have z:Hid (DocAt V B p vL dL):=Lib.hid (by rw[←Ai,←AV];exact z.out);have Y:Hid ((jG d (G,H,E) at' true F).1=Ug dL (uf dL (G,H,E) j0) ((G,H,E),F,false)):=Lib.hid (by rw[←Ai,←Aj];exact Y.out);have Af:Hid (Newer w v vL):=Lib.hid (by rw[←AV];exact Af.out);have AY:dL.length≤1073741823:=by rw[←Ai];exact AY
    have AU:j0≤dL.length:=yv;have AH:=Lib.hid Aj;clear Ai AV Aj
  all_goals
    obtain⟨O,Bf,AS⟩:=z.runs;have Z:=Lib.hid AS;have Av:=Lib.hid Bf
    have BS:O.length=dL.length:=by rw[←Bf,Yv]
    clear AS Bf;have Bg:=Z.lt;have BG:∃A c,vL=.slice A O.length c:=kX Z.own;obtain⟨AL,cL,BH⟩:=BG;subst BH;have AI:=Lib.hid (show V.cell? ⟨p,0,none⟩=some (.slice AL O.length cL) by
      obtain⟨s1,t1,BI⟩:=Z.box;exact k6 BI 0)
    have BA:=Lib.hid (show w.heap.size≤V.heap.size from Ae.size);have Aw:=Lib.hid (show ∀u:World,Below V.heap.size V u→u.rangeAt b6 0 (kc (G,H,E)) from fun u hu j x hj=>by rw[qZ];exact(k6 ((hu.block b6 (qX At)).trans At) j).trans hj)
    go_loopw [15] (fun t wr=>∃j:Nat,j0≤j∧j≤O.length∧t=.int .i64 (j:Int)∧Hid (Below V.heap.size V wr)∧Hid (∀q (hq:q<O.length),j0≤q→q<j→0<Kh O[q].1 (G,H,E))) (fun t _=>O.length - (intOf t).toNat)
    case atStart=>exact⟨j0,xY _,by omega,(by rw[←AH.out];rfl),Lib.hid (qB _ _),Lib.hid (fun q _ h1 h2=>absurd h1 yv)⟩
    case round=>
      obtain⟨j,BJ,BT,rfl,AJ,A6⟩:=hrel;obtain⟨c,hc⟩:∃c:Bool,(if h:j<O.length then decide (0<Kh O[j].1 (G,H,E)) else false)=c:=⟨_,rfl⟩;have HC:=Lib.hid hc;clear hc;have Bu:=enE func78 rfl;have A0:=Lib.hid (AJ.trans ((qD wr.heap.size wr).mono AJ.size))
      repeat go_step
      go_cut [107] from 88 to 107 (fun t wx=>t=.bool c∧Hid (Below V.heap.size V wx))
      case first=>
        by_cases A7:j<O.length
        ·have AT:decide ((j:Int)<(O.length:Int))=true:=dT yv;have Ax:=Lib.hid AT;obtain⟨g,c',BK,Bh,BL,BM⟩:=Z.row A7;injection BK with hA _ hc';subst hA hc';have AK:=Lib.hid (Z.ins _ (yQ A7));have Ay:Hid (decide (0<Kh O[j].1 (G,H,E))=c):=Lib.hid (by have:=HC.out;rw[dif_pos A7] at this;exact this);obtain⟨_,_,_,_,_,p5⟩:=KS AK.1;have B3:=Lib.hid (show ∀u:World,Below V.heap.size V u→u.rangeAt g (0+j*36+0) (kc O[j].1) from fun u hu q x hq=>by
           have h1:=Bh _ _ (p5 q x hq);have h2:=(hu.cell (p:=⟨g,j*36+(0+q),none⟩) BL).trans h1;rw[show 0+j*36+0+q=j*36+(0+q) by omega];exact h2)
         clear Bh BM p5 AT;have Ag:=Lib.hid (show ∀u:World,Below V.heap.size V u→u.cell? ⟨p,0,none⟩=some (.slice (some ⟨g,0,none⟩) O.length cL) from fun u hu=>(hu.cell (p:=⟨p,0,none⟩) Bg).trans AI);have AM:Hid (kJ O[j].1):=Lib.hid AK.1;generalize O[j]=r at *;refine rN 20 (fun u=>Below V.heap.size V u) A0.out fun AA=>?_
         refine tw 0 _ ?_;go_frame;refine tw 1 _ ?_;go_frame;refine tw 2 _ ?_;go_frame;refine tw 3 _ ?_;go_frame;refine tl 4 _ rfl AA (fun w' U=>l1 underlying190 (Ag w' U)) ?_;go_frame;refine tk 5 _ rfl (fun w' U=>Q3 190 _ rfl rfl underlying190) ?_;go_frame;refine tk 6 _ rfl (fun w' U=>ex_lssB _ _ _ rfl rfl rfl Ax) ?_;go_frame;refine tw 7 _ ?_;go_frame;refine tw 8 _ ?_;go_frame;refine tw 9 _ ?_;go_frame;refine tw 10 _ ?_;go_frame;refine tl 11 _ rfl AA (fun w' U=>l1 underlying190 (Ag w' U)) ?_;go_frame;refine tw 12 _ ?_;go_frame;refine tk 13 _ rfl (fun w' U=>zR 190 _ _ rfl (b:=g) (off:=0) (q:=j) (n:=O.length) (c:=cL) rfl rfl A7 underlying190 jX) ?_;go_frame;refine tw 14 _ ?_;go_frame;refine tl 15 _ rfl AA (fun w' U=>ldK AM (B3 w' U)) ?_;go_frame;refine tl 16 _ rfl AA (fun w' U=>ldK J (Aw w' U)) ?_;go_frame;refine ta 17 ?_;refine tc #[.agg (kc r.1).toArray,.agg (kc (G,H,E)).toArray] Bu rfl ?_;refine(QA _ _ _ AM J).mono ?_;rintro e u3 ⟨W,rfl⟩;have C:=Lib.hid (Xx A0.out W);clear W;refine⟨_,rfl,fun _ _=>C,?_⟩;go_frame;refine tk 18 _ rfl (fun w' U=>UY _ _ _ rfl rfl rfl Ay) ?_;go_frame;refine tw 19 _ ?_;go_frame;refine ku yq ?_ _;go_wp2_with fail
         go_meet
         case rel=>exact⟨rfl,C⟩
        ·have AT:decide ((j:Int)<(O.length:Int))=false:=dF yv;have Ax:=Lib.hid AT;have Ay:Hid (c=false):=Lib.hid (by have:=HC.out;rw[dif_neg A7] at this;exact this.symm);have Ag:=Lib.hid (show ∀u:World,Below V.heap.size V u→u.cell? ⟨p,0,none⟩=some (.slice AL O.length cL) from fun u hu=>(hu.cell (p:=⟨p,0,none⟩) Bg).trans AI);clear AT;refine rN 20 (fun u=>Below V.heap.size V u) A0.out fun AA=>?_
         refine tw 0 _ ?_;go_frame;refine tw 1 _ ?_;go_frame;refine tw 2 _ ?_;go_frame;refine tw 3 _ ?_;go_frame;refine tl 4 _ rfl AA (fun w' U=>l1 underlying190 (Ag w' U)) ?_;go_frame;refine tk 5 _ rfl (fun w' U=>Q3 190 _ rfl rfl underlying190) ?_;go_frame;refine tk 6 _ rfl (fun w' U=>ex_lssB _ _ _ rfl rfl rfl Ax) ?_;go_frame;refine tw 7 _ ?_;go_frame;refine tn 8 ?_;go_frame;refine tn 9 ?_;go_frame;refine tn 10 ?_;go_frame;refine tn 11 ?_;go_frame;refine tn 12 ?_;go_frame;refine tn 13 ?_;go_frame;refine tn 14 ?_;go_frame;refine tn 15 ?_;go_frame;refine tn 16 ?_;go_frame;refine tn 17 ?_;go_frame;refine tn 18 ?_;go_frame;refine tw 19 _ ?_;go_frame;refine ku yq ?_ _;go_wp2_with fail
         go_meet
         case rel=>exact⟨by rw[Ay.out],A0⟩
      case rest=>
        obtain⟨rfl,a⟩:=hcut;have BU:IntKind.i64.wrap ((j:Int)+1)=((j+1:Nat):Int):=by rw[IntWalk.i64_in _ yv];omega
        clear Bu A0;cases c with
        |true=>
         have A7:j<O.length:=by
            by_cases h:j<O.length
            ·exact h
            ·have:=HC.out;rw[dif_neg h] at this;cases this
         have HP:=Lib.hid (show 0<Kh O[j].1 (G,H,E) by have:=HC.out;rw[dif_pos A7] at this;exact of_decide_eq_true this);go_wp2_with fail
         go_roundw
         case rel=>
            refine⟨j+1,by omega,by omega,by go_num,a,Lib.hid (fun q hq h1 h2=>?_)⟩;rcases (by omega:q<j∨q=j) with h3|rfl
            ·exact A6.out q hq h1 h3
            ·exact HP.out
         case measure=>exact Xz
        |false=>
         have B4:Hid (uf dL (G,H,E) j0=j):=Lib.hid (by
            refine placeR_is BJ yv (fun q hq h1 h2=>?_) fun hn=>?_
            ·have Bi:q<O.length:=yv;have:=A6.out q Bi h1 h2;have e:dL[q].1=O[q].1:=by simp only[←Av.out,List.getElem_map];rfl
             rw[e];exact this
            ·have Bi:j<O.length:=yv;have:=HC.out;rw[dif_pos Bi] at this;have e:dL[j].1=O[j].1:=by simp only[←Av.out,List.getElem_map];rfl
             rw[e];exact of_decide_eq_false this)
         have B5:=Lib.hid (Z.keep a);have B6:=Lib.hid (Aw wc a);have B7:Hid (RunIn wc ((G,H,E),.slice A F.length c0,F,false)):=Lib.hid ⟨J,AG.keep (KeepR.below a),B2⟩;clear HC A6 Aw
         go_upto_region 23 with (first
            |(refine k7 yk (ldK J B6) ?_)
            |(with_reducible refine kL ?_
              refine k7 yk (kp 177 _ rfl (by simp only[xV,xX,Yy];exact run_built2 _ J.out _ rfl _)) ?_)
            |(go_at_call 159;refine(put_run O j ((G,H,E),.slice A F.length c0,F,false) B p _ wc B5 B7 yv yv).mono ?_;rintro e W5 ⟨rfl,v5,AS,Bv,Bw⟩;have AN:=Lib.hid AS;have M:=Lib.hid Bv;have B8:=Lib.hid Bw
              clear AS Bv Bw))
         obtain⟨s5,t5,AW⟩:=AN.box;have B9:=Lib.hid AW;have BN:W5.cell? ⟨p,1,none⟩=some (.int .i64 s5):=k6 AW 1;clear AW
         go_upto_region 24 with (first
            |(with_reducible refine kD ?_
              refine kr yk 3 _ _ rfl p 1 [v5] [.int .i64 s5] [.int .i64 t5] [.int .i64 (wrap64 (s5+(F.length:Int)))] 192 (.int .i64 (wrap64 (s5+(F.length:Int)))) rfl rfl rfl rfl B9.out rfl yq (by intro u hu;rw[xZ.1 hu];rfl) ?_;intro W6 Ba AO BV))
         have BO:W6.cell? ⟨p,2,none⟩=some (.int .i64 t5):=k6 AO.out 2;clear BN
         go_upto_region 25 with (first
            |(with_reducible refine kD ?_
              refine kr yk 3 _ _ rfl p 2 [v5,.int .i64 (wrap64 (s5+(F.length:Int)))] [.int .i64 t5] [] [.int .i64 (wrap64 (t5+(F.length:Int)))] 192 (.int .i64 (wrap64 (t5+(F.length:Int)))) rfl rfl rfl rfl AO.out rfl yq (by intro u hu;rw[xZ.1 hu];rfl) ?_;intro W7 Bb Bc BW))
         clear BO;go_wp2_with fail;go_ret;have Bj:But (fun k=>k=p) W5 W7:=Ba.trans Bb.out fun k _ q=>q
         have BP:=AN.setBox (s:=wrap64 (s5+(F.length:Int))) (t:=wrap64 (t5+(F.length:Int))) (by simpa using Bc.out) Bj;refine⟨⟨_,rfl⟩,DTurn.trans Ae Af Ae.size ⟨v5,?_,((But.of_below a).trans M fun k hk hx=>hx).trans Bj fun k hk e=>.inl e,?_⟩⟩
         ·have e:=(show (O.take j++((G,H,E),Value.slice A F.length c0,F,false)::O.drop j).map kA=Ug dL (uf dL (G,H,E) j0) ((G,H,E),F,false) from by rw[B4.out,putR_map,Av.out];rfl).trans Y.symm;rw[←e];exact BP.at
         ·intro k hk;rcases B8.out k hk with q|q
          ·exact .inl q
          ·exact .inr (qT a.size q)
theorem insert_any(d:List kQ)(key at':kE)(first:Bool)(s:ByteArray)(l:List Nat)(B p:Nat)(v:Value)(w:World)(h:DocAt w B p v d)(hk:kJ key)(ha:kJ at')(hix:RunIx d)(hl:d.length≤1073741822)(hs:s.size≤1099511627776)(hr:jH s=some l)(hln:l.length≤1099511627776)(hkx:Ix key.2.2)(hax:Ix at'.2.2):
    Calls prog 101 #[.pointer (some ⟨p,0,none⟩),.agg (kc key).toArray,.agg (kc at').toArray,.bool first,.string s] w (Ur w B p v (jG d key at' first l).1):=by
  by_cases hb:l=[]∨key.2.2<0∨2147483648 - (l.length:Int)<key.2.2
  ·exact insert_bad d key at' s l B p v w h hk ha hix hl hs hr hln hkx first hb
  ·have A:0<l.length:=List.length_pos_iff.2 fun e=>hb (.inl e)
   have C:0≤key.2.2:=by
     by_cases hq:key.2.2<0
     ·exact absurd (.inr (.inl hq)) hb
     ·omega
   have D:key.2.2≤2147483648 - (l.length:Int):=by
     by_cases hq:2147483648 - (l.length:Int)<key.2.2
     ·exact absurd (.inr (.inr hq)) hb
     ·omega
   exact insert_both d key at' first s l B p v w h hk ha hix hl hs hr hln hkx A C D hax
end
section
open Go.RowKit Go.Maps
open Lib (hid)
section
variable {P:Program} {K:TypeId} {κ:Type} {ok:κ→Prop} {val:κ→Value} {kl:κ→Lit} {w:World} {b n:Nat} {m:κ→Option Value}
theorem op_mapPut{o:Oper}{a:Act}{K':Act→World→Prop}{Q:Exit→Act→World→Prop}[DecidableEq κ](mo x v:Operand)(t:TypeId)(hop:o.op=Op.mapUpdate t mo x v)
    (e:TypeId) (E:KeyEnc P K ok val kl) (ht:P.underlying t=some (.map K e)) (hm:a.eval mo=.map (some b)) (hown:MapV w P K ok kl b n m) (hn:n<maxLen) (k0:κ) (hk:ok k0) (hx:a.eval x=val k0) (v0:Value) (hv:a.eval v=v0)
    (h:∀w',MapV w' P K ok kl b (n+1) (fun k=>if k=k0 then some v0 else m k)→w.grownBy w' (some b)→K' (a.put o.dst undef) w'):o.wp P a w K' Q:=by
  obtain⟨D,B,C,F,G⟩:=hown;obtain⟨w',A,H,I⟩:=B.update (d:=.held v0) (ps:=[]) E.keyed ht hn (E.of k0 hk) (show Rv v0=some (.held v0,[]) from rfl);obtain⟨J,L,M⟩:=Qu E C F G hk v0;unfold Oper.wp;simp [execOp,hop,hm,hx,hv,A,Result.andThen];exact h w' ⟨_,H,J,L,M⟩ I
end
theorem Us(n:Int)(w:World):(Instr.build 110 #[(1,.int .i64 n)]).run prog w=.ok (.agg (kw (k9,n)).toArray) w:=yq
theorem qy(k d:kE)(hk:kJ k)(hd:kJ d)(n:Nat)(s:ByteArray)(w:World):(Instr.build 135 #[(0,.agg (kc k).toArray),(1,.agg (kc d).toArray),(2,.int .u8 (n:Int)),(3,.string s)]).run prog w=.ok (.agg (kT (k,d,n,s)).toArray) w:=by
  obtain⟨j,B,C,_,_⟩:=info_parts Up;have h:=zl (P:=prog) B underlying135 C [kc (0,k9,0),kc (0,k9,0),[.int .u8 0],[.string noneS]] rfl (places:=[(0,34),(34,34),(68,1),(69,1)]) yq yq [(0,.agg (kc k).toArray),(1,.agg (kc d).toArray),(2,.int .u8 (n:Int)),(3,.string s)] (by
    intro q A;simp only[xK,YY,or_false] at A;rcases A with rfl|rfl|rfl|rfl
    ·exact⟨by show 0<4;omega,by show (kc k).toArray.size=34;rw[xz,ke hk]⟩
    ·exact⟨by show 1<4;omega,by show (kc d).toArray.size=34;rw[xz,ke hd]⟩
    ·exact⟨by show 2<4;omega,rfl⟩
    ·exact⟨by show 3<4;omega,rfl⟩)
  have D:=run_build (P:=prog) w 135 #[(0,.agg (kc k).toArray),(1,.agg (kc d).toArray),(2,.int .u8 (n:Int)),(3,.string s)] _ h;refine D.trans ?_;simp [kT,Value.cells]
def UZ(w:World)(B s:Nat)(S S':kj)(q:kV)(e:Ending)(w':World):Prop:=e=.returned (.tuple #[])∧∃q',StateAt w' B s S' q'∧But (StX s S q) w w'∧NewerX w s S S' q q'∧q'.nd≤q.nd+1
theorem do_claim(B a s:Nat)(S:kj)(q:kV)(i:List UInt8)(c:ks)(dv ov vm:Value)(place next:Nat)(x:OpD)(w:World)(h:StateAt w B s S q)(hA:AdderAt w a s i c dv ov vm)(hx:KR x)(htm:(Lit.int .i64 c.1).wf=true)(hpl:place≤1073741824)(hnx:next≤1099511627776)(hk:x.1=4∨x.1=5)(hcl:S.2.1.length≤1073741824)(hps:x.2.2.2.2.2.size≤maxLen):
    Calls prog 53 #[.pointer (some ⟨a,0,none⟩),.int .i64 (place:Int),.int .i64 (next:Int),.agg (opV x).toArray] w (UZ w B s S (Jh S i c.1 place next x) q):=by
  have HS:=hid h;have I:=hid hx;have HA:=hid hA
  have Ao:=kI hx;have L:Hid (jr i):=hid hA.id;clear h hx hA;have M:Hid (kJ (c.1,i,(place:Int))):=hid ⟨htm,L,by
    show (Lit.int .i64 (place:Int)).wf=true;simp only[Lit.wf,IntKind.min,IntKind.max,IntKind.signed,IntKind.bits,xy];simp;omega⟩
  have N:=hid (ZV (t:=c.1) (r:=x.2.1) HS L htm I.1.1);go_enter func53,ntmps53
  go_upto_region 1 with (first
    |(with_reducible refine kG ?_
      refine kz yk 112 _ rfl (opV x) _ rfl rfl (by rw[Ao];kernel_rfl) ?_;intro K O P Av))
  obtain⟨n,Ab⟩:=Xy w.heap.size;rw[Ab] at P ⊢;clear Ab;have o:=hid (HS.keep O);have Q:=hid (HA.keep O);have W:=hid (show ∀u:World,Below K.heap.size K u→u.cell? ⟨a,33,none⟩=some (.int .i64 c.1)∧u.rangeAt a 1 (idV i) from fun u hu=>⟨(Q.keep hu).rest 0,(Q.keep hu).idAt⟩);refine rN 12 (fun u=>Below K.heap.size K u) (qD _ _) fun V=>?_
  refine tw 0 _ ?_;go_frame;refine tw 1 _ ?_;go_frame;refine tw 2 _ ?_;go_frame;refine tw 3 _ ?_;go_frame;refine tl 4 _ rfl V (fun w' A=>l1 underlying3 (W w' A).1) ?_;go_frame;refine tw 5 _ ?_;go_frame;refine tw 6 _ ?_;go_frame;refine tw 7 _ ?_;go_frame;refine tl 8 _ rfl V (fun w' A=>ldD L (W w' A).2) ?_;go_frame;refine tw 9 _ ?_;go_frame;refine tk 10 (.agg (kc (c.1,i,(place:Int))).toArray) rfl (fun w' A=>kp 89 _ rfl (by simp only[xV,xX,Yy];exact Z8 (t:=c.1) (x:=(place:Int)) L.out _)) ?_;go_frame;refine ta 11 ?_;refine zJ _ rfl yq 89 rfl (kc (0,k9,0)) (zG _) ?_;intro W2 Ac Ad Ap;have R:=hid ((qD K.heap.size K).trans (Ac.mono (qD K.heap.size K).size));have y:=hid Ad
  clear Ac Ad Ap;refine⟨fun _ _=>R,?_⟩;go_frame;refine ta 12 ?_;have Ae:=ke M.out;refine kR _ rfl yq 89 _ _ rfl K.drew.heap.size 0 [] (kc (0,k9,0)) [] (kc (c.1,i,(place:Int))) 89 (.agg (kc (c.1,i,(place:Int))).toArray) rfl rfl rfl rfl (by simpa using y.out) (by rw[Ae];rfl) (by rw[Ae];kernel_rfl) (j8 _) ?_;intro W3 Af Ag Aq;have D:=hid (R.trans (Af.below (B:=K.heap.size) R.size (fun k hk e=>by
    have e2:k=K.drew.heap.size:=e;have e3:K.drew.heap.size=K.heap.size:=rfl;omega)))
  have E:Hid (W3.heap[K.drew.heap.size]?=some (.cells (kc (c.1,i,(place:Int))).toArray 89 (0,0))):=hid (by simpa using Ag);clear Af Ag Aq;refine⟨fun h=>absurd h yj,?_⟩;go_frame;refine ku yq ?_ _;obtain⟨b8,Ah⟩:=Xy K.drew.heap.size;rw[Ah] at E ⊢;clear Ah R y V W;have X:=hid (o.keep D);have Y:=hid (Q.keep D);have J:Hid (Below w.heap.size w W3):=hid (Xx O.out D.out);have T:=hid ((D.block n (qX P)).trans P);clear o Q O D P;have z:=hid (show W3.rangeAt n 1 (kw x.2.1) from fun j u H=>(k6 T (1+j)).trans ((kB I).2.1 j u H));have Ai:=ke N.out
  go_upto_region 3 with (first
    |(with_reducible refine k8 ?_
      refine k7 yk (kg 110 _ rfl (p:=⟨n,1,none⟩) rfl (qV _ n 1 _ (kw x.2.1) _ z underlying110 rfl (by rw[kq I.1.1];kernel_rfl))) ?_)
    |(go_at_call 97;refine(Zl B a s S q i c dv ov vm x.2.1 W3 X Y I.1.1).mono ?_;rintro e w4 ⟨Aj,rfl⟩;have F:=hid Aj;clear Aj)
    |(with_reducible refine kF ?_
      refine kv yk 89 rfl (kc (0,k9,0)) (zG _) ?_;intro W5 Z A0 Aw)
    |(with_reducible refine kD ?_
      refine kr yk 89 _ _ rfl w4.heap.size 0 [] (kc (0,k9,0)) [] (kc (jg S i c.1 x.2.1)) 89 (.agg (kc (jg S i c.1 x.2.1)).toArray) rfl rfl rfl rfl (by simpa using A0.out) (by rw[Ai];rfl) (by rw[Ai];kernel_rfl) (j8 _) ?_;intro m Ar As Ax;have C:=hid (F.trans ((Z.trans (Ar.below (B:=w4.heap.size) Z.size (fun k hk e=>by have e2:k=w4.heap.size:=e;omega))).mono F.size));have b:Hid (m.heap[w4.heap.size]?=some (.cells (kc (jg S i c.1 x.2.1)).toArray 89 (0,0))):=hid (by simpa using As.out)))
  obtain⟨b9,Ak⟩:=Xy w4.heap.size;have An:=hid (show w.heap.size≤b9 by have:=J.size;have:=F.size;omega);have Am:=hid (show b8<b9 by have h1:=qX E.out;have:=F.size;omega);rw[Ak] at b ⊢;clear F Z A0 Ak z;have A6:=hid (X.keep C);have A7:=hid (Y.keep C);have d:Hid (Below w.heap.size w m):=hid (Xx J.out C.out);have f:=hid ((C.block n (qX T)).trans T);have U:=hid ((C.block b8 (qX E)).trans E);clear X Y J C T E;have k0:m.cell? ⟨n,0,none⟩=some (.int .u8 (x.1.toNat:Int)):=(k6 f 0).trans (kB I).1;have A8:Hid (Kx ((c.1,i,(place:Int)),jg S i c.1 x.2.1,x.1.toNat,x.2.2.2.2.2)):=hid ⟨M,N,(by show x.1.toNat<256;exact x.1.toNat_lt),hps⟩;have A9:Hid (Jh S i c.1 place next x=(S.1,S.2.1++[((c.1,i,(place:Int)),jg S i c.1 x.2.1,x.1.toNat,x.2.2.2.2.2)],S.2.2)):=hid (by
    unfold Jh;rw[if_neg (by rcases hk with e|e<;>rw[e]<;>decide),if_pos hk])
  have EK:Hid ((x.1.toNat:Int)=(x.1.toNat:Int)):=hid rfl;generalize jg S i c.1 x.2.1=kd at *;have Aa:((x.1.toNat:Int) == 3)=false∧(((x.1.toNat:Int) == 4)=true∨(((x.1.toNat:Int) == 4)=false∧((x.1.toNat:Int) == 5)=true)):=by rcases hk with e|e<;>rw[e]<;>decide
  obtain⟨e3,e4⟩:=Aa;have l:Hid (∀w8 v',But (fun j=>j=s∨q.vc.ownBlock=some j) m.drew w8→StateAt w8 B s (S.1,S.2.1++[((c.1,i,(place:Int)),kd,x.1.toNat,x.2.2.2.2.2)],S.2.2) { q with vc:=v'}→Newer m q.vc v'→UZ w B s S (Jh S i c.1 place next x) q (.returned (.tuple #[])) w8):=hid fun w8 v' A4 A5 At=>by
    rw[A9.out];refine⟨rfl,_,A5,(But.of_below d).trans ((But.refl _ m).drew.trans A4 fun k _ hx=>hx) fun k hk hx=>?_,fun j H=>?_,Nat.le_succ _⟩
    ·rcases hx with hx|hx
     ·exact .inl hx
     ·exact .inr (.inr (.inr (.inl hx)))
    ·rcases H with H|H|H|H|H
     ·exact .inl (.inl H)
     ·exact .inl (.inr (.inl H))
     ·exact .inl (.inr (.inr (.inl H)))
     ·rcases At j H with g|g
      ·exact .inl (.inr (.inr (.inr (.inl g))))
      ·exact .inr (qT d.size g)
     ·exact .inl (.inr (.inr (.inr (.inr H))))
  rcases e4 with e4|⟨e4,e5⟩
  all_goals
    go_upto_region 10 with fail
    clear k0;have G:=hid (show ∀u:World,Below m.heap.size m u→u.cell? ⟨a,0,none⟩=some (.pointer (some ⟨s,0,none⟩))∧u.rangeAt b8 0 (kc (c.1,i,(place:Int)))∧u.rangeAt b9 0 (kc (kd))∧u.cell? ⟨n,0,none⟩=some (.int .u8 (x.1.toNat:Int))∧u.cell? ⟨n,69,none⟩=some (.string x.2.2.2.2.2) from fun u hu=>by
      have hZ:=(hu.block n (qX f)).trans f.out;refine⟨(A7.keep hu).st,fun j v H=>?_,fun j v H=>?_,?_,(k6 hZ 69).trans (kB I).2.2.2.2.2⟩
      ·rw[qZ];exact(k6 ((hu.block b8 (qX U)).trans U) j).trans H
      ·rw[qZ];exact(k6 ((hu.block b9 (qX b)).trans b) j).trans H
      ·rw[k6 hZ 0,(kB I).1,EK.out])
    have Au:=enE func100 rfl;refine rN 13 (fun u=>Below m.heap.size m u) (qD _ _) fun V=>?_
    refine tw 0 _ ?_;go_frame;refine tw 1 _ ?_;go_frame;refine tw 2 _ ?_;go_frame;refine tl 3 _ rfl V (fun w' A=>l1 underlying24 (G w' A).1) ?_;go_frame;refine tw 4 _ ?_;go_frame;refine tw 5 _ ?_;go_frame;refine tl 6 _ rfl V (fun w' A=>ldK M (G w' A).2.1) ?_;go_frame;refine tl 7 _ rfl V (fun w' A=>ldK N (G w' A).2.2.1) ?_;go_frame;refine tw 8 _ ?_;go_frame;refine tl 9 _ rfl V (fun w' A=>l1 underlying5 (G w' A).2.2.2.1) ?_;go_frame;refine tw 10 _ ?_;go_frame;refine tl 11 _ rfl V (fun w' A=>l1 underlying9 (G w' A).2.2.2.2) ?_;go_frame;refine tk 12 (.agg (kT ((c.1,i,(place:Int)),kd,(x.1.toNat),x.2.2.2.2.2)).toArray) rfl (fun w' A=>kp 135 _ rfl (by simp only[xV,xX,Yy];exact qy _ _ M.out N.out _ _ _)) ?_;go_frame;refine ta 13 ?_;refine tc #[.pointer (some ⟨s,0,none⟩),.agg (kT ((c.1,i,(place:Int)),kd,(x.1.toNat),x.2.2.2.2.2)).toArray] Au rfl ?_;refine(claim_any B s S q ((c.1,i,(place:Int)),kd,(x.1.toNat),x.2.2.2.2.2) m.drew (A6.keep (qD _ _)) A8 hcl).mono ?_;rintro e w8 ⟨rfl,A4,v',A5,Al⟩;have A1:=hid A4;have A2:=hid A5;have A3:=hid Al
    clear A4 A5 Al;refine⟨_,rfl,fun h=>absurd h yj,?_⟩;go_frame;refine ku yq ?_ _;go_wp2_with fail
    go_end0
  ·exact l.out _ _ A1.out A2.out A3.out
  ·exact l.out _ _ A1.out A2.out A3.out
theorem do_create(B a s:Nat)(S:kj)(q:kV)(i:List UInt8)(c:ks)(dv ov vm:Value)(place next:Nat)(x:OpD)(w:World)(h:StateAt w B s S q)(hA:AdderAt w a s i c dv ov vm)(hx:KR x)(htm:(Lit.int .i64 c.1).wf=true)(hpl:place≤1073741824)(hnx:next≤1099511627776)(hk:x.1=3)(hcl:S.2.1.length≤1073741824)(hps:x.2.2.2.2.2.size≤maxLen)(hnd:q.nd≤1073741824):
    Calls prog 53 #[.pointer (some ⟨a,0,none⟩),.int .i64 (place:Int),.int .i64 (next:Int),.agg (opV x).toArray] w (UZ w B s S (Jh S i c.1 place next x) q):=by
  have HS:=hid h;have R:=hid hx;have HA:=hid hA
  have B0:=kI hx;have F:Hid (jr i):=hid hA.id;clear h hx hA;have V:Hid (kJ (c.1,i,(place:Int))):=hid ⟨htm,F,by
    show (Lit.int .i64 (place:Int)).wf=true;simp only[Lit.wf,IntKind.min,IntKind.max,IntKind.signed,IntKind.bits,xy];simp;omega⟩
  have Au:=hid (ZV (t:=c.1) (r:=x.2.1) HS F htm R.1.1);go_enter func53,ntmps53
  go_upto_region 1 with (first
    |(with_reducible refine kG ?_
      refine kz yk 112 _ rfl (opV x) _ rfl rfl (by rw[B0];kernel_rfl) ?_;intro U W X B8))
  obtain⟨b7,Aa⟩:=Xy w.heap.size;rw[Aa] at X ⊢;clear Aa;have Ac:=hid (HS.keep W);have Y:=hid (HA.keep W);have y:=hid (show ∀u:World,Below U.heap.size U u→u.cell? ⟨a,33,none⟩=some (.int .i64 c.1)∧u.rangeAt a 1 (idV i) from fun u hu=>⟨(Y.keep hu).rest 0,(Y.keep hu).idAt⟩);refine rN 12 (fun u=>Below U.heap.size U u) (qD _ _) fun I=>?_
  refine tw 0 _ ?_;go_frame;refine tw 1 _ ?_;go_frame;refine tw 2 _ ?_;go_frame;refine tw 3 _ ?_;go_frame;refine tl 4 _ rfl I (fun w' A=>l1 underlying3 (y w' A).1) ?_;go_frame;refine tw 5 _ ?_;go_frame;refine tw 6 _ ?_;go_frame;refine tw 7 _ ?_;go_frame;refine tl 8 _ rfl I (fun w' A=>ldD F (y w' A).2) ?_;go_frame;refine tw 9 _ ?_;go_frame;refine tk 10 (.agg (kc (c.1,i,(place:Int))).toArray) rfl (fun w' A=>kp 89 _ rfl (by simp only[xV,xX,Yy];exact Z8 (t:=c.1) (x:=(place:Int)) F.out _)) ?_;go_frame;refine ta 11 ?_;refine zJ _ rfl yq 89 rfl (kc (0,k9,0)) (zG _) ?_;intro W2 AL AM B1;have Z:=hid ((qD U.heap.size U).trans (AL.mono (qD U.heap.size U).size));have Ad:=hid AM
  clear AL AM B1;refine⟨fun _ _=>Z,?_⟩;go_frame;refine ta 12 ?_;have AN:=ke V.out;refine kR _ rfl yq 89 _ _ rfl U.drew.heap.size 0 [] (kc (0,k9,0)) [] (kc (c.1,i,(place:Int))) 89 (.agg (kc (c.1,i,(place:Int))).toArray) rfl rfl rfl rfl (by simpa using Ad.out) (by rw[AN];rfl) (by rw[AN];kernel_rfl) (j8 _) ?_;intro W3 AO AP B2;have K:=hid (Z.trans (AO.below (B:=U.heap.size) Z.size (fun k hk e=>by
    have e2:k=U.drew.heap.size:=e;have e3:U.drew.heap.size=U.heap.size:=rfl;omega)))
  have L:Hid (W3.heap[U.drew.heap.size]?=some (.cells (kc (c.1,i,(place:Int))).toArray 89 (0,0))):=hid (by simpa using AP);clear AO AP B2;refine⟨fun h=>absurd h yj,?_⟩;go_frame;refine ku yq ?_ _;obtain⟨b8,At⟩:=Xy U.drew.heap.size;rw[At] at L ⊢;clear At Z Ad I y;have A0:=hid (Ac.keep K);have A1:=hid (Y.keep K);have T:Hid (Below w.heap.size w W3):=hid (Xx W.out K.out);have b:=hid ((K.block b7 (qX X)).trans X);clear Ac Y W K X;have Ae:=hid (show W3.rangeAt b7 1 (kw x.2.1) from fun j u E=>(k6 b (1+j)).trans ((kB R).2.1 j u E));have AH:=ke Au.out
  go_upto_region 3 with (first
    |(with_reducible refine k8 ?_
      refine k7 yk (kg 110 _ rfl (p:=⟨b7,1,none⟩) rfl (qV _ b7 1 _ (kw x.2.1) _ Ae underlying110 rfl (by rw[kq R.1.1];kernel_rfl))) ?_)
    |(go_at_call 97;refine(Zl B a s S q i c dv ov vm x.2.1 W3 A0 A1 R.1.1).mono ?_;rintro e w4 ⟨AQ,rfl⟩;have M:=hid AQ;clear AQ)
    |(with_reducible refine kF ?_
      refine kv yk 89 rfl (kc (0,k9,0)) (zG _) ?_;intro W5 A2 Af B9)
    |(with_reducible refine kD ?_
      refine kr yk 89 _ _ rfl w4.heap.size 0 [] (kc (0,k9,0)) [] (kc (jg S i c.1 x.2.1)) 89 (.agg (kc (jg S i c.1 x.2.1)).toArray) rfl rfl rfl rfl (by simpa using Af.out) (by rw[AH];rfl) (by rw[AH];kernel_rfl) (j8 _) ?_;intro W6 B3 B4 Ba;have G:=hid (M.trans ((A2.trans (B3.below (B:=w4.heap.size) A2.size (fun k hk e=>by have e2:k=w4.heap.size:=e;omega))).mono M.size));have d:Hid (W6.heap[w4.heap.size]?=some (.cells (kc (jg S i c.1 x.2.1)).toArray 89 (0,0))):=hid (by simpa using B4.out)))
  obtain⟨b9,An⟩:=Xy w4.heap.size;have Av:=hid (show w.heap.size≤b9 by have:=T.size;have:=M.size;omega);have Ap:=hid (show b8<b9 by have h1:=qX L.out;have:=M.size;omega);rw[An] at d ⊢;clear M A2 Af An Ae;have A3:=hid (A0.keep G);have Aw:=hid (A1.keep G);have A4:Hid (Below w.heap.size w W6):=hid (Xx T.out G.out);have f:=hid ((G.block b7 (qX b)).trans b);have l:=hid ((G.block b8 (qX L)).trans L);clear A0 A1 T G b L;have k0:W6.cell? ⟨b7,0,none⟩=some (.int .u8 (x.1.toNat:Int)):=(k6 f 0).trans (kB R).1;have D:Hid (kJ (c.1,i,(next:Int))):=hid ⟨htm,F,by
    show (Lit.int .i64 (next:Int)).wf=true;simp only[Lit.wf,IntKind.min,IntKind.max,IntKind.signed,IntKind.bits,xy];simp;omega⟩
  have Ax:Hid (Kx ((c.1,i,(place:Int)),(c.1,i,(next:Int)),3,x.2.2.2.2.2)):=hid ⟨V,D,(by show 3<256;omega),hps⟩;have Ay:Hid (Jh S i c.1 place next x=(zQ S.1 (c.1,i,(next:Int)) [],S.2.1++[((c.1,i,(place:Int)),(c.1,i,(next:Int)),3,x.2.2.2.2.2)],S.2.2)):=hid (by
    unfold Jh;rw[if_pos hk])
  have EK:Hid ((x.1.toNat:Int)=3):=hid (by rw[hk];rfl);have ek:=EK.out;rw[ek] at k0;have AR:=ke D.out;have AI:zz (k9,(next:Int)):=⟨jT,D.2.2⟩;have Az:=hid (Zl B a s S q i c dv ov vm (k9,(next:Int)) W6 A3 Aw AI);clear ek AI hk
  go_upto_region 6 with (first
    |(with_reducible refine kL ?_
      refine k7 yk (kp 110 _ rfl (by simp only[xV,xX,Yy];exact Us _ _)) ?_)
    |(go_at_call 97;refine Az.mono ?_;rintro e w7 ⟨Aa,rfl⟩;rw[show jg S i c.1 (k9,(next:Int))=(c.1,i,(next:Int)) from by unfold jg;rw[if_pos rfl]];have AA:=hid Aa;have AB:=hid ((Aa.block b9 (qX d)).trans d);clear Aa)
    |(with_reducible refine kD ?_
      refine kr yk 89 _ _ rfl b9 0 [] (kc (jg S i c.1 x.2.1)) [] (kc (c.1,i,(next:Int))) 89 (.agg (kc (c.1,i,(next:Int))).toArray) rfl rfl rfl rfl (by simpa using AB.out) (by rw[AR,AH]) (by rw[AR];kernel_rfl) (j8 _) ?_;intro Q At B5 Bb;have m:Hid (But (fun k=>k=b9) W6 Q):=hid ((But.of_below AA).trans At fun k hk e=>e);have n:Hid (Q.heap[b9]?=some (.cells (kc (c.1,i,(next:Int))).toArray 89 (0,0))):=hid (by simpa using B5.out)))
  clear k0;have Aq:=hid (show W6.heap.size≤Q.heap.size from m.size);have J:Hid (Below w.heap.size w Q):=hid (A4.trans (m.below A4.size fun k hk e=>by have:=Av.out;omega));have A5:=hid (HS.keep J);have Ag:=hid (HA.keep J);have Ah:=hid ((m.block b7 (qX f) (ji f d yj)).trans f.out);have o:=hid ((m.block b8 (qX l) (fun e=>by have:=Ap.out;omega)).trans l.out);have AC:Hid (B≤Q.heap.size):=hid (qT A3.low.1 (YV (qL (qX A3.box) Aq)));have A6:=hid (show ∀u:World,Below Q.heap.size Q u→u.cell? ⟨a,0,none⟩=some (.pointer (some ⟨s,0,none⟩))∧u.cell? ⟨s,0,none⟩=some (.map (some q.bd))∧u.rangeAt b9 0 (kc (c.1,i,(next:Int))) from fun u hu=>⟨(Ag.keep hu).st,k6 (A5.keep hu).box 0,fun j v E=>by rw[qZ];exact(k6 ((hu.block b9 (qX n)).trans n) j).trans E⟩);have B6:=enE func99 rfl;refine rN 10 (fun u=>Below Q.heap.size Q u) (qD _ _) fun I=>?_
  refine tw 0 _ ?_;go_frame;refine tw 1 _ ?_;go_frame;refine tw 2 _ ?_;go_frame;refine tl 3 _ rfl I (fun w' A=>l1 underlying24 (A6 w' A).1) ?_;go_frame;refine tw 4 _ ?_;go_frame;refine tw 5 _ ?_;go_frame;refine tw 6 _ ?_;go_frame;refine tl 7 _ rfl I (fun w' A=>l1 underlying81 (A6 w' A).2.1) ?_;go_frame;refine tl 8 _ rfl I (fun w' A=>ldK D (A6 w' A).2.2) ?_;go_frame;refine ta 9 ?_;refine tc #[] B6 rfl ?_ (ha:=by simp);refine(docNew_any B Q.drew AC).mono ?_;rintro e w9 ⟨rfl,An,AS⟩;have C:=hid ((qD Q.heap.size Q).trans (An.mono (qD Q.heap.size Q).size));have A7:=hid AS
  clear An AS;refine⟨_,rfl,fun _ _=>C,?_⟩;go_frame;obtain⟨p9,AT⟩:=Xy Q.drew.heap.size;rw[AT] at A7 ⊢;have Ai:=hid (show p9=Q.heap.size from AT.symm);have A8:=hid (A5.keep C);refine ta 10 ?_;refine Jy _ rfl yq ?_;refine op_mapPut _ _ _ 81 rfl 92 keyEnc underlying81 rfl A8.mapD yY (c.1,i,(next:Int)) D.out rfl (.pointer (some ⟨p9,0,none⟩)) rfl ?_;intro wA AU AV;have Aj:=hid AU;have N:Hid (But (fun j=>j=q.bd) w9 wA):=hid ((But.refl _ w9).grown AV fun k e _=>(Option.some.inj e).symm);clear AU AV;refine⟨fun h=>absurd h yj,?_⟩;go_frame;refine ku yq ?_ _;have AW:∀z,(jv S z).isSome=true→¬DocX (q.ptr z) (q.row z) p9:=fun z hz hx=>by
    have h1:=(A5.apartDoc hz hx).1;have h2:=Ai.out;omega
  have Ab:=A8.putDoc D.out A7.at AW Aj.out N.out;obtain⟨qA,AJ⟩:∃z:kV,z={ q with nd:=q.nd+1,ptr:=fun z=>if z=(c.1,i,(next:Int)) then p9 else q.ptr z,row:=fun z=>if z=(c.1,i,(next:Int)) then .slice none 0 0 else q.row z}:=⟨_,rfl⟩;rw[←AJ] at Ab;have Ar:=hid Ab;have H:=hid AJ
  have O:∀{k:Nat} {cur:Array Value} {t:TypeId} {fr:Nat×Nat},w9.heap[k]?=some (.cells cur t fr)→wA.heap[k]?=some (.cells cur t fr):=fun {k cur t fr} hc=>(N.block k (qX hc) (JV hc A8.mapD_obj)).trans hc
  have AD:=hid (AdderAt.mk (dv:=dv) (ov:=ov) (vm:=vm) (c:=c) (s:=s) (O ((Ag.keep C).box)) F);have Ak:=hid (O ((C.block b7 (qX Ah)).trans Ah));have Al:=hid (O ((C.block b8 (qX o)).trans o));have Am:=hid (O ((C.block b9 (qX n)).trans n));have As:Hid (But (StX s S q) w wA):=hid ((But.of_below (Xx J.out C.out)).trans N fun k hk e=>.inr (.inl e));have A9:=hid (show w.heap.size≤wA.heap.size∧w.heap.size≤p9 from by
    have h1:=J.size;have h2:=C.size;have h3:=N.size;have h4:=Ai.out
    omega)
  have AZ:(zQ S.1 (c.1,i,(next:Int)) [],S.2).2.1.length≤1073741824:=hcl;clear Ab AJ Aj N C A7 O AW
  go_upto_region 7 with fail
  have P:=hid (show ∀u:World,Below wA.heap.size wA u→u.cell? ⟨a,0,none⟩=some (.pointer (some ⟨s,0,none⟩))∧u.rangeAt b8 0 (kc (c.1,i,(place:Int)))∧u.rangeAt b9 0 (kc ((c.1,i,(next:Int))))∧u.cell? ⟨b7,0,none⟩=some (.int .u8 (3:Int))∧u.cell? ⟨b7,69,none⟩=some (.string x.2.2.2.2.2) from fun u hu=>by
    have hZ:=(hu.block b7 (qX Ak)).trans Ak.out;refine⟨(AD.keep hu).st,fun j v E=>?_,fun j v E=>?_,?_,(k6 hZ 69).trans (kB R).2.2.2.2.2⟩
    ·rw[qZ];exact(k6 ((hu.block b8 (qX Al)).trans Al) j).trans E
    ·rw[qZ];exact(k6 ((hu.block b9 (qX Am)).trans Am) j).trans E
    ·rw[k6 hZ 0,(kB R).1,EK.out])
  have B7:=enE func100 rfl;refine rN 13 (fun u=>Below wA.heap.size wA u) (qD _ _) fun I=>?_
  refine tw 0 _ ?_;go_frame;refine tw 1 _ ?_;go_frame;refine tw 2 _ ?_;go_frame;refine tl 3 _ rfl I (fun w' A=>l1 underlying24 (P w' A).1) ?_;go_frame;refine tw 4 _ ?_;go_frame;refine tw 5 _ ?_;go_frame;refine tl 6 _ rfl I (fun w' A=>ldK V (P w' A).2.1) ?_;go_frame;refine tl 7 _ rfl I (fun w' A=>ldK D (P w' A).2.2.1) ?_;go_frame;refine tw 8 _ ?_;go_frame;refine tl 9 _ rfl I (fun w' A=>l1 underlying5 (P w' A).2.2.2.1) ?_;go_frame;refine tw 10 _ ?_;go_frame;refine tl 11 _ rfl I (fun w' A=>l1 underlying9 (P w' A).2.2.2.2) ?_;go_frame;refine tk 12 (.agg (kT ((c.1,i,(place:Int)),(c.1,i,(next:Int)),(3),x.2.2.2.2.2)).toArray) rfl (fun w' A=>kp 135 _ rfl (by simp only[xV,xX,Yy];exact qy _ _ V.out D.out _ _ _)) ?_;go_frame;refine ta 13 ?_;refine tc #[.pointer (some ⟨s,0,none⟩),.agg (kT ((c.1,i,(place:Int)),(c.1,i,(next:Int)),(3),x.2.2.2.2.2)).toArray] B7 rfl ?_;refine(claim_any B s (zQ S.1 (c.1,i,(next:Int)) [],S.2) qA ((c.1,i,(place:Int)),(c.1,i,(next:Int)),(3),x.2.2.2.2.2) wA.drew (Ar.keep (qD _ _)) Ax AZ).mono ?_;rintro e w8 ⟨rfl,AX,v',Ab,AY⟩;have AE:=hid AX;have AF:=hid Ab;have AG:=hid AY
  clear AX Ab AY;refine⟨_,rfl,fun h=>absurd h yj,?_⟩;go_frame;refine ku yq ?_ _;go_wp2_with fail
  go_end0
  rw[Ay.out];refine⟨rfl,_,AF,As.trans ((But.refl _ wA).drew.trans AE fun k _ hx=>hx) fun k hk hx=>?_,fun j E=>?_,?_⟩
  ·rcases hx with hx|hx
   ·exact .inl hx
   ·rw[H.out] at hx;exact .inr (.inr (.inr (.inl hx)))
  ·rcases E with E|E|E|E|⟨k,hk,E⟩
   ·exact .inl (.inl E)
   ·rw[H.out] at E;exact .inl (.inr (.inl E))
   ·rw[H.out] at E;exact .inl (.inr (.inr (.inl E)))
   ·rcases AG.out j E with g|g
    ·rw[H.out] at g;exact .inl (.inr (.inr (.inr (.inl g))))
    ·exact .inr (qT A9.1 g)
   ·have AK:(jv (zQ S.1 (c.1,i,(next:Int)) [],S.2) k).isSome=true:=hk;rw[uu] at AK;rw[H.out] at E;by_cases e:k=(c.1,i,(next:Int))
    ·have Ao:DocX p9 (.slice none 0 0) j:=by simpa [e] using E
     rcases Ao with rfl|Ao
     ·exact .inr A9.2
     ·cases Ao
    ·rw[if_neg e] at AK;have Ao:DocX (q.ptr k) (q.row k) j:=by simpa [e] using E
     exact .inl (.inr (.inr (.inr (.inr ⟨k,AK,Ao⟩))))
  ·show qA.nd≤q.nd+1;rw[H.out];exact xY _
theorem docPtrZ(w:World):(zeroValue 92).run prog w=.ok (.pointer none) w:=yq
theorem insert_nil(key at':kE)(first:Bool)(s:ByteArray)(l:List Nat)(w:World)(hk:kJ key)(ha:kJ at')(hs:s.size≤1099511627776)(hr:jH s=some l):
    Calls prog 101 #[.pointer none,.agg (kc key).toArray,.agg (kc at').toArray,.bool first,.string s] w fun e w'=>Below w.heap.size w w'∧∃n:Int,e=.returned (.int .i64 n):=by
  have D:=hid hr;have H:=ke hk;have I:=ke ha;clear hr hk ha;go_enter func101,ntmps101
  go_wp2_with (first
    |(with_reducible refine kG ?_
      refine kz yk 89 _ rfl (kc key) _ rfl rfl (by rw[H];kernel_rfl) ?_;intro P B L M)
    |(with_reducible refine kG ?_
      refine kz yk 89 _ rfl (kc at') _ rfl rfl (by rw[I];kernel_rfl) ?_;intro K C N O)
    |(go_at_call 155;refine(Q8 s K hs).mono ?_;rintro e Q ⟨G,⟨R,A,c,F,rfl,J⟩|⟨F,_⟩⟩
      rotate_left
      ·exact absurd (D.symm.trans F) yZ
      have E:=hid G;clear G J F))
  go_ret;exact⟨(Xx B.out C.out).trans (E.mono (Xx B.out C.out).size),_,rfl⟩
theorem do_insert(B a s:Nat)(S:kj)(q:kV)(i:List UInt8)(c:ks)(dv ov vm:Value)(place next:Nat)(x:OpD)(w:World)(h:StateAt w B s S q)(hA:AdderAt w a s i c dv ov vm)(hx:KR x)(htm:(Lit.int .i64 c.1).wf=true)(hpl:place≤1073741824)(hnx:next≤1099511627776)(hk:x.1=1)(l:List Nat)(hrs:jH x.2.2.2.1=some l)(hln:l.length≤1099511627776)(hts:x.2.2.2.1.size≤1099511627776)(hax:Ix x.2.2.1.2)(hdd:∀d,jv S (jg S i c.1 x.2.1)=some d→RunIx d∧d.length≤1073741822):
    Calls prog 53 #[.pointer (some ⟨a,0,none⟩),.int .i64 (place:Int),.int .i64 (next:Int),.agg (opV x).toArray] w (UZ w B s S (Jh S i c.1 place next x) q):=by
  have HS:=hid h;have D:=hid hx;have HA:=hid hA
  have AK:=kI hx;have L:Hid (jr i):=hid hA.id;clear h hx hA;have Am:Hid (kJ (c.1,i,(place:Int))):=hid ⟨htm,L,by
    show (Lit.int .i64 (place:Int)).wf=true;simp only[Lit.wf,IntKind.min,IntKind.max,IntKind.signed,IntKind.bits,xy];simp;omega⟩
  have P:=hid (ZV (t:=c.1) (r:=x.2.1) HS L htm D.1.1);go_enter func53,ntmps53
  go_upto_region 1 with (first
    |(with_reducible refine kG ?_
      refine kz yk 112 _ rfl (opV x) _ rfl rfl (by rw[AK];kernel_rfl) ?_;intro X Y Z AT))
  obtain⟨J,Av⟩:=Xy w.heap.size;rw[Av] at Z ⊢;clear Av;have Aa:=hid (HS.keep Y);have b:=hid (HA.keep Y);have o:=hid (show ∀u:World,Below X.heap.size X u→u.cell? ⟨a,33,none⟩=some (.int .i64 c.1)∧u.rangeAt a 1 (idV i) from fun u n=>⟨(b.keep n).rest 0,(b.keep n).idAt⟩);refine rN 12 (fun u=>Below X.heap.size X u) (qD _ _) fun E=>?_
  refine tw 0 _ ?_;go_frame;refine tw 1 _ ?_;go_frame;refine tw 2 _ ?_;go_frame;refine tw 3 _ ?_;go_frame;refine tl 4 _ rfl E (fun w' A=>l1 underlying3 (o w' A).1) ?_;go_frame;refine tw 5 _ ?_;go_frame;refine tw 6 _ ?_;go_frame;refine tw 7 _ ?_;go_frame;refine tl 8 _ rfl E (fun w' A=>ldD L (o w' A).2) ?_;go_frame;refine tw 9 _ ?_;go_frame;refine tk 10 (.agg (kc (c.1,i,(place:Int))).toArray) rfl (fun w' A=>kp 89 _ rfl (by simp only[xV,xX,Yy];exact Z8 (t:=c.1) (x:=(place:Int)) L.out _)) ?_;go_frame;refine ta 11 ?_;refine zJ _ rfl yq 89 rfl (kc (0,k9,0)) (zG _) ?_;intro W2 Aw Ax AL;have f:=hid ((qD X.heap.size X).trans (Aw.mono (qD X.heap.size X).size));have Ab:=hid Ax
  clear Aw Ax AL;refine⟨fun _ _=>f,?_⟩;go_frame;refine ta 12 ?_;have Ay:=ke Am.out;refine kR _ rfl yq 89 _ _ rfl X.drew.heap.size 0 [] (kc (0,k9,0)) [] (kc (c.1,i,(place:Int))) 89 (.agg (kc (c.1,i,(place:Int))).toArray) rfl rfl rfl rfl (by simpa using Ab.out) (by rw[Ay];rfl) (by rw[Ay];kernel_rfl) (j8 _) ?_;intro W3 Az AA AM;have Q:=hid (f.trans (Az.below (B:=X.heap.size) f.size (fun k hk e=>by
    have e2:k=X.drew.heap.size:=e;have e3:X.drew.heap.size=X.heap.size:=rfl;omega)))
  have R:Hid (W3.heap[X.drew.heap.size]?=some (.cells (kc (c.1,i,(place:Int))).toArray 89 (0,0))):=hid (by simpa using AA);clear Az AA AM;refine⟨fun h=>absurd h yj,?_⟩;go_frame;refine ku yq ?_ _;obtain⟨b8,AB⟩:=Xy X.drew.heap.size;rw[AB] at R ⊢;clear AB f Ab E o;have y:=hid (Aa.keep Q);have z:=hid (b.keep Q);have U:Hid (Below w.heap.size w W3):=hid (Xx Y.out Q.out);have m:=hid ((Q.block J (qX Z)).trans Z);clear Aa b Y Q Z;have Ac:=hid (show W3.rangeAt J 1 (kw x.2.1) from fun j u O=>(k6 m (1+j)).trans ((kB D).2.1 j u O));have AC:=ke P.out
  go_upto_region 3 with (first
    |(with_reducible refine k8 ?_
      refine k7 yk (kg 110 _ rfl (p:=⟨J,1,none⟩) rfl (qV _ J 1 _ (kw x.2.1) _ Ac underlying110 rfl (by rw[kq D.1.1];kernel_rfl))) ?_)
    |(go_at_call 97;refine(Zl B a s S q i c dv ov vm x.2.1 W3 y z D.1.1).mono ?_;rintro e w4 ⟨AD,rfl⟩;have T:=hid AD;clear AD)
    |(with_reducible refine kF ?_
      refine kv yk 89 rfl (kc (0,k9,0)) (zG _) ?_;intro W5 A0 Ad AU)
    |(with_reducible refine kD ?_
      refine kr yk 89 _ _ rfl w4.heap.size 0 [] (kc (0,k9,0)) [] (kc (jg S i c.1 x.2.1)) 89 (.agg (kc (jg S i c.1 x.2.1)).toArray) rfl rfl rfl rfl (by simpa using Ad.out) (by rw[AC];rfl) (by rw[AC];kernel_rfl) (j8 _) ?_;intro K AN AO AV;have M:=hid (T.trans ((A0.trans (AN.below (B:=w4.heap.size) A0.size (fun k hk e=>by have e2:k=w4.heap.size:=e;omega))).mono T.size));have A1:Hid (K.heap[w4.heap.size]?=some (.cells (kc (jg S i c.1 x.2.1)).toArray 89 (0,0))):=hid (by simpa using AO.out)))
  obtain⟨b9,AE⟩:=Xy w4.heap.size;have AJ:=hid (show w.heap.size≤b9 by have:=U.size;have:=T.size;omega);have AI:=hid (show b8<b9 by have h1:=qX R.out;have:=T.size;omega);rw[AE] at A1 ⊢;clear T A0 Ad AE Ac;have F:=hid (y.keep M);have A2:=hid (z.keep M);have V:Hid (Below w.heap.size w K):=hid (Xx U.out M.out);have A3:=hid ((M.block J (qX m)).trans m);have Au:=hid ((M.block b8 (qX R)).trans R);clear y z U M m R;have k0:K.cell? ⟨J,0,none⟩=some (.int .u8 (x.1.toNat:Int)):=(k6 A3 0).trans (kB D).1;have A4:Hid (kJ (c.1,i,(next:Int))):=hid ⟨htm,L,by
    show (Lit.int .i64 (next:Int)).wf=true;simp only[Lit.wf,IntKind.min,IntKind.max,IntKind.signed,IntKind.bits,xy];simp;omega⟩
  have EK:Hid ((x.1.toNat:Int)=1):=hid (by rw[hk];rfl);have ek:=EK.out;rw[ek] at k0;have Ap:zz (k9,(next:Int)):=⟨jT,A4.2.2⟩;have Ae:=hid (ZV (t:=c.1) (r:=x.2.2.1) F L htm D.1.2.1);have AF:(jg S i c.1 x.2.2.1).2.2=x.2.2.1.2:=by unfold jg;split<;>rfl
  have W:=hid (fun (u:World) (n:Below K.heap.size K u)=>Zl B a s S q i c dv ov vm (k9,(next:Int)) u (F.keep n) (A2.keep n) Ap);have A5:=hid (fun (u:World) (n:Below K.heap.size K u)=>Zl B a s S q i c dv ov vm x.2.2.1 u (F.keep n) (A2.keep n) D.1.2.1)
  have Af:=hid (show Jh S i c.1 place next x=(match jv S (jg S i c.1 x.2.1) with
      |none=>S
      |some d=>(zQ S.1 (jg S i c.1 x.2.1) (jG d (c.1,i,(next:Int)) (jg S i c.1 x.2.2.1) (decide (x.2.2.1=x.2.1)) l).1,S.2)) from by
    unfold Jh;rw[if_neg (by rw[hk];decide),if_neg (by rw[hk];decide)]
    split
    ·rename_i e;rw[e]
    ·rename_i d e;rw[e];dsimp only;rw[if_pos hk,hrs];rfl)
  have C:=hid (show ∀u:World,Below K.heap.size K u→u.cell? ⟨a,0,none⟩=some (.pointer (some ⟨s,0,none⟩))∧u.cell? ⟨s,0,none⟩=some (.map (some q.bd))∧u.rangeAt b9 0 (kc (jg S i c.1 x.2.1))∧u.rangeAt J 34 (kw x.2.2.1)∧u.rangeAt J 1 (kw x.2.1)∧u.cell? ⟨J,67,none⟩=some (.string x.2.2.2.1) from fun u n=>by
    have hZ:=(n.block J (qX A3)).trans A3.out;exact⟨(A2.keep n).st,k6 (F.keep n).box 0,fun j v O=>by rw[qZ];exact(k6 ((n.block b9 (qX A1)).trans A1) j).trans O,fun j v O=>(k6 hZ (34+j)).trans ((kB D).2.2.1 j v O),fun j v O=>(k6 hZ (1+j)).trans ((kB D).2.1 j v O),(k6 hZ 67).trans (kB D).2.2.2.1⟩)
  have Al:=enE func97 rfl;have AG:=enE func101 rfl;have Aq:jg S i c.1 (k9,(next:Int))=(c.1,i,(next:Int)):=by unfold jg;rw[if_pos rfl]
  rw[Aq] at W;have EQ:=hid (fun (u:World)=>jU D.1.2.1 D.1.1 u);have An:=hid hdd;have Ao:=hid AF;generalize jg S i c.1 x.2.1=kd at *;generalize jg S i c.1 x.2.2.1=ka at *;have Ag:=hid hrs;clear ek Ap hk hrs hdd Aq AF;cases hdoc:jv S kd with
  |none=>
   have N:=hid hdoc;have A6:Hid (Jh S i c.1 place next x=S):=hid (by rw[Af.out,hdoc]);clear hdoc
   go_upto_region 12 with fail
   clear k0;refine rN 25 (fun u=>Below K.heap.size K u) (qD _ _) fun E=>?_
   refine tw 0 _ ?_;go_frame;refine tw 1 _ ?_;go_frame;refine tw 2 _ ?_;go_frame;refine tl 3 _ rfl E (fun w' A=>l1 underlying24 (C w' A).1) ?_;go_frame;refine tw 4 _ ?_;go_frame;refine tw 5 _ ?_;go_frame;refine tw 6 _ ?_;go_frame;refine tl 7 _ rfl E (fun w' A=>l1 underlying81 (C w' A).2.1) ?_;go_frame;refine tl 8 _ rfl E (fun w' A=>ldK P (C w' A).2.2.1) ?_;go_frame;refine tl 9 (.pointer none) rfl E (fun w' A=>Kd keyEnc underlying81 (docPtrZ _) (F.keep A).mapD P (by rw[N.out];rfl)) ?_;go_frame;refine tw 10 _ ?_;go_frame;refine tw 11 _ ?_;go_frame;refine tk 12 (.agg (kw (k9,(next:Int))).toArray) rfl (fun w' A=>kp 110 _ rfl (by simp only[xV,xX,Yy];exact Us _ _)) ?_;go_frame;refine tw 14 _ ?_;go_frame;refine tw 15 _ ?_;go_frame;refine tl 16 (.agg (kw x.2.2.1).toArray) rfl E (fun w' A=>kg 110 _ rfl (p:=⟨J,34,none⟩) rfl (qV w' J 34 _ (kw x.2.2.1) _ (C w' A).2.2.2.1 underlying110 rfl (by rw[kq D.1.2.1];kernel_rfl))) ?_;go_frame;refine tw 18 _ ?_;go_frame;refine tl 19 (.agg (kw x.2.2.1).toArray) rfl E (fun w' A=>kg 110 _ rfl (p:=⟨J,34,none⟩) rfl (qV w' J 34 _ (kw x.2.2.1) _ (C w' A).2.2.2.1 underlying110 rfl (by rw[kq D.1.2.1];kernel_rfl))) ?_;go_frame;refine tw 20 _ ?_;go_frame;refine tl 21 (.agg (kw x.2.1).toArray) rfl E (fun w' A=>kg 110 _ rfl (p:=⟨J,1,none⟩) rfl (qV w' J 1 _ (kw x.2.1) _ (C w' A).2.2.2.2.1 underlying110 rfl (by rw[kq D.1.1];kernel_rfl))) ?_;go_frame;refine tk 22 _ rfl (fun w' A=>Kc 110 _ _ _ rfl rfl rfl eqRef.noGuard (EQ _)) ?_;go_frame;refine tw 23 _ ?_;go_frame;refine tl 24 _ rfl E (fun w' A=>l1 underlying9 (C w' A).2.2.2.2.2) ?_;go_frame;refine ta 13 ?_;refine tc #[.pointer (some ⟨a,0,none⟩),.agg (kw (k9,(next:Int))).toArray] Al rfl ?_;refine(W _ (qD _ _)).mono ?_;rintro e u1 ⟨Ai,rfl⟩;have G:=hid ((qD K.heap.size K).trans (Ai.mono (qD K.heap.size K).size));clear Ai;refine⟨_,rfl,fun _ _=>G,?_⟩;go_frame;refine ta 17 ?_;refine tc #[.pointer (some ⟨a,0,none⟩),.agg (kw x.2.2.1).toArray] Al rfl ?_;refine(A5 _ G).mono ?_;rintro e u2 ⟨Aj,rfl⟩;have H:=hid (Xx G.out Aj);clear Aj;refine⟨_,rfl,fun _ _=>H,?_⟩;go_frame;refine ta 25 ?_;refine tc #[.pointer none,.agg (kc (c.1,i,(next:Int))).toArray,.agg (kc ka).toArray,.bool (decide (x.2.2.1=x.2.1)),.string x.2.2.2.1] AG rfl ?_;refine(insert_nil (c.1,i,(next:Int)) ka _ x.2.2.2.1 l u2 A4 Ae hts Ag).mono ?_;rintro e AP ⟨A8,AQ,rfl⟩;have I:=hid (Xx H.out A8);clear A8;refine⟨_,rfl,fun h=>absurd h yj,?_⟩;go_frame;refine ku yq ?_ _;go_wp2_with fail
   go_end0
   rw[A6.out];exact⟨rfl,q,F.keep I,But.of_below (Xx V.out I.out),NewerX.refl _ _ _ _,Nat.le_succ _⟩
  |some d=>
   have N:=hid hdoc;have A6:Hid (Jh S i c.1 place next x=(zQ S.1 kd (jG d (c.1,i,(next:Int)) ka (decide (x.2.2.1=x.2.1)) l).1,S.2)):=hid (by rw[Af.out,hdoc]);have Ah:=hid (An d hdoc);clear hdoc
   go_upto_region 12 with fail
   clear k0;refine rN 25 (fun u=>Below K.heap.size K u) (qD _ _) fun E=>?_
   refine tw 0 _ ?_;go_frame;refine tw 1 _ ?_;go_frame;refine tw 2 _ ?_;go_frame;refine tl 3 _ rfl E (fun w' A=>l1 underlying24 (C w' A).1) ?_;go_frame;refine tw 4 _ ?_;go_frame;refine tw 5 _ ?_;go_frame;refine tw 6 _ ?_;go_frame;refine tl 7 _ rfl E (fun w' A=>l1 underlying81 (C w' A).2.1) ?_;go_frame;refine tl 8 _ rfl E (fun w' A=>ldK P (C w' A).2.2.1) ?_;go_frame;refine tl 9 (.pointer (some ⟨q.ptr kd,0,none⟩)) rfl E (fun w' A=>Kd keyEnc underlying81 (docPtrZ _) (F.keep A).mapD P (by rw[N.out];rfl)) ?_;go_frame;refine tw 10 _ ?_;go_frame;refine tw 11 _ ?_;go_frame;refine tk 12 (.agg (kw (k9,(next:Int))).toArray) rfl (fun w' A=>kp 110 _ rfl (by simp only[xV,xX,Yy];exact Us _ _)) ?_;go_frame;refine tw 14 _ ?_;go_frame;refine tw 15 _ ?_;go_frame;refine tl 16 (.agg (kw x.2.2.1).toArray) rfl E (fun w' A=>kg 110 _ rfl (p:=⟨J,34,none⟩) rfl (qV w' J 34 _ (kw x.2.2.1) _ (C w' A).2.2.2.1 underlying110 rfl (by rw[kq D.1.2.1];kernel_rfl))) ?_;go_frame;refine tw 18 _ ?_;go_frame;refine tl 19 (.agg (kw x.2.2.1).toArray) rfl E (fun w' A=>kg 110 _ rfl (p:=⟨J,34,none⟩) rfl (qV w' J 34 _ (kw x.2.2.1) _ (C w' A).2.2.2.1 underlying110 rfl (by rw[kq D.1.2.1];kernel_rfl))) ?_;go_frame;refine tw 20 _ ?_;go_frame;refine tl 21 (.agg (kw x.2.1).toArray) rfl E (fun w' A=>kg 110 _ rfl (p:=⟨J,1,none⟩) rfl (qV w' J 1 _ (kw x.2.1) _ (C w' A).2.2.2.2.1 underlying110 rfl (by rw[kq D.1.1];kernel_rfl))) ?_;go_frame;refine tk 22 _ rfl (fun w' A=>Kc 110 _ _ _ rfl rfl rfl eqRef.noGuard (EQ _)) ?_;go_frame;refine tw 23 _ ?_;go_frame;refine tl 24 _ rfl E (fun w' A=>l1 underlying9 (C w' A).2.2.2.2.2) ?_;go_frame;refine ta 13 ?_;refine tc #[.pointer (some ⟨a,0,none⟩),.agg (kw (k9,(next:Int))).toArray] Al rfl ?_;refine(W _ (qD _ _)).mono ?_;rintro e u1 ⟨Ai,rfl⟩;have G:=hid ((qD K.heap.size K).trans (Ai.mono (qD K.heap.size K).size));clear Ai;refine⟨_,rfl,fun _ _=>G,?_⟩;go_frame;refine ta 17 ?_;refine tc #[.pointer (some ⟨a,0,none⟩),.agg (kw x.2.2.1).toArray] Al rfl ?_;refine(A5 _ G).mono ?_;rintro e u2 ⟨Aj,rfl⟩;have H:=hid (Xx G.out Aj);clear Aj;refine⟨_,rfl,fun _ _=>H,?_⟩;go_frame;refine ta 25 ?_;refine tc #[.pointer (some ⟨q.ptr kd,0,none⟩),.agg (kc (c.1,i,(next:Int))).toArray,.agg (kc ka).toArray,.bool (decide (x.2.2.1=x.2.1)),.string x.2.2.2.1] AG rfl ?_;refine(insert_any d (c.1,i,(next:Int)) ka _ x.2.2.2.1 l B (q.ptr kd) (q.row kd) u2 ((F.keep H).docs kd d N).2 A4 Ae Ah.1 Ah.2 hts Ag hln (by show Ix (next:Int);unfold Ix;omega) (by rw[Ao.out];exact hax)).mono ?_;rintro e AP ⟨⟨AQ,rfl⟩,AR,Ar,A8,As⟩;have Ak:=hid Ar;have I:=hid A8;have A7:=hid As
   clear Ar A8 As;refine⟨_,rfl,fun h=>absurd h yj,?_⟩;go_frame;refine ku yq ?_ _;go_wp2_with fail
   go_end0
   rw[A6.out];have AS:=(F.keep H).turn N.out I.out Ak.out A7.out;have AH:Below w.heap.size w u2:=V.trans (H.mono V.size);have At:(jv S kd).isSome=true:=by rw[N.out];rfl
   refine⟨rfl,_,AS,(But.of_below AH).trans I fun k hk hx=>.inr (.inr (.inr (.inr ⟨kd,At,hx⟩))),fun j O=>?_,Nat.le_succ _⟩;rcases O with O|O|O|O|⟨k,hk,O⟩
   ·exact .inl (.inl O)
   ·exact .inl (.inr (.inl O))
   ·exact .inl (.inr (.inr (.inl O)))
   ·exact .inl (.inr (.inr (.inr (.inl O))))
   ·rw[uu] at hk;by_cases e:k=kd
    ·subst e;have A9:DocX (q.ptr k) AR j:=by simpa using O
     rcases A9 with A9|A9
     ·exact .inl (.inr (.inr (.inr (.inr ⟨k,At,.inl A9⟩))))
     ·rcases A7.out j A9 with g|g
      ·exact .inl (.inr (.inr (.inr (.inr ⟨k,At,.inr g⟩))))
      ·exact .inr (qT AH.size g)
    ·rw[if_neg e] at hk;have A9:DocX (q.ptr k) (q.row k) j:=by simpa [e] using O
     exact .inl (.inr (.inr (.inr (.inr ⟨k,hk,A9⟩))))
end
def killD(r:kQ):kQ:=(r.1,r.2.1,true)
section
variable {D K:List kQ} {k:kE} {n:Int} {i:Nat}
theorem cut_parts{r:kQ}{m:Nat}(hi:i<D.length)(hr:D[i]=r)(h0:0<m)(hm:m<r.2.1.length):zg D i m=D.take i++vT r m::zN r m::D.drop (i+1):=by
  unfold zg;rw[yK hi,hr];dsimp only;rw[if_pos ⟨h0,hm⟩]
theorem take_mid{α:Type}(l:List α){i:Nat}(hi:i≤l.length)(a:α)(t:List α):(l.take i++a::t).take (i+1)=l.take i++[a]∧(l.take i++a::t).drop (i+1)=t:=by
  have A:(l.take i).length=i:=by rw[Yj];omega
  constructor
  ·rw[List.take_append,A,Yq yv,show i+1 - i=1 by omega];rfl
  ·rw[List.drop_append,A,List.drop_of_length_le yv,show i+1 - i=1 by omega];rfl
theorem kill_next{x:kQ}{t:List kQ}(hi:i≤D.length)(H:K=D.take i++(x::t.flatMap fun r=>jP r k n)):K=(D.take i++x::t).take (i+1)++((D.take i++x::t).drop (i+1)).flatMap fun r=>jP r k n:=by
  obtain⟨A,B⟩:=take_mid D hi x t;rw[A,B,H];simp
theorem kill_here(hi:i<D.length)(H:K=D.take i++(D.drop i).flatMap fun r=>jP r k n):K=D.take i++(jP D[i] k n++(D.drop (i+1)).flatMap fun r=>jP r k n):=by
  rw[H,List.drop_eq_getElem_cons hi,List.flatMap_cons]
theorem kill_keepL(hi:i<D.length)(hm:jz D[i] k n=false)(H:K=D.take i++(D.drop i).flatMap fun r=>jP r k n):K=D.take (i+1)++(D.drop (i+1)).flatMap fun r=>jP r k n:=by
  have h:=kill_here hi H;rw[Z1 hm] at h;have e:D.take i++D[i]::D.drop (i+1)=D:=by rw[←List.drop_eq_getElem_cons hi,List.take_append_drop]
  have:=kill_next (D:=D) (i:=i) (x:=D[i]) (t:=D.drop (i+1)) yv (by simpa using h);rw[e] at this;exact this
theorem kill_cutL(hi:i<D.length)(hm:jz D[i] k n=true)(hn:1≤n)(hlt:D[i].1.2.2<k.2.2)(H:K=D.take i++(D.drop i).flatMap fun r=>jP r k n):
    K=(zg D i (k.2.2 - D[i].1.2.2).toNat).take (i+1)++((zg D i (k.2.2 - D[i].1.2.2).toNat).drop (i+1)).flatMap fun r=>jP r k n:=by
  obtain⟨e,A,B⟩:=kill_cut1 hm hn hlt;rw[cut_parts hi rfl A B];have h:=kill_here hi H;rw[e] at h;exact kill_next yv (by simpa using h)
theorem kcut_at{m:Nat}(hi:i<D.length)(h0:0<m):∃h:i<(zg D i m).length,(zg D i m)[i]=if m<D[i].2.1.length then vT D[i] m else D[i]:=by
  by_cases hm:m<D[i].2.1.length
  ·rw[if_pos hm];have e:=cut_parts hi rfl h0 hm;have A:(D.take i).length=i:=by rw[Yj];omega
   refine⟨by rw[e];simp;omega,?_⟩;simp only[e];rw[List.getElem_append_right yv];simp [A]
  ·rw[if_neg hm];have e:zg D i m=D:=by
     unfold zg;rw[yK hi];dsimp only;rw[if_neg yv]
   refine⟨by rw[e];exact hi,?_⟩;simp only[e]
theorem kill_deadL{m:Nat}(hi:i<D.length)(hm:jz D[i] k n=true)(hlt:¬D[i].1.2.2<k.2.2)(hm2:m=(k.2.2+n - D[i].1.2.2).toNat)(H:K=D.take i++(D.drop i).flatMap fun r=>jP r k n)(hi2:i<(zg D i m).length):
    K=((zg D i m).take i++killD (zg D i m)[i]::(zg D i m).drop (i+1)).take (i+1)++(((zg D i m).take i++killD (zg D i m)[i]::(zg D i m).drop (i+1)).drop (i+1)).flatMap fun r=>jP r k n:=by
  subst hm2;have h:=kill_here hi H;refine kill_next (D:=zg D i (k.2.2+n - D[i].1.2.2).toNat) yv ?_;by_cases hb:(k.2.2+n - D[i].1.2.2).toNat<D[i].2.1.length
  ·obtain⟨e,B⟩:=kill_cut2 hm hlt hb;obtain⟨_,A⟩:=kcut_at (D:=D) (i:=i) hi B;rw[if_pos hb] at A;rw[e] at h;rw[A];have C:=cut_parts hi rfl B hb;have G:(D.take i).length=i:=by rw[Yj];omega
   have E:(zg D i (k.2.2+n - D[i].1.2.2).toNat).take i=D.take i:=by
     rw[C,List.take_append_of_le_length yv,List.take_take,Nat.min_self]
   have F:(zg D i (k.2.2+n - D[i].1.2.2).toNat).drop (i+1)=zN D[i] (k.2.2+n - D[i].1.2.2).toNat::D.drop (i+1):=by
     rw[C];exact(take_mid D yv _ _).2
   rw[E,F,h];simp [killD,vT]
  ·have e:=kill_all hm hlt hb;have A:zg D i (k.2.2+n - D[i].1.2.2).toNat=D:=by
     unfold zg;rw[yK hi];dsimp only;rw[if_neg yv]
   rw[e] at h;simp only[A];rw[h];simp [killD]
end
end Go.Proofs.YtdgbjhfkmembdaaGreatDoor