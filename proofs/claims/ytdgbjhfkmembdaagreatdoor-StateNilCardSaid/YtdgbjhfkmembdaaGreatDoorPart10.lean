/-
  Plain facts, and contracts of the functions that the claim's walk comes to, one behind the other. Conditions: as each says.
-/
import Derived.Test.YtdgbjhfkmembdaaGreatDoorPart8
import Derived.Test.YtdgbjhfkmembdaaGreatDoorPart9
import Derived.Test.YtdgbjhfkmembdaaGreatDoorPart7
import Derived.Test.YtdgbjhfkmembdaaGreatDoorPart4
import Derived.Test.YtdgbjhfkmembdaaGreatDoorPart5
import Derived.Test.YtdgbjhfkmembdaaGreatDoorPart6
import Derived.Deep.MidRow
set_option linter.unusedVariables false
set_option linter.unusedSimpArgs false
set_option maxHeartbeats 4000000
set_option maxRecDepth 100000
open Go.Proofs.Tryz
namespace Go.Proofs.YtdgbjhfkmembdaaGreatDoor
section
open Go.RowKit Go.Maps
open Lib (hid)
section
variable {P:Program} {K:TypeId} {κ:Type} {ok:κ→Prop} {val:κ→Value} {kl:κ→Lit} {w:World} {b n:Nat} {m:κ→Option Value}
theorem op_mapPut{o:Oper}{a:Act}{K':Act→World→Prop}{Q:Exit→Act→World→Prop}[DecidableEq κ](mo x v:Operand)(t:TypeId)(hop:o.op=Op.mapUpdate t mo x v)
    (e:TypeId) (E:KeyEnc P K ok val kl) (ht:P.underlying t=some (.map K e)) (hm:a.eval mo=.map (some b)) (hown:MapV w P K ok kl b n m) (hn:n<maxLen) (k0:κ) (hk:ok k0) (hx:a.eval x=val k0) (v0:Value) (hv:a.eval v=v0)
    (h:∀w',MapV w' P K ok kl b (n+1) (fun k=>if k=k0 then some v0 else m k)→w.grownBy w' (some b)→K' (a.put o.dst undef) w'):o.wp P a w K' Q:=by
  obtain⟨D,B,C,F,G⟩:=hown;obtain⟨w',A,H,I⟩:=B.update (d:=.held v0) (ps:=[]) E.keyed ht hn (E.of k0 hk) (show Rv v0=some (.held v0,[]) from rfl);obtain⟨J,L,M⟩:=qw E C F G hk v0;unfold Oper.wp;simp [execOp,hop,hm,hx,hv,A,Result.andThen];exact h w' ⟨_,H,J,L,M⟩ I
end
theorem uV(n:Int)(w:World):(Instr.build 110 #[(1,.int .i64 n)]).run prog w=.ok (.agg (kn (k7,n)).toArray) w:=by kernel_rfl
theorem UG(k d:kF)(hk:kN k)(hd:kN d)(n:Nat)(s:ByteArray)(w:World):(Instr.build 135 #[(0,.agg (k8 k).toArray),(1,.agg (k8 d).toArray),(2,.int .u8 (n:Int)),(3,.string s)]).run prog w=.ok (.agg (kT (k,d,n,s)).toArray) w:=by
  obtain⟨j,B,C,_,_⟩:=info_parts uT;have h:=zl (P:=prog) B underlying135 C [k8 (0,k7,0),k8 (0,k7,0),[.int .u8 0],[.string kM]] rfl (places:=[(0,34),(34,34),(68,1),(69,1)]) yy yy [(0,.agg (k8 k).toArray),(1,.agg (k8 d).toArray),(2,.int .u8 (n:Int)),(3,.string s)] (by
    intro q A;simp only[List.mem_cons,List.not_mem_nil,or_false] at A;rcases A with rfl|rfl|rfl|rfl
    ·exact⟨by show 0<4;omega,by show (k8 k).toArray.size=34;rw[List.size_toArray,k9 hk]⟩
    ·exact⟨by show 1<4;omega,by show (k8 d).toArray.size=34;rw[List.size_toArray,k9 hd]⟩
    ·exact⟨by show 2<4;omega,rfl⟩
    ·exact⟨by show 3<4;omega,rfl⟩)
  have D:=run_build (P:=prog) w 135 #[(0,.agg (k8 k).toArray),(1,.agg (k8 d).toArray),(2,.int .u8 (n:Int)),(3,.string s)] _ h;refine D.trans ?_;simp [kT,Value.cells]
def qN(w:World)(B s:Nat)(S S':kz)(q:j5)(e:Ending)(w':World):Prop:=e=.returned (.tuple #[])∧∃q',StateAt w' B s S' q'∧But (StX s S q) w w'∧NewerX w s S S' q q'∧q'.nd≤q.nd+1
theorem do_claim(B a s:Nat)(S:kz)(q:j5)(i:List UInt8)(c:kQ)(dv ov vm:Value)(place next:Nat)(x:OpD)(w:World)(h:StateAt w B s S q)(hA:AdderAt w a s i c dv ov vm)(hx:KR x)(htm:(Lit.int .i64 c.1).wf=true)(hpl:place≤1073741824)(hnx:next≤1099511627776)(hk:x.1=4∨x.1=5)(hcl:S.2.1.length≤1073741824)(hps:x.2.2.2.2.2.size≤maxLen):
    Calls prog 53 #[.pointer (some ⟨a,0,none⟩),.int .i64 (place:Int),.int .i64 (next:Int),.agg (opV x).toArray] w (qN w B s S (JP S i c.1 place next x) q):=by
  have HS:=hid h;have K:=hid hx;have HA:=hid hA
  have Av:=kH hx;have M:Hid (jp i):=hid hA.id;clear h hx hA;have N:Hid (kN (c.1,i,(place:Int))):=hid ⟨htm,M.out,by
    show (Lit.int .i64 (place:Int)).wf=true;simp only[Lit.wf,IntKind.min,IntKind.max,IntKind.signed,IntKind.bits,Bool.and_eq_true];simp;omega⟩
  have O:=hid (ua (t:=c.1) (r:=x.2.1) HS.out M.out htm K.1.1);go_enter func53,ntmps53
  go_upto_region 1 with (first
    |(with_reducible refine kB ?_
      refine kr yx 112 _ rfl (opV x) _ rfl rfl (by rw[Av];kernel_rfl) ?_;intro L Ac Ad Aw;have E:=hid Ac;have P:=hid Ad
      clear Ac Ad Aw))
  obtain⟨m,Ae⟩:∃z,w.heap.size=z:=⟨_,rfl⟩;rw[Ae] at P ⊢;clear Ae;have o:=hid (HS.keep E.out);have Q:=hid (HA.keep E.out);have W:=hid (show ∀u:World,Below L.heap.size L u→u.cell? ⟨a,33,none⟩=some (.int .i64 c.1)∧u.rangeAt a 1 (idV i) from fun u hu=>⟨(Q.keep hu).rest 0,(Q.keep hu).idAt⟩);refine rN 12 (fun u=>Below L.heap.size L u) (qD _ _) fun V=>?_
  refine tw 0 (.pointer (some ⟨a,0,none⟩)) ?_;go_frame;refine tw 1 (.pointer (some ⟨a,0,none⟩)) ?_;go_frame;refine tw 2 (.pointer (some ⟨a,33,none⟩)) ?_;go_frame;refine tw 3 (.pointer (some ⟨a,33,none⟩)) ?_;go_frame;refine tl 4 (.int .i64 c.1) rfl V (fun w' A=>l1 underlying3 (W.out w' A).1) ?_;go_frame;refine tw 5 (.pointer (some ⟨a,0,none⟩)) ?_;go_frame;refine tw 6 (.pointer (some ⟨a,0,none⟩)) ?_;go_frame;refine tw 7 (.pointer (some ⟨a,1,none⟩)) ?_;go_frame;refine tl 8 (.agg (idV i).toArray) rfl V (fun w' A=>ldD M.out (W.out w' A).2) ?_;go_frame;refine tw 9 (.int .i64 (place:Int)) ?_;go_frame;refine tk 10 (.agg (k8 (c.1,i,(place:Int))).toArray) rfl (fun w' A=>kj 89 _ rfl (by simp only[List.map_toArray,List.map_cons,List.map_nil];exact Zv (t:=c.1) (x:=(place:Int)) M.out _)) ?_;go_frame;refine ta 11 ?_;refine zV _ rfl yy 89 rfl (k8 (0,k7,0)) (zq _) ?_;intro W2 Af Ag Ax;have R:=hid ((qD L.heap.size L).trans (Af.mono (qD L.heap.size L).size));have y:=hid Ag
  clear Af Ag Ax;refine⟨fun _ _=>R.out,?_⟩;go_frame;refine ta 12 ?_;have Ah:=k9 N.out;refine kW _ rfl yy 89 _ _ rfl L.drew.heap.size 0 [] (k8 (0,k7,0)) [] (k8 (c.1,i,(place:Int))) 89 (.agg (k8 (c.1,i,(place:Int))).toArray) rfl rfl rfl rfl (by simpa using y.out) (by rw[Ah];rfl) (by rw[Ah];kernel_rfl) (j4 _) ?_;intro W3 Ai Aj Ay;have F:=hid (R.trans (Ai.below (B:=L.heap.size) R.size (fun k hk e=>by
    have e2:k=L.drew.heap.size:=e;have e3:L.drew.heap.size=L.heap.size:=rfl;omega)))
  have G:Hid (W3.heap[L.drew.heap.size]?=some (.cells (k8 (c.1,i,(place:Int))).toArray 89 (0,0))):=hid (by simpa using Aj);clear Ai Aj Ay;refine⟨fun h=>absurd h yv,?_⟩;go_frame;refine ku yy ?_ _;obtain⟨b8,Ak⟩:∃z,L.drew.heap.size=z:=⟨_,rfl⟩;rw[Ak] at G ⊢;clear Ak R y V W;have X:=hid (o.keep F.out);have Y:=hid (Q.keep F.out);have D:Hid (Below w.heap.size w W3):=hid (E.trans (F.mono E.size));have T:=hid ((F.block m (qX P.out)).trans P.out);clear o Q E F P;have A0:=hid (show W3.rangeAt m 1 (kn x.2.1) from fun j u J=>(k4 T.out (1+j)).trans ((kp K.out).2.1 j u J));have Al:=k9 O.out
  go_upto_region 3 with (first
    |(with_reducible refine k6 ?_
      refine k5 yx (kc 110 _ rfl (p:=⟨m,1,none⟩) rfl (qV _ m 1 _ (kn x.2.1) _ A0.out underlying110 rfl (by rw[kq K.1.1];kernel_rfl))) ?_)
    |(go_at_call 97;refine(ZZ B a s S q i c dv ov vm x.2.1 W3 X.out Y.out K.1.1).mono ?_;rintro e w4 ⟨Am,rfl⟩;have H:=hid Am;clear Am)
    |(with_reducible refine kA ?_
      refine ks yx 89 rfl (k8 (0,k7,0)) (zq _) ?_;intro W5 An Ao Az;have Z:=hid An;have A1:=hid Ao
      clear An Ao Az)
    |(with_reducible refine kw ?_
      refine ko yx 89 _ _ rfl w4.heap.size 0 [] (k8 (0,k7,0)) [] (k8 (jy S i c.1 x.2.1)) 89 (.agg (k8 (jy S i c.1 x.2.1)).toArray) rfl rfl rfl rfl (by simpa using A1.out) (by rw[Al];rfl) (by rw[Al];kernel_rfl) (j4 _) ?_;intro n Ap Aq AA;have C:=hid (H.trans ((Z.trans (Ap.below (B:=w4.heap.size) Z.size (fun k hk e=>by have e2:k=w4.heap.size:=e;omega))).mono H.size));have b:Hid (n.heap[w4.heap.size]?=some (.cells (k8 (jy S i c.1 x.2.1)).toArray 89 (0,0))):=hid (by simpa using Aq);clear Ap Aq AA))
  obtain⟨b9,Ar⟩:∃z,w4.heap.size=z:=⟨_,rfl⟩;have Au:=hid (show w.heap.size≤b9 by have:=D.size;have:=H.size;omega);have At:=hid (show b8<b9 by have h1:=qX G.out;have:=H.size;omega);rw[Ar] at b ⊢;clear H Z A1 Ar A0;have A7:=hid (X.keep C.out);have A8:=hid (Y.keep C.out);have d:Hid (Below w.heap.size w n):=hid (D.trans (C.mono D.size));have f:=hid ((C.block m (qX T.out)).trans T.out);have U:=hid ((C.block b8 (qX G.out)).trans G.out);clear X Y D C T G;have k0:n.cell? ⟨m,0,none⟩=some (.int .u8 (x.1.toNat:Int)):=(k4 f.out 0).trans (kp K.out).1;have A9:Hid (Kf ((c.1,i,(place:Int)),jy S i c.1 x.2.1,x.1.toNat,x.2.2.2.2.2)):=hid ⟨N.out,O.out,(by show x.1.toNat<256;exact x.1.toNat_lt),hps⟩;have Aa:Hid (JP S i c.1 place next x=(S.1,S.2.1++[((c.1,i,(place:Int)),jy S i c.1 x.2.1,x.1.toNat,x.2.2.2.2.2)],S.2.2)):=hid (by
    unfold JP;rw[if_neg (by rcases hk with e|e<;>rw[e]<;>decide),if_pos hk])
  have EK:Hid ((x.1.toNat:Int)=(x.1.toNat:Int)):=hid rfl;generalize jy S i c.1 x.2.1=kd at *;have Ab:((x.1.toNat:Int) == 3)=false∧(((x.1.toNat:Int) == 4)=true∨(((x.1.toNat:Int) == 4)=false∧((x.1.toNat:Int) == 5)=true)):=by rcases hk with e|e<;>rw[e]<;>decide
  obtain⟨e3,e4⟩:=Ab;have l:Hid (∀w8 v',But (fun j=>j=s∨q.vc.ownBlock=some j) n.drew w8→StateAt w8 B s (S.1,S.2.1++[((c.1,i,(place:Int)),kd,x.1.toNat,x.2.2.2.2.2)],S.2.2) { q with vc:=v'}→Newer n q.vc v'→qN w B s S (JP S i c.1 place next x) q (.returned (.tuple #[])) w8):=hid fun w8 v' A5 A6 AB=>by
    rw[Aa.out];refine⟨rfl,_,A6,(But.of_below d.out).trans ((But.refl _ n).drew.trans A5 fun k _ hx=>hx) fun k hk hx=>?_,fun j J=>?_,Nat.le_succ _⟩
    ·rcases hx with hx|hx
     ·exact .inl hx
     ·exact .inr (.inr (.inr (.inl hx)))
    ·rcases J with J|J|J|J|J
     ·exact .inl (.inl J)
     ·exact .inl (.inr (.inl J))
     ·exact .inl (.inr (.inr (.inl J)))
     ·rcases AB j J with g|g
      ·exact .inl (.inr (.inr (.inr (.inl g))))
      ·exact .inr (qT d.size g)
     ·exact .inl (.inr (.inr (.inr (.inr J))))
  rcases e4 with e4|⟨e4,e5⟩
  all_goals
    go_upto_region 10 with fail
    clear k0;have I:=hid (show ∀u:World,Below n.heap.size n u→u.cell? ⟨a,0,none⟩=some (.pointer (some ⟨s,0,none⟩))∧u.rangeAt b8 0 (k8 (c.1,i,(place:Int)))∧u.rangeAt b9 0 (k8 (kd))∧u.cell? ⟨m,0,none⟩=some (.int .u8 (x.1.toNat:Int))∧u.cell? ⟨m,69,none⟩=some (.string x.2.2.2.2.2) from fun u hu=>by
      have hZ:=(hu.block m (qX f.out)).trans f.out;refine⟨(A8.keep hu).st,fun j v J=>?_,fun j v J=>?_,?_,(k4 hZ 69).trans (kp K.out).2.2.2.2.2⟩
      ·rw[qZ];exact(k4 ((hu.block b8 (qX U.out)).trans U.out) j).trans J
      ·rw[qZ];exact(k4 ((hu.block b9 (qX b.out)).trans b.out) j).trans J
      ·rw[k4 hZ 0,(kp K.out).1,EK.out])
    have AC:=enE func100 rfl;refine rN 13 (fun u=>Below n.heap.size n u) (qD _ _) fun V=>?_
    refine tw 0 (.pointer (some ⟨a,0,none⟩)) ?_;go_frame;refine tw 1 (.pointer (some ⟨a,0,none⟩)) ?_;go_frame;refine tw 2 (.pointer (some ⟨a,0,none⟩)) ?_;go_frame;refine tl 3 (.pointer (some ⟨s,0,none⟩)) rfl V (fun w' A=>l1 underlying24 (I.out w' A).1) ?_;go_frame;refine tw 4 (.pointer (some ⟨s,0,none⟩)) ?_;go_frame;refine tw 5 (.pointer (some ⟨s,0,none⟩)) ?_;go_frame;refine tl 6 (.agg (k8 (c.1,i,(place:Int))).toArray) rfl V (fun w' A=>ldK N.out (I.out w' A).2.1) ?_;go_frame;refine tl 7 (.agg (k8 (kd)).toArray) rfl V (fun w' A=>ldK O.out (I.out w' A).2.2.1) ?_;go_frame;refine tw 8 (.pointer (some ⟨m,0,none⟩)) ?_;go_frame;refine tl 9 (.int .u8 (x.1.toNat:Int)) rfl V (fun w' A=>l1 underlying5 (I.out w' A).2.2.2.1) ?_;go_frame;refine tw 10 (.pointer (some ⟨m,69,none⟩)) ?_;go_frame;refine tl 11 (.string x.2.2.2.2.2) rfl V (fun w' A=>l1 underlying9 (I.out w' A).2.2.2.2) ?_;go_frame;refine tk 12 (.agg (kT ((c.1,i,(place:Int)),kd,(x.1.toNat),x.2.2.2.2.2)).toArray) rfl (fun w' A=>kj 135 _ rfl (by simp only[List.map_toArray,List.map_cons,List.map_nil];exact UG _ _ N.out O.out _ _ _)) ?_;go_frame;refine ta 13 ?_;refine tc #[.pointer (some ⟨s,0,none⟩),.agg (kT ((c.1,i,(place:Int)),kd,(x.1.toNat),x.2.2.2.2.2)).toArray] AC rfl ?_;refine(claim_any B s S q ((c.1,i,(place:Int)),kd,(x.1.toNat),x.2.2.2.2.2) n.drew (A7.keep (qD _ _)) A9.out hcl).mono ?_;rintro e w8 ⟨rfl,A5,v',A6,As⟩;have A2:=hid A5;have A3:=hid A6;have A4:=hid As
    clear A5 A6 As;refine⟨_,rfl,fun h=>absurd h yv,?_⟩;go_frame;refine ku yy ?_ _;go_wp2_with fail
    go_end0
  ·exact l.out _ _ A2.out A3.out A4.out
  ·exact l.out _ _ A2.out A3.out A4.out
theorem do_create(B a s:Nat)(S:kz)(q:j5)(i:List UInt8)(c:kQ)(dv ov vm:Value)(place next:Nat)(x:OpD)(w:World)(h:StateAt w B s S q)(hA:AdderAt w a s i c dv ov vm)(hx:KR x)(htm:(Lit.int .i64 c.1).wf=true)(hpl:place≤1073741824)(hnx:next≤1099511627776)(hk:x.1=3)(hcl:S.2.1.length≤1073741824)(hps:x.2.2.2.2.2.size≤maxLen)(hnd:q.nd≤1073741824):
    Calls prog 53 #[.pointer (some ⟨a,0,none⟩),.int .i64 (place:Int),.int .i64 (next:Int),.agg (opV x).toArray] w (qN w B s S (JP S i c.1 place next x) q):=by
  have HS:=hid h;have U:=hid hx;have HA:=hid hA
  have B8:=kH hx;have G:Hid (jp i):=hid hA.id;clear h hx hA;have W:Hid (kN (c.1,i,(place:Int))):=hid ⟨htm,G.out,by
    show (Lit.int .i64 (place:Int)).wf=true;simp only[Lit.wf,IntKind.min,IntKind.max,IntKind.signed,IntKind.bits,Bool.and_eq_true];simp;omega⟩
  have Av:=hid (ua (t:=c.1) (r:=x.2.1) HS.out G.out htm U.1.1);go_enter func53,ntmps53
  go_upto_region 1 with (first
    |(with_reducible refine kB ?_
      refine kr yx 112 _ rfl (opV x) _ rfl rfl (by rw[B8];kernel_rfl) ?_;intro V AM AN B9;have L:=hid AM;have X:=hid AN
      clear AM AN B9))
  obtain⟨y,Ab⟩:∃z,w.heap.size=z:=⟨_,rfl⟩;rw[Ab] at X ⊢;clear Ab;have Ad:=hid (HS.keep L.out);have Y:=hid (HA.keep L.out);have A0:=hid (show ∀u:World,Below V.heap.size V u→u.cell? ⟨a,33,none⟩=some (.int .i64 c.1)∧u.rangeAt a 1 (idV i) from fun u hu=>⟨(Y.keep hu).rest 0,(Y.keep hu).idAt⟩);refine rN 12 (fun u=>Below V.heap.size V u) (qD _ _) fun J=>?_
  refine tw 0 (.pointer (some ⟨a,0,none⟩)) ?_;go_frame;refine tw 1 (.pointer (some ⟨a,0,none⟩)) ?_;go_frame;refine tw 2 (.pointer (some ⟨a,33,none⟩)) ?_;go_frame;refine tw 3 (.pointer (some ⟨a,33,none⟩)) ?_;go_frame;refine tl 4 (.int .i64 c.1) rfl J (fun w' A=>l1 underlying3 (A0.out w' A).1) ?_;go_frame;refine tw 5 (.pointer (some ⟨a,0,none⟩)) ?_;go_frame;refine tw 6 (.pointer (some ⟨a,0,none⟩)) ?_;go_frame;refine tw 7 (.pointer (some ⟨a,1,none⟩)) ?_;go_frame;refine tl 8 (.agg (idV i).toArray) rfl J (fun w' A=>ldD G.out (A0.out w' A).2) ?_;go_frame;refine tw 9 (.int .i64 (place:Int)) ?_;go_frame;refine tk 10 (.agg (k8 (c.1,i,(place:Int))).toArray) rfl (fun w' A=>kj 89 _ rfl (by simp only[List.map_toArray,List.map_cons,List.map_nil];exact Zv (t:=c.1) (x:=(place:Int)) G.out _)) ?_;go_frame;refine ta 11 ?_;refine zV _ rfl yy 89 rfl (k8 (0,k7,0)) (zq _) ?_;intro W2 AO AP Ba;have Z:=hid ((qD V.heap.size V).trans (AO.mono (qD V.heap.size V).size));have Ae:=hid AP
  clear AO AP Ba;refine⟨fun _ _=>Z.out,?_⟩;go_frame;refine ta 12 ?_;have AQ:=k9 W.out;refine kW _ rfl yy 89 _ _ rfl V.drew.heap.size 0 [] (k8 (0,k7,0)) [] (k8 (c.1,i,(place:Int))) 89 (.agg (k8 (c.1,i,(place:Int))).toArray) rfl rfl rfl rfl (by simpa using Ae.out) (by rw[AQ];rfl) (by rw[AQ];kernel_rfl) (j4 _) ?_;intro W3 AR AS Bb;have M:=hid (Z.trans (AR.below (B:=V.heap.size) Z.size (fun k hk e=>by
    have e2:k=V.drew.heap.size:=e;have e3:V.drew.heap.size=V.heap.size:=rfl;omega)))
  have N:Hid (W3.heap[V.drew.heap.size]?=some (.cells (k8 (c.1,i,(place:Int))).toArray 89 (0,0))):=hid (by simpa using AS);clear AR AS Bb;refine⟨fun h=>absurd h yv,?_⟩;go_frame;refine ku yy ?_ _;obtain⟨b8,Ao⟩:∃z,V.drew.heap.size=z:=⟨_,rfl⟩;rw[Ao] at N ⊢;clear Ao Z Ae J A0;have A1:=hid (Ad.keep M.out);have A2:=hid (Y.keep M.out);have K:Hid (Below w.heap.size w W3):=hid (L.trans (M.mono L.size));have b:=hid ((M.block y (qX X.out)).trans X.out);clear Ad Y L M X;have Af:=hid (show W3.rangeAt y 1 (kn x.2.1) from fun j u F=>(k4 b.out (1+j)).trans ((kp U.out).2.1 j u F));have AI:=k9 Av.out
  go_upto_region 3 with (first
    |(with_reducible refine k6 ?_
      refine k5 yx (kc 110 _ rfl (p:=⟨y,1,none⟩) rfl (qV _ y 1 _ (kn x.2.1) _ Af.out underlying110 rfl (by rw[kq U.1.1];kernel_rfl))) ?_)
    |(go_at_call 97;refine(ZZ B a s S q i c dv ov vm x.2.1 W3 A1.out A2.out U.1.1).mono ?_;rintro e w4 ⟨AT,rfl⟩;have O:=hid AT;clear AT)
    |(with_reducible refine kA ?_
      refine ks yx 89 rfl (k8 (0,k7,0)) (zq _) ?_;intro W5 AU AV Bc;have A3:=hid AU;have Ag:=hid AV
      clear AU AV Bc)
    |(with_reducible refine kw ?_
      refine ko yx 89 _ _ rfl w4.heap.size 0 [] (k8 (0,k7,0)) [] (k8 (jy S i c.1 x.2.1)) 89 (.agg (k8 (jy S i c.1 x.2.1)).toArray) rfl rfl rfl rfl (by simpa using Ag.out) (by rw[AI];rfl) (by rw[AI];kernel_rfl) (j4 _) ?_;intro W6 AW AX Bd;have H:=hid (O.trans ((A3.trans (AW.below (B:=w4.heap.size) A3.size (fun k hk e=>by have e2:k=w4.heap.size:=e;omega))).mono O.size));have d:Hid (W6.heap[w4.heap.size]?=some (.cells (k8 (jy S i c.1 x.2.1)).toArray 89 (0,0))):=hid (by simpa using AX);clear AW AX Bd))
  obtain⟨b9,Ap⟩:∃z,w4.heap.size=z:=⟨_,rfl⟩;have Aw:=hid (show w.heap.size≤b9 by have:=K.size;have:=O.size;omega);have Ar:=hid (show b8<b9 by have h1:=qX N.out;have:=O.size;omega);rw[Ap] at d ⊢;clear O A3 Ag Ap Af;have A4:=hid (A1.keep H.out);have Ax:=hid (A2.keep H.out);have A5:Hid (Below w.heap.size w W6):=hid (K.trans (H.mono K.size));have f:=hid ((H.block y (qX b.out)).trans b.out);have l:=hid ((H.block b8 (qX N.out)).trans N.out);clear A1 A2 K H b N;have k0:W6.cell? ⟨y,0,none⟩=some (.int .u8 (x.1.toNat:Int)):=(k4 f.out 0).trans (kp U.out).1;have D:Hid (kN (c.1,i,(next:Int))):=hid ⟨htm,G.out,by
    show (Lit.int .i64 (next:Int)).wf=true;simp only[Lit.wf,IntKind.min,IntKind.max,IntKind.signed,IntKind.bits,Bool.and_eq_true];simp;omega⟩
  have Ay:Hid (Kf ((c.1,i,(place:Int)),(c.1,i,(next:Int)),3,x.2.2.2.2.2)):=hid ⟨W.out,D.out,(by show 3<256;omega),hps⟩;have Az:Hid (JP S i c.1 place next x=(zN S.1 (c.1,i,(next:Int)) [],S.2.1++[((c.1,i,(place:Int)),(c.1,i,(next:Int)),3,x.2.2.2.2.2)],S.2.2)):=hid (by
    unfold JP;rw[if_pos hk])
  have EK:Hid ((x.1.toNat:Int)=3):=hid (by rw[hk];rfl);have ek:=EK.out;rw[ek] at k0;have AY:=k9 D.out;have AJ:za (k7,(next:Int)):=⟨jL,D.2.2⟩;have AA:=hid (ZZ B a s S q i c dv ov vm (k7,(next:Int)) W6 A4.out Ax.out AJ);clear ek AJ hk
  go_upto_region 6 with (first
    |(with_reducible refine kJ ?_
      refine k5 yx (kj 110 _ rfl (by simp only[List.map_toArray,List.map_cons,List.map_nil];exact uV _ _)) ?_)
    |(go_at_call 97;refine AA.mono ?_;rintro e w7 ⟨Ab,rfl⟩;rw[show jy S i c.1 (k7,(next:Int))=(c.1,i,(next:Int)) from by unfold jy;rw[if_pos rfl]];have AB:=hid Ab;have AC:=hid ((Ab.block b9 (qX d.out)).trans d.out);clear Ab)
    |(with_reducible refine kw ?_
      refine ko yx 89 _ _ rfl b9 0 [] (k8 (jy S i c.1 x.2.1)) [] (k8 (c.1,i,(next:Int))) 89 (.agg (k8 (c.1,i,(next:Int))).toArray) rfl rfl rfl rfl (by simpa using AC.out) (by rw[AY,AI]) (by rw[AY];kernel_rfl) (j4 _) ?_;intro T Ao AZ Be;have m:Hid (But (fun k=>k=b9) W6 T):=hid ((But.of_below AB.out).trans Ao fun k hk e=>e);have n:Hid (T.heap[b9]?=some (.cells (k8 (c.1,i,(next:Int))).toArray 89 (0,0))):=hid (by simpa using AZ);clear Ao AZ Be))
  clear k0;have As:=hid (show W6.heap.size≤T.heap.size from m.size);have E:Hid (Below w.heap.size w T):=hid (A5.trans (m.below A5.size fun k hk e=>by have:=Aw.out;omega));have A6:=hid (HS.keep E.out);have Ah:=hid (HA.keep E.out);have Ai:=hid ((m.block y (qX f.out) (jr f.out d.out yv)).trans f.out);have o:=hid ((m.block b8 (qX l.out) (fun e=>by have:=Ar.out;omega)).trans l.out);have AD:Hid (B≤T.heap.size):=hid (qT A4.low.1 (Nat.le_of_lt (qL (qX A4.box) As.out)));have A7:=hid (show ∀u:World,Below T.heap.size T u→u.cell? ⟨a,0,none⟩=some (.pointer (some ⟨s,0,none⟩))∧u.cell? ⟨s,0,none⟩=some (.map (some q.bd))∧u.rangeAt b9 0 (k8 (c.1,i,(next:Int))) from fun u hu=>⟨(Ah.keep hu).st,k4 (A6.keep hu).box 0,fun j v F=>by rw[qZ];exact(k4 ((hu.block b9 (qX n.out)).trans n.out) j).trans F⟩);have Bf:=enE func99 rfl;refine rN 10 (fun u=>Below T.heap.size T u) (qD _ _) fun J=>?_
  refine tw 0 (.pointer (some ⟨a,0,none⟩)) ?_;go_frame;refine tw 1 (.pointer (some ⟨a,0,none⟩)) ?_;go_frame;refine tw 2 (.pointer (some ⟨a,0,none⟩)) ?_;go_frame;refine tl 3 (.pointer (some ⟨s,0,none⟩)) rfl J (fun w' A=>l1 underlying24 (A7.out w' A).1) ?_;go_frame;refine tw 4 (.pointer (some ⟨s,0,none⟩)) ?_;go_frame;refine tw 5 (.pointer (some ⟨s,0,none⟩)) ?_;go_frame;refine tw 6 (.pointer (some ⟨s,0,none⟩)) ?_;go_frame;refine tl 7 (.map (some q.bd)) rfl J (fun w' A=>l1 underlying81 (A7.out w' A).2.1) ?_;go_frame;refine tl 8 (.agg (k8 (c.1,i,(next:Int))).toArray) rfl J (fun w' A=>ldK D.out (A7.out w' A).2.2) ?_;go_frame;refine ta 9 ?_;refine tc #[] Bf rfl ?_ (ha:=by simp);refine(docNew_any B T.drew AD.out).mono ?_;rintro e w9 ⟨rfl,Ap,B0⟩;have C:=hid ((qD T.heap.size T).trans (Ap.mono (qD T.heap.size T).size));have A8:=hid B0
  clear Ap B0;refine⟨_,rfl,fun _ _=>C.out,?_⟩;go_frame;obtain⟨p9,B1⟩:∃z,T.drew.heap.size=z:=⟨_,rfl⟩;rw[B1] at A8 ⊢;have Aj:=hid (show p9=T.heap.size from B1.symm);have A9:=hid (A6.keep C.out);refine ta 10 ?_;refine J8 _ rfl yy ?_;refine op_mapPut _ _ _ 81 rfl 92 keyEnc underlying81 rfl A9.mapD yk (c.1,i,(next:Int)) D.out rfl (.pointer (some ⟨p9,0,none⟩)) rfl ?_;intro wA B2 B3;have Ak:=hid B2;have P:Hid (But (fun j=>j=q.bd) w9 wA):=hid ((But.refl _ w9).grown B3 fun k e _=>(Option.some.inj e).symm);clear B2 B3;refine⟨fun h=>absurd h yv,?_⟩;go_frame;refine ku yy ?_ _;have B4:∀z,(jR S z).isSome=true→¬DocX (q.ptr z) (q.row z) p9:=fun z hz hx=>by
    have h1:=(A6.apartDoc hz hx).1;have h2:=Aj.out;omega
  have Ac:=A9.putDoc D.out A8.at B4 Ak.out P.out;obtain⟨qA,AK⟩:∃z:j5,z={ q with nd:=q.nd+1,ptr:=fun z=>if z=(c.1,i,(next:Int)) then p9 else q.ptr z,row:=fun z=>if z=(c.1,i,(next:Int)) then .slice none 0 0 else q.row z}:=⟨_,rfl⟩;rw[←AK] at Ac;have At:=hid Ac;have I:=hid AK
  have Q:∀{k:Nat} {cur:Array Value} {t:TypeId} {fr:Nat×Nat},w9.heap[k]?=some (.cells cur t fr)→wA.heap[k]?=some (.cells cur t fr):=fun {k cur t fr} hc=>(P.block k (qX hc) (Jt hc A9.mapD_obj)).trans hc
  have AE:=hid (AdderAt.mk (dv:=dv) (ov:=ov) (vm:=vm) (c:=c) (s:=s) (Q ((Ah.keep C.out).box)) G.out);have Al:=hid (Q ((C.block y (qX Ai.out)).trans Ai.out));have Am:=hid (Q ((C.block b8 (qX o.out)).trans o.out));have An:=hid (Q ((C.block b9 (qX n.out)).trans n.out));have Au:Hid (But (StX s S q) w wA):=hid ((But.of_below (E.trans (C.mono E.size))).trans P.out fun k hk e=>.inr (.inl e));have Aa:=hid (show w.heap.size≤wA.heap.size∧w.heap.size≤p9 from by
    have h1:=E.size;have h2:=C.size;have h3:=P.size;have h4:=Aj.out
    omega)
  have B7:(zN S.1 (c.1,i,(next:Int)) [],S.2).2.1.length≤1073741824:=hcl;clear Ac AK Ak P C A8 Q B4
  go_upto_region 7 with fail
  have R:=hid (show ∀u:World,Below wA.heap.size wA u→u.cell? ⟨a,0,none⟩=some (.pointer (some ⟨s,0,none⟩))∧u.rangeAt b8 0 (k8 (c.1,i,(place:Int)))∧u.rangeAt b9 0 (k8 ((c.1,i,(next:Int))))∧u.cell? ⟨y,0,none⟩=some (.int .u8 (3:Int))∧u.cell? ⟨y,69,none⟩=some (.string x.2.2.2.2.2) from fun u hu=>by
    have hZ:=(hu.block y (qX Al.out)).trans Al.out;refine⟨(AE.keep hu).st,fun j v F=>?_,fun j v F=>?_,?_,(k4 hZ 69).trans (kp U.out).2.2.2.2.2⟩
    ·rw[qZ];exact(k4 ((hu.block b8 (qX Am.out)).trans Am.out) j).trans F
    ·rw[qZ];exact(k4 ((hu.block b9 (qX An.out)).trans An.out) j).trans F
    ·rw[k4 hZ 0,(kp U.out).1,EK.out])
  have Bg:=enE func100 rfl;refine rN 13 (fun u=>Below wA.heap.size wA u) (qD _ _) fun J=>?_
  refine tw 0 (.pointer (some ⟨a,0,none⟩)) ?_;go_frame;refine tw 1 (.pointer (some ⟨a,0,none⟩)) ?_;go_frame;refine tw 2 (.pointer (some ⟨a,0,none⟩)) ?_;go_frame;refine tl 3 (.pointer (some ⟨s,0,none⟩)) rfl J (fun w' A=>l1 underlying24 (R.out w' A).1) ?_;go_frame;refine tw 4 (.pointer (some ⟨s,0,none⟩)) ?_;go_frame;refine tw 5 (.pointer (some ⟨s,0,none⟩)) ?_;go_frame;refine tl 6 (.agg (k8 (c.1,i,(place:Int))).toArray) rfl J (fun w' A=>ldK W.out (R.out w' A).2.1) ?_;go_frame;refine tl 7 (.agg (k8 ((c.1,i,(next:Int)))).toArray) rfl J (fun w' A=>ldK D.out (R.out w' A).2.2.1) ?_;go_frame;refine tw 8 (.pointer (some ⟨y,0,none⟩)) ?_;go_frame;refine tl 9 (.int .u8 (3:Int)) rfl J (fun w' A=>l1 underlying5 (R.out w' A).2.2.2.1) ?_;go_frame;refine tw 10 (.pointer (some ⟨y,69,none⟩)) ?_;go_frame;refine tl 11 (.string x.2.2.2.2.2) rfl J (fun w' A=>l1 underlying9 (R.out w' A).2.2.2.2) ?_;go_frame;refine tk 12 (.agg (kT ((c.1,i,(place:Int)),(c.1,i,(next:Int)),(3),x.2.2.2.2.2)).toArray) rfl (fun w' A=>kj 135 _ rfl (by simp only[List.map_toArray,List.map_cons,List.map_nil];exact UG _ _ W.out D.out _ _ _)) ?_;go_frame;refine ta 13 ?_;refine tc #[.pointer (some ⟨s,0,none⟩),.agg (kT ((c.1,i,(place:Int)),(c.1,i,(next:Int)),(3),x.2.2.2.2.2)).toArray] Bg rfl ?_;refine(claim_any B s (zN S.1 (c.1,i,(next:Int)) [],S.2) qA ((c.1,i,(place:Int)),(c.1,i,(next:Int)),(3),x.2.2.2.2.2) wA.drew (At.keep (qD _ _)) Ay.out B7).mono ?_;rintro e w8 ⟨rfl,B5,v',Ac,B6⟩;have AF:=hid B5;have AG:=hid Ac;have AH:=hid B6
  clear B5 Ac B6;refine⟨_,rfl,fun h=>absurd h yv,?_⟩;go_frame;refine ku yy ?_ _;go_wp2_with fail
  go_end0
  rw[Az.out];refine⟨rfl,_,AG.out,Au.trans ((But.refl _ wA).drew.trans AF.out fun k _ hx=>hx) fun k hk hx=>?_,fun j F=>?_,?_⟩
  ·rcases hx with hx|hx
   ·exact .inl hx
   ·rw[I.out] at hx;exact .inr (.inr (.inr (.inl hx)))
  ·rcases F with F|F|F|F|⟨k,hk,F⟩
   ·exact .inl (.inl F)
   ·rw[I.out] at F;exact .inl (.inr (.inl F))
   ·rw[I.out] at F;exact .inl (.inr (.inr (.inl F)))
   ·rcases AH.out j F with g|g
    ·rw[I.out] at g;exact .inl (.inr (.inr (.inr (.inl g))))
    ·exact .inr (qT Aa.1 g)
   ·have AL:(jR (zN S.1 (c.1,i,(next:Int)) [],S.2) k).isSome=true:=hk;rw[U8] at AL;rw[I.out] at F;by_cases e:k=(c.1,i,(next:Int))
    ·have Aq:DocX p9 (.slice none 0 0) j:=by simpa [e] using F
     rcases Aq with rfl|Aq
     ·exact .inr Aa.2
     ·cases Aq
    ·rw[if_neg e] at AL;have Aq:DocX (q.ptr k) (q.row k) j:=by simpa [e] using F
     exact .inl (.inr (.inr (.inr (.inr ⟨k,AL,Aq⟩))))
  ·show qA.nd≤q.nd+1;rw[I.out];exact Nat.le_refl _
theorem docPtrZ(w:World):(zeroValue 92).run prog w=.ok (.pointer none) w:=by kernel_rfl
theorem insert_nil(key at':kF)(first:Bool)(s:ByteArray)(l:List Nat)(w:World)(hk:kN key)(ha:kN at')(hs:s.size≤1099511627776)(hr:jx s=some l):
    Calls prog 101 #[.pointer none,.agg (k8 key).toArray,.agg (k8 at').toArray,.bool first,.string s] w fun e w'=>Below w.heap.size w w'∧∃n:Int,e=.returned (.int .i64 n):=by
  have D:=hid hr;have J:=k9 hk;have K:=k9 ha;clear hr hk ha;go_enter func101,ntmps101
  go_wp2_with (first
    |(with_reducible refine kB ?_
      refine kr yx 89 _ rfl (k8 key) _ rfl rfl (by rw[J];kernel_rfl) ?_;intro R G L M;have B:=hid G;clear G L M)
    |(with_reducible refine kB ?_
      refine kr yx 89 _ rfl (k8 at') _ rfl rfl (by rw[K];kernel_rfl) ?_;intro Q H N O;have C:=hid H;clear H N O)
    |(go_at_call 155;refine(ut s Q hs).mono ?_;rintro e S ⟨I,⟨T,A,c,F,rfl,P⟩|⟨F,_⟩⟩
      rotate_left
      ·exact absurd (D.symm.trans F) yq
      have E:=hid I;clear I P F))
  go_ret;exact⟨(B.trans (C.mono B.size)).trans (E.mono (B.trans (C.mono B.size)).size),_,rfl⟩
theorem do_insert(B a s:Nat)(S:kz)(q:j5)(i:List UInt8)(c:kQ)(dv ov vm:Value)(place next:Nat)(x:OpD)(w:World)(h:StateAt w B s S q)(hA:AdderAt w a s i c dv ov vm)(hx:KR x)(htm:(Lit.int .i64 c.1).wf=true)(hpl:place≤1073741824)(hnx:next≤1099511627776)(hk:x.1=1)(l:List Nat)(hrs:jx x.2.2.2.1=some l)(hln:l.length≤1099511627776)(hts:x.2.2.2.1.size≤1099511627776)(hax:Ix x.2.2.1.2)(hdd:∀d,jR S (jy S i c.1 x.2.1)=some d→RunIx d∧d.length≤1073741822):
    Calls prog 53 #[.pointer (some ⟨a,0,none⟩),.int .i64 (place:Int),.int .i64 (next:Int),.agg (opV x).toArray] w (qN w B s S (JP S i c.1 place next x) q):=by
  have HS:=hid h;have D:=hid hx;have HA:=hid hA
  have AR:=kH hx;have L:Hid (jp i):=hid hA.id;clear h hx hA;have An:Hid (kN (c.1,i,(place:Int))):=hid ⟨htm,L.out,by
    show (Lit.int .i64 (place:Int)).wf=true;simp only[Lit.wf,IntKind.min,IntKind.max,IntKind.signed,IntKind.bits,Bool.and_eq_true];simp;omega⟩
  have R:=hid (ua (t:=c.1) (r:=x.2.1) HS.out L.out htm D.1.1);go_enter func53,ntmps53
  go_upto_region 1 with (first
    |(with_reducible refine kB ?_
      refine kr yx 112 _ rfl (opV x) _ rfl rfl (by rw[AR];kernel_rfl) ?_;intro Y Aw Ax AS;have T:=hid Aw;have Z:=hid Ax
      clear Aw Ax AS))
  obtain⟨F,Ay⟩:∃z,w.heap.size=z:=⟨_,rfl⟩;rw[Ay] at Z ⊢;clear Ay;have Ab:=hid (HS.keep T.out);have b:=hid (HA.keep T.out);have o:=hid (show ∀u:World,Below Y.heap.size Y u→u.cell? ⟨a,33,none⟩=some (.int .i64 c.1)∧u.rangeAt a 1 (idV i) from fun u n=>⟨(b.keep n).rest 0,(b.keep n).idAt⟩);refine rN 12 (fun u=>Below Y.heap.size Y u) (qD _ _) fun E=>?_
  refine tw 0 (.pointer (some ⟨a,0,none⟩)) ?_;go_frame;refine tw 1 (.pointer (some ⟨a,0,none⟩)) ?_;go_frame;refine tw 2 (.pointer (some ⟨a,33,none⟩)) ?_;go_frame;refine tw 3 (.pointer (some ⟨a,33,none⟩)) ?_;go_frame;refine tl 4 (.int .i64 c.1) rfl E (fun w' A=>l1 underlying3 (o.out w' A).1) ?_;go_frame;refine tw 5 (.pointer (some ⟨a,0,none⟩)) ?_;go_frame;refine tw 6 (.pointer (some ⟨a,0,none⟩)) ?_;go_frame;refine tw 7 (.pointer (some ⟨a,1,none⟩)) ?_;go_frame;refine tl 8 (.agg (idV i).toArray) rfl E (fun w' A=>ldD L.out (o.out w' A).2) ?_;go_frame;refine tw 9 (.int .i64 (place:Int)) ?_;go_frame;refine tk 10 (.agg (k8 (c.1,i,(place:Int))).toArray) rfl (fun w' A=>kj 89 _ rfl (by simp only[List.map_toArray,List.map_cons,List.map_nil];exact Zv (t:=c.1) (x:=(place:Int)) L.out _)) ?_;go_frame;refine ta 11 ?_;refine zV _ rfl yy 89 rfl (k8 (0,k7,0)) (zq _) ?_;intro W2 Az AA AT;have f:=hid ((qD Y.heap.size Y).trans (Az.mono (qD Y.heap.size Y).size));have Ac:=hid AA
  clear Az AA AT;refine⟨fun _ _=>f.out,?_⟩;go_frame;refine ta 12 ?_;have AB:=k9 An.out;refine kW _ rfl yy 89 _ _ rfl Y.drew.heap.size 0 [] (k8 (0,k7,0)) [] (k8 (c.1,i,(place:Int))) 89 (.agg (k8 (c.1,i,(place:Int))).toArray) rfl rfl rfl rfl (by simpa using Ac.out) (by rw[AB];rfl) (by rw[AB];kernel_rfl) (j4 _) ?_;intro W3 AC AD AU;have U:=hid (f.trans (AC.below (B:=Y.heap.size) f.size (fun k hk e=>by
    have e2:k=Y.drew.heap.size:=e;have e3:Y.drew.heap.size=Y.heap.size:=rfl;omega)))
  have V:Hid (W3.heap[Y.drew.heap.size]?=some (.cells (k8 (c.1,i,(place:Int))).toArray 89 (0,0))):=hid (by simpa using AD);clear AC AD AU;refine⟨fun h=>absurd h yv,?_⟩;go_frame;refine ku yy ?_ _;obtain⟨b8,AE⟩:∃z,Y.drew.heap.size=z:=⟨_,rfl⟩;rw[AE] at V ⊢;clear AE f Ac E o;have y:=hid (Ab.keep U.out);have A0:=hid (b.keep U.out);have P:Hid (Below w.heap.size w W3):=hid (T.trans (U.mono T.size));have m:=hid ((U.block F (qX Z.out)).trans Z.out);clear Ab b T U Z;have Ad:=hid (show W3.rangeAt F 1 (kn x.2.1) from fun j u O=>(k4 m.out (1+j)).trans ((kp D.out).2.1 j u O));have AF:=k9 R.out
  go_upto_region 3 with (first
    |(with_reducible refine k6 ?_
      refine k5 yx (kc 110 _ rfl (p:=⟨F,1,none⟩) rfl (qV _ F 1 _ (kn x.2.1) _ Ad.out underlying110 rfl (by rw[kq D.1.1];kernel_rfl))) ?_)
    |(go_at_call 97;refine(ZZ B a s S q i c dv ov vm x.2.1 W3 y.out A0.out D.1.1).mono ?_;rintro e w4 ⟨AG,rfl⟩;have W:=hid AG;clear AG)
    |(with_reducible refine kA ?_
      refine ks yx 89 rfl (k8 (0,k7,0)) (zq _) ?_;intro W5 AH AI AV;have A1:=hid AH;have Ae:=hid AI
      clear AH AI AV)
    |(with_reducible refine kw ?_
      refine ko yx 89 _ _ rfl w4.heap.size 0 [] (k8 (0,k7,0)) [] (k8 (jy S i c.1 x.2.1)) 89 (.agg (k8 (jy S i c.1 x.2.1)).toArray) rfl rfl rfl rfl (by simpa using Ae.out) (by rw[AF];rfl) (by rw[AF];kernel_rfl) (j4 _) ?_;intro K AJ AK AW;have M:=hid (W.trans ((A1.trans (AJ.below (B:=w4.heap.size) A1.size (fun k hk e=>by have e2:k=w4.heap.size:=e;omega))).mono W.size));have A2:Hid (K.heap[w4.heap.size]?=some (.cells (k8 (jy S i c.1 x.2.1)).toArray 89 (0,0))):=hid (by simpa using AK);clear AJ AK AW))
  obtain⟨b9,AL⟩:∃z,w4.heap.size=z:=⟨_,rfl⟩;have AQ:=hid (show w.heap.size≤b9 by have:=P.size;have:=W.size;omega);have AP:=hid (show b8<b9 by have h1:=qX V.out;have:=W.size;omega);rw[AL] at A2 ⊢;clear W A1 Ae AL Ad;have G:=hid (y.keep M.out);have A3:=hid (A0.keep M.out);have Q:Hid (Below w.heap.size w K):=hid (P.trans (M.mono P.size));have A4:=hid ((M.block F (qX m.out)).trans m.out);have Av:=hid ((M.block b8 (qX V.out)).trans V.out);clear y A0 P M m V;have k0:K.cell? ⟨F,0,none⟩=some (.int .u8 (x.1.toNat:Int)):=(k4 A4.out 0).trans (kp D.out).1;have A5:Hid (kN (c.1,i,(next:Int))):=hid ⟨htm,L.out,by
    show (Lit.int .i64 (next:Int)).wf=true;simp only[Lit.wf,IntKind.min,IntKind.max,IntKind.signed,IntKind.bits,Bool.and_eq_true];simp;omega⟩
  have EK:Hid ((x.1.toNat:Int)=1):=hid (by rw[hk];rfl);have ek:=EK.out;rw[ek] at k0;have Aq:za (k7,(next:Int)):=⟨jL,A5.2.2⟩;have Af:=hid (ua (t:=c.1) (r:=x.2.2.1) G.out L.out htm D.1.2.1);have AM:(jy S i c.1 x.2.2.1).2.2=x.2.2.1.2:=by unfold jy;split<;>rfl
  have X:=hid (fun (u:World) (n:Below K.heap.size K u)=>ZZ B a s S q i c dv ov vm (k7,(next:Int)) u (G.keep n) (A3.keep n) Aq);have A6:=hid (fun (u:World) (n:Below K.heap.size K u)=>ZZ B a s S q i c dv ov vm x.2.2.1 u (G.keep n) (A3.keep n) D.1.2.1)
  have Ag:=hid (show JP S i c.1 place next x=(match jR S (jy S i c.1 x.2.1) with
      |none=>S
      |some d=>(zN S.1 (jy S i c.1 x.2.1) (jw d (c.1,i,(next:Int)) (jy S i c.1 x.2.2.1) (decide (x.2.2.1=x.2.1)) l).1,S.2)) from by
    unfold JP;rw[if_neg (by rw[hk];decide),if_neg (by rw[hk];decide)]
    split
    ·rename_i e;rw[e]
    ·rename_i d e;rw[e];dsimp only;rw[if_pos hk,hrs];rfl)
  have C:=hid (show ∀u:World,Below K.heap.size K u→u.cell? ⟨a,0,none⟩=some (.pointer (some ⟨s,0,none⟩))∧u.cell? ⟨s,0,none⟩=some (.map (some q.bd))∧u.rangeAt b9 0 (k8 (jy S i c.1 x.2.1))∧u.rangeAt F 34 (kn x.2.2.1)∧u.rangeAt F 1 (kn x.2.1)∧u.cell? ⟨F,67,none⟩=some (.string x.2.2.2.1) from fun u n=>by
    have hZ:=(n.block F (qX A4.out)).trans A4.out;exact⟨(A3.keep n).st,k4 (G.keep n).box 0,fun j v O=>by rw[qZ];exact(k4 ((n.block b9 (qX A2.out)).trans A2.out) j).trans O,fun j v O=>(k4 hZ (34+j)).trans ((kp D.out).2.2.1 j v O),fun j v O=>(k4 hZ (1+j)).trans ((kp D.out).2.1 j v O),(k4 hZ 67).trans (kp D.out).2.2.2.1⟩)
  have Am:=enE func97 rfl;have AN:=enE func101 rfl;have Ar:jy S i c.1 (k7,(next:Int))=(c.1,i,(next:Int)):=by unfold jy;rw[if_pos rfl]
  rw[Ar] at X;have EQ:=hid (fun (u:World)=>j7 D.1.2.1 D.1.1 u);have Ao:=hid hdd;have Ap:=hid AM;generalize jy S i c.1 x.2.1=kd at *;generalize jy S i c.1 x.2.2.1=ka at *;have Ah:=hid hrs;clear ek Aq hk hrs hdd Ar AM;cases hdoc:jR S kd with
  |none=>
   have N:=hid hdoc;have A7:Hid (JP S i c.1 place next x=S):=hid (by rw[Ag.out,hdoc]);clear hdoc
   go_upto_region 12 with fail
   clear k0;refine rN 25 (fun u=>Below K.heap.size K u) (qD _ _) fun E=>?_
   refine tw 0 (.pointer (some ⟨a,0,none⟩)) ?_;go_frame;refine tw 1 (.pointer (some ⟨a,0,none⟩)) ?_;go_frame;refine tw 2 (.pointer (some ⟨a,0,none⟩)) ?_;go_frame;refine tl 3 (.pointer (some ⟨s,0,none⟩)) rfl E (fun w' A=>l1 underlying24 (C.out w' A).1) ?_;go_frame;refine tw 4 (.pointer (some ⟨s,0,none⟩)) ?_;go_frame;refine tw 5 (.pointer (some ⟨s,0,none⟩)) ?_;go_frame;refine tw 6 (.pointer (some ⟨s,0,none⟩)) ?_;go_frame;refine tl 7 (.map (some q.bd)) rfl E (fun w' A=>l1 underlying81 (C.out w' A).2.1) ?_;go_frame;refine tl 8 (.agg (k8 kd).toArray) rfl E (fun w' A=>ldK R.out (C.out w' A).2.2.1) ?_;go_frame;refine tl 9 (.pointer none) rfl E (fun w' A=>KF keyEnc underlying81 (docPtrZ _) (G.keep A).mapD R.out (by rw[N.out];rfl)) ?_;go_frame;refine tw 10 (.pointer (some ⟨a,0,none⟩)) ?_;go_frame;refine tw 11 (.int .i64 (next:Int)) ?_;go_frame;refine tk 12 (.agg (kn (k7,(next:Int))).toArray) rfl (fun w' A=>kj 110 _ rfl (by simp only[List.map_toArray,List.map_cons,List.map_nil];exact uV _ _)) ?_;go_frame;refine tw 14 (.pointer (some ⟨a,0,none⟩)) ?_;go_frame;refine tw 15 (.pointer (some ⟨F,34,none⟩)) ?_;go_frame;refine tl 16 (.agg (kn x.2.2.1).toArray) rfl E (fun w' A=>kc 110 _ rfl (p:=⟨F,34,none⟩) rfl (qV w' F 34 _ (kn x.2.2.1) _ (C.out w' A).2.2.2.1 underlying110 rfl (by rw[kq D.1.2.1];kernel_rfl))) ?_;go_frame;refine tw 18 (.pointer (some ⟨F,34,none⟩)) ?_;go_frame;refine tl 19 (.agg (kn x.2.2.1).toArray) rfl E (fun w' A=>kc 110 _ rfl (p:=⟨F,34,none⟩) rfl (qV w' F 34 _ (kn x.2.2.1) _ (C.out w' A).2.2.2.1 underlying110 rfl (by rw[kq D.1.2.1];kernel_rfl))) ?_;go_frame;refine tw 20 (.pointer (some ⟨F,1,none⟩)) ?_;go_frame;refine tl 21 (.agg (kn x.2.1).toArray) rfl E (fun w' A=>kc 110 _ rfl (p:=⟨F,1,none⟩) rfl (qV w' F 1 _ (kn x.2.1) _ (C.out w' A).2.2.2.2.1 underlying110 rfl (by rw[kq D.1.1];kernel_rfl))) ?_;go_frame;refine tk 22 (.bool (decide (x.2.2.1=x.2.1))) rfl (fun w' A=>zS 110 _ _ _ rfl rfl rfl eqRef.noGuard (EQ.out _)) ?_;go_frame;refine tw 23 (.pointer (some ⟨F,67,none⟩)) ?_;go_frame;refine tl 24 (.string x.2.2.2.1) rfl E (fun w' A=>l1 underlying9 (C.out w' A).2.2.2.2.2) ?_;go_frame;refine ta 13 ?_;refine tc #[.pointer (some ⟨a,0,none⟩),.agg (kn (k7,(next:Int))).toArray] Am rfl ?_;refine(X.out _ (qD _ _)).mono ?_;rintro e u1 ⟨Aj,rfl⟩;have H:=hid ((qD K.heap.size K).trans (Aj.mono (qD K.heap.size K).size));clear Aj;refine⟨_,rfl,fun _ _=>H.out,?_⟩;go_frame;refine ta 17 ?_;refine tc #[.pointer (some ⟨a,0,none⟩),.agg (kn x.2.2.1).toArray] Am rfl ?_;refine(A6.out _ H.out).mono ?_;rintro e u2 ⟨Ak,rfl⟩;have I:=hid (H.trans (Ak.mono H.size));clear Ak;refine⟨_,rfl,fun _ _=>I.out,?_⟩;go_frame;refine ta 25 ?_;refine tc #[.pointer none,.agg (k8 (c.1,i,(next:Int))).toArray,.agg (k8 ka).toArray,.bool (decide (x.2.2.1=x.2.1)),.string x.2.2.2.1] AN rfl ?_;refine(insert_nil (c.1,i,(next:Int)) ka _ x.2.2.2.1 l u2 A5.out Af.out hts Ah.out).mono ?_;rintro e AX ⟨A9,AY,rfl⟩;have J:=hid (I.trans (A9.mono I.size));clear A9;refine⟨_,rfl,fun h=>absurd h yv,?_⟩;go_frame;refine ku yy ?_ _;go_wp2_with fail
   go_end0
   rw[A7.out];exact⟨rfl,q,G.keep J.out,But.of_below (Q.trans (J.mono Q.size)),NewerX.refl _ _ _ _,Nat.le_succ _⟩
  |some d=>
   have N:=hid hdoc;have A7:Hid (JP S i c.1 place next x=(zN S.1 kd (jw d (c.1,i,(next:Int)) ka (decide (x.2.2.1=x.2.1)) l).1,S.2)):=hid (by rw[Ag.out,hdoc]);have Ai:=hid (Ao.out d hdoc);clear hdoc
   go_upto_region 12 with fail
   clear k0;refine rN 25 (fun u=>Below K.heap.size K u) (qD _ _) fun E=>?_
   refine tw 0 (.pointer (some ⟨a,0,none⟩)) ?_;go_frame;refine tw 1 (.pointer (some ⟨a,0,none⟩)) ?_;go_frame;refine tw 2 (.pointer (some ⟨a,0,none⟩)) ?_;go_frame;refine tl 3 (.pointer (some ⟨s,0,none⟩)) rfl E (fun w' A=>l1 underlying24 (C.out w' A).1) ?_;go_frame;refine tw 4 (.pointer (some ⟨s,0,none⟩)) ?_;go_frame;refine tw 5 (.pointer (some ⟨s,0,none⟩)) ?_;go_frame;refine tw 6 (.pointer (some ⟨s,0,none⟩)) ?_;go_frame;refine tl 7 (.map (some q.bd)) rfl E (fun w' A=>l1 underlying81 (C.out w' A).2.1) ?_;go_frame;refine tl 8 (.agg (k8 kd).toArray) rfl E (fun w' A=>ldK R.out (C.out w' A).2.2.1) ?_;go_frame;refine tl 9 (.pointer (some ⟨q.ptr kd,0,none⟩)) rfl E (fun w' A=>KF keyEnc underlying81 (docPtrZ _) (G.keep A).mapD R.out (by rw[N.out];rfl)) ?_;go_frame;refine tw 10 (.pointer (some ⟨a,0,none⟩)) ?_;go_frame;refine tw 11 (.int .i64 (next:Int)) ?_;go_frame;refine tk 12 (.agg (kn (k7,(next:Int))).toArray) rfl (fun w' A=>kj 110 _ rfl (by simp only[List.map_toArray,List.map_cons,List.map_nil];exact uV _ _)) ?_;go_frame;refine tw 14 (.pointer (some ⟨a,0,none⟩)) ?_;go_frame;refine tw 15 (.pointer (some ⟨F,34,none⟩)) ?_;go_frame;refine tl 16 (.agg (kn x.2.2.1).toArray) rfl E (fun w' A=>kc 110 _ rfl (p:=⟨F,34,none⟩) rfl (qV w' F 34 _ (kn x.2.2.1) _ (C.out w' A).2.2.2.1 underlying110 rfl (by rw[kq D.1.2.1];kernel_rfl))) ?_;go_frame;refine tw 18 (.pointer (some ⟨F,34,none⟩)) ?_;go_frame;refine tl 19 (.agg (kn x.2.2.1).toArray) rfl E (fun w' A=>kc 110 _ rfl (p:=⟨F,34,none⟩) rfl (qV w' F 34 _ (kn x.2.2.1) _ (C.out w' A).2.2.2.1 underlying110 rfl (by rw[kq D.1.2.1];kernel_rfl))) ?_;go_frame;refine tw 20 (.pointer (some ⟨F,1,none⟩)) ?_;go_frame;refine tl 21 (.agg (kn x.2.1).toArray) rfl E (fun w' A=>kc 110 _ rfl (p:=⟨F,1,none⟩) rfl (qV w' F 1 _ (kn x.2.1) _ (C.out w' A).2.2.2.2.1 underlying110 rfl (by rw[kq D.1.1];kernel_rfl))) ?_;go_frame;refine tk 22 (.bool (decide (x.2.2.1=x.2.1))) rfl (fun w' A=>zS 110 _ _ _ rfl rfl rfl eqRef.noGuard (EQ.out _)) ?_;go_frame;refine tw 23 (.pointer (some ⟨F,67,none⟩)) ?_;go_frame;refine tl 24 (.string x.2.2.2.1) rfl E (fun w' A=>l1 underlying9 (C.out w' A).2.2.2.2.2) ?_;go_frame;refine ta 13 ?_;refine tc #[.pointer (some ⟨a,0,none⟩),.agg (kn (k7,(next:Int))).toArray] Am rfl ?_;refine(X.out _ (qD _ _)).mono ?_;rintro e u1 ⟨Aj,rfl⟩;have H:=hid ((qD K.heap.size K).trans (Aj.mono (qD K.heap.size K).size));clear Aj;refine⟨_,rfl,fun _ _=>H.out,?_⟩;go_frame;refine ta 17 ?_;refine tc #[.pointer (some ⟨a,0,none⟩),.agg (kn x.2.2.1).toArray] Am rfl ?_;refine(A6.out _ H.out).mono ?_;rintro e u2 ⟨Ak,rfl⟩;have I:=hid (H.trans (Ak.mono H.size));clear Ak;refine⟨_,rfl,fun _ _=>I.out,?_⟩;go_frame;refine ta 25 ?_;refine tc #[.pointer (some ⟨q.ptr kd,0,none⟩),.agg (k8 (c.1,i,(next:Int))).toArray,.agg (k8 ka).toArray,.bool (decide (x.2.2.1=x.2.1)),.string x.2.2.2.1] AN rfl ?_;refine(insert_any d (c.1,i,(next:Int)) ka _ x.2.2.2.1 l B (q.ptr kd) (q.row kd) u2 ((G.keep I.out).docs kd d N.out).2 A5.out Af.out Ai.1 Ai.2 hts Ah.out hln (by show Ix (next:Int);unfold Ix;omega) (by rw[Ap.out];exact hax)).mono ?_;rintro e AX ⟨⟨AY,rfl⟩,AZ,As,A9,At⟩;have Al:=hid As;have J:=hid A9;have A8:=hid At
   clear As A9 At;refine⟨_,rfl,fun h=>absurd h yv,?_⟩;go_frame;refine ku yy ?_ _;go_wp2_with fail
   go_end0
   rw[A7.out];have B0:=(G.keep I.out).turn N.out J.out Al.out A8.out;have AO:Below w.heap.size w u2:=Q.trans (I.mono Q.size);have Au:(jR S kd).isSome=true:=by rw[N.out];rfl
   refine⟨rfl,_,B0,(But.of_below AO).trans J.out fun k hk hx=>.inr (.inr (.inr (.inr ⟨kd,Au,hx⟩))),fun j O=>?_,Nat.le_succ _⟩;rcases O with O|O|O|O|⟨k,hk,O⟩
   ·exact .inl (.inl O)
   ·exact .inl (.inr (.inl O))
   ·exact .inl (.inr (.inr (.inl O)))
   ·exact .inl (.inr (.inr (.inr (.inl O))))
   ·rw[U8] at hk;by_cases e:k=kd
    ·subst e;have Aa:DocX (q.ptr k) AZ j:=by simpa using O
     rcases Aa with Aa|Aa
     ·exact .inl (.inr (.inr (.inr (.inr ⟨k,Au,.inl Aa⟩))))
     ·rcases A8.out j Aa with g|g
      ·exact .inl (.inr (.inr (.inr (.inr ⟨k,Au,.inr g⟩))))
      ·exact .inr (qT AO.size g)
    ·rw[if_neg e] at hk;have Aa:DocX (q.ptr k) (q.row k) j:=by simpa [e] using O
     exact .inl (.inr (.inr (.inr (.inr ⟨k,hk,Aa⟩))))
end
structure StateLe (s:kz) (c t:Nat):Prop where
  claims:s.2.1.length≤c
  size:∀x∈s.1,Kd x.2≤t
def ve(l:List OpD):Nat:=(l.map fun x=>jV x.2.2.2.1).sum
theorem StateLe.mono{s:kz}{c t c' t':Nat}(h:StateLe s c t)(hc:c≤c')(ht:t≤t'):StateLe s c' t':=⟨Nat.le_trans h.claims hc,fun x A=>Nat.le_trans (h.size x A) ht⟩
theorem runesN_is(s:ByteArray):((jx s).getD []).length=jV s:=by
  unfold jV;cases jx s<;>rfl
theorem StateLe.do{s:kz}{c t:Nat}(h:StateLe s c t)(i:List UInt8)(tm:Int)(place next:Nat)(x:OpD):StateLe (JP s i tm place next x) (c+1) (t+jV x.2.2.2.1):=by
  have B:=h.mono (Nat.le_succ c) (Nat.le_add_right t (jV x.2.2.2.1));unfold JP
  split
  ·refine⟨by simpa using h.claims,fun y A=>?_⟩;rcases Z6 A with A|rfl
   ·exact B.size y A
   ·exact Nat.zero_le _
  ·split
   ·exact⟨by simpa using h.claims,B.size⟩
   ·split
    ·exact B
    ·rename_i d D;have C:=vR D
     split
     ·refine⟨B.claims,fun y A=>?_⟩;rcases Z6 A with A|rfl
      ·exact B.size y A
      ·refine Nat.le_trans (sizeR_insert d _ _ _ _) ?_;rw[runesN_is];exact Nat.add_le_add_right (h.size _ C) _
     ·split
      ·refine⟨B.claims,fun y A=>?_⟩;rcases Z6 A with A|rfl
       ·exact B.size y A
       ·show Kd (vo d _ _).1≤_;rw[sizeR_delete];exact B.size _ C
      ·exact B
theorem StateLe.dos(i:List UInt8)(tm:Int):∀(l:List OpD) (ns:List Nat) (place:Nat) {s:kz} {c t:Nat},StateLe s c t→StateLe (Jg i tm place s l ns) (c+l.length) (t+ve l)
  | [],ns,place,s,c,t,h=>by cases ns<;>exact h.mono (Nat.le_add_right _ _) (Nat.le_add_right _ _)
  |x::l,[],place,s,c,t,h=>h.mono (Nat.le_add_right _ _) (Nat.le_add_right _ _)
  |x::l,n::ns,place,s,c,t,h=>by
   have:=StateLe.dos i tm l ns (place+1) (h.do i tm place n x);refine this.mono ?_ ?_
   ·simp only[List.length_cons];omega
   ·simp only[ve,List.map_cons,List.sum_cons];omega
def opsOf(s:kz):Nat:=(s.2.2.map fun e=>e.2.1.2.2.2.length).sum
def qO(s:kz):Nat:=(s.2.2.map fun e=>ve e.2.1.2.2.2).sum
theorem StateLe.add{s:kz}(h:StateLe s (opsOf s) (qO s))(is i:List UInt8)(c:kQ):StateLe (Kt s is i c).2 (opsOf (Kt s is i c).2) (qO (Kt s is i c).2):=by
  unfold Kt
  split
  ·exact h
  ·split
   ·exact h
   ·split
    ·exact h
    ·split
     ·exact h
     ·split
      ·exact h
      ·rename_i C B G;have E:StateLe (s.1,s.2.1,s.2.2++[(i,c,C)]) (opsOf s) (qO s):=⟨h.claims,h.size⟩;have F:=StateLe.dos i c.1 c.2.2.2 B 0 E;have e:(Jg i c.1 0 (s.1,s.2.1,s.2.2++[(i,c,C)]) c.2.2.2 B).2.2=s.2.2++[(i,c,C)]:=by
         have D:∀(l:List OpD) (B:List Nat) (A:Nat) (s:kz),(Jg i c.1 A s l B).2.2=s.2.2:=by
           intro l
           induction l with
           |nil=>intro B A s;cases B<;>rfl
           |cons x l ih=>
            intro B A s;cases B with
            |nil=>rfl
            |cons n B=>
             show (Jg i c.1 (A+1) (JP s i c.1 A n x) l B).2.2=s.2.2;rw[ih,qq]
         exact D _ _ _ _
       refine F.mono ?_ ?_
       ·unfold opsOf;dsimp only;rw[e,List.map_append,List.sum_append];simp
       ·unfold qO;dsimp only;rw[e,List.map_append,List.sum_append];simp
section
variable (enc:kQ→Int) (idf:kQ→List UInt8)
def addF(s:kz)(i:List UInt8)(c:kQ):Int×kz:=if enc c≠0 then (enc c,s) else Kt s (idf c) i c
structure StateOf (l:List kQ) (s:kz):Prop where
  ok:StateOk s
  le:StateLe s (opsOf s) (qO s)
  told:∀x∈s.2.2,x.2.1∈l∧enc x.2.1=0∧idf x.2.1=x.1
theorem StateOf.new(l:List kQ):StateOf enc idf l Jh:=⟨newState_ok,⟨Nat.le_refl _,fun x A=>by cases A⟩,fun x A=>by cases A⟩
variable {enc} {idf}
theorem StateOf.add{l:List kQ}{s:kz}(h:StateOf enc idf l s){c:kQ}(hc:c∈l)(i:List UInt8):StateOf enc idf l (addF enc idf s i c).2:=by
  unfold addF
  split
  ·exact h
  ·rename_i C;have B:enc c=0:=by simpa using C
   obtain⟨D,E,F⟩:=h.ok.add (idf c) i c;refine⟨D,h.le.add _ _ _,fun x A=>?_⟩;by_cases he:(Kt s (idf c) i c).1=0
   ·obtain⟨G,_,I,H⟩:=F he;rw[H] at A;rcases List.mem_append.1 A with A|A
    ·exact h.told x A
    ·rw[List.mem_singleton] at A;subst A;exact⟨hc,B,G⟩
   ·rw[E he] at A;exact h.told x A
end
def zZ(l:List OpD):List jQ:=l.flatMap zL
theorem opsB_snoc(deps:List (List UInt8))(x:OpD):∀(l:List OpD) (mk:List jQ),Zr deps mk (l++[x])=(Zr deps mk l && opB deps (mk++zZ l) x)
  | [],mk=>by simp [Zr,zZ]
  |y::l,mk=>by
   rw[List.cons_append,Zr,Zr,opsB_snoc deps x l,Bool.and_assoc];simp [zZ]
theorem opsB_take{deps:List (List UInt8)}{mk:List jQ}{l:List OpD}(h:Zr deps mk l=true):∀i,Zr deps mk (l.take i)=true:=by
  intro i
  induction l generalizing mk i with
  |nil=>simpa using h
  |cons x l ih=>
   cases i with
   |zero=>rfl
   |succ i=>
    rw[Zr,Bool.and_eq_true] at h;rw[List.take_succ_cons,Zr,h.1,ih h.2 i];rfl
theorem Qt{deps:List (List UInt8)}{l:List OpD}{i:Nat}(hi:i<l.length):Zr deps [] (l.take (i+1))=(Zr deps [] (l.take i) && opB deps (zZ (l.take i)) l[i]):=by
  rw[List.take_succ_eq_append_getElem hi,opsB_snoc,List.nil_append]
theorem opsB_stop{deps:List (List UInt8)}{l:List OpD}{i:Nat}(hi:i<l.length)(h:opB deps (zZ (l.take i)) l[i]=false):Zr deps [] l=false:=by
  rw[Bool.eq_false_iff];intro q;have:=opsB_take q (i+1);rw[Qt hi,h,Bool.and_false] at this;cases this
theorem madeL_next{l:List OpD}{i:Nat}(hi:i<l.length):zZ (l.take (i+1))=zZ (l.take i)++zL l[i]:=by
  rw[List.take_succ_eq_append_getElem hi];unfold zZ;rw[List.flatMap_append,List.flatMap_singleton]
theorem QU(s:ByteArray):∀(n pos:Nat) (l:List Nat),s.size - pos≤n→jA s pos=some l→l.length≤s.size - pos
  |n,pos,l,h,e=>by
   by_cases hp:pos<s.size
   ·cases n with
    |zero=>omega
    |succ n=>
     cases ho:KH s pos with
     |false=>rw[vp hp ho] at e;cases e
     |true=>
      rw[KE hp ho] at e;obtain⟨t,ht,rfl⟩:=Option.map_eq_some_iff.1 e;have A:=ZA hp;have:=QU s n _ t yz ht;simp;omega
   ·rw[KB yz] at e;cases e
    simp
theorem ub(s:ByteArray):jV s≤s.size:=by
  unfold jV;rcases h:jx s with _ |l
  ·exact Nat.zero_le _
  ·exact QU s _ 0 l (Nat.le_refl _) h
def Za(s:ByteArray)(k:Nat):Nat:=match jA s k with
  |some l=>l.length
  |none=>0
theorem runesFrom_zero(s:ByteArray):Za s 0=jV s:=rfl
theorem runesFrom_end{s:ByteArray}{k:Nat}(h:s.size≤k):Za s k=0:=by
  unfold Za;rw[KB h];rfl
theorem runesFrom_next{s:ByteArray}{k:Nat}(hk:k<s.size)(ho:KH s k=true)(h:(jA s (k+(Utf8.decode s k).2)).isSome=true):Za s k=Za s (k+(Utf8.decode s k).2)+1:=by
  unfold Za;rw[KE hk ho];rcases hr:jA s (k+(Utf8.decode s k).2) with _ |l
  ·rw[hr] at h;cases h
  ·simp
theorem madeB_len{deps:List (List UInt8)}{mk:List jQ}{x:OpD}(h:opB deps mk x=true):(zL x).length≤4096:=by
  unfold zL
  split
  ·simp
  ·split
   ·rename_i A;rw[List.length_replicate];have C:kD x.1=some (true,true,true,false,false):=by rw[A];rfl
    unfold opB at h;rw[C] at h;simp only[A,Bool.and_eq_true] at h;have B:=h.2;simp only[decide_true,Bool.not_true,Bool.false_or,Bool.and_eq_true] at B;have:=Jv B.2;have:=ub x.2.2.2.1;omega
   ·simp
theorem Qu{deps:List (List UInt8)}:∀{l:List OpD} {mk:List jQ},Zr deps mk l=true→(zZ l).length≤l.length*4096
  | [],_,_=>by simp [zZ]
  |x::l,mk,h=>by
   rw[Zr,Bool.and_eq_true] at h;have h1:=madeB_len h.1;have A:=Qu h.2;simp only[zZ,List.flatMap_cons,List.length_append,List.length_cons] at A ⊢;omega
section
open Go.RowKit Go.Maps
open Lib (hid)
theorem Zx(g n:Nat)(xs:List UInt8)(w:World)(hw:WrAt w g xs)(hn:n<9223372036854775808)(hx:xs.length≤1099511627776):
    Calls prog 192 #[.pointer (some ⟨g,0,none⟩),.int .i64 (n:Int)] w fun e w'=>e=.returned (.tuple #[])∧WrAt w' g (xs++jq n)∧WrGo g w w':=by
  have A:=hid hw.lt;obtain⟨v,M,P⟩:=hw;have F:=hid M;have B:=hid P
  have G:=hid (show w.cell? ⟨g,0,none⟩=some v from k4 M 0);clear M P;have W:=jn (n:=n) yz;have V:=ql n;have H:IntKind.u64.wrap (n:Int)=(n:Int):=IntWalk.u64_in _ ⟨by omega,by omega⟩;clear H;go_enter func192,ntmps192
  go_wp2_with (first
    |(go_at_call 229;refine(put_nil n hn w).mono ?_;rintro e Y ⟨c,rfl,Q,C⟩;obtain⟨Z,a,rfl,N⟩:=qK Q V;have I:=hid N;have J:=hid C;have b:Y.cell? ⟨g,0,none⟩=some v:=(C.cell (p:=⟨g,0,none⟩) A.out).trans G.out;have D:=hid ((But.of_below (X:=NoB) C).own B.out fun _ _ q=>q);have E:=hid C.size;clear N Q C)
    |(refine KM yx _ _ 169 rfl (g+1) 5 (.int .u8 0) 1 1 underlying169 jg rfl yv v xs.length (idV xs) rfl D.out ⟨Z,0,none⟩ (jq n).length a (idV (jq n)) rfl (by rw[kf,Nat.mul_one]) I.out (kV _) yk yz (Nat.le_trans A.out E.out) ?_;intro d f O R S;obtain⟨h,i,rfl⟩:=kO O;obtain⟨j,k,T,U⟩:=WrAt.put F.out B.out J.out O R S;have K:=hid T;have L:=hid U
      clear O R S T U))
  go_end0
  exact⟨rfl,K.out,L.out⟩
theorem Qv(g:Nat)(s:ByteArray)(xs:List UInt8)(w:World)(hw:WrAt w g xs)(hs:s.size≤1099511627776)(hx:xs.length≤1099511627776):
    Calls prog 194 #[.pointer (some ⟨g,0,none⟩),.string s] w fun e w'=>e=.returned (.tuple #[])∧WrAt w' g (xs++jH (L s))∧WrGo g w w':=by
  have B:=hid hw.lt;obtain⟨v,M,P⟩:=hw;have G:=hid M;have C:=hid P
  have D:=hid (show w.cell? ⟨g,0,none⟩=some v from k4 M 0);clear M P;have d:(jH (L s)).length≤10+s.size:=by
    have:=jn (n:=(L s).length) (by rw[ji];omega);unfold jH;rw[List.length_append,ji];rw[ji] at this;omega
  have V:0<(jH (L s)).length:=by
    have:=ql (L s).length;unfold jH;rw[List.length_append];omega
  have W:=enE func230 rfl;go_enter func194,ntmps194
  go_upto_region 0 with fail
  refine rN 10 (fun u=>u.cell? ⟨g,0,none⟩=some v) (D.out) fun Y=>?_
  refine tw 0 (.pointer (some ⟨g,0,none⟩)) ?_;go_frame;refine tw 1 (.pointer (some ⟨g,0,none⟩)) ?_;go_frame;refine tw 2 (.pointer (some ⟨g,0,none⟩)) ?_;go_frame;refine tw 3 (.pointer (some ⟨g,0,none⟩)) ?_;go_frame;refine tl 4 (v) rfl Y (fun w' Z=>l1 underlying169 Z) ?_;go_frame;refine tw 5 (.string s) ?_;go_frame;refine ta 6 ?_;refine tc #[.slice none 0 0,.string s] W rfl ?_;refine(putText_nil s hs w.drew).mono ?_;rintro e a ⟨m,rfl,Q,A⟩
  replace A:Below w.heap.size w a:=((Below.refl _ _).drew).trans A
  obtain⟨f,i,rfl,N⟩:=qK Q V;have H:=hid N;have I:=hid A;have b:a.cell? ⟨g,0,none⟩=some v:=(A.cell (p:=⟨g,0,none⟩) B.out).trans D.out;have E:=hid ((But.of_below (X:=NoB) A).own C.out fun _ _ q=>q);have F:=hid A.size;clear N Q A;refine⟨_,rfl,fun _ _=>b,?_⟩;go_frame;refine ta 7 ?_;refine J8 _ rfl yy ?_;refine vv _ _ 169 rfl (g+1) 5 (.int .u8 0) 1 1 underlying169 jg rfl yv v xs.length (idV xs) rfl E.out ⟨f,0,none⟩ (jH (L s)).length i (idV (jH (L s))) rfl (by rw[kf,Nat.mul_one]) H.out (kV _) yk yz (Nat.le_trans B.out F.out) ?_;intro o r O R S;obtain⟨j,k,rfl⟩:=kO O;obtain⟨c,l,T,U⟩:=WrAt.put G.out C.out I.out O R S;have J:=hid T;have K:=hid U
  clear O R S T U;refine⟨fun _ _=>c,?_⟩;go_frame;refine tw 8 (.pointer (some ⟨g,0,none⟩)) ?_;go_frame;refine tw 9 (.pointer (some ⟨g,0,none⟩)) ?_;go_frame;refine ta 10 ?_;refine Z8 _ rfl yy (Uf 169 _ _ rfl g 0 (.slice j (xs.length+(jH (L s)).length) k) rfl rfl rfl rfl yy c l) ?_;refine⟨fun h=>absurd h yv,?_⟩;go_frame;refine ku yy ?_ _;go_wp2_with fail
  go_end0
  exact⟨rfl,J.out,K.out⟩
theorem wids_any(g:Nat)(l:List (List UInt8))(xs:List UInt8)(A:Option Addr)(c:Nat)(w:World)(hw:WrAt w g xs)(ho:IdsOk l)(hx:xs.length+32*l.length+10≤1099511627776)(hsl:Sl w g A l.length 32 (zf l)):
    Calls prog 193 #[.pointer (some ⟨g,0,none⟩),.slice A l.length c] w fun e w'=>e=.returned (.tuple #[])∧WrAt w' g (xs++Zs l)∧WrGo g w w':=by
  have H:=hid hw;have T:=hid ho;have U:=hid hsl
  have Aa:=jn (n:=l.length) yz;have S:∀i,((l.take i).flatten).length≤32*l.length:=fun i=>by
    have h1:∀m:List (List UInt8),IdsOk m→m.flatten.length=32*m.length:=fun m=>by
      induction m with
      |nil=>intro _;rfl
      |cons a m ih=>
       intro hm;have:=hm a yq;rw[List.flatten_cons,List.length_append,ih (fun b hb=>hm b (by simp [hb])),List.length_cons,show a.length=32 from this];omega
    rw[h1 _ (fun a ha=>ho a (List.mem_of_mem_take ha)),List.length_take];omega
  have V:=hid S;clear hw ho hsl S;go_enter func193,ntmps193
  go_wp2_with (go_at_call 192;refine(Zx g l.length xs w H.out yz yz).mono ?_;rintro e w1 ⟨rfl,d,f⟩;have I:=hid d;have J:=hid f;clear d f)
  go_loopw [12] (fun t wr=>∃i D,i≤l.length∧t=.int .i64 ((i:Nat):Int)∧Hid (D=xs++jq l.length++(l.take i).flatten)∧Hid (WrAt wr g D)∧Hid (WrGo g w wr)) (fun t _=>l.length - (intOf t).toNat)
  case atStart=>exact⟨0,_,Nat.zero_le _,rfl,hid rfl,by simpa using I,J⟩
  case round=>
    obtain⟨i,D,hi,rfl,K,C,E⟩:=hrel;by_cases hlt:i<l.length
    ·have i0:(0:Int)≤(i:Int):=by omega
     have i1:(i:Int)<(l.length:Int):=by omega
     obtain⟨b,Ab,rfl,Ac,y⟩:=(U.keep (E.belowG H.out)).2 yz;have L:=hid (Sl.id (B:=0) T.out y (i:=i) hlt);have F:=hid (show (l[i]).length=32 from T.out _ (List.getElem_mem hlt));have W:=hid (show (l.take (i+1)).flatten=(l.take i).flatten++l[i] by rw[List.take_succ_eq_append_getElem hlt,List.flatten_append,List.flatten_singleton]);have Ad:D.length≤xs.length+10+32*l.length:=by
       have h1:=V.out i;rw[K.out,List.length_append,List.length_append];omega
     clear y;generalize l[i]=x at *
     go_upto_region 4 with (first
       |(refine j9 rfl 41 _ rfl b _ rfl (idV x) _ L.out underlying41 rfl (by rw[kf,show x.length=32 from F.out];exact js) ?_)
       |(refine Kw (B:=wr.heap.size) (w0:=wr) rfl 41 _ _ rfl wr.heap.size (idV x).toArray rfl rfl 41 _ (heap_alloc_new _ _) (by rw[List.size_toArray];exact(by rw[kf,show x.length=32 from F.out];exact js)) (by rw[show (idV x).toArray.size=32 by rw[List.size_toArray,kf,show x.length=32 from F.out]];rfl) (by simpa using kV x) ((Below.refl _ _).alloc (Nat.le_refl _) _) (Nat.le_refl _) ?_;intro s R k _))
     obtain⟨z,hz⟩:∃z,wr.heap.size=z:=⟨_,rfl⟩;rw[hz] at k ⊢;have Y:=hid (show ∀j u,(idV x)[j]?=some u→s.drew.cell? ((⟨z,0,none⟩:Addr).add j)=some u from fun j u hj=>by
       have e1:(⟨z,0,none⟩:Addr).add j=⟨z,j,none⟩:=by unfold Addr.add;split<;>simp_all
       rw[e1];exact(k4 k j).trans hj)
     have o:=C.keep R;have M:=hid o.lt;obtain⟨v,p,A0⟩:=o;have N:=hid p;have G:=hid ((But.of_below (X:=NoB) ((Below.refl s.heap.size s).drew)).own A0 fun _ _ q=>q);have Z:=hid (show s.cell? ⟨g,0,none⟩=some v from k4 p 0);have O:=hid (E.trans (WrGo.below C.lt R));clear p A0 R k hz;refine rN 9 (fun u=>u.cell? ⟨g,0,none⟩=some v) (Z.out) fun A7=>?_
     refine tw 0 (.pointer (some ⟨g,0,none⟩)) ?_;go_frame;refine tw 1 (.pointer (some ⟨g,0,none⟩)) ?_;go_frame;refine tw 2 (.pointer (some ⟨g,0,none⟩)) ?_;go_frame;refine tw 3 (.pointer (some ⟨g,0,none⟩)) ?_;go_frame;refine tl 4 (v) rfl A7 (fun w' A8=>l1 underlying169 A8) ?_;go_frame;refine tw 5 (.slice (some ⟨z,0,none⟩) 32 32) ?_;go_frame;refine ta 6 ?_;refine J8 _ rfl yy ?_;refine vv _ _ 169 rfl (g+1) 5 (.int .u8 0) 1 1 underlying169 jg rfl yv v D.length (idV D) rfl G.out ⟨z,0,none⟩ 32 32 (idV x) rfl (by rw[kf,Nat.mul_one];exact F.out) Y.out (kV _) yk yz (by have:=M.out;exact this) ?_;intro v9 w9 r A1 A2;obtain⟨A9,c9,rfl⟩:=kO r;have A3:w9.ownsRow (g+1) 5 1 (.slice A9 (D.length+32) c9) (D.length+x.length) (idV D++idV x):=by rw[show x.length=32 from F.out];exact r
     obtain⟨cg,cf,A4,A5⟩:=WrAt.put N.out G.out (Below.refl _ _).drew A3 A1 A2;have C:=hid A4;have P:=hid A5
     clear A3;clear r A1 A2 A4 A5;refine⟨fun _ _=>cg,?_⟩;go_frame;refine tw 7 (.pointer (some ⟨g,0,none⟩)) ?_;go_frame;refine tw 8 (.pointer (some ⟨g,0,none⟩)) ?_;go_frame;refine ta 9 ?_;refine Z8 _ rfl yy (Uf 169 _ _ rfl g 0 (.slice A9 (D.length+32) c9) rfl rfl rfl rfl yy cg cf) ?_;refine⟨fun h=>absurd h yv,?_⟩;go_frame;refine ku yy ?_ _;have Q:=hid (O.trans P.out);go_wp2_with fail
     go_roundw
     case rel=>exact⟨i+1,D++x,by omega,by go_num,hid (by rw[K.out,W.out];simp),C,Q⟩
     case measure=>(simp [intOf])<;>omega
    ·have i1:¬(i:Int)<(l.length:Int):=by omega
     have A6:i=l.length:=by omega
     have HF:Hid (D=xs++Zs l):=hid (by rw[K.out,A6,List.take_length];unfold Zs;rw[zm,List.append_assoc]);clear A6;go_wp2_with fail
     go_end0
     exact⟨rfl,by rw[←HF.out];exact C.out,E.out⟩
def kU(m:jQ):List Value:=.bool m.1::kn m.2
def vM(m:jQ):Prop:=za m.2
theorem jl{m:jQ}(h:vM m):(kU m).length=34:=by
  have:=kq h;simp [kU,this]
theorem Zb(m:jQ):∀u∈kU m,u.oneCell'=true:=by
  intro u A;rcases List.mem_cons.1 A with rfl|A
  ·rfl
  ·exact qm _ u A
def CkAt(w:World)(g:Nat)(deps:List (List UInt8))(mk:List jQ):Prop:=∃Ad cd vm,w.heap[g]?=some (.cells #[.slice Ad deps.length cd,vm] 349 (0,0))∧Sl w g Ad deps.length 32 (zf deps)∧w.ownsRow (g+1) 373 34 vm mk.length (ke kU mk)
theorem CkAt.lt{w:World}{g:Nat}{deps:List (List UInt8)}{mk:List jQ}(h:CkAt w g deps mk):g<w.heap.size:=by
  obtain⟨_,_,_,A,_⟩:=h;exact(qX A)
theorem CkAt.keep{w w':World}{g:Nat}{deps:List (List UInt8)}{mk:List jQ}(h:CkAt w g deps mk)(hb:Below w.heap.size w w'):CkAt w' g deps mk:=by
  have A:=h.lt;obtain⟨Ad,B,C,D,E,F⟩:=h;exact⟨Ad,B,C,(hb.block g A).trans D,E.keep (hb.mono (Nat.le_of_lt A)),(But.of_below (X:=NoB) hb).own F fun _ _ q=>q⟩
theorem jv(w:World)(cs:List Value)(T:TypeId):∀j u,cs[j]?=some u→(w.alloc (.cells cs.toArray T)).cell? ⟨w.heap.size,j,none⟩=some u:=by
  intro j u A;rw[k4 (heap_alloc_new w _) j];exact A
theorem QV(g:Nat)(deps:List (List UInt8))(mk:List jQ)(r:zC)(w:World)(hk:CkAt w g deps mk)(ho:IdsOk deps)(hn:deps.length≤1099511627776)(hr:za r):
    Calls prog 275 #[.pointer (some ⟨g,0,none⟩),.agg (kn r).toArray] w fun e w'=>Below w.heap.size w w'∧e=.returned (.bool (zH deps r)):=by
  have F:=hid hk.lt;obtain⟨Ad,O,s,i,k,m⟩:=hk;have P:=hid k;have X:=hid ho;have G:=hid hr
  have Q:=hid (show w.cell? ⟨g,0,none⟩=some (.slice Ad deps.length O) from k4 i 0);have a:(prog.info? 41).map (·.size)=some (idV r.1).length:=by rw[kf,show r.1.length=32 from hr.1];exact js
  have R:=hid a;have l:=hid (zJ hr.2);have H:Hid (zH deps r=((je deps && decide (r.1∈deps)) && decide (0≤r.2) && decide (r.2≤2147483647))):=hid rfl;clear i k m ho hr a;rcases Bool.eq_false_or_eq_true (je deps && decide (r.1∈deps)) with W|W
  ·have U:=hid W;rw[W] at H;clear W;rcases (by omega:r.2<0∨(0≤r.2∧2147483647<r.2)∨(0≤r.2∧r.2≤2147483647)) with q|⟨q,b⟩|⟨q,b⟩
   focus
     have Y:decide (0≤r.2)=false:=by simp;omega
     have I:Hid (zH deps r=false):=hid (by rw[H.out,Y];rfl);clear q
   rotate_left
   focus
     have Y:decide (0≤r.2)=true:=by simp;omega
     have c:decide (r.2≤2147483647)=false:=by simp;omega
     have I:Hid (zH deps r=false):=hid (by rw[H.out,Y,c];rfl);clear q b
   rotate_left
   focus
     have Y:decide (0≤r.2)=true:=by simp;omega
     have c:decide (r.2≤2147483647)=true:=by simp;omega
     have I:Hid (zH deps r=true):=hid (by rw[H.out,Y,c];rfl);clear q b
   all_goals
     go_enter func275,ntmps275
     go_upto_region 1 with fail
     obtain⟨E,B⟩:∃E,(w.alloc (.cells (kn r).toArray 110))=E:=⟨_,rfl⟩;have A:=hid (show Below w.heap.size w E by rw[←B];exact(qB _ _).alloc (qR _) _);have V:=hid (show w.heap.size<E.heap.size by rw[←B];simp);have C:=hid (show E.cell? ⟨w.heap.size,32,none⟩=some (.int .i64 r.2) by rw[←B];exact jv w _ _ _ _ (kL G.out).2);have J:=hid (show E.rangeAt w.heap.size 0 (idV r.1) by rw[←B];exact fun j u d=>by rw[qZ];exact jv w _ _ _ _ ((kL G.out).1 j u d));have K:=hid ((A.cell (p:=⟨g,0,none⟩) F.out).trans Q.out);have D:=hid (((P.more (Nat.le_of_lt F.out)).keep A.out).more A.size);rw[B];clear B;have Z:=enE func231 rfl;refine rN 6 (fun u=>u.cell? ⟨g,0,none⟩=some (.slice Ad deps.length O)∧u.rangeAt w.heap.size 0 (idV r.1)) (⟨K.out,J.out⟩) fun T=>?_
     refine tw 0 (.pointer (some ⟨g,0,none⟩)) ?_;go_frame;refine tw 1 (.pointer (some ⟨g,0,none⟩)) ?_;go_frame;refine tw 2 (.pointer (some ⟨g,0,none⟩)) ?_;go_frame;refine tl 3 (.slice Ad deps.length O) rfl T (fun w' M=>l1 underlying34 M.1) ?_;go_frame;refine tw 4 (.pointer (some ⟨w.heap.size,0,none⟩)) ?_;go_frame;refine tl 5 (.agg (idV r.1).toArray) rfl T (fun w' M=>kc 41 _ rfl (p:=⟨w.heap.size,0,none⟩) rfl (qV w' _ _ _ (idV r.1) _ M.2 underlying41 rfl R.out)) ?_;go_frame;refine ta 6 ?_;refine tc #[.slice Ad deps.length O,.agg (idV r.1).toArray] Z rfl ?_;refine(find_any deps r.1 Ad O E.drew hn X.out G.1 (D.keep (qD _ _))).mono ?_;rintro e f ⟨N,n,rfl,-,-⟩;have L:=hid (A.drew.trans (N.mono A.size));have S:Hid (f.cell? ⟨w.heap.size,32,none⟩=some (.int .i64 r.2)):=hid ((N.cell (p:=⟨w.heap.size,32,none⟩) V.out).trans C.out);rw[U.out];clear N;refine⟨_,rfl,fun h=>absurd h yv,?_⟩;go_frame;refine tw 7 (.tuple #[.int .i64 n,.bool true]) ?_;go_frame;refine tw 8 (.int .i64 n) ?_;go_frame;refine tw 9 (.bool true) ?_;go_frame;refine tw 10 (.int .i64 n) ?_;go_frame;refine tw 11 (.bool true) ?_;go_frame;refine ku yy ?_ _;have o:=S.out;go_wp2_with fail;go_ret;exact⟨L.out,by rw[I.out];rfl⟩
  ·have U:=hid W;have I:Hid (zH deps r=false):=hid (by rw[H.out,W];rfl);clear W;go_enter func275,ntmps275
   go_upto_region 1 with fail
   obtain⟨E,B⟩:∃E,(w.alloc (.cells (kn r).toArray 110))=E:=⟨_,rfl⟩;have A:=hid (show Below w.heap.size w E by rw[←B];exact(qB _ _).alloc (qR _) _);have V:=hid (show w.heap.size<E.heap.size by rw[←B];simp);have C:=hid (show E.cell? ⟨w.heap.size,32,none⟩=some (.int .i64 r.2) by rw[←B];exact jv w _ _ _ _ (kL G.out).2);have J:=hid (show E.rangeAt w.heap.size 0 (idV r.1) by rw[←B];exact fun j u d=>by rw[qZ];exact jv w _ _ _ _ ((kL G.out).1 j u d));have K:=hid ((A.cell (p:=⟨g,0,none⟩) F.out).trans Q.out);have D:=hid (((P.more (Nat.le_of_lt F.out)).keep A.out).more A.size);rw[B];clear B;have Z:=enE func231 rfl;refine rN 6 (fun u=>u.cell? ⟨g,0,none⟩=some (.slice Ad deps.length O)∧u.rangeAt w.heap.size 0 (idV r.1)) (⟨K.out,J.out⟩) fun T=>?_
   refine tw 0 (.pointer (some ⟨g,0,none⟩)) ?_;go_frame;refine tw 1 (.pointer (some ⟨g,0,none⟩)) ?_;go_frame;refine tw 2 (.pointer (some ⟨g,0,none⟩)) ?_;go_frame;refine tl 3 (.slice Ad deps.length O) rfl T (fun w' M=>l1 underlying34 M.1) ?_;go_frame;refine tw 4 (.pointer (some ⟨w.heap.size,0,none⟩)) ?_;go_frame;refine tl 5 (.agg (idV r.1).toArray) rfl T (fun w' M=>kc 41 _ rfl (p:=⟨w.heap.size,0,none⟩) rfl (qV w' _ _ _ (idV r.1) _ M.2 underlying41 rfl R.out)) ?_;go_frame;refine ta 6 ?_;refine tc #[.slice Ad deps.length O,.agg (idV r.1).toArray] Z rfl ?_;refine(find_any deps r.1 Ad O E.drew hn X.out G.1 (D.keep (qD _ _))).mono ?_;rintro e f ⟨N,n,rfl,-,-⟩;have L:=hid (A.drew.trans (N.mono A.size));have S:Hid (f.cell? ⟨w.heap.size,32,none⟩=some (.int .i64 r.2)):=hid ((N.cell (p:=⟨w.heap.size,32,none⟩) V.out).trans C.out);rw[U.out];clear N;refine⟨_,rfl,fun h=>absurd h yv,?_⟩;go_frame;refine tw 7 (.tuple #[.int .i64 n,.bool false]) ?_;go_frame;refine tw 8 (.int .i64 n) ?_;go_frame;refine tw 9 (.bool false) ?_;go_frame;refine tw 10 (.int .i64 n) ?_;go_frame;refine tw 11 (.bool false) ?_;go_frame;refine ku yy ?_ _;go_wp2_with fail;go_ret;exact⟨L.out,by rw[I.out];rfl⟩
theorem wref_any(g:Nat)(deps:List (List UInt8))(id:List UInt8)(i:Nat)(xs:List UInt8)(Ad:Option Addr)(cd:Nat)(w:World)(hw:WrAt w g xs)(ho:IdsOk deps)(hs:je deps=true)(hn:deps.length≤1099511627776)(hr:za (id,((i:Nat):Int)))(hin:id=k7∨id∈deps)(hi:i<9223372036854775808)(hx:xs.length+20≤1099511627776)(hsl:Sl w g Ad deps.length 32 (zf deps)):
    Calls prog 196 #[.pointer (some ⟨g,0,none⟩),.slice Ad deps.length cd,.agg (kn (id,((i:Nat):Int))).toArray] w fun e w'=>e=.returned (.tuple #[])∧WrAt w' g (xs++jT deps (id,((i:Nat):Int)))∧WrGo g w w':=by
  have B:=hid hw;have m:=hid ho;have a:=hid hsl;have O:=hid hr
  have o:=hid (show jp id from hr.1);have f:(prog.info? 41).map (·.size)=some (idV id).length:=by rw[kf,show id.length=32 from hr.1];exact js
  have R:=hid f;have Z:=hid (fun (u:World)=>zY (show jp id from hr.1) jL u);have y:=hid zu;by_cases hz:id=k7
  ·have k:decide (id=k7)=true:=by simp [hz]
   have s:=hid (fun (u:World)=>(Z.out u).trans (by rw[k]));have T:Hid (jT deps (id,((i:Nat):Int))=jq 0++jq i):=hid (by unfold jT;simp only;rw[if_neg (by simp [hz]),zm];exact congrArg (· ++jq i) (zm 0));have hl:=jn (n:=0) yz;clear k Z hw ho hsl hr f hz hin hs;go_enter func196,ntmps196
   go_upto_region 1 with fail
   obtain⟨H,D⟩:∃H,(w.alloc (.cells (kn (id,((i:Nat):Int))).toArray 110))=H:=⟨_,rfl⟩;have A:=hid (show Below w.heap.size w H by rw[←D];exact(qB _ _).alloc (qR _) _);have P:=hid (show w.heap.size<H.heap.size by rw[←D];simp);have E:=hid (show H.cell? ⟨w.heap.size,32,none⟩=some (.int .i64 ((i:Nat):Int)) by rw[←D];exact jv w _ _ _ _ (kL O.out).2);have J:=hid (show H.rangeAt w.heap.size 0 (idV id) by rw[←D];exact fun j u t=>by rw[qZ];exact jv w _ _ _ _ ((kL O.out).1 j u t));rw[D];clear D;have C:=hid (B.keep A.out);have K:=hid (B.newNot A.out (qR _));have L:=hid (WrGo.below B.lt A.out)
   go_upto_region 5 with (first
     |(refine k5 yx (kc 41 _ rfl (p:=⟨w.heap.size,0,none⟩) rfl (qV _ _ _ _ _ _ J.out underlying41 rfl R.out)) ?_)
     |(refine k5 yx (kj 41 #[] rfl (y.out _)) ?_)
     |(refine k5 yx (jb 41 _ _ _ rfl (xs:=(idV id).toArray) (ys:=(idV k7).toArray) rfl rfl (r:=true) eqId.noGuard (s.out _)) ?_;go_frame;try simp only[nTF]))
   go_upto_region 6 with (first
     |(go_at_call 192;refine(Zx g 0 xs H C.out yz yz).mono ?_;rintro e v ⟨rfl,M,I⟩;have z:=(I.cell (j:=32) P.out K.out).trans E.out;have F:=hid M;have G:=hid I
       clear M I))
   go_wp2_with (first
     |(go_at_call 192;refine(Zx g i (xs++jq 0) v F.out yz (by rw[List.length_append];omega)).mono ?_;rintro e w3 ⟨rfl,X,Y⟩))
   go_end0
   exact⟨rfl,by rw[T.out,←List.append_assoc];exact X,L.trans (G.trans Y)⟩
  ·have k:decide (id=k7)=false:=by simp [hz]
   have s:=hid (fun (u:World)=>(Z.out u).trans (by rw[k]));have x:id∈deps:=hin.resolve_left hz;have A0:=List.idxOf_lt_length_iff.2 x;have S:Hid ((je deps && decide (id∈deps))=true):=hid (by rw[hs];simpa using x);have b:=hid (fun (n:Nat) (h:(je deps && decide (id∈deps))=true→deps[n]?=some id)=>(show n=deps.idxOf id by
     have h1:=h S.out;obtain⟨h2,h3⟩:=List.getElem?_eq_some_iff.1 h1;rw[←idxOf_at hs n h2,h3]))
   have T:Hid (jT deps (id,((i:Nat):Int))=jq (deps.idxOf id+1)++jq i):=hid (by unfold jT;simp only;rw[if_pos hz,zm];exact congrArg (· ++jq i) (zm (deps.idxOf id+1)));have hl:=jn (n:=deps.idxOf id+1) yz;have A1:deps.idxOf id<1099511627776:=by omega
   clear k Z hw ho hsl hr f hz hin hs x A0;generalize deps.idxOf id=q at *;go_enter func196,ntmps196
   go_upto_region 1 with fail
   obtain⟨H,D⟩:∃H,(w.alloc (.cells (kn (id,((i:Nat):Int))).toArray 110))=H:=⟨_,rfl⟩;have A:=hid (show Below w.heap.size w H by rw[←D];exact(qB _ _).alloc (qR _) _);have P:=hid (show w.heap.size<H.heap.size by rw[←D];simp);have E:=hid (show H.cell? ⟨w.heap.size,32,none⟩=some (.int .i64 ((i:Nat):Int)) by rw[←D];exact jv w _ _ _ _ (kL O.out).2);have J:=hid (show H.rangeAt w.heap.size 0 (idV id) by rw[←D];exact fun j u t=>by rw[qZ];exact jv w _ _ _ _ ((kL O.out).1 j u t));rw[D];clear D;have C:=hid (B.keep A.out);have K:=hid (B.newNot A.out (qR _));have L:=hid (WrGo.below B.lt A.out);have U:=hid (((a.more (Nat.le_of_lt B.lt)).keep A.out).more A.size)
   go_upto_region 5 with (first
     |(refine k5 yx (kc 41 _ rfl (p:=⟨w.heap.size,0,none⟩) rfl (qV _ _ _ _ _ _ J.out underlying41 rfl R.out)) ?_)
     |(refine k5 yx (kj 41 #[] rfl (y.out _)) ?_)
     |(refine k5 yx (jb 41 _ _ _ rfl (xs:=(idV id).toArray) (ys:=(idV k7).toArray) rfl rfl (r:=false) eqId.noGuard (s.out _)) ?_;go_frame;try simp only[nTF])
     |(go_at_call 231;refine(find_any deps id Ad cd H hn m.out o.out U.out).mono ?_;rintro e w1 ⟨N,n,rfl,A2,l⟩;obtain rfl:q=n:=(b.out n l).symm;rw[S.out];have V:=hid (C.keep N);have W:=hid (C.keepNot N K.out);have c:=hid (L.trans (WrGo.below C.lt N));have Q:=hid ((N.cell (p:=⟨w.heap.size,32,none⟩) P.out).trans E.out);have d:=hid (qL P.out N.size);clear N l))
   go_upto_region 6 with (first
     |(go_at_call 192;refine(Zx g (q+1) xs w1 V.out yz yz).mono ?_;rintro e v ⟨rfl,M,I⟩;have z:=(I.cell (j:=32) d.out W.out).trans Q.out;have F:=hid M;have G:=hid I
       clear M I))
   go_wp2_with (first
     |(go_at_call 192;refine(Zx g i (xs++jq (q+1)) v F.out yz (by rw[List.length_append];omega)).mono ?_;rintro e w3 ⟨rfl,X,Y⟩))
   go_end0
   exact⟨rfl,by rw[T.out,←List.append_assoc];exact X,c.trans (G.trans Y)⟩
end
section
open Go.RowKit Go.Maps
theorem qP{n:Nat}(h:n<9223372036854775808):(jq n).length≤10:=jn yz
theorem qQ{n:Int}(h:n<9223372036854775808):(UR n).length≤10:=by
  unfold UR
  split
  ·exact Nat.zero_le _
  ·exact qP yz
theorem Qw{s:ByteArray}(h:s.size≤1099511627776):(jH (L s)).length≤10+s.size:=by
  have:=qP (n:=(L s).length) (by rw[ji];omega);unfold jH;rw[List.length_append];rw[ji] at this ⊢;omega
theorem flat_len:∀{l:List (List UInt8)},IdsOk l→l.flatten.length=32*l.length
  | [],_=>rfl
  |a::l,h=>by
   have h1:a.length=32:=h a yq;rw[List.flatten_cons,List.length_append,flat_len (fun b A=>h b (by simp [A])),List.length_cons,h1];omega
theorem idsE_len{l:List (List UInt8)}(h:IdsOk l)(hl:l.length≤1099511627776):(Zs l).length≤10+32*l.length:=by
  have:=qQ (n:=(l.length:Int)) yz;unfold Zs;rw[List.length_append,flat_len h];omega
theorem refE_len{deps:List (List UInt8)}{r:zC}(hl:deps.length≤1099511627776)(hr:za r):(jT deps r).length≤20:=by
  have A:=qQ (zJ hr.2).2;have B:=List.idxOf_le_length (a:=r.1) (l:=deps);have C:=qQ (n:=if r.1≠k7 then (deps.idxOf r.1:Int)+1 else 0) (by split<;>omega);unfold jT;rw[List.length_append];omega
end
section
open Go.RowKit Go.Maps
open Lib (hid)
theorem opsE_next{deps:List (List UInt8)}{os:List OpD}{i:Nat}(h:i<os.length):Uy deps (os.take (i+1))=Uy deps (os.take i)++opE deps os[i]:=by
  unfold Uy;rw[List.take_succ_eq_append_getElem h,List.map_append,List.flatten_append];simp
theorem wchange_any(g:Nat)(c:kQ)(cv:Value)(w:World)(hw:WrAt w g [])(hc:ChIn w g cv c)(h:j6 c=true):
    Calls prog 149 #[.pointer (some ⟨g,0,none⟩),cv] w fun e w'=>e=.returned (.tuple #[])∧WrAt w' g (J4 c)∧WrGo g w w':=by
  have N:=hid hw;obtain⟨ok,BW,ha,Ad,cd,Ao,co,rfl,sd,so⟩:=hc;obtain⟨n,Z,au,os⟩:=c;simp only at *;unfold j6 at h;simp only[Bool.and_eq_true,decide_eq_true_eq] at h;obtain⟨⟨⟨⟨⟨⟨CI,CJ⟩,BL⟩,BX⟩,CK⟩,CL⟩,BM⟩:=h;have CB:=qz BX;obtain⟨CM,BN,Cn⟩:=Uc BL ok.2.1;have Aj:=hid sd;have BA:=hid so;have B6:=hid BN
  have Au:=hid (show IdsOk Z from ok.2.1);have B7:=hid BW;have BB:=hid (fun x hx=>ops_each BM x hx);obtain⟨n,rfl⟩:∃m:Nat,n=(m:Int):=⟨n.toNat,by omega⟩;clear sd so ok hw BW BM BL BX BN Cn;go_enter func149,ntmps149
  go_upto_region 1 with (first
    |(with_reducible refine kB ?_
      refine kr yx 37 _ rfl [.int .i64 ((n:Nat):Int),.slice Ad Z.length cd,.string au,.slice Ao os.length co] _ rfl rfl yy ?_;intro W1 BY BZ Co;have O:=hid BY;have P:=hid BZ
      clear BY BZ Co))
  have I:=hid (N.keep O.out);have d:=hid (N.newNot O.out (qR _));have Bo:=hid (WrGo.below N.lt O.out);obtain⟨v0,AE,B1⟩:=I.out;have A5:=hid AE;have A6:=hid B1
  have Cp:W1.cell? ⟨g,0,none⟩=some v0:=k4 AE 0;have Ai:Below W1.heap.size W1 (W1.alloc (.cells #[.int .u8 67] 5)):=(qB _ _).alloc (qR _) _;have A7:=hid Ai;have Q:=hid ((But.of_below (X:=NoB) Ai).own B1 fun _ _ q=>q);have A8:=hid (show ∀j u,(idV [67])[j]?=some u→(W1.alloc (.cells #[.int .u8 67] 5)).cell? ((⟨W1.heap.size,0,none⟩:Addr).add j)=some u from fun j u hj=>by
    have e1:(⟨W1.heap.size,0,none⟩:Addr).add j=⟨W1.heap.size,j,none⟩:=by unfold Addr.add;split<;>simp_all
    rw[e1];exact(k4 (cs:=[.int .u8 67]) (heap_alloc_new W1 (.cells #[.int .u8 67] 5)) j).trans (by simpa [idV] using hj))
  have Aa:=hid (show g+1≤(W1.alloc (.cells #[.int .u8 67] 5)).heap.size from qT I.lt Ai.size);clear AE B1 Ai
  go_upto_region 2 with (first
    |(at_builtin;go_loud (refine KM yx _ _ 169 rfl (g+1) 5 (.int .u8 0) 1 1 underlying169 jg rfl yv v0 0 (idV []) rfl Q.out ⟨W1.heap.size,0,none⟩ 1 1 (idV [67]) rfl rfl A8.out (kV _) yk yz Aa.out ?_)
      intro v9 w9 B2 Bk Bl;obtain⟨A9,c9,rfl⟩:=kO B2;obtain⟨cg,cf,A,B⟩:=WrAt.put (xs:=[]) (ys:=[67]) A5.out A6.out A7.out B2 Bk Bl;have z:=hid A;have Ak:=hid B
      clear B2 Bk Bl A B))
  obtain⟨w2,C0⟩:∃u:World,w9.setCell ⟨g,0,none⟩ (.slice A9 (0+1) c9)=u:=⟨_,rfl⟩;rw[C0] at z Ak ⊢;clear C0 cg cf;obtain⟨x2,Av⟩:∃x2:List UInt8,Hid ([]++[67]=x2):=⟨_,hid rfl⟩;have Cg:x2.length≤1:=by rw[←Av.out];decide
  rw[Av.out] at z;obtain⟨zc,BO⟩:∃zc,w.heap.size=zc:=⟨_,rfl⟩;have f:=hid (show zc<W1.heap.size from by rw[←BO];exact(qX P.out));rw[BO] at P d ⊢;clear BO Q A8 Aa A5 A6 A7 Cp;have Cq:w2.cell? ⟨zc,0,none⟩=some (.int .i64 ((n:Nat):Int)):=(Ak.cell f.out d.out).trans (k4 P.out 0)
  go_upto_region 3 with (first
    |(go_at_call 192;refine(Zx g n x2 w2 z.out yz yz).mono ?_;rintro e w3 ⟨rfl,A,B⟩;have Al:=hid A;have Am:=hid (Ak.trans B)
      clear A B))
  obtain⟨x3,Aw⟩:∃x3,Hid (x2++jq n=x3):=⟨_,hid rfl⟩;have Ch:x3.length≤x2.length+(10):=by rw[←Aw.out,List.length_append];have:=qP (n:=n) yz;omega
  rw[Aw.out] at Al;have Cr:w3.cell? ⟨zc,1,none⟩=some (.slice Ad Z.length cd):=(Am.cell f.out d.out).trans (k4 P.out 1)
  go_upto_region 4 with (first
    |(go_at_call 193;refine(wids_any g Z x3 Ad cd w3 Al.out Au.out yz (Aj.keep (O.mono (Nat.le_of_lt N.lt)|>.trans (Am.belowG I.out)))).mono ?_;rintro e w4 ⟨rfl,A,B⟩;have An:=hid A;have AF:=hid (Am.trans B)
      clear A B))
  obtain⟨x4,Ax⟩:∃x4,Hid (x3++Zs Z=x4):=⟨_,hid rfl⟩;have Ci:x4.length≤x3.length+(10+32*Z.length):=by rw[←Ax.out,List.length_append];have:=idsE_len Au.out yz;omega
  rw[Ax.out] at An;have Cs:w4.cell? ⟨zc,2,none⟩=some (.string au):=(AF.cell f.out d.out).trans (k4 P.out 2)
  go_upto_region 5 with (first
    |(go_at_call 194;refine(Qv g au x4 w4 An.out yz yz).mono ?_;rintro e w5 ⟨rfl,A,B⟩;have Ap:=hid A;have AG:=hid (AF.trans B)
      clear A B))
  obtain⟨x5,Ay⟩:∃x5,Hid (x4++jH (L au)=x5):=⟨_,hid rfl⟩;have Cj:x5.length≤x4.length+(10+au.size):=by rw[←Ay.out,List.length_append];have:=Qw (s:=au) yz;omega
  rw[Ay.out] at Ap;have Ct:w5.cell? ⟨zc,3,none⟩=some (.slice Ao os.length co):=(AG.cell f.out d.out).trans (k4 P.out 3)
  go_upto_region 6 with (first
    |(go_at_call 192;refine(Zx g os.length x5 w5 Ap.out yz yz).mono ?_;rintro e w6 ⟨rfl,A,B⟩;have R:=hid A;have Bp:=hid (AG.trans B)
      clear A B))
  obtain⟨x6,Az⟩:∃x6,Hid (x5++jq os.length=x6):=⟨_,hid rfl⟩;have Ck:x6.length≤x5.length+(10):=by rw[←Az.out,List.length_append];have:=qP (n:=os.length) yz;omega
  rw[Az.out] at R
  go_upto_region 7 with (first
    |(go_at_call 195;refine(Qq w6).mono ?_;rintro e w7 ⟨Bs,v,rfl,⟨mg,mn,rfl,BP⟩,Cu,Bt,C1⟩;obtain rfl:mg=Cu:=by injection Bt with Bt;injection Bt
      have AH:=hid (R.keep Bs);have BC:=hid BP
      have BD:=hid (R.newNot Bs C1);have J:=hid (Bp.trans (WrGo.below R.lt Bs));have Cl:=hid (show mg<w7.heap.size from by obtain⟨D,hD,_⟩:=BP;exact hD.lt);clear Bs BP Bt C1))
  have S:=J.apart f.out d.out;have AI:=hid (S.1.trans P.out);have Bq:=hid S.2
  have AJ:=hid (qL f.out J.1.size);have CN:w7.cell? ⟨zc,3,none⟩=some (.slice Ao os.length co):=k4 AI.out 3;obtain⟨xh,Bu⟩:∃xh,x6=xh:=⟨_,rfl⟩;rw[Bu] at AH;have CO:xh.length≤8388608:=by rw[←Bu];omega
  have BE:Hid (J4 ((n:Int),Z,au,os)=xh++Uy Z os):=hid (by
    rw[←Bu,←Az.out,←Ay.out,←Ax.out,←Aw.out,←Av.out];simp only[J4,zm,List.nil_append,List.append_assoc,List.cons_append])
  clear Bu S Az Ay Ax Aw Av Cg Ch Ci Cj Ck z Al An Ap R Cq Cr Cs Ct;go_wp2_with fail
  go_loopw [38] (fun t wr=>∃i ys,i≤os.length∧t=.int .i64 ((i:Nat):Int)∧Hid (ys=xh++Uy Z (os.take i))∧Hid (WrAt wr g ys)∧Hid (WrGo g w7 wr)∧ys.length≤8388608+30000*i) (fun t _=>os.length - (intOf t).toNat)
  case atStart=>exact⟨0,xh,Nat.zero_le _,rfl,hid (by simp [Uy]),AH,hid (WrGo.refl _ _),by omega⟩
  case round=>
    obtain⟨i,ys,hi,rfl,HY,Ab,AA,BQ⟩:=hrel;by_cases hlt:i<os.length
    ·have i0:(0:Int)≤(i:Int):=by omega
     have i1:(i:Int)<(os.length:Int):=by omega
     obtain⟨b,CP,rfl,CQ,C2⟩:=((BA.keep (O.mono (Nat.le_of_lt N.lt))).keep ((J.trans AA.out).belowG I.out)).2 yz;have Br:=hid (Sl.row (fun x hx=>kH (B7.out x hx)) C2 hlt);have M:=hid (B7.out _ (List.getElem_mem hlt));have B8:=hid (BB.out _ (List.getElem_mem hlt));have BF:=hid (opsE_next (deps:=Z) hlt);clear C2;generalize os[i]=x at *;have Ac:=hid (kp M.out);obtain⟨mk,Bm⟩:=B8.out;obtain⟨p,Bv⟩:∃p,kD x.1=some p:=by
       rcases hq:kD x.1 with _ |p
       ·unfold opB at Bm;rw[hq] at Bm;cases Bm
       ·exact⟨p,rfl⟩
     obtain⟨n1,n2,n3,n4,n5,n6,n7,n8,n9,C3⟩:=op_names Bv Bm;have BG:=hid n1;have BH:=hid n3;have BI:=hid n7
     have AK:Hid (x.2.2.2.1.size≤4096):=hid (by rcases Bool.eq_false_or_eq_true p.2.2.1 with q|q;exact n5 q;rw[n6 q];decide);have AL:Hid (x.2.2.2.2.2.size≤4096):=hid (by rcases Bool.eq_false_or_eq_true p.2.2.2.2 with q|q;exact n9 q;rw[C3 q];decide);have BJ:=hid Bv;have B9:Hid ((zD x.1).getD (Jc zT)=Jc p):=hid (by unfold zD;rw[Bv];rfl);clear n1 n2 n3 n4 n5 n6 n7 n8 n9 C3 Bv Bm B8
     go_upto_region 10 with (first
       |(with_reducible refine k6 ?_
         refine j9 rfl 112 _ rfl b _ rfl (opV x) _ Br.out underlying112 rfl (by rw[kH M.out];exact Kg) ?_)
       |(with_reducible refine kA ?_
         refine ks yx 112 rfl (opV UX) (UY _) ?_;intro Wa C4 C5 C6;have Ba:=hid C4;have Bb:=hid C5;have AM:=hid C6
         clear C4 C5 C6)
       |(with_reducible refine kw ?_
         refine ko yx 112 _ _ rfl wr.heap.size 0 [] (opV UX) [] (opV x) 112 _ rfl rfl rfl rfl (by simpa using Bb.out) (by rw[kH M.out];exact kH (Qr 0)) (by rw[kH M.out];exact Kg) (Ud _) ?_;intro Wb C7 BQ Cv;have T:=hid (Ba.trans (C7.below (by have:=AM.out;omega) (fun k hk e=>by omega)));have AB:Hid (Wb.heap[wr.heap.size]?=some (.cells (opV x).toArray 112 (0,0))):=hid (by simpa using BQ);have AN:=hid (show wr.heap.size<Wb.heap.size by have:=AM.out;omega);clear C7 BQ Cv))
     have Bc:=hid ((AA.1.map BC.out BD.out).below T.out);have Cw:Wb.cell? ⟨wr.heap.size,0,none⟩=some (.int .u8 (x.1.toNat:Int)):=(k4 AB.out 0).trans rfl
     go_upto_region 11 with (first
       |(refine ZW rfl _ _ 317 rfl 320 qI underlying317 (Jc zT) (qJ _) rfl Bc.out x.1 trivial rfl ?_;rw[B9.out])
       |(with_reducible refine kA ?_
         refine ks yx 320 rfl (jN zT) (Uj _) ?_;intro Wc C8 C9 Ca;have Bd:=hid C8;have Be:=hid C9;have AO:=hid Ca
         clear C8 C9 Ca)
       |(with_reducible refine kw ?_
         refine ko yx 320 _ _ rfl Wb.heap.size 0 [] (jN zT) [] (jN p) 320 (Jc p) rfl rfl rfl rfl (by simpa using Be.out) rfl yy (by intro u hu;simp only[jN,List.mem_cons,List.not_mem_nil,or_false] at hu;rcases hu with rfl|rfl|rfl|rfl|rfl<;>rfl) ?_;intro Wd Cb Cc Cx;have K:=hid (Bd.trans (Cb.below (by have:=AO.out;omega) (fun k hk e=>by omega)));have l:Hid (Wd.heap[Wb.heap.size]?=some (.cells (jN p).toArray 320 (0,0))):=hid (by simpa using Cc);have o:=hid (show Wb.heap.size<Wd.heap.size by have:=AO.out;omega);clear Cb Cc Cx))
     clear Cw Bc B9;obtain⟨zx,Cd⟩:∃zx,wr.heap.size=zx:=⟨_,rfl⟩;obtain⟨zp,Ce⟩:∃zp,Wb.heap.size=zp:=⟨_,rfl⟩;rw[Cd] at AB AN ⊢;rw[Ce] at l o ⊢;have BR:=T.size;have BS:=K.size
     have Cm:=hid (T.trans (K.mono BR));have U:=hid (Ab.keep T.out);have Aq:=hid (U.keep K.out);have V:=hid ((AA.trans (WrGo.below Ab.lt T.out)).trans (WrGo.below U.lt K.out));have AP:=hid (Ab.newNot T.out (k:=zx) yz);have Ae:=hid (U.keepNot K.out AP.out);have Af:=hid (U.newNot K.out (k:=zp) yz);have S:=V.apart AJ.out Bq.out;have Bf:=hid (S.1.trans AI.out);have AQ:=hid S.2
     have Bg:=hid (qL AJ.out V.1.size);have y:=hid ((K.block zx AN.out).trans AB.out);have Ag:=hid (qL AN.out BS);have Bh:=hid (show Wd.drew.cell? ⟨zx,0,none⟩=some (.int .u8 (x.1.toNat:Int)) from (k4 y.out 0).trans rfl);clear BR BS Cd Ce T K U AP S AB Ba Bb AM Bd Be AO Ab;obtain⟨v0,AE,B1⟩:=id Aq.out;have A5:=hid AE;have A6:=hid B1
     have Bi:=hid (show Wd.drew.cell? ⟨g,0,none⟩=some v0 from k4 AE 0);have Ai:Below Wd.heap.size Wd (Wd.drew.alloc (.cells #[.int .u8 (x.1.toNat:Int)] 5)):=((qD _ _)).alloc (qR _) _;have A7:=hid Ai;have Q:=hid ((But.of_below (X:=NoB) Ai).own B1 fun _ _ q=>q);have A8:=hid (show ∀j u,(idV [x.1])[j]?=some u→(Wd.drew.alloc (.cells #[.int .u8 (x.1.toNat:Int)] 5)).cell? ((⟨Wd.heap.size,0,none⟩:Addr).add j)=some u from fun j u hj=>by
       have e1:(⟨Wd.heap.size,0,none⟩:Addr).add j=⟨Wd.heap.size,j,none⟩:=by unfold Addr.add;split<;>simp_all
       rw[e1];exact(k4 (cs:=[(.int .u8 (x.1.toNat:Int))]) (heap_alloc_new Wd.drew (.cells #[(.int .u8 (x.1.toNat:Int))] 5)) j).trans (by simpa [idV] using hj))
     have Aa:=hid (show g+1≤(Wd.drew.alloc (.cells #[.int .u8 (x.1.toNat:Int)] 5)).heap.size from qT Aq.lt Ai.size);have Bj:=hid (show (Wd.drew.alloc (.cells #[.int .u8 (x.1.toNat:Int)] 5)).cell? ⟨g,0,none⟩=some v0 from (Ai.cell (p:=⟨g,0,none⟩) Aq.lt).trans (k4 AE 0));clear AE B1 Ai;refine rN 9 (fun u=>u.cell? ⟨g,0,none⟩=some v0) (Bi.out) fun Cy=>?_
     refine tw 0 (.pointer (some ⟨g,0,none⟩)) ?_;go_frame;refine tw 1 (.pointer (some ⟨g,0,none⟩)) ?_;go_frame;refine tw 2 (.pointer (some ⟨g,0,none⟩)) ?_;go_frame;refine tw 3 (.pointer (some ⟨g,0,none⟩)) ?_;go_frame;refine tl 4 (v0) rfl Cy (fun w' Cz=>l1 underlying169 Cz) ?_;go_frame;refine tw 5 (.pointer (some ⟨zx,0,none⟩)) ?_;go_frame;refine ta 6 ?_;refine zB _ rfl yy (zQ 5 _ rfl (p:=⟨zx,0,none⟩) rfl underlying5 rfl (v:=(.int .u8 (x.1.toNat:Int))) (show Wd.drew.cell? ⟨zx,0,none⟩=some (.int .u8 (x.1.toNat:Int)) from Bh.out)) ?_;refine⟨fun _ h=>h,?_⟩;go_frame;refine ta 7 ?_;refine zB _ rfl yy (ex_build1c 169 _ rfl 5 underlying169 (.int .u8 0) 1 jg rfl (.int .u8 (x.1.toNat:Int)) rfl rfl) ?_;refine⟨fun _ _=>Bj.out,?_⟩;go_frame;refine ta 8 ?_;refine J8 _ rfl yy ?_;refine vv _ _ 169 rfl (g+1) 5 (.int .u8 0) 1 1 underlying169 jg rfl yv v0 ys.length (idV ys) rfl Q.out ⟨Wd.heap.size,0,none⟩ 1 1 (idV [x.1]) rfl rfl A8.out (kV _) yk yz Aa.out ?_;intro v9 w9 B2 Bk Bl;obtain⟨A9,c9,rfl⟩:=kO B2;obtain⟨cg,cf,A,B⟩:=WrAt.put (xs:=ys) (ys:=[x.1]) A5.out A6.out A7.out B2 Bk Bl;have A0:=hid A;have Ar:=hid B
     clear B2 Bk Bl A B;refine⟨fun _ _=>cg,?_⟩;go_frame;refine tw 9 (.pointer (some ⟨g,0,none⟩)) ?_;go_frame;refine tw 10 (.pointer (some ⟨g,0,none⟩)) ?_;go_frame;refine ta 11 ?_;refine Z8 _ rfl yy (Uf 169 _ _ rfl g 0 (.slice A9 (ys.length+1) c9) rfl rfl rfl rfl yy cg cf) ?_;refine⟨fun h=>absurd h yv,?_⟩;go_frame;refine ku yy ?_ _;obtain⟨Bw,BT⟩:∃u:World,w9.setCell ⟨g,0,none⟩ (.slice A9 (ys.length+1) c9)=u:=⟨_,rfl⟩;rw[BT] at A0 Ar ⊢;obtain⟨y0,AR⟩:∃y0:List UInt8,Hid (ys++[x.1]=y0):=⟨_,hid rfl⟩;have CC:y0.length≤ys.length+1:=by rw[←AR.out];simp
     rw[AR.out] at A0;have As:=A0;have F:=Ar
     clear BT cg cf A0 Ar Q A8 Aa Bj A5 A6 A7 Bi Bh;have cp:Bw.cell? ⟨zp,0,none⟩=some (.bool p.1):=(F.cell o.out Af.out).trans (k4 l.out 0)
     go_upto_if 58 with fail
     go_cut [58] from 59 to 64 (fun _ wx=>Hid (WrAt wx g (y0++ifE p.1 (jT Z x.2.1)))∧Hid (WrGo g Wd wx))
     case first=>
       cases hpb:p.1
       ·go_wp2_with fail
        go_meet
        case rel=>exact⟨hid (by unfold ifE;rw[if_neg (by rw[hpb];decide),List.append_nil];exact As.out),F⟩
       ·have B3:=BG.out hpb;obtain⟨a,AD⟩:∃a:Nat,x.2.1.2=(a:Int):=⟨x.2.1.2.toNat,by omega⟩;have B4:=(zJ M.1.1.2).2;have H:Hid (x.2.1=(x.2.1.1,(a:Int))):=hid (Prod.ext rfl AD);have Ah:Hid (za (x.2.1.1,(a:Int))):=hid (by rw[←H.out];exact M.1.1);have AS:=hid B3.1;have Bn:a<9223372036854775808:=by omega
        have Bx:Bw.cell? ⟨zc,1,none⟩=some (.slice Ad Z.length cd):=(F.cell Bg.out AQ.out).trans (k4 Bf.out 1);have AT:=hid (show Bw.rangeAt zx 1 (kn (x.2.1.1,(a:Int))) by rw[←H.out];exact fun j u hj=>(F.cell Ag.out Ae.out).trans ((k4 y.out (1+j)).trans (Ac.2.1 j u hj)));have AU:=hid ((Aj.keep (O.mono (Nat.le_of_lt N.lt))).keep ((J.trans (V.trans F.out)).belowG I.out));clear B3 AD B4
        go_wp2_with (first
          |(with_reducible refine k6 ?_
            refine k5 yx (kc 110 _ rfl (p:=⟨zx,1,none⟩) rfl (qV _ _ _ _ _ _ AT.out underlying110 rfl (by rw[kq Ah.out];exact zM))) ?_)
          |(go_at_call 196;refine(wref_any g Z x.2.1.1 a y0 Ad cd Bw As.out Au.out B6.out yz Ah.out AS.out Bn yz AU.out).mono ?_;rintro e w9 ⟨rfl,A,B⟩;have C:=hid A;have E:=hid B
            clear A B))
        go_meet
        case rel=>exact⟨hid (by unfold ifE;rw[if_pos hpb];rw[H.out];exact C.out),hid (F.trans E.out)⟩
     case rest=>
       obtain⟨A1,G⟩:=hcut;obtain⟨By,B5⟩:∃u:World,u=wc:=⟨_,rfl⟩;subst B5;obtain⟨y1,AV⟩:∃y1,Hid (y0++ifE p.1 (jT Z x.2.1)=y1):=⟨_,hid rfl⟩;have CD:y1.length≤y0.length+4200:=by
         rw[←AV.out,List.length_append];unfold ifE
         split
         ·have h1:=refE_len (deps:=Z) (r:=x.2.1) yz M.1.1
          skip
          omega
         ·simp
       rw[AV.out] at A1;clear As F cp;have cp:By.cell? ⟨zp,1,none⟩=some (.bool p.2.1):=(G.cell o.out Af.out).trans (k4 l.out 1)
       go_upto_if 66 with fail
       go_cut [66] from 67 to 72 (fun _ wx=>Hid (WrAt wx g (y1++ifE p.2.1 (jT Z x.2.2.1)))∧Hid (WrGo g Wd wx))
       case first=>
         cases hpb:p.2.1
         ·go_wp2_with fail
          go_meet
          case rel=>exact⟨hid (by unfold ifE;rw[if_neg (by rw[hpb];decide),List.append_nil];exact A1.out),G⟩
         ·have B3:=BH.out hpb;obtain⟨a,AD⟩:∃a:Nat,x.2.2.1.2=(a:Int):=⟨x.2.2.1.2.toNat,by omega⟩;have B4:=(zJ M.1.2.1.2).2;have H:Hid (x.2.2.1=(x.2.2.1.1,(a:Int))):=hid (Prod.ext rfl AD);have Ah:Hid (za (x.2.2.1.1,(a:Int))):=hid (by rw[←H.out];exact M.1.2.1);have AS:=hid B3.1;have Bn:a<9223372036854775808:=by omega
          have Bx:By.cell? ⟨zc,1,none⟩=some (.slice Ad Z.length cd):=(G.cell Bg.out AQ.out).trans (k4 Bf.out 1);have AT:=hid (show By.rangeAt zx 34 (kn (x.2.2.1.1,(a:Int))) by rw[←H.out];exact fun j u hj=>(G.cell Ag.out Ae.out).trans ((k4 y.out (34+j)).trans (Ac.2.2.1 j u hj)));have AU:=hid ((Aj.keep (O.mono (Nat.le_of_lt N.lt))).keep ((J.trans (V.trans G.out)).belowG I.out));clear B3 AD B4
          go_wp2_with (first
            |(with_reducible refine k6 ?_
              refine k5 yx (kc 110 _ rfl (p:=⟨zx,34,none⟩) rfl (qV _ _ _ _ _ _ AT.out underlying110 rfl (by rw[kq Ah.out];exact zM))) ?_)
            |(go_at_call 196;refine(wref_any g Z x.2.2.1.1 a y1 Ad cd By A1.out Au.out B6.out yz Ah.out AS.out Bn yz AU.out).mono ?_;rintro e w9 ⟨rfl,A,B⟩;have C:=hid A;have E:=hid B
              clear A B))
          go_meet
          case rel=>exact⟨hid (by unfold ifE;rw[if_pos hpb];rw[H.out];exact C.out),hid (G.trans E.out)⟩
       case rest=>
         obtain⟨A2,W⟩:=hcut;obtain⟨BU,B5⟩:∃u:World,u=wc:=⟨_,rfl⟩;subst B5;obtain⟨y2,AW⟩:∃y2,Hid (y1++ifE p.2.1 (jT Z x.2.2.1)=y2):=⟨_,hid rfl⟩;have CE:y2.length≤y1.length+4200:=by
           rw[←AW.out,List.length_append];unfold ifE
           split
           ·have h1:=refE_len (deps:=Z) (r:=x.2.2.1) yz M.1.2.1
            skip
            omega
           ·simp
         rw[AW.out] at A2;clear A1 G cp;have cp:BU.cell? ⟨zp,2,none⟩=some (.bool p.2.2.1):=(W.cell o.out Af.out).trans (k4 l.out 2)
         go_upto_if 74 with fail
         go_cut [74] from 75 to 78 (fun _ wx=>Hid (WrAt wx g (y2++ifE p.2.2.1 (jH (L x.2.2.2.1))))∧Hid (WrGo g Wd wx))
         case first=>
           cases hpb:p.2.2.1
           ·go_wp2_with fail
            go_meet
            case rel=>exact⟨hid (by unfold ifE;rw[if_neg (by rw[hpb];decide),List.append_nil];exact A2.out),W⟩
           ·have CA:x.2.2.2.1.size≤4096:=AK.out;have Bx:BU.cell? ⟨zx,67,none⟩=some (.string x.2.2.2.1):=(W.cell Ag.out Ae.out).trans ((k4 y.out 67).trans Ac.2.2.2.1)
            go_wp2_with (first
              |(go_at_call 194;refine(Qv g x.2.2.2.1 y2 BU A2.out yz yz).mono ?_;rintro e w9 ⟨rfl,A,B⟩;have C:=hid A;have E:=hid B
                clear A B))
            go_meet
            case rel=>exact⟨hid (by unfold ifE;rw[if_pos hpb];exact C.out),hid (W.trans E.out)⟩
         case rest=>
           obtain⟨A3,Y⟩:=hcut;obtain⟨BV,B5⟩:∃u:World,u=wc:=⟨_,rfl⟩;subst B5;obtain⟨y3,AX⟩:∃y3,Hid (y2++ifE p.2.2.1 (jH (L x.2.2.2.1))=y3):=⟨_,hid rfl⟩;have CF:y3.length≤y2.length+4200:=by
             rw[←AX.out,List.length_append];unfold ifE
             split
             ·have h1:=Qw (s:=x.2.2.2.1) (qT AK.out yv);have h2:=AK.out;omega
             ·simp
           rw[AX.out] at A3;clear A2 W cp;have cp:BV.cell? ⟨zp,3,none⟩=some (.bool p.2.2.2.1):=(Y.cell o.out Af.out).trans (k4 l.out 3)
           go_upto_if 80 with fail
           go_cut [80] from 81 to 84 (fun _ wx=>Hid (WrAt wx g (y3++ifE p.2.2.2.1 (UR x.2.2.2.2.1)))∧Hid (WrGo g Wd wx))
           case first=>
             cases hpb:p.2.2.2.1
             ·go_wp2_with fail
              go_meet
              case rel=>exact⟨hid (by unfold ifE;rw[if_neg (by rw[hpb];decide),List.append_nil];exact A3.out),Y⟩
             ·have B3:=BI.out hpb;obtain⟨a,AD⟩:∃a:Nat,x.2.2.2.2.1=(a:Int):=⟨x.2.2.2.2.1.toNat,by omega⟩;have B4:=(zJ M.1.2.2).2;have Bn:a<9223372036854775808:=by omega
              have H:=hid AD;have Bx:BV.cell? ⟨zx,68,none⟩=some (.int .i64 (a:Int)):=by rw[←AD];exact(Y.cell Ag.out Ae.out).trans ((k4 y.out 68).trans Ac.2.2.2.2.1)
              clear B3 AD B4
              go_wp2_with (first
                |(go_at_call 192;refine(Zx g a y3 BV A3.out Bn yz).mono ?_;rintro e w9 ⟨rfl,A,B⟩;have C:=hid A;have E:=hid B
                  clear A B))
              go_meet
              case rel=>exact⟨hid (by unfold ifE;rw[if_pos hpb];rw[H.out,zm];exact C.out),hid (Y.trans E.out)⟩
           case rest=>
             obtain⟨At,A4⟩:=hcut;obtain⟨Bz,B5⟩:∃u:World,u=wc:=⟨_,rfl⟩;subst B5;obtain⟨y4,AY⟩:∃y4,Hid (y3++ifE p.2.2.2.1 (UR x.2.2.2.2.1)=y4):=⟨_,hid rfl⟩;have CG:y4.length≤y3.length+4200:=by
               rw[←AY.out,List.length_append];unfold ifE
               split
               ·have h1:=qQ (zJ M.1.2.2).2
                skip
                omega
               ·simp
             rw[AY.out] at At;clear A3 Y cp;have cp:Bz.cell? ⟨zp,4,none⟩=some (.bool p.2.2.2.2):=(A4.cell o.out Af.out).trans (k4 l.out 4)
             go_upto_if 86 with fail
             obtain⟨y5,AC⟩:∃y5,Hid (y4++ifE p.2.2.2.2 (jH (L x.2.2.2.2.2))=y5):=⟨_,hid rfl⟩;have CH:y5.length≤y4.length+4200:=by
               rw[←AC.out,List.length_append];unfold ifE
               split
               ·have h1:=Qw (s:=x.2.2.2.2.2) (qT AL.out yv);have h2:=AL.out;omega
               ·simp
             cases hpb:p.2.2.2.2
             focus
               have AZ:Hid (WrAt Bz g y5):=hid (by rw[←AC.out];unfold ifE;rw[if_neg (by rw[hpb];decide),List.append_nil];exact At.out);have B0:=A4;go_wp2_with fail
             rotate_left
             focus
               have CA:x.2.2.2.2.2.size≤4096:=AL.out;have Bx:Bz.cell? ⟨zx,69,none⟩=some (.string x.2.2.2.2.2):=(A4.cell Ag.out Ae.out).trans ((k4 y.out 69).trans Ac.2.2.2.2.2)
               go_wp2_with (first
                 |(go_at_call 194;refine(Qv g x.2.2.2.2.2 y4 Bz At.out yz yz).mono ?_;rintro e w9 ⟨rfl,A,B⟩;have C:=hid A;have E:=hid B
                   clear A B))
               have AZ:Hid (WrAt w9 g y5):=hid (by rw[←AC.out];unfold ifE;rw[if_pos hpb];exact C.out);have B0:=hid (A4.trans E.out)
             all_goals
               have BK:Hid (y5=xh++Uy Z (os.take (i+1))):=hid (by
                 rw[BF.out,←List.append_assoc,←HY.out,←AC.out,←AY.out,←AX.out,←AW.out,←AV.out,←AR.out];unfold opE;rw[BJ.out];simp only[Option.getD_some,List.append_assoc,List.cons_append,List.nil_append])
               go_roundw
               case rel=>exact⟨i+1,y5,by omega,by go_num,BK,AZ,hid (V.trans B0.out),by omega⟩
               case measure=>(simp [intOf])<;>omega
    ·have i1:¬(i:Int)<(os.length:Int):=by omega
     have Cf:i=os.length:=by omega
     have HF:Hid (ys=J4 ((n:Int),Z,au,os)):=hid (by rw[HY.out,Cf,List.take_length,BE.out]);clear Cf;go_wp2_with fail
     go_end0
     exact⟨rfl,by rw[←HF.out];exact Ab.out,Bo.trans (J.trans AA.out)⟩
end
end Go.Proofs.YtdgbjhfkmembdaaGreatDoor