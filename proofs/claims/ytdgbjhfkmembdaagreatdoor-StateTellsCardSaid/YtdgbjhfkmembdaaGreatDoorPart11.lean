/-
  Facts and contracts that the walk needs. Conditions: as each says.
-/
import Derived.Test.YtdgbjhfkmembdaaGreatDoorPart10
import Derived.Test.YtdgbjhfkmembdaaGreatDoorPart8
import Derived.Test.YtdgbjhfkmembdaaGreatDoorPart7
import Derived.Test.YtdgbjhfkmembdaaGreatDoorPart9
import Derived.Deep.MidRow
set_option linter.unusedVariables false
set_option linter.unusedSimpArgs false
set_option maxHeartbeats 4000000
set_option maxRecDepth 100000
open Go.Proofs.Tryz
namespace Go.Proofs.YtdgbjhfkmembdaaGreatDoor
section
open Go.RowKit Go.Maps
open Lib (hid)
theorem over_bound{r:kQ}{k:kE}{n:Int}(h:jz r k n=true)(hn:1≤n):0≤uo r k n∧uo r k n≤n:=by
  obtain⟨_,A,B⟩:=ZR h;unfold uo;omega
theorem count_bound(d:List kQ)(k:kE)(n:Int)(hn:1≤n):0≤vd d k n∧vd d k n≤(d.length:Int)*2147483647:=by
  unfold vd
  induction d with
  |nil=>simp
  |cons r d ih=>
   rw[xX,List.sum_cons,Yx]
   split
   ·rename_i h;obtain⟨A,B⟩:=over_bound h.2.2 hn;have:=h.1;omega
   ·omega
theorem cut_more(d:List kQ)(i m:Nat):d.length≤(zg d i m).length:=by
  unfold zg
  split
  ·exact xY _
  ·split
   ·rename_i r A h;have B:=(yJ.1 A).1;simp only[yV,Yx,Yj,List.length_drop];omega
   ·exact xY _
theorem cut_less(d:List kQ)(i m:Nat):(zg d i m).length≤d.length+1:=by
  unfold zg
  split
  ·omega
  ·split
   ·rename_i r A h;have B:=(yJ.1 A).1;simp only[yV,Yx,Yj,List.length_drop];omega
   ·omega
theorem setBlkD{w:World}{b j:Nat}{cs:List Value}{t:TypeId}(h:w.heap[b]?=some (.cells cs.toArray t (0,0)))(v:Value):(w.setCell ⟨b,j,none⟩ v).heap[b]?=some (.cells (cs.set j v).toArray t (0,0)):=by
  rw[heap_setCell_same w b j _ t v h,List.setIfInBounds_toArray]
def deadM(r:zk):zk:=(r.1,r.2.1,r.2.2.1,true)
theorem dead_cells{rs:List zk}(ho:∀r∈rs,(kY r).length=36){j:Nat}(hj:j<rs.length)(tail:List Value)(hk:kJ rs[j].1):
    (kf kY rs++tail).set (j*36+35) (.bool true)=kf kY (rs.take j)++(kY (deadM rs[j])++(kf kY (rs.drop (j+1))++tail)):=by
  have A:=(rows_set ho hj (r:=rs[j])).1;have B:(kf kY (rs.take j)).length=j*36:=by rw[jb fun x C=>ho x (YQ C),Yj,Nat.min_eq_left yv]
  have D:=ke hk;rw[A,Yz,Yz,List.set_append_right _ _ yv,B,show j*36+35 - j*36=35 by omega]
  congr 1
  unfold kY deadM;dsimp only;rw[Yz,List.set_append_right _ _ yv,D];simp
theorem DocRows.live{w:World}{B p:Nat}{v:Value}{rs:List zk}(h:DocRows w B p v rs)(z:Int):DocRows (w.setCell ⟨p,2,none⟩ (.int .i64 z)) B p v rs:=by
  obtain⟨s,t,D⟩:=h.box;have C:But (fun k=>k=p) w (w.setCell ⟨p,2,none⟩ (.int .i64 z)):=(But.refl (fun k=>k=p) w).setCell (fun _=>rfl) _;have J:KeepR w (w.setCell ⟨p,2,none⟩ (.int .i64 z)):=KeepR.but C fun k K T U V F A=>by
    subst K;rw[D] at A;injection A with A;injection A with _ A;subst A;exact absurd F yj
  refine⟨⟨s,z,by simpa using setBlkD (j:=2) D (.int .i64 z)⟩,h.low,fun r L=>(h.ins r L).keep J,?_⟩;refine⟨h.own.1,?_⟩;rcases h.own.2 with M|⟨g,G,H,N,O,E,P,Q,R,S⟩
  ·exact .inl M
  ·have I:g≠p:=ji E D yj;exact .inr ⟨g,G,H,N,O,(C.block g (qX E) I).trans E,P,Q,R,S⟩
theorem DocRows.notAt{w:World}{B p b:Nat}{v:Value}{rs:List zk}{cur:Array Value}{t:TypeId}{fr:Nat×Nat}(h:DocRows w B p v rs)(hb:w.heap[b]?=some (.cells cur t fr))(h1:t≠192)(h2:t≠177):¬DocX p v b:=by
  rintro (e|e)
  ·obtain⟨s,u,A⟩:=h.box;exact ji hb A h1 e
  ·obtain⟨D,C⟩:=kH h.own e;exact ji hb C h2 rfl
theorem kill_len(d:List kQ)(k:kE)(n:Int):(d.flatMap fun r=>jP r k n).length≤3*d.length:=by
  induction d with
  |nil=>simp
  |cons r d ih=>
   rw[List.flatMap_cons,yV,Yx];have:(jP r k n).length≤3:=by
      unfold jP
      split
      ·dsimp only;rw[yV]
       split<;>split<;>simp
      ·simp
   omega
theorem kill_pos(r:kQ)(k:kE)(n:Int):1≤(jP r k n).length:=by
  unfold jP
  split
  ·dsimp only;rw[yV]
   split<;>split<;>simp
  ·simp
theorem kill_more(d:List kQ)(k:kE)(n:Int):d.length≤(d.flatMap fun r=>jP r k n).length:=by
  induction d with
  |nil=>simp
  |cons r d ih=>
   rw[List.flatMap_cons,yV,Yx];have:=kill_pos r k n;omega
theorem kill_split{D K:List kQ}{k:kE}{n:Int}{i:Nat}(hi:i≤D.length)(h:K=D.take i++(D.drop i).flatMap fun r=>jP r k n):D.length≤K.length:=by
  rw[h,yV,Yj];have:=kill_more (D.drop i) k n;rw[List.length_drop] at this;omega
theorem del_walk(rs:List zk)(k:kE)(n:Int)(B p:Nat)(v:Value)(w:World)(h:DocRows w B p v rs)(hk:kJ k)(hx:RunIx (rs.map kA))(hx2:Ix k.2.2)(hn:1≤n)(hn2:n≤1099511627776)(hl:rs.length≤268435456):
    Calls prog 102 #[.pointer (some ⟨p,0,none⟩),.agg (kc k).toArray,.int .i64 n] w fun e w'=>e=.returned (.int .i64 ((K7 (rs.map kA) k n).2:Int))∧DTurn w B p v (K7 (rs.map kA) k n).1 w':=by
  have Bz:Ix n:=by unfold Ix;omega
  have BA:∀r∈rs,0≤r.1.2.2∧r.1.2.2+(r.2.2.1.length:Int)≤2147483648:=fun r hr=>hx (kA r) (List.mem_map_of_mem hr)
  obtain⟨A,c,rfl⟩:=kX h.own;have HD:=hid h;have f:=hid hk;have AR:=hid BA;have Ab:=hid hx2;have As:=hid Bz;have Bb:=hid hx
  have BR:=h.lt;have BS:=ke hk;clear h hk BA hx Bz;have dn:decide (n<1)=false:=dF yv;go_enter func102,ntmps102
  go_upto_region 1 with (first
    |(with_reducible refine kG ?_
      refine kz yk 89 _ rfl (kc k) _ rfl rfl (by rw[BS];kernel_rfl) ?_;intro W0 AF At AS))
  obtain⟨N,AZ⟩:=Xy w.heap.size;have A0:=hid (show N<W0.heap.size by have:=AS.out;omega);have c0:W0.cell? ⟨p,0,none⟩=some (.slice A rs.length c):=by
    obtain⟨s,t,hb⟩:=HD.box;exact(AF.cell (p:=⟨p,0,none⟩) BR).trans (k6 hb 0)
  have AT:=hid (show W0.rangeAt N 0 (kc k) from fun j u hj=>by rw[qZ,←AZ];exact(k6 At.out j).trans hj);have Ac:=hid (show W0.cell? ⟨N,33,none⟩=some (.int .i64 k.2.2) by rw[←AZ];exact(k6 At.out 33).trans (Jd f.out).2.1);have Bc:Hid (W0.heap[N]?=some (.cells (kc k).toArray 89 (0,0))):=hid (by rw[←AZ];exact At.out);have Bd:Hid (Below w.heap.size w W0):=hid AF.out;rw[AZ];clear AF At AS AZ;have BT:=Ac.out
  go_upto_region 5 with fail
  go_loopw [7,24] (fun t7 t24 wr=>∃i:Nat,i≤rs.length∧t7=.int .i64 (vd ((rs.map kA).take i) k n)∧t24=.int .i64 (i:Int)∧Hid (Below w.heap.size w wr)∧Hid (Below W0.heap.size W0 wr)) (fun _ t24 _=>rs.length - (intOf t24).toNat)
  case atStart=>exact⟨0,YX _,rfl,rfl,Bd,hid (qB _ _)⟩
  case round=>
    obtain⟨i,hi,rfl,rfl,A1,P⟩:=hrel;by_cases hlt2:i<rs.length
    ·have Bn:(i:Int)<(rs.length:Int):=yv;have i0:(0:Int)≤(i:Int):=yv;obtain⟨g,c',B0,Aa,Bo,B8⟩:=HD.row hlt2;injection B0 with hA _ hc';subst hA hc';have l:=hid (HD.ins _ (yQ hlt2));have E:=hid (AR.out _ (yQ hlt2));have Ad:=hid (countR_next (d:=rs.map kA) (k:=k) (n:=n) (i:=i) (by simpa using hlt2));rw[List.getElem_map] at Ad;have S:=hid (show wr.rangeAt g (i*36) (kY rs[i]) from fun j u hj=>(A1.cell (p:=⟨g,i*36+j,none⟩) Bo).trans (Aa j u hj));clear Aa B8;generalize rs[i]=r at *;have Ae:Hid (r.2.2.1.length≤2305843009213693952):=hid (by have:=E.out;omega);have Af:Hid (Ix r.1.2.2):=hid (by have:=E.out;unfold Ix;omega);have H:=hid (jw l.out);have AG:=hid (KQ r l.2.1.one);have AU:=hid (l.keep (KeepR.below (A1.mono (xY _))));have ck:wr.cell? ⟨N,33,none⟩=some (.int .i64 k.2.2):=(P.cell (p:=⟨N,33,none⟩) A0.out).trans Ac.out
     go_upto_region 7 with (first
       |(with_reducible refine k8 ?_
         refine kZ rfl 177 _ rfl g _ rfl (kY r) _ S.out underlying177 rfl (by rw[H.out];exact jX) ?_)
       |(with_reducible refine kF ?_
         refine kv yk 177 rfl runZ (JL _) ?_;intro W6 Ag Ah Ai)
       |(with_reducible refine kD ?_
         refine kr yk 177 _ _ rfl wr.heap.size 0 [] runZ [] (kY r) 177 _ rfl rfl rfl rfl (by simpa using Ah.out) (by rw[H.out];rfl) (by rw[H.out];exact jX) AG.out ?_;intro b Aj Bp BU;have T:Hid (b.heap[wr.heap.size]?=some (.cells (kY r).toArray 177 (0,0))):=hid (by simpa using Bp.out)))
     have F:Hid (Below wr.heap.size wr b):=hid (Ag.trans (Aj.below (by have:=Ai.out;omega) (fun k hk e=>by omega)));obtain⟨bz,AC⟩:=Xy wr.heap.size;have o:Hid (b.rangeAt bz 0 (kY r)):=hid (fun j u hj=>by rw[qZ,←AC];exact(k6 T.out j).trans hj);have Ak:Hid (bz<b.heap.size):=hid (by rw[←AC];exact qX T.out);have U:=hid (show b.rangeAt N 0 (kc k) from fun j u hj=>(F.cell (p:=⟨N,0+j,none⟩) (qL A0.out P.size)).trans ((P.cell (p:=⟨N,0+j,none⟩) A0.out).trans (AT.out j u hj)));have V:=hid (AU.keep (KeepR.below F.out));have A7:Hid (Below w.heap.size w b):=hid (Xx A1.out F.out);have W:Hid (Below W0.heap.size W0 b):=hid (Xx P.out F.out);have Ca:b.cell? ⟨N,33,none⟩=some (.int .i64 k.2.2):=(W.cell (p:=⟨N,33,none⟩) A0.out).trans Ac.out;rw[AC];clear Ag Ah Ai Aj T S AU F AC ck;by_cases hn3:n≤2147483647
     rotate_left
     ·have d1:decide (n≤2147483647)=false:=dF hn3;have X:Hid ((if n≤2147483647∧0≤k.2.2∧jz (kA r) k n=true then uo (kA r) k n else 0)=0):=hid (if_neg fun h=>hn3 h.1);have AD:=qB b.heap.size b;clear hn3;go_wp2_with fail
      go_roundw
      case rel=>exact⟨i+1,by omega,by rw[Ad.out,X.out,Int.add_zero],by go_num,hid (Xx A7.out AD),hid (Xx W.out AD)⟩
      case measure=>exact Xz
     have d1:decide (n≤2147483647)=true:=dT hn3;by_cases hk0:0≤k.2.2
     rotate_left
     ·have d2:decide ((0:Int)≤k.2.2)=false:=dF hk0;have X:Hid ((if n≤2147483647∧0≤k.2.2∧jz (kA r) k n=true then uo (kA r) k n else 0)=0):=hid (if_neg fun h=>hk0 h.2.1);have AD:=qB b.heap.size b;clear hk0;go_wp2_with fail
      go_roundw
      case rel=>exact⟨i+1,by omega,by rw[Ad.out,X.out,Int.add_zero],by go_num,hid (Xx A7.out AD),hid (Xx W.out AD)⟩
      case measure=>exact Xz
     have d2:decide ((0:Int)≤k.2.2)=true:=dT hk0;cases hh:jz (kA r) k n
     ·have Q:=hid hh;have X:Hid ((if n≤2147483647∧0≤k.2.2∧jz (kA r) k n=true then uo (kA r) k n else 0)=0):=hid (if_neg fun h=>by rw[hh] at h;exact absurd h.2.2 yj);clear hh
      go_wp2_with (first
        |(refine k7 yk (ldU H.out o.out) ?_)
        |(refine k7 yk (ldK f.out U.out) ?_)
        |(go_at_call 160;refine(uA r k n b V.out f.out Af.out Ab.out As.out Ae.out).mono ?_;rintro e w8 ⟨Am,rfl⟩;rw[Q.out];have D:=hid Am;clear Am))
      have AD:=D.out
      go_roundw
      case rel=>exact⟨i+1,by omega,by rw[Ad.out,X.out,Int.add_zero],by go_num,hid (Xx A7.out AD),hid (Xx W.out AD)⟩
      case measure=>exact Xz
     ·have Q:=hid hh;have X:Hid ((if n≤2147483647∧0≤k.2.2∧jz (kA r) k n=true then uo (kA r) k n else 0)=uo (kA r) k n):=hid (if_pos ⟨hn3,hk0,hh⟩);clear hh
      go_upto_region 8 with (first
        |(refine k7 yk (ldU H.out o.out) ?_)
        |(refine k7 yk (ldK f.out U.out) ?_)
        |(go_at_call 160;refine(uA r k n b V.out f.out Af.out Ab.out As.out Ae.out).mono ?_;rintro e w8 ⟨Am,rfl⟩;rw[Q.out];have D:=hid Am;clear Am))
      have L:=hid (Xx W.out D.out);have BB:w8.cell? ⟨N,33,none⟩=some (.int .i64 k.2.2):=(L.cell (p:=⟨N,33,none⟩) A0.out).trans Ac.out;obtain⟨q0,q1,q2,q3,_⟩:=KS l.1;have BC:w8.cell? ⟨bz,33,none⟩=some (.int .i64 r.1.2.2):=by
        refine(D.cell (p:=⟨bz,33,none⟩) Ak.out).trans ?_;have:=o.out 33 _ q1
        rwa [qZ] at this
      have BV:w8.cell? ⟨bz,34,none⟩=some r.2.1:=by
        refine(D.cell (p:=⟨bz,34,none⟩) Ak.out).trans ?_;have:=o.out 34 _ q3
        rwa [qZ] at this
      obtain⟨g2,C6,C7,_,_,BD,_⟩:=l.2.1;rw[BD] at BV;obtain⟨m1,m2,m3⟩:=ZR Q.out;have Cb:r.1.2.2<k.2.2+n:=m2;have Cc:k.2.2<r.1.2.2+(r.2.2.1.length:Int):=m3;have r0:=E.1;have r1:=E.2;obtain⟨BW,BE⟩:=count_bound ((rs.map kA).take i) k n hn;rw[Yj,Yv,Nat.min_eq_left hi] at BE;obtain⟨BX,BY⟩:=over_bound Q.out hn;have AV:Hid (min (k.2.2+n) (r.1.2.2+(r.2.2.1.length:Int)) - max k.2.2 r.1.2.2=uo (kA r) k n):=hid rfl;have AH:Hid (vd ((rs.map kA).take (i+1)) k n=vd ((rs.map kA).take i) k n+uo (kA r) k n):=hid (by rw[Ad.out,X.out]);obtain⟨C,hC⟩:=Xy (vd ((rs.map kA).take i) k n);obtain⟨O,hO⟩:=Xy (uo (kA r) k n);rw[hC] at AH BW BE ⊢;rw[hO] at AH AV BX BY;clear m1 m2 m3 hC hO q0 q1 q2 q3 BD o U V;have w1:IntKind.i64.wrap (k.2.2+n)=k.2.2+n:=IntWalk.i64_in _ yv;have w2:IntKind.i64.wrap (r.1.2.2+(r.2.2.1.length:Int))=r.1.2.2+(r.2.2.1.length:Int):=IntWalk.i64_in _ yv;go_wp2_with fail;refine⟨⟨i+1,by omega,?_,by go_num,hid (Xx A7.out D.out),L⟩,?_⟩
      ·rw[AH.out,←AV.out]
      ·(simp [intOf])<;>omega
    ·have BZ:i=rs.length:=yv;have e1:(rs.map kA).take i=rs.map kA:=Yq (by rw[Yv];omega);have Bn:¬(i:Int)<(rs.length:Int):=yv;have d3:decide ((i:Int)<(rs.length:Int))=false:=dF Bn;have Cd:decide (i<rs.length)=false:=dF hlt2;obtain⟨C,hC⟩:=Xy (vd (rs.map kA) k n);rw[e1,hC];have AW:=hid hC;clear BZ e1 hC;by_cases hcn:C=n
     rotate_left
     ·have d4:(C == n)=false:=beq_eq_false_iff_ne.2 hcn;have HE:Hid (K7 (rs.map kA) k n=(rs.map kA,12)):=hid (by
        unfold K7;rw[if_neg yv,if_pos (by rw[AW.out];exact hcn)])
      clear hcn;go_wp2_with fail;go_ret;rw[HE.out];exact⟨rfl,DTurn.same HD.at A1.out⟩
     have HE:Hid (K7 (rs.map kA) k n=((rs.map kA).flatMap fun r=>jP r k n,0)):=hid (by
       unfold K7;rw[if_neg yv,if_neg (by rw[AW.out];exact fun h=>h hcn)])
     have d4:(C == n)=true:=by rw[hcn];exact beq_self_eq_true n
     clear hcn;obtain⟨wo,C0⟩:=Xv wr;subst C0;obtain⟨K,hK⟩:∃z,((rs.map kA).flatMap fun r=>jP r k n)=z:=⟨_,rfl⟩;rw[hK] at HE;have Be:Hid (K.length≤805306368):=hid (by
       have:=kill_len (rs.map kA) k n;rw[hK,Yv] at this;omega)
     have Bf:Hid (K=(rs.map kA).take 0++((rs.map kA).drop 0).flatMap fun r=>jP r k n):=hid (by rw[List.take_zero,List.drop_zero,YZ];exact hK.symm);have Bg:=hid (HD.keep A1.out);have Bh:Hid (But (DocX p (.slice A rs.length c)) w wo):=hid (But.of_below A1.out);have Bi:Hid (wo.heap[N]?=some (.cells (kc k).toArray 89 (0,0))):=hid ((P.block N A0.out).trans Bc.out);clear hK c0 BT Ac AT P AR
     go_upto_region 13 with fail
     go_loopw [10] (fun t10 wr=>∃(j:Nat) (q:List zk) (v2:Value),j≤q.length∧t10=.int .i64 (j:Int)∧Hid (DocRows wr B p v2 q)∧Hid (But (DocX p (.slice A rs.length c)) w wr)∧Hid (Newer w (.slice A rs.length c) v2)∧Hid (K=(q.map kA).take j++((q.map kA).drop j).flatMap fun r=>jP r k n)∧Hid (RunIx (q.map kA))∧Hid (wr.heap[N]?=some (.cells (kc k).toArray 89 (0,0)))) (fun t10 _=>K.length - (intOf t10).toNat)
     case atStart=>exact⟨0,rs,_,YX _,rfl,Bg,Bh,hid (Newer.refl _ _),Bf,Bb,Bi⟩
     case round=>
       obtain⟨j,q,v2,hj,rfl,Y,AI,A3,Al,A4,Ao⟩:=hrel;have A5:=hid (kill_split (by rw[Yv];exact hj) Al.out);rw[Yv] at A5;obtain⟨A2,c2,rfl⟩:=kX Y.own;have cp:wr.cell? ⟨p,0,none⟩=some (.slice A2 q.length c2):=by
         obtain⟨s,t,hb⟩:=Y.box;exact k6 hb 0
       by_cases hlt2:j<q.length
       ·have Bn:(j:Int)<(q.length:Int):=yv;have i0:(0:Int)≤(j:Int):=yv;have Ce:q.length≤805306368:=by have:=A5.out;have:=Be.out;omega
        obtain⟨g,c',B0,Aa,Bo,B8⟩:=Y.row hlt2;injection B0 with hA _ hc';subst hA hc';have l:=hid (Y.ins _ (yQ hlt2));have E:=hid (A4.out (kA q[j]) (List.mem_map_of_mem (yQ hlt2)));have AX:Hid ((q.map kA)[j]?=some (kA q[j])):=hid (by rw[List.getElem?_map,yK hlt2];rfl);have S:=hid (show wr.rangeAt g (j*36) (kY q[j]) from Aa);clear Aa B8;generalize q[j]=r at *;have Ae:Hid (r.2.2.1.length≤2305843009213693952):=hid (by have:r.1.2.2+(r.2.2.1.length:Int)≤2147483648:=E.2;have:0≤r.1.2.2:=E.1;omega);have Af:Hid (Ix r.1.2.2):=hid (by have:r.1.2.2+(r.2.2.1.length:Int)≤2147483648:=E.2;have:0≤r.1.2.2:=E.1;unfold Ix;omega);have H:=hid (jw l.out);have AG:=hid (KQ r l.2.1.one)
        go_upto_region 16 with (first
          |(with_reducible refine k8 ?_
            refine kZ rfl 177 _ rfl g _ rfl (kY r) _ S.out underlying177 rfl (by rw[H.out];exact jX) ?_)
          |(with_reducible refine kF ?_
            refine kv yk 177 rfl runZ (JL _) ?_;intro W6 Ag Ah Ai)
          |(with_reducible refine kD ?_
            refine kr yk 177 _ _ rfl wr.heap.size 0 [] runZ [] (kY r) 177 _ rfl rfl rfl rfl (by simpa using Ah.out) (by rw[H.out];rfl) (by rw[H.out];exact jX) AG.out ?_;intro b Aj Bp BU;have T:Hid (b.heap[wr.heap.size]?=some (.cells (kY r).toArray 177 (0,0))):=hid (by simpa using Bp.out)))
        have F:Hid (Below wr.heap.size wr b):=hid (Ag.trans (Aj.below (by have:=Ai.out;omega) (fun k hk e=>by omega)));obtain⟨bz,AC⟩:=Xy wr.heap.size;have o:Hid (b.rangeAt bz 0 (kY r)):=hid (fun j u hj=>by rw[qZ,←AC];exact(k6 T.out j).trans hj);have Ak:Hid (bz<b.heap.size):=hid (by rw[←AC];exact qX T.out);have R:=hid ((F.block N (qX Ao.out)).trans Ao.out);have U:=hid (show b.rangeAt N 0 (kc k) from fun j u hj=>by rw[qZ];exact(k6 R.out j).trans hj);have V:=hid (l.keep (KeepR.below F.out));have Ap:=hid (Y.keep F.out);have Aq:=hid (AI.trans (But.of_below F.out) fun _ _ h=>h);rw[AC];clear Ag Ah Ai Aj T S F AC Ao Y AI cp;cases hh:jz (kA r) k n
        ·have Q:=hid hh;clear hh
         go_wp2_with (first
           |(refine k7 yk (ldU H.out o.out) ?_)
           |(refine k7 yk (ldK f.out U.out) ?_)
           |(go_at_call 160;refine(uA r k n b V.out f.out Af.out Ab.out As.out Ae.out).mono ?_;rintro e w8 ⟨Am,rfl⟩;rw[Q.out];have D:=hid Am;clear Am))
         go_roundw
         case rel=>exact⟨j+1,q,_,by omega,by go_num,hid (Ap.keep D.out),hid (Aq.trans (But.of_below D.out) fun _ _ h=>h),A3,hid (by
           obtain⟨h3,e3⟩:=yJ.1 AX.out;exact kill_keepL h3 (by rw[e3];exact Q.out) Al.out),A4,hid ((D.block N (qX R.out)).trans R.out)⟩
         case measure=>
           have Bq:=A5.out
           (simp [intOf])<;>omega
        have Q:=hid hh;clear hh
        go_upto_region 17 with (first
            |(refine k7 yk (ldU H.out o.out) ?_)
            |(refine k7 yk (ldK f.out U.out) ?_)
            |(go_at_call 160;refine(uA r k n b V.out f.out Af.out Ab.out As.out Ae.out).mono ?_;rintro e w8 ⟨Am,rfl⟩;rw[Q.out];have D:=hid Am;clear Am))
        have I:=hid ((D.block N (qX R.out)).trans R.out);have BB:w8.cell? ⟨N,33,none⟩=some (.int .i64 k.2.2):=(k6 I.out 33).trans (Jd f.out).2.1;obtain⟨_,q1,_⟩:=KS l.1;have BC:w8.cell? ⟨bz,33,none⟩=some (.int .i64 r.1.2.2):=by
          refine(D.cell (p:=⟨bz,33,none⟩) Ak.out).trans ?_;have:=o.out 33 _ q1
          rwa [qZ] at this
        have Z:=hid (Ap.keep D.out);have a:=hid (Aq.trans (But.of_below D.out) fun _ _ h=>h);have r0:0≤r.1.2.2:=E.1;have r1:r.1.2.2+(r.2.2.1.length:Int)≤2147483648:=E.2;obtain⟨_,BF,BG⟩:=ZR Q.out;have m2:r.1.2.2<k.2.2+n:=BF;have m3:k.2.2<r.1.2.2+(r.2.2.1.length:Int):=BG;have Ar:=Ab.out;unfold Ix at Ar;have AJ:=hid (show ∃h3:j<(q.map kA).length,(q.map kA)[j]=kA r from yJ.1 AX.out);clear q1 BF BG Ap Aq R o U V D Ak;by_cases hgt:r.1.2.2<k.2.2
        ·have d6:decide (r.1.2.2<k.2.2)=true:=dT hgt;obtain⟨m,hm⟩:∃m:Nat,k.2.2 - r.1.2.2=(m:Int):=⟨(k.2.2 - r.1.2.2).toNat,by omega⟩;have w1:IntKind.i64.wrap (k.2.2 - r.1.2.2)=(m:Int):=by rw[hm];exact IntWalk.i64_in _ yv
         have A8:=hid (cut_any (q.map kA) j m B p _ w8 Z.at (by rw[Yv];exact hlt2) A4.out (by rw[Yv];omega));have Au:Hid (K=(zg (q.map kA) j m).take (j+1)++((zg (q.map kA) j m).drop (j+1)).flatMap fun r=>jP r k n):=hid (by
           obtain⟨h3,e3⟩:=AJ.out;have:=kill_cutL h3 (by rw[e3];exact Q.out) hn (by rw[e3];exact hgt) Al.out;rw[e3] at this;rw[show (k.2.2 - (kA r).1.2.2).toNat=m from by have:k.2.2 - (kA r).1.2.2=(m:Int):=hm;omega] at this;exact this)
         have Av:=hid (A4.cut j m);clear hm hgt m2 m3 r0 r1 Ar
         go_wp2_with (first
           |(go_at_call 158;refine A8.mono ?_;rintro e w9 ⟨rfl,v9,B1,B2,B3⟩;obtain⟨J,B4,AO⟩:=B1.runs;have G:=hid B4;have M:=hid AO;have L:=hid B2;have Aw:=hid B3
             clear B1 B2 B3 B4 AO))
         have Ax:=hid (Z.notAt I.out yj yj);have Ay:=hid (a.trans L.out fun j hj hx=>DocX.of A3.out hj hx);have Br:j+1≤J.length:=by
           have h1:=congrArg List.length G.out;rw[Yv] at h1;have h2:=cut_more (q.map kA) j m;rw[Yv] at h2;omega
         refine⟨⟨j+1,J,v9,Br,by go_num,M,Ay,hid (A3.trans Aw.out a.size),by rw[G.out];exact Au,by rw[G.out];exact Av,hid ((L.block N (qX I.out) Ax.out).trans I.out)⟩,?_⟩;have Bq:=A5.out
         (simp [intOf])<;>omega
        have d6:decide (r.1.2.2<k.2.2)=false:=dF hgt;obtain⟨m,hm⟩:∃m:Nat,k.2.2+n - r.1.2.2=(m:Int):=⟨(k.2.2+n - r.1.2.2).toNat,by omega⟩;have w0:IntKind.i64.wrap (k.2.2+n)=k.2.2+n:=IntWalk.i64_in _ yv;have w1:IntKind.i64.wrap (k.2.2+n - r.1.2.2)=(m:Int):=by rw[hm];exact IntWalk.i64_in _ yv
        have A8:=hid (cut_any (q.map kA) j m B p _ w8 Z.at (by rw[Yv];exact hlt2) A4.out (by rw[Yv];omega));have Au:=hid (show ∀h4:j<(zg (q.map kA) j m).length,K=((zg (q.map kA) j m).take j++killD (zg (q.map kA) j m)[j]::(zg (q.map kA) j m).drop (j+1)).take (j+1)++(((zg (q.map kA) j m).take j++killD (zg (q.map kA) j m)[j]::(zg (q.map kA) j m).drop (j+1)).drop (j+1)).flatMap fun r=>jP r k n from fun h4=>by
          obtain⟨h3,e3⟩:=AJ.out;exact kill_deadL h3 (by rw[e3];exact Q.out) (by rw[e3];exact hgt) (by rw[e3];have:k.2.2+n - (kA r).1.2.2=(m:Int):=hm;omega) Al.out h4)
        have Av:=hid (A4.cut j m);clear hm hgt m2 m3 r0 r1 Ar
        go_upto_region 20 with (first
          |(go_at_call 158;refine A8.mono ?_;rintro e w9 ⟨rfl,v9,B1,B2,B3⟩;obtain⟨J,B4,AO⟩:=B1.runs;have G:=hid B4;have M:=hid AO;have L:=hid B2;have Aw:=hid B3
            clear B1 B2 B3 B4 AO))
        have Ax:=hid (Z.notAt I.out yj yj);have Ay:=hid (a.trans L.out fun j hj hx=>DocX.of A3.out hj hx);have AK:=hid (A3.trans Aw.out a.size);have A9:=hid ((L.block N (qX I.out) Ax.out).trans I.out);have Br:j+1≤J.length:=by
          have h1:=congrArg List.length G.out;rw[Yv] at h1;have h2:=cut_more (q.map kA) j m;rw[Yv] at h2;omega
        obtain⟨g9,c9,B9,rfl,Bs,Bt,BH,BI,BJ⟩:=KP M.own (show 0<J.length by omega);have Az:=hid Bt;have AA:=hid (And.intro BH (And.intro BI (And.intro BJ Bs)))
        have f9:w9.frozen? ⟨g9,j*36+35,none⟩=false:=frozen_of_row _ _ _ _ _ Bt;obtain⟨g',c',B0,Aa,Bo,B8⟩:=M.row (show j<J.length by omega);injection B0 with hA _ hc';injection hA with hA;injection hA with hA _;subst hA hc';clear Bt BH BI BJ Bs;obtain⟨s9,t9,An⟩:=M.box;have C1:w9.cell? ⟨p,0,none⟩=some (.slice (some ⟨g9,0,none⟩) J.length c9):=k6 An 0;have C2:w9.cell? ⟨p,2,none⟩=some (.int .i64 t9):=k6 An 2;have A6:=hid (M.ins _ (yQ (show j<J.length by omega)));have AB:Hid (J[j]?=some J[j]):=hid (yK (show j<J.length by omega));generalize J[j]=x at *;obtain⟨_,_,_,BK,BL,_⟩:=KS A6.1;have Bu:w9.cell? ⟨g9,j*36+35,none⟩=some (.bool x.2.2.2):=Aa 35 _ BL;obtain⟨gx,ox,cx,_,_,C3,_⟩:=A6.2.1;have BM:w9.cell? ⟨g9,j*36+34,none⟩=some (.slice (some ⟨gx,ox,none⟩) x.2.2.1.length cx):=by
          have:=Aa 34 _ BK
          rwa [C3] at this
        have C8:J.length≤805306369:=by
          have h1:=congrArg List.length G.out;rw[Yv] at h1;have h2:(zg (q.map kA) j m).length≤q.length+1:=by
            have:=cut_less (q.map kA) j m
            rwa [Yv] at this
          omega
        have Cf:(j:Int)<(J.length:Int):=yv;clear BK BL Aa Z a A8 L Aw Ax I BB BC;cases hdd:x.2.2.2
        ·rw[hdd] at Bu
         go_upto_region 23 with fail
         obtain⟨wA,B5⟩:∃z,w9.setCell ⟨g9,j*36+35,none⟩ (.bool true)=z:=⟨_,rfl⟩;rw[B5];have AP:But (fun k=>k=g9) w9 wA:=by rw[←B5];exact(But.refl (fun k=>k=g9) w9).setCell (fun _=>rfl) _
         have Bv:p≠g9:=ji An Az.out yj;have Bw:wA.heap[g9]?=some (.cells (kf kY (J.take j)++(kY (deadM x)++(kf kY (J.drop (j+1))++B9))).toArray 177 (0,0)):=by
           rw[←B5];obtain⟨h3,e3⟩:=yJ.1 AB.out;have:=dead_cells (vH M.ins) h3 B9 (by rw[e3];exact A6.1);rw[e3] at this;rw[←this];exact setBlkD Az.out _
         have Bj:=hid (M.set (x:=deadM x) (show j<J.length by omega) ⟨A6.1,A6.2.1,A6.2.2⟩ AA.2.2.2 AA.1 AA.2.1 AA.2.2.1 Bw Az.out AP);have Bk:Hid (But (DocX p (.slice (some ⟨g9,0,none⟩) J.length c9)) w9 wA):=hid (AP.weak fun k _ e=>.inr (by rw[e];rfl));have BN:N≠g9:=ji A9.out Az.out yj;have AY:=hid ((AP.block N (qX A9.out) BN).trans A9.out);have C4:p<wA.heap.size:=qX ((AP.block p (qX An) Bv).trans An);have BQ:g9<wA.heap.size:=qX Bw;have BO:wA.cell? ⟨p,2,none⟩=some (.int .i64 t9):=k6 ((AP.block p (qX An) Bv).trans An) 2;have BP:wA.cell? ⟨g9,j*36+34,none⟩=some (.slice (some ⟨gx,ox,none⟩) x.2.2.1.length cx):=by
           rw[←B5];exact(World.cell?_setCell_other w9 _ _ _ yZ).trans BM
         have CL:=Wg.cell BO C4;have CS:=Wg.cell BP BQ;clear B5 AP Bw BN BO BP C2 BM Bu C1 f9 Bv An;have AL:=hid (show K=((J.take j++deadM x::J.drop (j+1)).map kA).take (j+1)++(((J.take j++deadM x::J.drop (j+1)).map kA).drop (j+1)).flatMap fun r=>jP r k n from by
           obtain⟨h3,e3⟩:=yJ.1 AB.out;have h4:j<(zg (q.map kA) j m).length:=by rw[←G.out,Yv];exact h3
           have:=Au.out h4;simp only[←G.out] at this;rw[List.map_append,xX,List.map_take,List.map_drop];rw[List.getElem_map,e3] at this;exact this)
         have Bl:=hid (show RunIx ((J.take j++deadM x::J.drop (j+1)).map kA) from fun r hr=>by
           have Ba:=Av.out;rw[←G.out] at Ba;rw[List.map_append,xX] at hr;rcases xJ.1 hr with hr|hr
           ·obtain⟨y,hy,rfl⟩:=List.mem_map.1 hr;exact Ba _ (List.mem_map_of_mem (YQ hy))
           ·rcases xK.1 hr with rfl|hr
            ·exact Ba (kA x) (List.mem_map_of_mem (List.mem_of_getElem? AB.out))
            ·obtain⟨y,hy,rfl⟩:=List.mem_map.1 hr;exact Ba _ (List.mem_map_of_mem (List.mem_of_mem_drop hy)))
         refine jp 12 yq yq yq yq yq ?_;simp only[List.take_succ_cons,List.take_zero,List.drop_succ_cons,List.drop_zero]
         repeat (first
           |go_big_quiet_skip
           |(go_big_quiet_want
             (go_big_quiet_op
              first
                 |go_big_quiet_on
                 |go_big_quiet_call (first|(fail)))))
         refine wpQuiet_nil ?_;rintro w' ⟨kk,rfl⟩;have Bx:=kk.2;generalize kk.val=w10 at *;clear kk CL CS;have AQ:=Bx.below;have AM:=hid (Bj.keep AQ);have B6:=hid ((Bk.trans (But.of_below AQ) fun _ _ h=>h));have AN:=hid ((AQ.block N (qX AY.out)).trans AY.out);obtain⟨Cg,t10,AE⟩:=AM.box;have C9:w10.cell? ⟨p,2,none⟩=some (.int .i64 t10):=k6 AE 2;have Ch:w10.frozen? ⟨p,2,none⟩=false:=frozen_of_row w10 p 2 _ _ AE;have By:N≠p:=ji AN.out AE yj;have B7:=hid By;clear Bx AQ AE By;go_wp2_with fail;have Bq:=A5.out;refine⟨⟨j+1,J.take j++deadM x::J.drop (j+1),_,by simp;omega,by go_num,hid (AM.live _),hid ((Ay.trans B6.out fun k hk hx=>DocX.of AK.out hk hx).setCell (fun _=>.inl rfl) _),hid (fun i hi=>AK.out i hi),AL,Bl,hid ((heap_setCell_other _ _ N _ B7.out).trans AN.out)⟩,?_⟩
         (simp [intOf])<;>omega
        ·have AL:=hid (show K=(J.map kA).take (j+1)++((J.map kA).drop (j+1)).flatMap fun r=>jP r k n from by
           obtain⟨h3,e3⟩:=yJ.1 AB.out;have h4:j<(zg (q.map kA) j m).length:=by rw[←G.out,Yv];exact h3
           have:=Au.out h4;simp only[←G.out] at this;have h5:j<(J.map kA).length:=by rw[Yv];exact h3
           have e5:killD (J.map kA)[j]=(J.map kA)[j]:=by
             rw[List.getElem_map,e3];unfold killD kA;rw[hdd]
           rw[e5,←List.drop_eq_getElem_cons,List.take_append_drop] at this;exact this)
         rw[hdd] at Bu;go_wp2_with fail;have Bq:=A5.out;refine⟨⟨j+1,J,_,Br,by go_num,M,Ay,AK,AL,by rw[G.out];exact Av,A9⟩,?_⟩
         (simp [intOf])<;>omega
       ·have C5:j=q.length:=yv;have e1:(q.map kA).take j=q.map kA:=Yq (by rw[Yv];omega);have e2:(q.map kA).drop j=[]:=List.drop_eq_nil_of_le (by rw[Yv];omega);have Bm:Hid (K=q.map kA):=hid (by have h:=Al.out;rw[e1,e2] at h;simpa using h);have d5:decide ((j:Int)<(q.length:Int))=false:=dF yv;have Ci:decide (j<q.length)=false:=dF hlt2;clear C5 e1 e2;go_wp2_with fail;go_ret;rw[HE.out];exact⟨rfl,_,by rw[Bm.out];exact Y.at,AI.out,A3.out⟩
theorem delete_any(d:List kQ)(k:kE)(n:Int)(B p:Nat)(v:Value)(w:World)(h:DocAt w B p v d)(hk:kJ k)(hx:RunIx d)(hx2:Ix k.2.2)(hn:1≤n)(hn2:n≤1099511627776)(hl:d.length≤268435456):
    Calls prog 102 #[.pointer (some ⟨p,0,none⟩),.agg (kc k).toArray,.int .i64 n] w fun e w'=>e=.returned (.int .i64 ((K7 d k n).2:Int))∧DTurn w B p v (K7 d k n).1 w':=by
  obtain⟨A,rfl,C⟩:=h.runs;exact del_walk A k n B p v w C hk hx hx2 hn hn2 (by rw[Yv] at hl;exact hl)
theorem delete_nil(k:kE)(n:Int)(w:World)(hk:kJ k):
    Calls prog 102 #[.pointer none,.agg (kc k).toArray,.int .i64 n] w fun e w'=>Below w.heap.size w w'∧∃m:Int,e=.returned (.int .i64 m):=by
  have B:=ke hk;clear hk;go_enter func102,ntmps102
  go_wp2_with (first
    |(with_reducible refine kG ?_
      refine kz yk 89 _ rfl (kc k) _ rfl rfl (by rw[B];kernel_rfl) ?_;intro E A C D))
  go_ret;exact⟨A,_,rfl⟩
theorem do_delete(B a s:Nat)(S:kj)(q:kV)(i:List UInt8)(c:ks)(dv ov vm:Value)(place next:Nat)(x:OpD)(w:World)(h:StateAt w B s S q)(hA:AdderAt w a s i c dv ov vm)(hx:KR x)(htm:(Lit.int .i64 c.1).wf=true)(hpl:place≤1073741824)(hnx:next≤1099511627776)(hk:x.1=2)(hn1:1≤x.2.2.2.2.1)(hn2:x.2.2.2.2.1≤1099511627776)(hax:Ix x.2.2.1.2)(hdd:∀d,jv S (jg S i c.1 x.2.1)=some d→RunIx d∧d.length≤268435456):
    Calls prog 53 #[.pointer (some ⟨a,0,none⟩),.int .i64 (place:Int),.int .i64 (next:Int),.agg (opV x).toArray] w (UZ w B s S (Jh S i c.1 place next x) q):=by
  have HS:=hid h;have F:=hid hx;have HA:=hid hA
  have AB:=kI hx;have M:Hid (jr i):=hid hA.id;clear h hx hA;have Ae:Hid (kJ (c.1,i,(place:Int))):=hid ⟨htm,M,by
    show (Lit.int .i64 (place:Int)).wf=true;simp only[Lit.wf,IntKind.min,IntKind.max,IntKind.signed,IntKind.bits,xy];simp;omega⟩
  have N:=hid (ZV (t:=c.1) (r:=x.2.1) HS M htm F.1.1);go_enter func53,ntmps53
  go_upto_region 1 with (first
    |(with_reducible refine kG ?_
      refine kz yk 112 _ rfl (opV x) _ rfl rfl (by rw[AB];kernel_rfl) ?_;intro U V W AJ))
  obtain⟨b,Al⟩:=Xy w.heap.size;rw[Al] at W ⊢;clear Al;have A4:=hid (HS.keep V);have X:=hid (HA.keep V);have f:=hid (show ∀u:World,Below U.heap.size U u→u.cell? ⟨a,33,none⟩=some (.int .i64 c.1)∧u.rangeAt a 1 (idV i) from fun u hu=>⟨(X.keep hu).rest 0,(X.keep hu).idAt⟩);refine rN 12 (fun u=>Below U.heap.size U u) (qD _ _) fun E=>?_
  refine tw 0 _ ?_;go_frame;refine tw 1 _ ?_;go_frame;refine tw 2 _ ?_;go_frame;refine tw 3 _ ?_;go_frame;refine tl 4 _ rfl E (fun w' A=>l1 underlying3 (f w' A).1) ?_;go_frame;refine tw 5 _ ?_;go_frame;refine tw 6 _ ?_;go_frame;refine tw 7 _ ?_;go_frame;refine tl 8 _ rfl E (fun w' A=>ldD M (f w' A).2) ?_;go_frame;refine tw 9 _ ?_;go_frame;refine tk 10 (.agg (kc (c.1,i,(place:Int))).toArray) rfl (fun w' A=>kp 89 _ rfl (by simp only[xV,xX,Yy];exact Z8 (t:=c.1) (x:=(place:Int)) M.out _)) ?_;go_frame;refine ta 11 ?_;refine zJ _ rfl yq 89 rfl (kc (0,k9,0)) (zG _) ?_;intro W2 Am An AC;have Y:=hid ((qD U.heap.size U).trans (Am.mono (qD U.heap.size U).size));have A5:=hid An
  clear Am An AC;refine⟨fun _ _=>Y,?_⟩;go_frame;refine ta 12 ?_;have Ao:=ke Ae.out;refine kR _ rfl yq 89 _ _ rfl U.drew.heap.size 0 [] (kc (0,k9,0)) [] (kc (c.1,i,(place:Int))) 89 (.agg (kc (c.1,i,(place:Int))).toArray) rfl rfl rfl rfl (by simpa using A5.out) (by rw[Ao];rfl) (by rw[Ao];kernel_rfl) (j8 _) ?_;intro W3 Ap Aq AD;have O:=hid (Y.trans (Ap.below (B:=U.heap.size) Y.size (fun k hk e=>by
    have e2:k=U.drew.heap.size:=e;have e3:U.drew.heap.size=U.heap.size:=rfl;omega)))
  have P:Hid (W3.heap[U.drew.heap.size]?=some (.cells (kc (c.1,i,(place:Int))).toArray 89 (0,0))):=hid (by simpa using Aq);clear Ap Aq AD;refine⟨fun h=>absurd h yj,?_⟩;go_frame;refine ku yq ?_ _;obtain⟨b8,Ar⟩:=Xy U.drew.heap.size;rw[Ar] at P ⊢;clear Ar Y A5 E f;have l:=hid (A4.keep O);have m:=hid (X.keep O);have R:Hid (Below w.heap.size w W3):=hid (Xx V.out O.out);have Z:=hid ((O.block b (qX W)).trans W);clear A4 X V O W;have A6:=hid (show W3.rangeAt b 1 (kw x.2.1) from fun j u L=>(k6 Z (1+j)).trans ((kB F).2.1 j u L));have As:=ke N.out
  go_upto_region 3 with (first
    |(with_reducible refine k8 ?_
      refine k7 yk (kg 110 _ rfl (p:=⟨b,1,none⟩) rfl (qV _ b 1 _ (kw x.2.1) _ A6 underlying110 rfl (by rw[kq F.1.1];kernel_rfl))) ?_)
    |(go_at_call 97;refine(Zl B a s S q i c dv ov vm x.2.1 W3 l m F.1.1).mono ?_;rintro e w4 ⟨At,rfl⟩;have Q:=hid At;clear At)
    |(with_reducible refine kF ?_
      refine kv yk 89 rfl (kc (0,k9,0)) (zG _) ?_;intro W5 n A7 AK)
    |(with_reducible refine kD ?_
      refine kr yk 89 _ _ rfl w4.heap.size 0 [] (kc (0,k9,0)) [] (kc (jg S i c.1 x.2.1)) 89 (.agg (kc (jg S i c.1 x.2.1)).toArray) rfl rfl rfl rfl (by simpa using A7.out) (by rw[As];rfl) (by rw[As];kernel_rfl) (j8 _) ?_;intro K AE AF AL;have I:=hid (Q.trans ((n.trans (AE.below (B:=w4.heap.size) n.size (fun k hk e=>by have e2:k=w4.heap.size:=e;omega))).mono Q.size));have o:Hid (K.heap[w4.heap.size]?=some (.cells (kc (jg S i c.1 x.2.1)).toArray 89 (0,0))):=hid (by simpa using AF.out)))
  obtain⟨b9,Au⟩:=Xy w4.heap.size;have AA:=hid (show w.heap.size≤b9 by have:=R.size;have:=Q.size;omega);have Az:=hid (show b8<b9 by have h1:=qX P.out;have:=Q.size;omega);rw[Au] at o ⊢;clear Q n A7 Au A6;have D:=hid (l.keep I);have A8:=hid (m.keep I);have T:Hid (Below w.heap.size w K):=hid (Xx R.out I.out);have y:=hid ((I.block b (qX Z)).trans Z);have Ak:=hid ((I.block b8 (qX P)).trans P);clear l m R I Z P;have k0:K.cell? ⟨b,0,none⟩=some (.int .u8 (x.1.toNat:Int)):=(k6 y 0).trans (kB F).1;have EK:Hid ((x.1.toNat:Int)=2):=hid (by rw[hk];rfl);have ek:=EK.out;rw[ek] at k0;have A9:=hid (ZV (t:=c.1) (r:=x.2.2.1) D M htm F.1.2.1);have Av:(jg S i c.1 x.2.2.1).2.2=x.2.2.1.2:=by unfold jg;split<;>rfl
  have z:=hid (fun (u:World) (hu:Below K.heap.size K u)=>Zl B a s S q i c dv ov vm x.2.2.1 u (D.keep hu) (A8.keep hu) F.1.2.1)
  have Aa:=hid (show Jh S i c.1 place next x=(match jv S (jg S i c.1 x.2.1) with
      |none=>S
      |some d=>(zQ S.1 (jg S i c.1 x.2.1) (K7 d (jg S i c.1 x.2.2.1) x.2.2.2.2.1).1,S.2)) from by
    unfold Jh;rw[if_neg (by rw[hk];decide),if_neg (by rw[hk];decide)]
    split
    ·rename_i e;rw[e]
    ·rename_i d e;rw[e];dsimp only;rw[if_neg (by rw[hk];decide),if_pos hk])
  have C:=hid (show ∀u:World,Below K.heap.size K u→u.cell? ⟨a,0,none⟩=some (.pointer (some ⟨s,0,none⟩))∧u.cell? ⟨s,0,none⟩=some (.map (some q.bd))∧u.rangeAt b9 0 (kc (jg S i c.1 x.2.1))∧u.rangeAt b 34 (kw x.2.2.1)∧u.cell? ⟨b,68,none⟩=some (.int .i64 x.2.2.2.2.1) from fun u hu=>by
    have hZ:=(hu.block b (qX y)).trans y.out;exact⟨(A8.keep hu).st,k6 (D.keep hu).box 0,fun j v L=>by rw[qZ];exact(k6 ((hu.block b9 (qX o)).trans o) j).trans L,fun j v L=>(k6 hZ (34+j)).trans ((kB F).2.2.1 j v L),(k6 hZ 68).trans (kB F).2.2.2.2.1⟩)
  have Aw:=enE func97 rfl;have Ax:=enE func102 rfl;have Af:=hid hdd;have Ag:=hid Av;generalize jg S i c.1 x.2.1=kd at *;generalize jg S i c.1 x.2.2.1=ka at *;clear ek hk hdd Av;cases hdoc:jv S kd with
  |none=>
   have J:=hid hdoc;have A0:Hid (Jh S i c.1 place next x=S):=hid (by rw[Aa.out,hdoc]);clear hdoc
   go_upto_region 14 with fail
   clear k0;refine rN 16 (fun u=>Below K.heap.size K u) (qD _ _) fun E=>?_
   refine tw 0 _ ?_;go_frame;refine tw 1 _ ?_;go_frame;refine tw 2 _ ?_;go_frame;refine tl 3 _ rfl E (fun w' A=>l1 underlying24 (C w' A).1) ?_;go_frame;refine tw 4 _ ?_;go_frame;refine tw 5 _ ?_;go_frame;refine tw 6 _ ?_;go_frame;refine tl 7 _ rfl E (fun w' A=>l1 underlying81 (C w' A).2.1) ?_;go_frame;refine tl 8 _ rfl E (fun w' A=>ldK N (C w' A).2.2.1) ?_;go_frame;refine tl 9 (.pointer none) rfl E (fun w' A=>Kd keyEnc underlying81 (docPtrZ _) (D.keep A).mapD N (by rw[J.out];rfl)) ?_;go_frame;refine tw 10 _ ?_;go_frame;refine tw 11 _ ?_;go_frame;refine tl 12 (.agg (kw x.2.2.1).toArray) rfl E (fun w' A=>kg 110 _ rfl (p:=⟨b,34,none⟩) rfl (qV w' b 34 _ (kw x.2.2.1) _ (C w' A).2.2.2.1 underlying110 rfl (by rw[kq F.1.2.1];kernel_rfl))) ?_;go_frame;refine tw 14 _ ?_;go_frame;refine tl 15 _ rfl E (fun w' A=>l1 underlying3 (C w' A).2.2.2.2) ?_;go_frame;refine ta 13 ?_;refine tc #[.pointer (some ⟨a,0,none⟩),.agg (kw x.2.2.1).toArray] Aw rfl ?_;refine(z _ (qD _ _)).mono ?_;rintro e u2 ⟨Ac,rfl⟩;have G:=hid ((qD K.heap.size K).trans (Ac.mono (qD K.heap.size K).size));clear Ac;refine⟨_,rfl,fun _ _=>G,?_⟩;go_frame;refine ta 16 ?_;refine tc #[.pointer none,.agg (kc ka).toArray,.int .i64 x.2.2.2.2.1] Ax rfl ?_;refine(delete_nil ka _ u2 A9).mono ?_;rintro e AG ⟨A2,AM,rfl⟩;have H:=hid (Xx G.out A2);clear A2;refine⟨_,rfl,fun h=>absurd h yj,?_⟩;go_frame;refine ku yq ?_ _;go_wp2_with fail
   go_end0
   rw[A0.out];exact⟨rfl,q,D.keep H,But.of_below (Xx T.out H.out),NewerX.refl _ _ _ _,Nat.le_succ _⟩
  |some d=>
   have J:=hid hdoc;have A0:Hid (Jh S i c.1 place next x=(zQ S.1 kd (K7 d ka x.2.2.2.2.1).1,S.2)):=hid (by rw[Aa.out,hdoc]);have Ab:=hid (Af d hdoc);clear hdoc
   go_upto_region 14 with fail
   clear k0;refine rN 16 (fun u=>Below K.heap.size K u) (qD _ _) fun E=>?_
   refine tw 0 _ ?_;go_frame;refine tw 1 _ ?_;go_frame;refine tw 2 _ ?_;go_frame;refine tl 3 _ rfl E (fun w' A=>l1 underlying24 (C w' A).1) ?_;go_frame;refine tw 4 _ ?_;go_frame;refine tw 5 _ ?_;go_frame;refine tw 6 _ ?_;go_frame;refine tl 7 _ rfl E (fun w' A=>l1 underlying81 (C w' A).2.1) ?_;go_frame;refine tl 8 _ rfl E (fun w' A=>ldK N (C w' A).2.2.1) ?_;go_frame;refine tl 9 (.pointer (some ⟨q.ptr kd,0,none⟩)) rfl E (fun w' A=>Kd keyEnc underlying81 (docPtrZ _) (D.keep A).mapD N (by rw[J.out];rfl)) ?_;go_frame;refine tw 10 _ ?_;go_frame;refine tw 11 _ ?_;go_frame;refine tl 12 (.agg (kw x.2.2.1).toArray) rfl E (fun w' A=>kg 110 _ rfl (p:=⟨b,34,none⟩) rfl (qV w' b 34 _ (kw x.2.2.1) _ (C w' A).2.2.2.1 underlying110 rfl (by rw[kq F.1.2.1];kernel_rfl))) ?_;go_frame;refine tw 14 _ ?_;go_frame;refine tl 15 _ rfl E (fun w' A=>l1 underlying3 (C w' A).2.2.2.2) ?_;go_frame;refine ta 13 ?_;refine tc #[.pointer (some ⟨a,0,none⟩),.agg (kw x.2.2.1).toArray] Aw rfl ?_;refine(z _ (qD _ _)).mono ?_;rintro e u2 ⟨Ac,rfl⟩;have G:=hid ((qD K.heap.size K).trans (Ac.mono (qD K.heap.size K).size));clear Ac;refine⟨_,rfl,fun _ _=>G,?_⟩;go_frame;refine ta 16 ?_;refine tc #[.pointer (some ⟨q.ptr kd,0,none⟩),.agg (kc ka).toArray,.int .i64 x.2.2.2.2.1] Ax rfl ?_;refine(delete_any d ka _ B (q.ptr kd) (q.row kd) u2 ((D.keep G).docs kd d J).2 A9 Ab.1 (by rw[Ag.out];exact hax) hn1 hn2 Ab.2).mono ?_;rintro e AG ⟨rfl,AH,Ah,A2,Ai⟩;have Ad:=hid Ah;have H:=hid A2;have A1:=hid Ai
   clear Ah A2 Ai;refine⟨_,rfl,fun h=>absurd h yj,?_⟩;go_frame;refine ku yq ?_ _;go_wp2_with fail
   go_end0
   rw[A0.out];have AI:=(D.keep G).turn J.out H.out Ad.out A1.out;have Ay:Below w.heap.size w u2:=T.trans (G.mono T.size);have Aj:(jv S kd).isSome=true:=by rw[J.out];rfl
   refine⟨rfl,_,AI,(But.of_below Ay).trans H fun k hk hx=>.inr (.inr (.inr (.inr ⟨kd,Aj,hx⟩))),fun j L=>?_,Nat.le_succ _⟩;rcases L with L|L|L|L|⟨k,hk,L⟩
   ·exact .inl (.inl L)
   ·exact .inl (.inr (.inl L))
   ·exact .inl (.inr (.inr (.inl L)))
   ·exact .inl (.inr (.inr (.inr (.inl L))))
   ·rw[uu] at hk;by_cases e:k=kd
    ·subst e;have A3:DocX (q.ptr k) AH j:=by simpa using L
     rcases A3 with A3|A3
     ·exact .inl (.inr (.inr (.inr (.inr ⟨k,Aj,.inl A3⟩))))
     ·rcases A1.out j A3 with g|g
      ·exact .inl (.inr (.inr (.inr (.inr ⟨k,Aj,.inr g⟩))))
      ·exact .inr (qT Ay.size g)
    ·rw[if_neg e] at hk;have A3:DocX (q.ptr k) (q.row k) j:=by simpa [e] using L
     exact .inl (.inr (.inr (.inr (.inr ⟨k,hk,A3⟩))))
end
structure StateLe (s:kj) (c t:Nat):Prop where
  claims:s.2.1.length≤c
  size:∀x∈s.1,Kq x.2≤t
def JX(l:List OpD):Nat:=(l.map fun x=>zK x.2.2.2.1).sum
theorem StateLe.mono{s:kj}{c t c' t':Nat}(h:StateLe s c t)(hc:c≤c')(ht:t≤t'):StateLe s c' t':=⟨Nat.le_trans h.claims hc,fun x A=>Nat.le_trans (h.size x A) ht⟩
theorem runesN_is(s:ByteArray):((jH s).getD []).length=zK s:=by
  unfold zK;cases jH s<;>rfl
theorem StateLe.do{s:kj}{c t:Nat}(h:StateLe s c t)(i:List UInt8)(tm:Int)(place next:Nat)(x:OpD):StateLe (Jh s i tm place next x) (c+1) (t+zK x.2.2.2.1):=by
  have B:=h.mono (Nat.le_succ c) (Nat.le_add_right t (zK x.2.2.2.1));unfold Jh
  split
  ·refine⟨by simpa using h.claims,fun y A=>?_⟩;rcases J1 A with A|rfl
   ·exact B.size y A
   ·exact YX _
  ·split
   ·exact⟨by simpa using h.claims,B.size⟩
   ·split
    ·exact B
    ·rename_i d D;have C:=Ku D
     split
     ·refine⟨B.claims,fun y A=>?_⟩;rcases J1 A with A|rfl
      ·exact B.size y A
      ·refine Nat.le_trans (sizeR_insert d _ _ _ _) ?_;rw[runesN_is];exact Nat.add_le_add_right (h.size _ C) _
     ·split
      ·refine⟨B.claims,fun y A=>?_⟩;rcases J1 A with A|rfl
       ·exact B.size y A
       ·show Kq (K7 d _ _).1≤_;rw[sizeR_delete];exact B.size _ C
      ·exact B
theorem StateLe.dos(i:List UInt8)(tm:Int):∀(l:List OpD) (ns:List Nat) (place:Nat) {s:kj} {c t:Nat},StateLe s c t→StateLe (J8 i tm place s l ns) (c+l.length) (t+JX l)
  | [],ns,place,s,c,t,h=>by cases ns<;>exact h.mono (Nat.le_add_right _ _) (Nat.le_add_right _ _)
  |x::l,[],place,s,c,t,h=>h.mono (Nat.le_add_right _ _) (Nat.le_add_right _ _)
  |x::l,n::ns,place,s,c,t,h=>by
   have:=StateLe.dos i tm l ns (place+1) (h.do i tm place n x);refine this.mono ?_ ?_
   ·simp only[Yx];omega
   ·simp only[JX,xX,List.sum_cons];omega
def opsOf(s:kj):Nat:=(s.2.2.map fun e=>e.2.1.2.2.2.length).sum
def uY(s:kj):Nat:=(s.2.2.map fun e=>JX e.2.1.2.2.2).sum
theorem StateLe.add{s:kj}(h:StateLe s (opsOf s) (uY s))(is i:List UInt8)(c:ks):StateLe (zX s is i c).2 (opsOf (zX s is i c).2) (uY (zX s is i c).2):=by
  unfold zX
  split
  ·exact h
  ·split
   ·exact h
   ·split
    ·exact h
    ·split
     ·exact h
     ·split
      ·exact h
      ·rename_i C B G;have E:StateLe (s.1,s.2.1,s.2.2++[(i,c,C)]) (opsOf s) (uY s):=⟨h.claims,h.size⟩;have F:=StateLe.dos i c.1 c.2.2.2 B 0 E;have e:(J8 i c.1 0 (s.1,s.2.1,s.2.2++[(i,c,C)]) c.2.2.2 B).2.2=s.2.2++[(i,c,C)]:=by
         have D:∀(l:List OpD) (B:List Nat) (A:Nat) (s:kj),(J8 i c.1 A s l B).2.2=s.2.2:=by
           intro l
           induction l with
           |nil=>intro B A s;cases B<;>rfl
           |cons x l ih=>
            intro B A s;cases B with
            |nil=>rfl
            |cons n B=>
             show (J8 i c.1 (A+1) (Jh s i c.1 A n x) l B).2.2=s.2.2;rw[ih,uP]
         exact D _ _ _ _
       refine F.mono ?_ ?_
       ·unfold opsOf;dsimp only;rw[e,List.map_append,List.sum_append];simp
       ·unfold uY;dsimp only;rw[e,List.map_append,List.sum_append];simp
section
variable (enc:ks→Int) (idf:ks→List UInt8)
def addF(s:kj)(i:List UInt8)(c:ks):Int×kj:=if enc c≠0 then (enc c,s) else zX s (idf c) i c
structure StateOf (l:List ks) (s:kj):Prop where
  ok:StateOk s
  le:StateLe s (opsOf s) (uY s)
  told:∀x∈s.2.2,x.2.1∈l∧enc x.2.1=0∧idf x.2.1=x.1
theorem StateOf.new(l:List ks):StateOf enc idf l KO:=⟨newState_ok,⟨xY _,fun x A=>by cases A⟩,fun x A=>by cases A⟩
variable {enc} {idf}
theorem StateOf.add{l:List ks}{s:kj}(h:StateOf enc idf l s){c:ks}(hc:c∈l)(i:List UInt8):StateOf enc idf l (addF enc idf s i c).2:=by
  unfold addF
  split
  ·exact h
  ·rename_i C;have B:enc c=0:=by simpa using C
   obtain⟨D,E,F⟩:=h.ok.add (idf c) i c;refine⟨D,h.le.add _ _ _,fun x A=>?_⟩;by_cases he:(zX s (idf c) i c).1=0
   ·obtain⟨G,_,I,H⟩:=F he;rw[H] at A;rcases xJ.1 A with A|A
    ·exact h.told x A
    ·rw[xZ] at A;subst A;exact⟨hc,B,G⟩
   ·rw[E he] at A;exact h.told x A
theorem StateOf.bound{l:List ks}{s:kj}(h:StateOf enc idf l s)(f:ks→Nat):(s.2.2.map fun e=>f e.2.1).sum≤(l.map f).sum:=by
  have e:(s.2.2.map fun e=>f e.2.1)=(s.2.2.map fun e=>e.2.1).map f:=by rw[List.map_map];rfl
  rw[e]
  haveI:DecidableEq ks:=Classical.typeDecidableEq _
  refine sum_sub f _ _ ?_ fun x A=>?_
  ·have C:(s.2.2.map fun e=>e.2.1).map idf=s.2.2.map (·.1):=by
     rw[List.map_map];exact List.map_congr_left fun x A=>(h.told x A).2.2
   have B:=h.ok.ids;rw[←C] at B;exact List.Pairwise.of_map idf (fun a b h e=>h (by rw[e])) B
  ·obtain⟨y,D,rfl⟩:=List.mem_map.1 A;exact(h.told y D).1
end
def KV(l:List OpD):List jL:=l.flatMap zT
theorem opsB_snoc(deps:List (List UInt8))(x:OpD):∀(l:List OpD) (mk:List jL),Zh deps mk (l++[x])=(Zh deps mk l && opB deps (mk++KV l) x)
  | [],mk=>by simp [Zh,KV]
  |y::l,mk=>by
   rw[YK,Zh,Zh,opsB_snoc deps x l,Bool.and_assoc];simp [KV]
theorem opsB_take{deps:List (List UInt8)}{mk:List jL}{l:List OpD}(h:Zh deps mk l=true):∀i,Zh deps mk (l.take i)=true:=by
  intro i
  induction l generalizing mk i with
  |nil=>simpa using h
  |cons x l ih=>
   cases i with
   |zero=>rfl
   |succ i=>
    rw[Zh,xy] at h;rw[List.take_succ_cons,Zh,h.1,ih h.2 i];rfl
theorem opsB_next{deps:List (List UInt8)}{l:List OpD}{i:Nat}(hi:i<l.length):Zh deps [] (l.take (i+1))=(Zh deps [] (l.take i) && opB deps (KV (l.take i)) l[i]):=by
  rw[xj hi,opsB_snoc,YZ]
theorem opsB_stop{deps:List (List UInt8)}{l:List OpD}{i:Nat}(hi:i<l.length)(h:opB deps (KV (l.take i)) l[i]=false):Zh deps [] l=false:=by
  rw[Bool.eq_false_iff];intro q;have:=opsB_take q (i+1);rw[opsB_next hi,h,Bool.and_false] at this;cases this
theorem madeL_next{l:List OpD}{i:Nat}(hi:i<l.length):KV (l.take (i+1))=KV (l.take i)++zT l[i]:=by
  rw[xj hi];unfold KV;rw[List.flatMap_append,List.flatMap_singleton]
theorem runesAt_len(s:ByteArray):∀(n pos:Nat) (l:List Nat),s.size - pos≤n→jM s pos=some l→l.length≤s.size - pos
  |n,pos,l,h,e=>by
   by_cases hp:pos<s.size
   ·cases n with
    |zero=>omega
    |succ n=>
     cases ho:J6 s pos with
     |false=>rw[vU hp ho] at e;cases e
     |true=>
      rw[Jo hp ho] at e;obtain⟨t,ht,rfl⟩:=Option.map_eq_some_iff.1 e;have A:=vz hp;have:=runesAt_len s n _ t yv ht;simp;omega
   ·rw[Jn yv] at e;cases e
    simp
theorem uD(s:ByteArray):zK s≤s.size:=by
  unfold zK;rcases h:jH s with _ |l
  ·exact YX _
  ·exact runesAt_len s _ 0 l (xY _) h
def ZE(s:ByteArray)(k:Nat):Nat:=match jM s k with
  |some l=>l.length
  |none=>0
theorem runesFrom_zero(s:ByteArray):ZE s 0=zK s:=rfl
theorem runesFrom_end{s:ByteArray}{k:Nat}(h:s.size≤k):ZE s k=0:=by
  unfold ZE;rw[Jn h];rfl
theorem runesFrom_next{s:ByteArray}{k:Nat}(hk:k<s.size)(ho:J6 s k=true)(h:(jM s (k+(Utf8.decode s k).2)).isSome=true):ZE s k=ZE s (k+(Utf8.decode s k).2)+1:=by
  unfold ZE;rw[Jo hk ho];rcases hr:jM s (k+(Utf8.decode s k).2) with _ |l
  ·rw[hr] at h;cases h
  ·simp
theorem madeB_len{deps:List (List UInt8)}{mk:List jL}{x:OpD}(h:opB deps mk x=true):(zT x).length≤4096:=by
  unfold zT
  split
  ·simp
  ·split
   ·rename_i A;rw[List.length_replicate];have C:jO x.1=some (true,true,true,false,false):=by rw[A];rfl
    unfold opB at h;rw[C] at h;simp only[A,xy] at h;have B:=h.2;simp only[decide_true,Bool.not_true,Bool.false_or,xy] at B;have:=vJ B.2;have:=uD x.2.2.2.1;omega
   ·simp
theorem madeL_len{deps:List (List UInt8)}:∀{l:List OpD} {mk:List jL},Zh deps mk l=true→(KV l).length≤l.length*4096
  | [],_,_=>by simp [KV]
  |x::l,mk,h=>by
   rw[Zh,xy] at h;have h1:=madeB_len h.1;have A:=madeL_len h.2;simp only[KV,List.flatMap_cons,yV,Yx] at A ⊢;omega
section
open Go.RowKit Go.Maps
open Lib (hid)
theorem ZY(g n:Nat)(xs:List UInt8)(w:World)(hw:WrAt w g xs)(hn:n<9223372036854775808)(hx:xs.length≤1099511627776):
    Calls prog 192 #[.pointer (some ⟨g,0,none⟩),.int .i64 (n:Int)] w fun e w'=>e=.returned (.tuple #[])∧WrAt w' g (xs++jA n)∧WrGo g w w':=by
  have A:=hid hw.lt;obtain⟨v,M,P⟩:=hw;have F:=hid M;have B:=hid P
  have G:=hid (show w.cell? ⟨g,0,none⟩=some v from k6 M 0);clear M P;have W:=js (n:=n) yv;have V:=Ql n;have H:IntKind.u64.wrap (n:Int)=(n:Int):=IntWalk.u64_in _ ⟨by omega,by omega⟩;clear H;go_enter func192,ntmps192
  go_wp2_with (first
    |(go_at_call 229;refine(put_nil n hn w).mono ?_;rintro e Y ⟨c,rfl,Q,C⟩;obtain⟨Z,a,rfl,N⟩:=QH Q V;have I:=hid N;have J:=hid C;have b:Y.cell? ⟨g,0,none⟩=some v:=(C.cell (p:=⟨g,0,none⟩) A).trans G.out;have D:=hid ((But.of_below (X:=NoB) C).own B fun _ _ q=>q);have E:=hid C.size;clear N Q C)
    |(refine Jw yk _ _ 169 rfl (g+1) 5 (.int .u8 0) 1 1 underlying169 jm rfl yj v xs.length (idV xs) rfl D.out ⟨Z,0,none⟩ (jA n).length a (idV (jA n)) rfl (by rw[kn,Nat.mul_one]) I.out (kW _) yY yv (Nat.le_trans A E) ?_;intro d f O R S;obtain⟨h,i,rfl⟩:=kM O;obtain⟨j,k,T,U⟩:=WrAt.put F.out B.out J.out O R S;have K:=hid T;have L:=hid U
      clear O R S T U))
  go_end0
  exact⟨rfl,K,L⟩
theorem wtext_any(g:Nat)(s:ByteArray)(xs:List UInt8)(w:World)(hw:WrAt w g xs)(hs:s.size≤1099511627776)(hx:xs.length≤1099511627776):
    Calls prog 194 #[.pointer (some ⟨g,0,none⟩),.string s] w fun e w'=>e=.returned (.tuple #[])∧WrAt w' g (xs++jN (L s))∧WrGo g w w':=by
  have B:=hid hw.lt;obtain⟨v,M,P⟩:=hw;have G:=hid M;have C:=hid P
  have D:=hid (show w.cell? ⟨g,0,none⟩=some v from k6 M 0);clear M P;have d:(jN (L s)).length≤10+s.size:=by
    have:=js (n:=(L s).length) (by rw[jf];omega);unfold jN;rw[yV,jf];rw[jf] at this;omega
  have V:0<(jN (L s)).length:=by
    have:=Ql (L s).length;unfold jN;rw[yV];omega
  have W:=enE func230 rfl;go_enter func194,ntmps194
  go_upto_region 0 with fail
  refine rN 10 (fun u=>u.cell? ⟨g,0,none⟩=some v) (D) fun Y=>?_
  refine tw 0 _ ?_;go_frame;refine tw 1 _ ?_;go_frame;refine tw 2 _ ?_;go_frame;refine tw 3 _ ?_;go_frame;refine tl 4 _ rfl Y (fun w' Z=>l1 underlying169 Z) ?_;go_frame;refine tw 5 _ ?_;go_frame;refine ta 6 ?_;refine tc #[.slice none 0 0,.string s] W rfl ?_;refine(putText_nil s hs w.drew).mono ?_;rintro e a ⟨m,rfl,Q,A⟩
  replace A:Below w.heap.size w a:=((Below.refl _ _).drew).trans A
  obtain⟨f,i,rfl,N⟩:=QH Q V;have H:=hid N;have I:=hid A;have b:a.cell? ⟨g,0,none⟩=some v:=(A.cell (p:=⟨g,0,none⟩) B).trans D.out;have E:=hid ((But.of_below (X:=NoB) A).own C fun _ _ q=>q);have F:=hid A.size;clear N Q A;refine⟨_,rfl,fun _ _=>b,?_⟩;go_frame;refine ta 7 ?_;refine Jy _ rfl yq ?_;refine uV _ _ 169 rfl (g+1) 5 (.int .u8 0) 1 1 underlying169 jm rfl yj v xs.length (idV xs) rfl E.out ⟨f,0,none⟩ (jN (L s)).length i (idV (jN (L s))) rfl (by rw[kn,Nat.mul_one]) H.out (kW _) yY yv (Nat.le_trans B F) ?_;intro o r O R S;obtain⟨j,k,rfl⟩:=kM O;obtain⟨c,l,T,U⟩:=WrAt.put G.out C.out I.out O R S;have J:=hid T;have K:=hid U
  clear O R S T U;refine⟨fun _ _=>c,?_⟩;go_frame;refine tw 8 _ ?_;go_frame;refine tw 9 _ ?_;go_frame;refine ta 10 ?_;refine ZA _ rfl yq (UR 169 _ _ rfl g 0 (.slice j (xs.length+(jN (L s)).length) k) rfl rfl rfl rfl yq c l) ?_;refine⟨fun h=>absurd h yj,?_⟩;go_frame;refine ku yq ?_ _;go_wp2_with fail
  go_end0
  exact⟨rfl,J,K⟩
theorem wids_any(g:Nat)(l:List (List UInt8))(xs:List UInt8)(A:Option Addr)(c:Nat)(w:World)(hw:WrAt w g xs)(ho:IdsOk l)(hx:xs.length+32*l.length+10≤1099511627776)(hsl:Sl w g A l.length 32 (zB l)):
    Calls prog 193 #[.pointer (some ⟨g,0,none⟩),.slice A l.length c] w fun e w'=>e=.returned (.tuple #[])∧WrAt w' g (xs++ZT l)∧WrGo g w w':=by
  have H:=hid hw;have T:=hid ho;have U:=hid hsl
  have Aa:=js (n:=l.length) yv;have S:∀i,((l.take i).flatten).length≤32*l.length:=fun i=>by
    have h1:∀m:List (List UInt8),IdsOk m→m.flatten.length=32*m.length:=fun m=>by
      induction m with
      |nil=>intro _;rfl
      |cons a m ih=>
       intro hm;have:=hm a yZ;rw[List.flatten_cons,yV,ih (fun b hb=>hm b (by simp [hb])),Yx,show a.length=32 from this];omega
    rw[h1 _ (fun a ha=>ho a (YQ ha)),Yj];omega
  have V:=hid S;clear hw ho hsl S;go_enter func193,ntmps193
  go_wp2_with (go_at_call 192;refine(ZY g l.length xs w H yv yv).mono ?_;rintro e w1 ⟨rfl,d,f⟩;have I:=hid d;have J:=hid f;clear d f)
  go_loopw [12] (fun t wr=>∃i D,i≤l.length∧t=.int .i64 ((i:Nat):Int)∧Hid (D=xs++jA l.length++(l.take i).flatten)∧Hid (WrAt wr g D)∧Hid (WrGo g w wr)) (fun t _=>l.length - (intOf t).toNat)
  case atStart=>exact⟨0,_,YX _,rfl,hid rfl,by simpa using I,J⟩
  case round=>
    obtain⟨i,D,hi,rfl,K,C,E⟩:=hrel;by_cases hlt:i<l.length
    ·have i0:(0:Int)≤(i:Int):=yv;have i1:(i:Int)<(l.length:Int):=yv;obtain⟨b,Ab,rfl,Ac,y⟩:=(U.keep (E.belowG H)).2 yv;have L:=hid (Sl.id (B:=0) T y (i:=i) hlt);have F:=hid (show (l[i]).length=32 from T _ (yQ hlt));have W:=hid (show (l.take (i+1)).flatten=(l.take i).flatten++l[i] by rw[xj hlt,List.flatten_append,List.flatten_singleton]);have Ad:D.length≤xs.length+10+32*l.length:=by
       have h1:=V.out i;rw[K.out,yV,yV];omega
     clear y;generalize l[i]=x at *
     go_upto_region 4 with (first
       |(refine kZ rfl 41 _ rfl b _ rfl (idV x) _ L underlying41 rfl (by rw[kn,show x.length=32 from F.out];exact jq) ?_)
       |(refine Ks (B:=wr.heap.size) (w0:=wr) rfl 41 _ _ rfl wr.heap.size (idV x).toArray rfl rfl 41 _ (heap_alloc_new _ _) (by rw[xz];exact(by rw[kn,show x.length=32 from F.out];exact jq)) (by rw[show (idV x).toArray.size=32 by rw[xz,kn,show x.length=32 from F.out]];rfl) (by simpa using kW x) ((Below.refl _ _).alloc (xY _) _) (xY _) ?_;intro s R k _))
     obtain⟨z,hz⟩:=Xy wr.heap.size;rw[hz] at k ⊢;have Y:=hid (show ∀j u,(idV x)[j]?=some u→s.drew.cell? ((⟨z,0,none⟩:Addr).add j)=some u from fun j u hj=>by
       have e1:(⟨z,0,none⟩:Addr).add j=⟨z,j,none⟩:=by unfold Addr.add;split<;>simp_all
       rw[e1];exact(k6 k j).trans hj)
     have o:=C.keep R;have M:=hid o.lt;obtain⟨v,p,A0⟩:=o;have N:=hid p;have G:=hid ((But.of_below (X:=NoB) ((Below.refl s.heap.size s).drew)).own A0 fun _ _ q=>q);have Z:=hid (show s.cell? ⟨g,0,none⟩=some v from k6 p 0);have O:=hid (E.trans (WrGo.below C.lt R));clear p A0 R k hz;refine rN 9 (fun u=>u.cell? ⟨g,0,none⟩=some v) (Z) fun A7=>?_
     refine tw 0 _ ?_;go_frame;refine tw 1 _ ?_;go_frame;refine tw 2 _ ?_;go_frame;refine tw 3 _ ?_;go_frame;refine tl 4 _ rfl A7 (fun w' A8=>l1 underlying169 A8) ?_;go_frame;refine tw 5 _ ?_;go_frame;refine ta 6 ?_;refine Jy _ rfl yq ?_;refine uV _ _ 169 rfl (g+1) 5 (.int .u8 0) 1 1 underlying169 jm rfl yj v D.length (idV D) rfl G.out ⟨z,0,none⟩ 32 32 (idV x) rfl (by rw[kn,Nat.mul_one];exact F.out) Y.out (kW _) yY yv (by have:=M.out;exact this) ?_;intro v9 w9 r A1 A2;obtain⟨A9,c9,rfl⟩:=kM r;have A3:w9.ownsRow (g+1) 5 1 (.slice A9 (D.length+32) c9) (D.length+x.length) (idV D++idV x):=by rw[show x.length=32 from F.out];exact r
     obtain⟨cg,cf,A4,A5⟩:=WrAt.put N.out G.out (Below.refl _ _).drew A3 A1 A2;have C:=hid A4;have P:=hid A5
     clear A3;clear r A1 A2 A4 A5;refine⟨fun _ _=>cg,?_⟩;go_frame;refine tw 7 _ ?_;go_frame;refine tw 8 _ ?_;go_frame;refine ta 9 ?_;refine ZA _ rfl yq (UR 169 _ _ rfl g 0 (.slice A9 (D.length+32) c9) rfl rfl rfl rfl yq cg cf) ?_;refine⟨fun h=>absurd h yj,?_⟩;go_frame;refine ku yq ?_ _;have Q:=hid (O.trans P);go_wp2_with fail
     go_roundw
     case rel=>exact⟨i+1,D++x,by omega,by go_num,hid (by rw[K.out,W.out];simp),C,Q⟩
     case measure=>exact Xz
    ·have i1:¬(i:Int)<(l.length:Int):=yv;have A6:i=l.length:=yv;have HF:Hid (D=xs++ZT l):=hid (by rw[K.out,A6,List.take_length];unfold ZT;rw[zF,Yz]);clear A6;go_wp2_with fail
     go_end0
     exact⟨rfl,by rw[←HF.out];exact C.out,E.out⟩
def j9(m:jL):List Value:=.bool m.1::kw m.2
def uj(m:jL):Prop:=zz m.2
theorem jI{m:jL}(h:uj m):(j9 m).length=34:=by
  have:=kq h;simp [j9,this]
theorem vv(m:jL):∀u∈j9 m,u.oneCell'=true:=by
  intro u A;rcases xK.1 A with rfl|A
  ·rfl
  ·exact Qm _ u A
def CkAt(w:World)(g:Nat)(deps:List (List UInt8))(mk:List jL):Prop:=∃Ad cd vm,w.heap[g]?=some (.cells #[.slice Ad deps.length cd,vm] 349 (0,0))∧Sl w g Ad deps.length 32 (zB deps)∧w.ownsRow (g+1) 373 34 vm mk.length (kf j9 mk)
theorem CkAt.lt{w:World}{g:Nat}{deps:List (List UInt8)}{mk:List jL}(h:CkAt w g deps mk):g<w.heap.size:=by
  obtain⟨_,_,_,A,_⟩:=h;exact(qX A)
theorem CkAt.keep{w w':World}{g:Nat}{deps:List (List UInt8)}{mk:List jL}(h:CkAt w g deps mk)(hb:Below w.heap.size w w'):CkAt w' g deps mk:=by
  have A:=h.lt;obtain⟨Ad,B,C,D,E,F⟩:=h;exact⟨Ad,B,C,(hb.block g A).trans D,E.keep (hb.mono (YV A)),(But.of_below (X:=NoB) hb).own F fun _ _ q=>q⟩
theorem jB(w:World)(cs:List Value)(T:TypeId):∀j u,cs[j]?=some u→(w.alloc (.cells cs.toArray T)).cell? ⟨w.heap.size,j,none⟩=some u:=by
  intro j u A;rw[k6 (heap_alloc_new w _) j];exact A
theorem foreign_any(g:Nat)(deps:List (List UInt8))(mk:List jL)(r:zy)(w:World)(hk:CkAt w g deps mk)(ho:IdsOk deps)(hn:deps.length≤1099511627776)(hr:zz r):
    Calls prog 275 #[.pointer (some ⟨g,0,none⟩),.agg (kw r).toArray] w fun e w'=>Below w.heap.size w w'∧e=.returned (.bool (zC deps r)):=by
  have E:=hid hk.lt;obtain⟨Ad,V,s,i,k,m⟩:=hk;have O:=hid k;have X:=hid ho;have F:=hid hr
  have P:=hid (show w.cell? ⟨g,0,none⟩=some (.slice Ad deps.length V) from k6 i 0);have a:(prog.info? 41).map (·.size)=some (idV r.1).length:=by rw[kn,show r.1.length=32 from hr.1];exact jq
  have Q:=hid a;have l:=hid (zZ hr.2);have G:Hid (zC deps r=((jh deps && decide (r.1∈deps)) && decide (0≤r.2) && decide (r.2≤2147483647))):=hid rfl;clear i k m ho hr a;rcases Yk (jh deps && decide (r.1∈deps)) with W|W
  ·have T:=hid W;rw[W] at G;clear W;rcases (by omega:r.2<0∨(0≤r.2∧2147483647<r.2)∨(0≤r.2∧r.2≤2147483647)) with q|⟨q,b⟩|⟨q,b⟩
   focus
     have Y:decide (0≤r.2)=false:=by simp;omega
     have H:Hid (zC deps r=false):=hid (by rw[G.out,Y];rfl);clear q
   rotate_left
   focus
     have Y:decide (0≤r.2)=true:=by simp;omega
     have c:decide (r.2≤2147483647)=false:=by simp;omega
     have H:Hid (zC deps r=false):=hid (by rw[G.out,Y,c];rfl);clear q b
   rotate_left
   focus
     have Y:decide (0≤r.2)=true:=by simp;omega
     have c:decide (r.2≤2147483647)=true:=by simp;omega
     have H:Hid (zC deps r=true):=hid (by rw[G.out,Y,c];rfl);clear q b
   all_goals
     go_enter func275,ntmps275
     go_upto_region 1 with fail
     obtain⟨L,B⟩:=Xy ((w.alloc (.cells (kw r).toArray 110)));have A:=hid (show Below w.heap.size w L by rw[←B];exact(qB _ _).alloc (qR _) _);have U:=hid (show w.heap.size<L.heap.size by rw[←B];simp);have C:=hid (show L.cell? ⟨w.heap.size,32,none⟩=some (.int .i64 r.2) by rw[←B];exact jB w _ _ _ _ (kK F).2);have I:=hid (show L.rangeAt w.heap.size 0 (idV r.1) by rw[←B];exact fun j u d=>by rw[qZ];exact jB w _ _ _ _ ((kK F).1 j u d));have J:=hid ((A.cell (p:=⟨g,0,none⟩) E).trans P);have D:=hid (((O.more (YV E)).keep A).more A.size);rw[B];clear B;have Z:=enE func231 rfl;refine rN 6 (fun u=>u.cell? ⟨g,0,none⟩=some (.slice Ad deps.length V)∧u.rangeAt w.heap.size 0 (idV r.1)) (⟨J,I⟩) fun S=>?_
     refine tw 0 _ ?_;go_frame;refine tw 1 _ ?_;go_frame;refine tw 2 _ ?_;go_frame;refine tl 3 _ rfl S (fun w' M=>l1 underlying34 M.1) ?_;go_frame;refine tw 4 _ ?_;go_frame;refine tl 5 _ rfl S (fun w' M=>kg 41 _ rfl (p:=⟨w.heap.size,0,none⟩) rfl (qV w' _ _ _ (idV r.1) _ M.2 underlying41 rfl Q)) ?_;go_frame;refine ta 6 ?_;refine tc #[.slice Ad deps.length V,.agg (idV r.1).toArray] Z rfl ?_;refine(find_any deps r.1 Ad V L.drew hn X F.1 (D.keep (qD _ _))).mono ?_;rintro e f ⟨N,n,rfl,-,-⟩;have K:=hid (A.drew.trans (N.mono A.size));have R:Hid (f.cell? ⟨w.heap.size,32,none⟩=some (.int .i64 r.2)):=hid ((N.cell (p:=⟨w.heap.size,32,none⟩) U).trans C);rw[T.out];clear N;refine⟨_,rfl,fun h=>absurd h yj,?_⟩;go_frame;refine tw 7 _ ?_;go_frame;refine tw 8 _ ?_;go_frame;refine tw 9 _ ?_;go_frame;refine tw 10 _ ?_;go_frame;refine tw 11 _ ?_;go_frame;refine ku yq ?_ _;have o:=R.out;go_wp2_with fail;go_ret;exact⟨K,by rw[H.out];rfl⟩
  ·have T:=hid W;have H:Hid (zC deps r=false):=hid (by rw[G.out,W];rfl);clear W;go_enter func275,ntmps275
   go_upto_region 1 with fail
   obtain⟨L,B⟩:=Xy ((w.alloc (.cells (kw r).toArray 110)));have A:=hid (show Below w.heap.size w L by rw[←B];exact(qB _ _).alloc (qR _) _);have U:=hid (show w.heap.size<L.heap.size by rw[←B];simp);have C:=hid (show L.cell? ⟨w.heap.size,32,none⟩=some (.int .i64 r.2) by rw[←B];exact jB w _ _ _ _ (kK F).2);have I:=hid (show L.rangeAt w.heap.size 0 (idV r.1) by rw[←B];exact fun j u d=>by rw[qZ];exact jB w _ _ _ _ ((kK F).1 j u d));have J:=hid ((A.cell (p:=⟨g,0,none⟩) E).trans P);have D:=hid (((O.more (YV E)).keep A).more A.size);rw[B];clear B;have Z:=enE func231 rfl;refine rN 6 (fun u=>u.cell? ⟨g,0,none⟩=some (.slice Ad deps.length V)∧u.rangeAt w.heap.size 0 (idV r.1)) (⟨J,I⟩) fun S=>?_
   refine tw 0 _ ?_;go_frame;refine tw 1 _ ?_;go_frame;refine tw 2 _ ?_;go_frame;refine tl 3 _ rfl S (fun w' M=>l1 underlying34 M.1) ?_;go_frame;refine tw 4 _ ?_;go_frame;refine tl 5 _ rfl S (fun w' M=>kg 41 _ rfl (p:=⟨w.heap.size,0,none⟩) rfl (qV w' _ _ _ (idV r.1) _ M.2 underlying41 rfl Q)) ?_;go_frame;refine ta 6 ?_;refine tc #[.slice Ad deps.length V,.agg (idV r.1).toArray] Z rfl ?_;refine(find_any deps r.1 Ad V L.drew hn X F.1 (D.keep (qD _ _))).mono ?_;rintro e f ⟨N,n,rfl,-,-⟩;have K:=hid (A.drew.trans (N.mono A.size));have R:Hid (f.cell? ⟨w.heap.size,32,none⟩=some (.int .i64 r.2)):=hid ((N.cell (p:=⟨w.heap.size,32,none⟩) U).trans C);rw[T.out];clear N;refine⟨_,rfl,fun h=>absurd h yj,?_⟩;go_frame;refine tw 7 _ ?_;go_frame;refine tw 8 _ ?_;go_frame;refine tw 9 _ ?_;go_frame;refine tw 10 _ ?_;go_frame;refine tw 11 _ ?_;go_frame;refine ku yq ?_ _;go_wp2_with fail;go_ret;exact⟨K,by rw[H.out];rfl⟩
theorem wref_any(g:Nat)(deps:List (List UInt8))(id:List UInt8)(i:Nat)(xs:List UInt8)(Ad:Option Addr)(cd:Nat)(w:World)(hw:WrAt w g xs)(ho:IdsOk deps)(hs:jh deps=true)(hn:deps.length≤1099511627776)(hr:zz (id,((i:Nat):Int)))(hin:id=k9∨id∈deps)(hi:i<9223372036854775808)(hx:xs.length+20≤1099511627776)(hsl:Sl w g Ad deps.length 32 (zB deps)):
    Calls prog 196 #[.pointer (some ⟨g,0,none⟩),.slice Ad deps.length cd,.agg (kw (id,((i:Nat):Int))).toArray] w fun e w'=>e=.returned (.tuple #[])∧WrAt w' g (xs++zj deps (id,((i:Nat):Int)))∧WrGo g w w':=by
  have B:=hid hw;have m:=hid ho;have a:=hid hsl;have O:=hid hr
  have o:=hid (show jr id from hr.1);have f:(prog.info? 41).map (·.size)=some (idV id).length:=by rw[kn,show id.length=32 from hr.1];exact jq
  have R:=hid f;have Z:=hid (fun (u:World)=>Ke (show jr id from hr.1) jT u);have y:=hid zH;by_cases hz:id=k9
  ·have k:decide (id=k9)=true:=by simp [hz]
   have s:=hid (fun (u:World)=>(Z u).trans (by rw[k]));have T:Hid (zj deps (id,((i:Nat):Int))=jA 0++jA i):=hid (by unfold zj;simp only;rw[if_neg (by simp [hz]),zF];exact congrArg (· ++jA i) (zF 0));have hl:=js (n:=0) yv;clear k Z hw ho hsl hr f hz hin hs;go_enter func196,ntmps196
   go_upto_region 1 with fail
   obtain⟨H,D⟩:∃H,(w.alloc (.cells (kw (id,((i:Nat):Int))).toArray 110))=H:=⟨_,rfl⟩;have A:=hid (show Below w.heap.size w H by rw[←D];exact(qB _ _).alloc (qR _) _);have P:=hid (show w.heap.size<H.heap.size by rw[←D];simp);have E:=hid (show H.cell? ⟨w.heap.size,32,none⟩=some (.int .i64 ((i:Nat):Int)) by rw[←D];exact jB w _ _ _ _ (kK O).2);have J:=hid (show H.rangeAt w.heap.size 0 (idV id) by rw[←D];exact fun j u t=>by rw[qZ];exact jB w _ _ _ _ ((kK O).1 j u t));rw[D];clear D;have C:=hid (B.keep A);have K:=hid (B.newNot A (qR _));have L:=hid (WrGo.below B.lt A)
   go_upto_region 5 with (first
     |(refine k7 yk (kg 41 _ rfl (p:=⟨w.heap.size,0,none⟩) rfl (qV _ _ _ _ _ _ J underlying41 rfl R)) ?_)
     |(refine k7 yk (kp 41 #[] rfl (y _)) ?_)
     |(refine k7 yk (jV 41 _ _ _ rfl (xs:=(idV id).toArray) (ys:=(idV k9).toArray) rfl rfl (r:=true) eqId.noGuard (s _)) ?_;go_frame;try simp only[nTF]))
   go_upto_region 6 with (first
     |(go_at_call 192;refine(ZY g 0 xs H C yv yv).mono ?_;rintro e v ⟨rfl,M,I⟩;have z:=(I.cell (j:=32) P K).trans E.out;have F:=hid M;have G:=hid I
       clear M I))
   go_wp2_with (first
     |(go_at_call 192;refine(ZY g i (xs++jA 0) v F yv (by rw[yV];omega)).mono ?_;rintro e w3 ⟨rfl,X,Y⟩))
   go_end0
   exact⟨rfl,by rw[T.out,←Yz];exact X,L.trans (G.trans Y)⟩
  ·have k:decide (id=k9)=false:=by simp [hz]
   have s:=hid (fun (u:World)=>(Z u).trans (by rw[k]));have x:id∈deps:=hin.resolve_left hz;have A0:=List.idxOf_lt_length_iff.2 x;have S:Hid ((jh deps && decide (id∈deps))=true):=hid (by rw[hs];simpa using x);have b:=hid (fun (n:Nat) (h:(jh deps && decide (id∈deps))=true→deps[n]?=some id)=>(show n=deps.idxOf id by
     have h1:=h S.out;obtain⟨h2,h3⟩:=yJ.1 h1;rw[←idxOf_at hs n h2,h3]))
   have T:Hid (zj deps (id,((i:Nat):Int))=jA (deps.idxOf id+1)++jA i):=hid (by unfold zj;simp only;rw[if_pos hz,zF];exact congrArg (· ++jA i) (zF (deps.idxOf id+1)));have hl:=js (n:=deps.idxOf id+1) yv;have A1:deps.idxOf id<1099511627776:=yv;clear k Z hw ho hsl hr f hz hin hs x A0;generalize deps.idxOf id=q at *;go_enter func196,ntmps196
   go_upto_region 1 with fail
   obtain⟨H,D⟩:∃H,(w.alloc (.cells (kw (id,((i:Nat):Int))).toArray 110))=H:=⟨_,rfl⟩;have A:=hid (show Below w.heap.size w H by rw[←D];exact(qB _ _).alloc (qR _) _);have P:=hid (show w.heap.size<H.heap.size by rw[←D];simp);have E:=hid (show H.cell? ⟨w.heap.size,32,none⟩=some (.int .i64 ((i:Nat):Int)) by rw[←D];exact jB w _ _ _ _ (kK O).2);have J:=hid (show H.rangeAt w.heap.size 0 (idV id) by rw[←D];exact fun j u t=>by rw[qZ];exact jB w _ _ _ _ ((kK O).1 j u t));rw[D];clear D;have C:=hid (B.keep A);have K:=hid (B.newNot A (qR _));have L:=hid (WrGo.below B.lt A);have U:=hid (((a.more (YV B.lt)).keep A).more A.size)
   go_upto_region 5 with (first
     |(refine k7 yk (kg 41 _ rfl (p:=⟨w.heap.size,0,none⟩) rfl (qV _ _ _ _ _ _ J underlying41 rfl R)) ?_)
     |(refine k7 yk (kp 41 #[] rfl (y _)) ?_)
     |(refine k7 yk (jV 41 _ _ _ rfl (xs:=(idV id).toArray) (ys:=(idV k9).toArray) rfl rfl (r:=false) eqId.noGuard (s _)) ?_;go_frame;try simp only[nTF])
     |(go_at_call 231;refine(find_any deps id Ad cd H hn m o U).mono ?_;rintro e w1 ⟨N,n,rfl,A2,l⟩;obtain rfl:q=n:=(b n l).symm;rw[S.out];have V:=hid (C.keep N);have W:=hid (C.keepNot N K);have c:=hid (L.trans (WrGo.below C.lt N));have Q:=hid ((N.cell (p:=⟨w.heap.size,32,none⟩) P).trans E);have d:=hid (qL P N.size);clear N l))
   go_upto_region 6 with (first
     |(go_at_call 192;refine(ZY g (q+1) xs w1 V yv yv).mono ?_;rintro e v ⟨rfl,M,I⟩;have z:=(I.cell (j:=32) d W).trans Q.out;have F:=hid M;have G:=hid I
       clear M I))
   go_wp2_with (first
     |(go_at_call 192;refine(ZY g i (xs++jA (q+1)) v F yv (by rw[yV];omega)).mono ?_;rintro e w3 ⟨rfl,X,Y⟩))
   go_end0
   exact⟨rfl,by rw[T.out,←Yz];exact X,c.trans (G.trans Y)⟩
end
section
open Go.RowKit Go.Maps
theorem QK{n:Nat}(h:n<9223372036854775808):(jA n).length≤10:=js yv
theorem QL{n:Int}(h:n<9223372036854775808):(qO n).length≤10:=by
  unfold qO
  split
  ·exact YX _
  ·exact QK yv
theorem textB_len{s:ByteArray}(h:s.size≤1099511627776):(jN (L s)).length≤10+s.size:=by
  have:=QK (n:=(L s).length) (by rw[jf];omega);unfold jN;rw[yV];rw[jf] at this ⊢;omega
theorem flat_len:∀{l:List (List UInt8)},IdsOk l→l.flatten.length=32*l.length
  | [],_=>rfl
  |a::l,h=>by
   have h1:a.length=32:=h a yZ;rw[List.flatten_cons,yV,flat_len (fun b A=>h b (by simp [A])),Yx,h1];omega
theorem idsE_len{l:List (List UInt8)}(h:IdsOk l)(hl:l.length≤1099511627776):(ZT l).length≤10+32*l.length:=by
  have:=QL (n:=(l.length:Int)) yv;unfold ZT;rw[yV,flat_len h];omega
theorem refE_len{deps:List (List UInt8)}{r:zy}(hl:deps.length≤1099511627776)(hr:zz r):(zj deps r).length≤20:=by
  have A:=QL (zZ hr.2).2;have B:=List.idxOf_le_length (a:=r.1) (l:=deps);have C:=QL (n:=if r.1≠k9 then (deps.idxOf r.1:Int)+1 else 0) (by split<;>omega);unfold zj;rw[yV];omega
end
section
open Go.RowKit Go.Maps
open Lib (hid)
theorem opsE_next{deps:List (List UInt8)}{os:List OpD}{i:Nat}(h:i<os.length):qo deps (os.take (i+1))=qo deps (os.take i)++opE deps os[i]:=by
  unfold qo;rw[xj h,List.map_append,List.flatten_append];simp
theorem wchange_any(g:Nat)(c:ks)(cv:Value)(w:World)(hw:WrAt w g [])(hc:ChIn w g cv c)(h:ja c=true):
    Calls prog 149 #[.pointer (some ⟨g,0,none⟩),cv] w fun e w'=>e=.returned (.tuple #[])∧WrAt w' g (Ju c)∧WrGo g w w':=by
  have N:=hid hw;obtain⟨ok,BX,ha,Ad,cd,Ao,co,rfl,sd,so⟩:=hc;obtain⟨n,Z,au,os⟩:=c;simp only at *;unfold ja at h;simp only[xy,decide_eq_true_eq] at h;obtain⟨⟨⟨⟨⟨⟨Cz,CA⟩,BL⟩,BY⟩,CB⟩,CC⟩,BM⟩:=h;have Cs:=Qy BY;obtain⟨CD,BN,Ce⟩:=UN BL ok.2.1;have Aj:=hid sd;have BA:=hid so;have B6:=hid BN
  have Au:=hid (show IdsOk Z from ok.2.1);have B7:=hid BX;have BB:=hid (fun x hx=>ops_each BM x hx);obtain⟨n,rfl⟩:∃m:Nat,n=(m:Int):=⟨n.toNat,by omega⟩;clear sd so ok hw BX BM BL BY BN Ce;go_enter func149,ntmps149
  go_upto_region 1 with (first
    |(with_reducible refine kG ?_
      refine kz yk 37 _ rfl [.int .i64 ((n:Nat):Int),.slice Ad Z.length cd,.string au,.slice Ao os.length co] _ rfl rfl yq ?_;intro W1 O P CE))
  have I:=hid (N.keep O);have d:=hid (N.newNot O (qR _));have Bo:=hid (WrGo.below N.lt O);obtain⟨v0,AE,B1⟩:=I.out;have A5:=hid AE;have A6:=hid B1
  have Cf:W1.cell? ⟨g,0,none⟩=some v0:=k6 AE 0;have Ai:Below W1.heap.size W1 (W1.alloc (.cells #[.int .u8 67] 5)):=(qB _ _).alloc (qR _) _;have A7:=hid Ai;have Q:=hid ((But.of_below (X:=NoB) Ai).own B1 fun _ _ q=>q);have A8:=hid (show ∀j u,(idV [67])[j]?=some u→(W1.alloc (.cells #[.int .u8 67] 5)).cell? ((⟨W1.heap.size,0,none⟩:Addr).add j)=some u from fun j u hj=>by
    have e1:(⟨W1.heap.size,0,none⟩:Addr).add j=⟨W1.heap.size,j,none⟩:=by unfold Addr.add;split<;>simp_all
    rw[e1];exact(k6 (cs:=[.int .u8 67]) (heap_alloc_new W1 (.cells #[.int .u8 67] 5)) j).trans (by simpa [idV] using hj))
  have Aa:=hid (show g+1≤(W1.alloc (.cells #[.int .u8 67] 5)).heap.size from qT I.lt Ai.size);clear AE B1 Ai
  go_upto_region 2 with (first
    |(at_builtin;go_loud (refine Jw yk _ _ 169 rfl (g+1) 5 (.int .u8 0) 1 1 underlying169 jm rfl yj v0 0 (idV []) rfl Q.out ⟨W1.heap.size,0,none⟩ 1 1 (idV [67]) rfl rfl A8.out (kW _) yY yv Aa.out ?_)
      intro v9 w9 B2 Bk Bl;obtain⟨A9,c9,rfl⟩:=kM B2;obtain⟨cg,cf,A,B⟩:=WrAt.put (xs:=[]) (ys:=[67]) A5.out A6.out A7.out B2 Bk Bl;have z:=hid A;have Ak:=hid B
      clear B2 Bk Bl A B))
  obtain⟨w2,BZ⟩:∃u:World,w9.setCell ⟨g,0,none⟩ (.slice A9 (0+1) c9)=u:=⟨_,rfl⟩;rw[BZ] at z Ak ⊢;clear BZ cg cf;obtain⟨x2,Av⟩:∃x2:List UInt8,Hid ([]++[67]=x2):=⟨_,hid rfl⟩;have C7:x2.length≤1:=by rw[←Av.out];decide
  rw[Av.out] at z;obtain⟨zc,BO⟩:=Xy w.heap.size;have f:=hid (show zc<W1.heap.size from by rw[←BO];exact(qX P));rw[BO] at P d ⊢;clear BO Q A8 Aa A5 A6 A7 Cf;have Cg:w2.cell? ⟨zc,0,none⟩=some (.int .i64 ((n:Nat):Int)):=(Ak.cell f d).trans (k6 P 0)
  go_upto_region 3 with (first
    |(go_at_call 192;refine(ZY g n x2 w2 z yv yv).mono ?_;rintro e w3 ⟨rfl,A,B⟩;have Al:=hid A;have Am:=hid (Ak.trans B)
      clear A B))
  obtain⟨x3,Aw⟩:∃x3,Hid (x2++jA n=x3):=⟨_,hid rfl⟩;have C8:x3.length≤x2.length+(10):=by rw[←Aw.out,yV];have:=QK (n:=n) yv;omega
  rw[Aw.out] at Al;have Ch:w3.cell? ⟨zc,1,none⟩=some (.slice Ad Z.length cd):=(Am.cell f d).trans (k6 P 1)
  go_upto_region 4 with (first
    |(go_at_call 193;refine(wids_any g Z x3 Ad cd w3 Al Au yv (Aj.keep (O.mono (YV N.lt)|>.trans (Am.belowG I)))).mono ?_;rintro e w4 ⟨rfl,A,B⟩;have An:=hid A;have AF:=hid (Am.trans B)
      clear A B))
  obtain⟨x4,Ax⟩:∃x4,Hid (x3++ZT Z=x4):=⟨_,hid rfl⟩;have C9:x4.length≤x3.length+(10+32*Z.length):=by rw[←Ax.out,yV];have:=idsE_len Au.out yv;omega
  rw[Ax.out] at An;have Ci:w4.cell? ⟨zc,2,none⟩=some (.string au):=(AF.cell f d).trans (k6 P 2)
  go_upto_region 5 with (first
    |(go_at_call 194;refine(wtext_any g au x4 w4 An yv yv).mono ?_;rintro e w5 ⟨rfl,A,B⟩;have Ap:=hid A;have AG:=hid (AF.trans B)
      clear A B))
  obtain⟨x5,Ay⟩:∃x5,Hid (x4++jN (L au)=x5):=⟨_,hid rfl⟩;have Ca:x5.length≤x4.length+(10+au.size):=by rw[←Ay.out,yV];have:=textB_len (s:=au) yv;omega
  rw[Ay.out] at Ap;have Cj:w5.cell? ⟨zc,3,none⟩=some (.slice Ao os.length co):=(AG.cell f d).trans (k6 P 3)
  go_upto_region 6 with (first
    |(go_at_call 192;refine(ZY g os.length x5 w5 Ap yv yv).mono ?_;rintro e w6 ⟨rfl,A,B⟩;have R:=hid A;have Bp:=hid (AG.trans B)
      clear A B))
  obtain⟨x6,Az⟩:∃x6,Hid (x5++jA os.length=x6):=⟨_,hid rfl⟩;have Cb:x6.length≤x5.length+(10):=by rw[←Az.out,yV];have:=QK (n:=os.length) yv;omega
  rw[Az.out] at R
  go_upto_region 7 with (first
    |(go_at_call 195;refine(parts_any w6).mono ?_;rintro e w7 ⟨Bs,v,rfl,⟨mg,mn,rfl,BP⟩,Ck,Bt,C0⟩;obtain rfl:mg=Ck:=by injection Bt with Bt;injection Bt
      have AH:=hid (R.keep Bs);have BC:=hid BP
      have BD:=hid (R.newNot Bs C0);have J:=hid (Bp.trans (WrGo.below R.lt Bs));have Cc:=hid (show mg<w7.heap.size from by obtain⟨D,hD,_⟩:=BP;exact hD.lt);clear Bs BP Bt C0))
  have S:=J.apart f.out d.out;have AI:=hid (S.1.trans P);have Bq:=hid S.2
  have AJ:=hid (qL f J.1.size);have CF:w7.cell? ⟨zc,3,none⟩=some (.slice Ao os.length co):=k6 AI.out 3;obtain⟨xh,Bu⟩:=Xy x6;rw[Bu] at AH;have CG:xh.length≤8388608:=by rw[←Bu];omega
  have BE:Hid (Ju ((n:Int),Z,au,os)=xh++qo Z os):=hid (by
    rw[←Bu,←Az.out,←Ay.out,←Ax.out,←Aw.out,←Av.out];simp only[Ju,zF,YZ,Yz,YK])
  clear Bu S Az Ay Ax Aw Av C7 C8 C9 Ca Cb z Al An Ap R Cg Ch Ci Cj;go_wp2_with fail
  go_loopw [38] (fun t wr=>∃i ys,i≤os.length∧t=.int .i64 ((i:Nat):Int)∧Hid (ys=xh++qo Z (os.take i))∧Hid (WrAt wr g ys)∧Hid (WrGo g w7 wr)∧ys.length≤8388608+30000*i) (fun t _=>os.length - (intOf t).toNat)
  case atStart=>exact⟨0,xh,YX _,rfl,hid (by simp [qo]),AH,hid (WrGo.refl _ _),by omega⟩
  case round=>
    obtain⟨i,ys,hi,rfl,HY,Ab,AA,C1⟩:=hrel;by_cases hlt:i<os.length
    ·have i0:(0:Int)≤(i:Int):=yv;have i1:(i:Int)<(os.length:Int):=yv;obtain⟨b,CH,rfl,CI,C2⟩:=((BA.keep (O.mono (YV N.lt))).keep ((J.trans AA).belowG I)).2 yv;have Br:=hid (Sl.row (fun x hx=>kI (B7 x hx)) C2 hlt);have M:=hid (B7 _ (yQ hlt));have B8:=hid (BB _ (yQ hlt));have BF:=hid (opsE_next (deps:=Z) hlt);clear C2;generalize os[i]=x at *;have Ac:=hid (kB M);obtain⟨mk,Bm⟩:=B8.out;obtain⟨p,Bv⟩:∃p,jO x.1=some p:=by
       rcases hq:jO x.1 with _ |p
       ·unfold opB at Bm;rw[hq] at Bm;cases Bm
       ·exact⟨p,rfl⟩
     obtain⟨n1,n2,n3,n4,n5,n6,n7,n8,n9,C3⟩:=op_names Bv Bm;have BG:=hid n1;have BH:=hid n3;have BI:=hid n7
     have AK:Hid (x.2.2.2.1.size≤4096):=hid (by rcases Yk p.2.2.1 with q|q;exact n5 q;rw[n6 q];decide);have AL:Hid (x.2.2.2.2.2.size≤4096):=hid (by rcases Yk p.2.2.2.2 with q|q;exact n9 q;rw[C3 q];decide);have BJ:=hid Bv;have B9:Hid ((vK x.1).getD (vi Ji)=vi p):=hid (by unfold vK;rw[Bv];rfl);clear n1 n2 n3 n4 n5 n6 n7 n8 n9 C3 Bv Bm B8
     go_upto_region 10 with (first
       |(with_reducible refine k8 ?_
         refine kZ rfl 112 _ rfl b _ rfl (opV x) _ Br.out underlying112 rfl (by rw[kI M.out];exact Ky) ?_)
       |(with_reducible refine kF ?_
         refine kv yk 112 rfl (opV Q5) (Q6 _) ?_;intro Wa Ba Bb AM)
       |(with_reducible refine kD ?_
         refine kr yk 112 _ _ rfl wr.heap.size 0 [] (opV Q5) [] (opV x) 112 _ rfl rfl rfl rfl (by simpa using Bb.out) (by rw[kI M.out];exact kI (zeroOp_in 0)) (by rw[kI M.out];exact Ky) (UO _) ?_;intro Wb Cl C1 BQ;have BQ:=BQ.out;have T:=hid (Ba.trans (Cl.below (by have:=AM.out;omega) (fun k hk e=>by omega)));have AB:Hid (Wb.heap[wr.heap.size]?=some (.cells (opV x).toArray 112 (0,0))):=hid (by simpa using C1.out);have AN:=hid (show wr.heap.size<Wb.heap.size by have:=AM.out;omega);clear BQ))
     have Bc:=hid ((AA.1.map BC BD).below T);have Cm:Wb.cell? ⟨wr.heap.size,0,none⟩=some (.int .u8 (x.1.toNat:Int)):=(k6 AB 0).trans rfl
     go_upto_region 11 with (first
       |(refine vG rfl _ _ 317 rfl 320 QF underlying317 (vi Ji) (QG _) rfl Bc x.1 trivial rfl ?_;rw[B9.out])
       |(with_reducible refine kF ?_
         refine kv yk 320 rfl (JD Ji) (UV _) ?_;intro Wc Bd Be AO)
       |(with_reducible refine kD ?_
         refine kr yk 320 _ _ rfl Wb.heap.size 0 [] (JD Ji) [] (JD p) 320 (vi p) rfl rfl rfl rfl (by simpa using Be.out) rfl yq (by intro u hu;simp only[JD,xK,YY,or_false] at hu;rcases hu with rfl|rfl|rfl|rfl|rfl<;>rfl) ?_;intro Wd Cn Co BR;have BR:=BR.out;have K:=hid (Bd.trans (Cn.below (by have:=AO.out;omega) (fun k hk e=>by omega)));have l:Hid (Wd.heap[Wb.heap.size]?=some (.cells (JD p).toArray 320 (0,0))):=hid (by simpa using Co.out);have o:=hid (show Wb.heap.size<Wd.heap.size by have:=AO.out;omega);clear BR))
     clear Cm Bc B9;obtain⟨zx,C4⟩:=Xy wr.heap.size;obtain⟨zp,C5⟩:=Xy Wb.heap.size;rw[C4] at AB AN ⊢;rw[C5] at l o ⊢;have BS:=T.size;have BT:=K.size
     have Cd:=hid (T.trans (K.mono BS));have U:=hid (Ab.keep T);have Aq:=hid (U.keep K);have V:=hid ((AA.trans (WrGo.below Ab.lt T)).trans (WrGo.below U.lt K));have AP:=hid (Ab.newNot T (k:=zx) yv);have Ae:=hid (U.keepNot K AP);have Af:=hid (U.newNot K (k:=zp) yv);have S:=V.apart AJ.out Bq.out;have Bf:=hid (S.1.trans AI);have AQ:=hid S.2
     have Bg:=hid (qL AJ V.1.size);have y:=hid ((K.block zx AN).trans AB);have Ag:=hid (qL AN BT);have Bh:=hid (show Wd.drew.cell? ⟨zx,0,none⟩=some (.int .u8 (x.1.toNat:Int)) from (k6 y 0).trans rfl);clear BS BT C4 C5 T K U AP S AB Ba Bb AM Bd Be AO Ab;obtain⟨v0,AE,B1⟩:=id Aq.out;have A5:=hid AE;have A6:=hid B1
     have Bi:=hid (show Wd.drew.cell? ⟨g,0,none⟩=some v0 from k6 AE 0);have Ai:Below Wd.heap.size Wd (Wd.drew.alloc (.cells #[.int .u8 (x.1.toNat:Int)] 5)):=((qD _ _)).alloc (qR _) _;have A7:=hid Ai;have Q:=hid ((But.of_below (X:=NoB) Ai).own B1 fun _ _ q=>q);have A8:=hid (show ∀j u,(idV [x.1])[j]?=some u→(Wd.drew.alloc (.cells #[.int .u8 (x.1.toNat:Int)] 5)).cell? ((⟨Wd.heap.size,0,none⟩:Addr).add j)=some u from fun j u hj=>by
       have e1:(⟨Wd.heap.size,0,none⟩:Addr).add j=⟨Wd.heap.size,j,none⟩:=by unfold Addr.add;split<;>simp_all
       rw[e1];exact(k6 (cs:=[(.int .u8 (x.1.toNat:Int))]) (heap_alloc_new Wd.drew (.cells #[(.int .u8 (x.1.toNat:Int))] 5)) j).trans (by simpa [idV] using hj))
     have Aa:=hid (show g+1≤(Wd.drew.alloc (.cells #[.int .u8 (x.1.toNat:Int)] 5)).heap.size from qT Aq.lt Ai.size);have Bj:=hid (show (Wd.drew.alloc (.cells #[.int .u8 (x.1.toNat:Int)] 5)).cell? ⟨g,0,none⟩=some v0 from (Ai.cell (p:=⟨g,0,none⟩) Aq.lt).trans (k6 AE 0));clear AE B1 Ai;refine rN 9 (fun u=>u.cell? ⟨g,0,none⟩=some v0) (Bi) fun Cp=>?_
     refine tw 0 _ ?_;go_frame;refine tw 1 _ ?_;go_frame;refine tw 2 _ ?_;go_frame;refine tw 3 _ ?_;go_frame;refine tl 4 _ rfl Cp (fun w' Cq=>l1 underlying169 Cq) ?_;go_frame;refine tw 5 _ ?_;go_frame;refine ta 6 ?_;refine zP _ rfl yq (Kf 5 _ rfl (p:=⟨zx,0,none⟩) rfl underlying5 rfl (v:=(.int .u8 (x.1.toNat:Int))) (show Wd.drew.cell? ⟨zx,0,none⟩=some (.int .u8 (x.1.toNat:Int)) from Bh)) ?_;refine⟨fun _ h=>h,?_⟩;go_frame;refine ta 7 ?_;refine zP _ rfl yq (ex_build1c 169 _ rfl 5 underlying169 (.int .u8 0) 1 jm rfl (.int .u8 (x.1.toNat:Int)) rfl rfl) ?_;refine⟨fun _ _=>Bj,?_⟩;go_frame;refine ta 8 ?_;refine Jy _ rfl yq ?_;refine uV _ _ 169 rfl (g+1) 5 (.int .u8 0) 1 1 underlying169 jm rfl yj v0 ys.length (idV ys) rfl Q.out ⟨Wd.heap.size,0,none⟩ 1 1 (idV [x.1]) rfl rfl A8.out (kW _) yY yv Aa.out ?_;intro v9 w9 B2 Bk Bl;obtain⟨A9,c9,rfl⟩:=kM B2;obtain⟨cg,cf,A,B⟩:=WrAt.put (xs:=ys) (ys:=[x.1]) A5.out A6.out A7.out B2 Bk Bl;have A0:=hid A;have Ar:=hid B
     clear B2 Bk Bl A B;refine⟨fun _ _=>cg,?_⟩;go_frame;refine tw 9 _ ?_;go_frame;refine tw 10 _ ?_;go_frame;refine ta 11 ?_;refine ZA _ rfl yq (UR 169 _ _ rfl g 0 (.slice A9 (ys.length+1) c9) rfl rfl rfl rfl yq cg cf) ?_;refine⟨fun h=>absurd h yj,?_⟩;go_frame;refine ku yq ?_ _;obtain⟨Bw,BU⟩:∃u:World,w9.setCell ⟨g,0,none⟩ (.slice A9 (ys.length+1) c9)=u:=⟨_,rfl⟩;rw[BU] at A0 Ar ⊢;obtain⟨y0,AR⟩:∃y0:List UInt8,Hid (ys++[x.1]=y0):=⟨_,hid rfl⟩;have Ct:y0.length≤ys.length+1:=by rw[←AR.out];simp
     rw[AR.out] at A0;have As:=A0;have F:=Ar
     clear BU cg cf A0 Ar Q A8 Aa Bj A5 A6 A7 Bi Bh;have cp:Bw.cell? ⟨zp,0,none⟩=some (.bool p.1):=(F.cell o Af).trans (k6 l 0)
     go_upto_if 58 with fail
     go_cut [58] from 59 to 64 (fun _ wx=>Hid (WrAt wx g (y0++ifE p.1 (zj Z x.2.1)))∧Hid (WrGo g Wd wx))
     case first=>
       cases hpb:p.1
       ·go_wp2_with fail
        go_meet
        case rel=>exact⟨hid (by unfold ifE;rw[if_neg (by rw[hpb];decide),List.append_nil];exact As.out),F⟩
       ·have B3:=BG.out hpb;obtain⟨a,AD⟩:∃a:Nat,x.2.1.2=(a:Int):=⟨x.2.1.2.toNat,by omega⟩;have B4:=(zZ M.1.1.2).2;have H:Hid (x.2.1=(x.2.1.1,(a:Int))):=hid (Prod.ext rfl AD);have Ah:Hid (zz (x.2.1.1,(a:Int))):=hid (by rw[←H.out];exact M.1.1);have AS:=hid B3.1;have Bn:a<9223372036854775808:=yv;have Bx:Bw.cell? ⟨zc,1,none⟩=some (.slice Ad Z.length cd):=(F.cell Bg AQ).trans (k6 Bf 1);have AT:=hid (show Bw.rangeAt zx 1 (kw (x.2.1.1,(a:Int))) by rw[←H.out];exact fun j u hj=>(F.cell Ag Ae).trans ((k6 y (1+j)).trans (Ac.2.1 j u hj)));have AU:=hid ((Aj.keep (O.mono (YV N.lt))).keep ((J.trans (V.trans F)).belowG I));clear B3 AD B4
        go_wp2_with (first
          |(with_reducible refine k8 ?_
            refine k7 yk (kg 110 _ rfl (p:=⟨zx,1,none⟩) rfl (qV _ _ _ _ _ _ AT underlying110 rfl (by rw[kq Ah.out];exact Ka))) ?_)
          |(go_at_call 196;refine(wref_any g Z x.2.1.1 a y0 Ad cd Bw As Au B6 yv Ah.out AS.out Bn yv AU.out).mono ?_;rintro e w9 ⟨rfl,A,B⟩;have C:=hid A;have E:=hid B
            clear A B))
        go_meet
        case rel=>exact⟨hid (by unfold ifE;rw[if_pos hpb];rw[H.out];exact C.out),hid (F.trans E)⟩
     case rest=>
       obtain⟨A1,G⟩:=hcut;obtain⟨By,B5⟩:=Xv wc;subst B5;obtain⟨y1,AV⟩:∃y1,Hid (y0++ifE p.1 (zj Z x.2.1)=y1):=⟨_,hid rfl⟩;have Cu:y1.length≤y0.length+4200:=by
         rw[←AV.out,yV];unfold ifE
         split
         ·have h1:=refE_len (deps:=Z) (r:=x.2.1) yv M.1.1
          skip
          omega
         ·simp
       rw[AV.out] at A1;clear As F cp;have cp:By.cell? ⟨zp,1,none⟩=some (.bool p.2.1):=(G.cell o Af).trans (k6 l 1)
       go_upto_if 66 with fail
       go_cut [66] from 67 to 72 (fun _ wx=>Hid (WrAt wx g (y1++ifE p.2.1 (zj Z x.2.2.1)))∧Hid (WrGo g Wd wx))
       case first=>
         cases hpb:p.2.1
         ·go_wp2_with fail
          go_meet
          case rel=>exact⟨hid (by unfold ifE;rw[if_neg (by rw[hpb];decide),List.append_nil];exact A1.out),G⟩
         ·have B3:=BH.out hpb;obtain⟨a,AD⟩:∃a:Nat,x.2.2.1.2=(a:Int):=⟨x.2.2.1.2.toNat,by omega⟩;have B4:=(zZ M.1.2.1.2).2;have H:Hid (x.2.2.1=(x.2.2.1.1,(a:Int))):=hid (Prod.ext rfl AD);have Ah:Hid (zz (x.2.2.1.1,(a:Int))):=hid (by rw[←H.out];exact M.1.2.1);have AS:=hid B3.1;have Bn:a<9223372036854775808:=yv;have Bx:By.cell? ⟨zc,1,none⟩=some (.slice Ad Z.length cd):=(G.cell Bg AQ).trans (k6 Bf 1);have AT:=hid (show By.rangeAt zx 34 (kw (x.2.2.1.1,(a:Int))) by rw[←H.out];exact fun j u hj=>(G.cell Ag Ae).trans ((k6 y (34+j)).trans (Ac.2.2.1 j u hj)));have AU:=hid ((Aj.keep (O.mono (YV N.lt))).keep ((J.trans (V.trans G)).belowG I));clear B3 AD B4
          go_wp2_with (first
            |(with_reducible refine k8 ?_
              refine k7 yk (kg 110 _ rfl (p:=⟨zx,34,none⟩) rfl (qV _ _ _ _ _ _ AT underlying110 rfl (by rw[kq Ah.out];exact Ka))) ?_)
            |(go_at_call 196;refine(wref_any g Z x.2.2.1.1 a y1 Ad cd By A1 Au B6 yv Ah.out AS.out Bn yv AU.out).mono ?_;rintro e w9 ⟨rfl,A,B⟩;have C:=hid A;have E:=hid B
              clear A B))
          go_meet
          case rel=>exact⟨hid (by unfold ifE;rw[if_pos hpb];rw[H.out];exact C.out),hid (G.trans E)⟩
       case rest=>
         obtain⟨A2,W⟩:=hcut;obtain⟨BV,B5⟩:=Xv wc;subst B5;obtain⟨y2,AW⟩:∃y2,Hid (y1++ifE p.2.1 (zj Z x.2.2.1)=y2):=⟨_,hid rfl⟩;have Cv:y2.length≤y1.length+4200:=by
           rw[←AW.out,yV];unfold ifE
           split
           ·have h1:=refE_len (deps:=Z) (r:=x.2.2.1) yv M.1.2.1
            skip
            omega
           ·simp
         rw[AW.out] at A2;clear A1 G cp;have cp:BV.cell? ⟨zp,2,none⟩=some (.bool p.2.2.1):=(W.cell o Af).trans (k6 l 2)
         go_upto_if 74 with fail
         go_cut [74] from 75 to 78 (fun _ wx=>Hid (WrAt wx g (y2++ifE p.2.2.1 (jN (L x.2.2.2.1))))∧Hid (WrGo g Wd wx))
         case first=>
           cases hpb:p.2.2.1
           ·go_wp2_with fail
            go_meet
            case rel=>exact⟨hid (by unfold ifE;rw[if_neg (by rw[hpb];decide),List.append_nil];exact A2.out),W⟩
           ·have Cr:x.2.2.2.1.size≤4096:=AK.out;have Bx:BV.cell? ⟨zx,67,none⟩=some (.string x.2.2.2.1):=(W.cell Ag Ae).trans ((k6 y 67).trans Ac.2.2.2.1)
            go_wp2_with (first
              |(go_at_call 194;refine(wtext_any g x.2.2.2.1 y2 BV A2 yv yv).mono ?_;rintro e w9 ⟨rfl,A,B⟩;have C:=hid A;have E:=hid B
                clear A B))
            go_meet
            case rel=>exact⟨hid (by unfold ifE;rw[if_pos hpb];exact C.out),hid (W.trans E)⟩
         case rest=>
           obtain⟨A3,Y⟩:=hcut;obtain⟨BW,B5⟩:=Xv wc;subst B5;obtain⟨y3,AX⟩:∃y3,Hid (y2++ifE p.2.2.1 (jN (L x.2.2.2.1))=y3):=⟨_,hid rfl⟩;have Cw:y3.length≤y2.length+4200:=by
             rw[←AX.out,yV];unfold ifE
             split
             ·have h1:=textB_len (s:=x.2.2.2.1) (qT AK yj);have h2:=AK.out;omega
             ·simp
           rw[AX.out] at A3;clear A2 W cp;have cp:BW.cell? ⟨zp,3,none⟩=some (.bool p.2.2.2.1):=(Y.cell o Af).trans (k6 l 3)
           go_upto_if 80 with fail
           go_cut [80] from 81 to 84 (fun _ wx=>Hid (WrAt wx g (y3++ifE p.2.2.2.1 (qO x.2.2.2.2.1)))∧Hid (WrGo g Wd wx))
           case first=>
             cases hpb:p.2.2.2.1
             ·go_wp2_with fail
              go_meet
              case rel=>exact⟨hid (by unfold ifE;rw[if_neg (by rw[hpb];decide),List.append_nil];exact A3.out),Y⟩
             ·have B3:=BI.out hpb;obtain⟨a,AD⟩:∃a:Nat,x.2.2.2.2.1=(a:Int):=⟨x.2.2.2.2.1.toNat,by omega⟩;have B4:=(zZ M.1.2.2).2;have Bn:a<9223372036854775808:=yv;have H:=hid AD;have Bx:BW.cell? ⟨zx,68,none⟩=some (.int .i64 (a:Int)):=by rw[←AD];exact(Y.cell Ag Ae).trans ((k6 y 68).trans Ac.2.2.2.2.1)
              clear B3 AD B4
              go_wp2_with (first
                |(go_at_call 192;refine(ZY g a y3 BW A3 Bn yv).mono ?_;rintro e w9 ⟨rfl,A,B⟩;have C:=hid A;have E:=hid B
                  clear A B))
              go_meet
              case rel=>exact⟨hid (by unfold ifE;rw[if_pos hpb];rw[H.out,zF];exact C.out),hid (Y.trans E)⟩
           case rest=>
             obtain⟨At,A4⟩:=hcut;obtain⟨Bz,B5⟩:=Xv wc;subst B5;obtain⟨y4,AY⟩:∃y4,Hid (y3++ifE p.2.2.2.1 (qO x.2.2.2.2.1)=y4):=⟨_,hid rfl⟩;have Cx:y4.length≤y3.length+4200:=by
               rw[←AY.out,yV];unfold ifE
               split
               ·have h1:=QL (zZ M.1.2.2).2
                skip
                omega
               ·simp
             rw[AY.out] at At;clear A3 Y cp;have cp:Bz.cell? ⟨zp,4,none⟩=some (.bool p.2.2.2.2):=(A4.cell o Af).trans (k6 l 4)
             go_upto_if 86 with fail
             obtain⟨y5,AC⟩:∃y5,Hid (y4++ifE p.2.2.2.2 (jN (L x.2.2.2.2.2))=y5):=⟨_,hid rfl⟩;have Cy:y5.length≤y4.length+4200:=by
               rw[←AC.out,yV];unfold ifE
               split
               ·have h1:=textB_len (s:=x.2.2.2.2.2) (qT AL yj);have h2:=AL.out;omega
               ·simp
             cases hpb:p.2.2.2.2
             focus
               have AZ:Hid (WrAt Bz g y5):=hid (by rw[←AC.out];unfold ifE;rw[if_neg (by rw[hpb];decide),List.append_nil];exact At.out);have B0:=A4;go_wp2_with fail
             rotate_left
             focus
               have Cr:x.2.2.2.2.2.size≤4096:=AL.out;have Bx:Bz.cell? ⟨zx,69,none⟩=some (.string x.2.2.2.2.2):=(A4.cell Ag Ae).trans ((k6 y 69).trans Ac.2.2.2.2.2)
               go_wp2_with (first
                 |(go_at_call 194;refine(wtext_any g x.2.2.2.2.2 y4 Bz At yv yv).mono ?_;rintro e w9 ⟨rfl,A,B⟩;have C:=hid A;have E:=hid B
                   clear A B))
               have AZ:Hid (WrAt w9 g y5):=hid (by rw[←AC.out];unfold ifE;rw[if_pos hpb];exact C.out);have B0:=hid (A4.trans E)
             all_goals
               have BK:Hid (y5=xh++qo Z (os.take (i+1))):=hid (by
                 rw[BF.out,←Yz,←HY.out,←AC.out,←AY.out,←AX.out,←AW.out,←AV.out,←AR.out];unfold opE;rw[BJ.out];simp only[Option.getD_some,Yz,YK,YZ])
               go_roundw
               case rel=>exact⟨i+1,y5,by omega,by go_num,BK,AZ,hid (V.trans B0),by omega⟩
               case measure=>exact Xz
    ·have i1:¬(i:Int)<(os.length:Int):=yv;have C6:i=os.length:=yv;have HF:Hid (ys=Ju ((n:Int),Z,au,os)):=hid (by rw[HY.out,C6,List.take_length,BE.out]);clear C6;go_wp2_with fail
     go_end0
     exact⟨rfl,by rw[←HF.out];exact Ab.out,Bo.trans (J.trans AA)⟩
theorem q8(g:Nat)(deps:List (List UInt8))(mk:List jL)(r:zy)(w:World)(hk:CkAt w g deps mk)(ho:IdsOk deps)(hn:deps.length≤1099511627776)(hmn:mk.length≤1099511627776)(hm:∀m∈mk,uj m)(hr:zz r):
    Calls prog 250 #[.pointer (some ⟨g,0,none⟩),.agg (kw r).toArray] w fun e w'=>Below w.heap.size w w'∧e=.returned (.bool (vf deps mk r)):=by
  have a:(prog.info? 41).map (·.size)=some (idV r.1).length:=by rw[kn,show r.1.length=32 from hr.1];exact jq
  have b:(prog.info? 110).map (·.size)=some (kw r).length:=by rw[kq hr];exact Ka
  have I:=hid a;have R:=hid b
  have HW:=hid (zZ hr.2);have Q:=hid (fun (u:World)=>Ke hr.1 jT u);have Y:=hid zH;have E:=hid hk;have d:=hid ho;have G:=hid hr
  clear a b;have f:=hid hm;by_cases hz:r.1=k9
  ·have T:decide (r.1=k9)=true:=by simp [hz]
   have U:=hid (fun (u:World)=>(Q u).trans (by rw[T]));clear T Q;have N:Hid (vf deps mk r=(decide (0≤r.2) && decide (r.2<mk.length) && (mk.getD r.2.toNat (false,ko)).1)):=hid (by unfold vf;rw[if_neg (by simp [hz])]);clear hz hk ho hr hm;rcases (by omega:r.2<0∨(0≤r.2∧(mk.length:Int)≤r.2)∨(0≤r.2∧r.2<mk.length)) with q|⟨q,Z⟩|⟨q,Z⟩
   focus
     have l:decide (0≤r.2)=false:=by simp;omega
     have L:Hid (vf deps mk r=false):=hid (by rw[N.out,l];rfl);clear q;go_enter func250,ntmps250
     go_upto_region 1 with fail
     obtain⟨D,A⟩:=Xy ((w.alloc (.cells (kw r).toArray 110)));have B:=hid (show Below w.heap.size w D by rw[←A];exact(qB _ _).alloc (qR _) _);have K:=hid (show w.heap.size<D.heap.size by rw[←A];simp);have C:=hid (show D.cell? ⟨w.heap.size,32,none⟩=some (.int .i64 r.2) by rw[←A];exact jB w _ _ _ _ (kK G).2);have F:=hid (show D.rangeAt w.heap.size 0 (idV r.1) by rw[←A];exact fun j u H=>by rw[qZ];exact jB w _ _ _ _ ((kK G).1 j u H));have J:=hid (show D.rangeAt w.heap.size 0 (kw r) by rw[←A];exact fun j u H=>by rw[qZ];exact jB w _ _ _ _ H);rw[A];clear A
     go_upto_region 3 with (first
       |(refine k7 yk (kg 41 _ rfl (p:=⟨w.heap.size,0,none⟩) rfl (qV _ _ _ _ _ _ F underlying41 rfl I)) ?_)
       |(refine k7 yk (kp 41 #[] rfl (Y _)) ?_)
       |(refine k7 yk (jV 41 _ _ _ rfl (xs:=(idV r.1).toArray) (ys:=(idV k9).toArray) rfl rfl (r:=true) eqId.noGuard (U _)) ?_;go_frame;try simp only[nTF]))
     have V:=Wg.cell C.out K.out
   rotate_left
   focus
     have l:decide (0≤r.2)=true:=by simp;omega
     have d2:decide (r.2<(mk.length:Int))=false:=by simp;omega
     have L:Hid (vf deps mk r=false):=hid (by rw[N.out,l,d2];rfl);clear q Z;go_enter func250,ntmps250
     go_upto_region 1 with fail
     obtain⟨D,A⟩:=Xy ((w.alloc (.cells (kw r).toArray 110)));have B:=hid (show Below w.heap.size w D by rw[←A];exact(qB _ _).alloc (qR _) _);have K:=hid (show w.heap.size<D.heap.size by rw[←A];simp);have C:=hid (show D.cell? ⟨w.heap.size,32,none⟩=some (.int .i64 r.2) by rw[←A];exact jB w _ _ _ _ (kK G).2);have F:=hid (show D.rangeAt w.heap.size 0 (idV r.1) by rw[←A];exact fun j u H=>by rw[qZ];exact jB w _ _ _ _ ((kK G).1 j u H));have J:=hid (show D.rangeAt w.heap.size 0 (kw r) by rw[←A];exact fun j u H=>by rw[qZ];exact jB w _ _ _ _ H);rw[A];clear A
     go_upto_region 3 with (first
       |(refine k7 yk (kg 41 _ rfl (p:=⟨w.heap.size,0,none⟩) rfl (qV _ _ _ _ _ _ F underlying41 rfl I)) ?_)
       |(refine k7 yk (kp 41 #[] rfl (Y _)) ?_)
       |(refine k7 yk (jV 41 _ _ _ rfl (xs:=(idV r.1).toArray) (ys:=(idV k9).toArray) rfl rfl (r:=true) eqId.noGuard (U _)) ?_;go_frame;try simp only[nTF]))
     have V:=Wg.cell C.out K.out;obtain⟨Ad,cd,x,W,n,M⟩:=E.out;have cm:=Wg.cell ((B.cell (p:=⟨g,1,none⟩) E.lt).trans (k6 W 1)) (qL E.lt B.size);obtain⟨Am,X,rfl⟩:∃Am X,x=.slice Am mk.length X:=kM M;clear W n M
   rotate_left
   focus
     obtain⟨i,o⟩:∃i:Nat,r.2=(i:Int):=⟨r.2.toNat,by omega⟩;have c:i<mk.length:=yv;have s:0<mk.length:=yv;have L:Hid (vf deps mk r=mk[i].1):=hid (by rw[N.out,dT q,dT Z,o,Int.toNat_natCast,List.getD_eq_getElem?_getD,yK c];rfl);have k:=hid o;have i1:(0:Int)≤(i:Int):=yv;have i2:(i:Int)<(mk.length:Int):=yv;clear q Z o;go_enter func250,ntmps250
     go_upto_region 1 with fail
     obtain⟨D,A⟩:=Xy ((w.alloc (.cells (kw r).toArray 110)));have B:=hid (show Below w.heap.size w D by rw[←A];exact(qB _ _).alloc (qR _) _);have K:=hid (show w.heap.size<D.heap.size by rw[←A];simp);have C:=hid (show D.cell? ⟨w.heap.size,32,none⟩=some (.int .i64 r.2) by rw[←A];exact jB w _ _ _ _ (kK G).2);have F:=hid (show D.rangeAt w.heap.size 0 (idV r.1) by rw[←A];exact fun j u H=>by rw[qZ];exact jB w _ _ _ _ ((kK G).1 j u H));have J:=hid (show D.rangeAt w.heap.size 0 (kw r) by rw[←A];exact fun j u H=>by rw[qZ];exact jB w _ _ _ _ H);rw[A];clear A
     go_upto_region 3 with (first
       |(refine k7 yk (kg 41 _ rfl (p:=⟨w.heap.size,0,none⟩) rfl (qV _ _ _ _ _ _ F underlying41 rfl I)) ?_)
       |(refine k7 yk (kp 41 #[] rfl (Y _)) ?_)
       |(refine k7 yk (jV 41 _ _ _ rfl (xs:=(idV r.1).toArray) (ys:=(idV k9).toArray) rfl rfl (r:=true) eqId.noGuard (U _)) ?_;go_frame;try simp only[nTF]))
     have V:=Wg.cell C.out K.out;obtain⟨Ad,cd,x,W,n,M⟩:=E.out;have cm:=Wg.cell ((B.cell (p:=⟨g,1,none⟩) E.lt).trans (k6 W 1)) (qL E.lt B.size);obtain⟨t,X,rfl,-⟩:=QH M s;have P:=M.cellAt (i*34+0) yv;rw[K9 (fun m h=>jI (f m h)) i c 0 (.bool mk[i].1) rfl] at P;have CD:=Wg.cell ((B.cell (p:=⟨t,i*34+0,none⟩) (M.lt t rfl).2).trans P) (qL (M.lt t rfl).2 B.size);rw[Nat.add_zero] at CD;rw[k.out] at V;clear W n M P
   all_goals
     refine jk yq yq ?_
     repeat (first|go_big_quiet_skip|(go_big_quiet_want;go_big_quiet_op;go_big_quiet_on))
     refine wpQuiet_nil ?_;rintro w' ⟨v,rfl⟩;have y:=v.2;generalize v.val=w2 at *;clear v;have S:=hid (B.trans (y.below.mono B.size));go_wp2_with fail;go_ret;exact⟨S,by rw[L.out];rfl⟩
  ·have T:decide (r.1=k9)=false:=by simp [hz]
   have U:=hid (fun (u:World)=>(Q u).trans (by rw[T]));clear T Q;have L:Hid (vf deps mk r=zC deps r):=hid (by unfold vf;rw[if_pos hz]);clear hz hk ho hr hm;go_enter func250,ntmps250
   go_upto_region 1 with fail
   obtain⟨D,A⟩:=Xy ((w.alloc (.cells (kw r).toArray 110)));have B:=hid (show Below w.heap.size w D by rw[←A];exact(qB _ _).alloc (qR _) _);have K:=hid (show w.heap.size<D.heap.size by rw[←A];simp);have C:=hid (show D.cell? ⟨w.heap.size,32,none⟩=some (.int .i64 r.2) by rw[←A];exact jB w _ _ _ _ (kK G).2);have F:=hid (show D.rangeAt w.heap.size 0 (idV r.1) by rw[←A];exact fun j u H=>by rw[qZ];exact jB w _ _ _ _ ((kK G).1 j u H));have J:=hid (show D.rangeAt w.heap.size 0 (kw r) by rw[←A];exact fun j u H=>by rw[qZ];exact jB w _ _ _ _ H);rw[A];clear A;have O:=hid (E.keep B)
   go_wp2_with (first
     |(refine k7 yk (kg 41 _ rfl (p:=⟨w.heap.size,0,none⟩) rfl (qV _ _ _ _ _ _ F underlying41 rfl I)) ?_)
     |(refine k7 yk (kp 41 #[] rfl (Y _)) ?_)
     |(refine k7 yk (jV 41 _ _ _ rfl (xs:=(idV r.1).toArray) (ys:=(idV k9).toArray) rfl rfl (r:=false) eqId.noGuard (U _)) ?_;go_frame;try simp only[nTF])
     |(refine k7 yk (kg 110 _ rfl (p:=⟨w.heap.size,0,none⟩) rfl (qV _ _ _ _ _ _ J underlying110 rfl R)) ?_)
     |(go_at_call 275;refine(foreign_any g deps mk r D O d hn G).mono ?_;rintro e w2 ⟨z,rfl⟩))
   go_ret;exact⟨B.trans (z.mono B.size),by rw[L.out];rfl⟩
theorem Ut:(prog.info? 373).map (·.size)=some 34:=yq
theorem QM(w:World):(zeroValue 373).run prog w=.ok (.agg (j9 (false,ko)).toArray) w:=yq
def okM(d:zy)(m:jL):Bool:= !m.1 && decide (m.2=d)
theorem elems_all(deps:List (List UInt8))(mk:List jL)(r d:zy)(i m:Nat)(hz:r.1=k9)(hi:r.2=(i:Int))(hm:i+m≤mk.length):jD deps mk r d (m:Int)=((mk.drop i).take m).all (okM d):=by
  unfold jD;rw[if_neg (by simp [hz]),hi];have A:decide ((0:Int)≤(i:Int))=true:=by simp
  have B:decide ((m:Int)≤(mk.length:Int))=true:=by simp;omega
  have C:decide ((i:Int)≤(mk.length:Int) - (m:Int))=true:=by simp;omega
  rw[A,B,C];rfl
theorem uZ(g:Nat)(deps:List (List UInt8))(mk:List jL)(r d:zy)(m:Nat)(w:World)(hk:CkAt w g deps mk)(ho:IdsOk deps)(hn:deps.length≤1099511627776)(hmn:mk.length≤1099511627776)(hmk:∀m∈mk,uj m)(hr:zz r)(hd:zz d)(hm1:1≤m)(hm2:m≤4096):
    Calls prog 251 #[.pointer (some ⟨g,0,none⟩),.agg (kw r).toArray,.agg (kw d).toArray,.int .i64 (m:Int)] w fun e w'=>Below w.heap.size w w'∧e=.returned (.bool (jD deps mk r d (m:Int))):=by
  have Af:=hk;have Ao:(prog.info? 41).map (·.size)=some (idV r.1).length:=by rw[kn,show r.1.length=32 from hr.1];exact jq
  have z:=hid Ao;have J:=hid hr;have Z:=hid hd;have A0:=hid hk;have HO:=hid ho;have HM:=hid hmk
  have At:=hid (zZ hr.2);have Ai:=hid (fun (u:World)=>Ke hr.1 jT u);have ZB:=hid zH;by_cases hz:r.1=k9
  ·have EQ:=hid (fun (u:World)=>(Ai u).trans (by rw[dT hz]));have HF:Hid (jD deps mk r d (m:Int)=(decide (0≤r.2) && decide ((m:Int)≤mk.length) && decide (r.2≤mk.length - (m:Int)) && ((mk.drop r.2.toNat).take (m:Int).toNat).all fun q=> !q.1 && decide (q.2=d))):=hid (by unfold jD;rw[if_neg (by simp [hz])]);have Aj:=hid hz;clear Ao Ai hz hr hd hk ho hmk;rcases (by omega:r.2<0∨(0≤r.2∧mk.length<m)∨(0≤r.2∧m≤mk.length∧(mk.length:Int) - m<r.2)∨(0≤r.2∧m≤mk.length∧r.2≤(mk.length:Int) - m)) with q|⟨q,q2⟩|⟨q,q2,q3⟩|⟨q,q2,q3⟩
   ·have d1:decide (r.2<0)=true:=dT q;have Q:Hid (jD deps mk r d (m:Int)=false):=hid (by rw[HF.out,dF (show ¬(0:Int)≤r.2 by omega)];rfl);clear q;go_enter func251,ntmps251
    go_upto_region 1 with (first
      |(with_reducible refine kG ?_
        refine kz yk 110 _ rfl (kw r) _ rfl rfl (by rw[kq J.out];exact Ka) ?_;intro s M E N)
      |(with_reducible refine kG ?_
        refine kz yk 110 _ rfl (kw d) _ rfl rfl (by rw[kq Z.out];exact Ka) ?_;intro X F G O))
    have a:=hid Af.lt;have I:w.heap.size<s.heap.size:=(qX E);have D:=hid ((F.block w.heap.size I).trans E);have B:=hid (M.trans (F.mono (YV I)));have C:=hid (A0.keep B);have L:w.heap.size<X.heap.size:=qL I F.size;have R:s.heap.size<X.heap.size:=(qX G);obtain⟨zr,H⟩:=Xy w.heap.size;obtain⟨zd,P⟩:=Xy s.heap.size;rw[H] at D L ⊢;rw[P] at G R ⊢;have A2:=hid H;clear I H P N O E
    go_upto_region 3 with (first
      |(with_reducible refine k8 ?_
        refine k7 yk (kg 41 _ rfl (p:=⟨zr,0,none⟩) rfl (qV _ _ _ _ (idV r.1) _ (fun j u W=>by rw[qZ];exact(k6 D j).trans ((kK J).1 j u W)) underlying41 rfl z.out)) ?_)
      |(with_reducible refine kL ?_
        refine k7 yk (kp 41 #[] rfl (ZB _)) ?_)
      |(with_reducible refine kU ?_
        refine k7 yk (jV 41 _ _ _ rfl (xs:=(idV r.1).toArray) (ys:=(idV k9).toArray) rfl rfl (r:=true) eqId.noGuard (EQ _)) ?_;go_frame;try simp only[nTF]))
    have A3:=Wg.cell (show X.cell? ⟨zr,32,none⟩=some (.int .i64 r.2) from (k6 D 32).trans (kK J).2) L;obtain⟨Ad,cd,vm,y,h2,h3⟩:=C.out;have cm:=Wg.cell (k6 y 1) C.lt;obtain⟨Am,Y,rfl⟩:∃Am Y,vm=.slice Am mk.length Y:=kM h3;clear y h2 h3;refine jk yq yq ?_
    repeat (first|go_big_quiet_skip|(go_big_quiet_want;go_big_quiet_op;go_big_quiet_on))
    refine wpQuiet_nil ?_;rintro w' ⟨v,rfl⟩;have T:=v.2;generalize v.val=w5 at *;clear v;have U:=hid (B.trans (T.below.mono B.size));clear A3 cm T;go_wp2_with fail;go_ret;exact⟨U,by rw[Q.out];rfl⟩
   ·have d1:decide (r.2<0)=false:=dF yv;have d2:decide ((mk.length:Int)<(m:Int))=true:=dT yv;have Ar:decide (mk.length<m)=true:=dT q2;have Q:Hid (jD deps mk r d (m:Int)=false):=hid (by rw[HF.out,dF (show ¬(m:Int)≤mk.length by omega)];simp);clear q q2;go_enter func251,ntmps251
    go_upto_region 1 with (first
      |(with_reducible refine kG ?_
        refine kz yk 110 _ rfl (kw r) _ rfl rfl (by rw[kq J.out];exact Ka) ?_;intro s M E N)
      |(with_reducible refine kG ?_
        refine kz yk 110 _ rfl (kw d) _ rfl rfl (by rw[kq Z.out];exact Ka) ?_;intro X F G O))
    have a:=hid Af.lt;have I:w.heap.size<s.heap.size:=(qX E);have D:=hid ((F.block w.heap.size I).trans E);have B:=hid (M.trans (F.mono (YV I)));have C:=hid (A0.keep B);have L:w.heap.size<X.heap.size:=qL I F.size;have R:s.heap.size<X.heap.size:=(qX G);obtain⟨zr,H⟩:=Xy w.heap.size;obtain⟨zd,P⟩:=Xy s.heap.size;rw[H] at D L ⊢;rw[P] at G R ⊢;have A2:=hid H;clear I H P N O E
    go_upto_region 3 with (first
      |(with_reducible refine k8 ?_
        refine k7 yk (kg 41 _ rfl (p:=⟨zr,0,none⟩) rfl (qV _ _ _ _ (idV r.1) _ (fun j u W=>by rw[qZ];exact(k6 D j).trans ((kK J).1 j u W)) underlying41 rfl z.out)) ?_)
      |(with_reducible refine kL ?_
        refine k7 yk (kp 41 #[] rfl (ZB _)) ?_)
      |(with_reducible refine kU ?_
        refine k7 yk (jV 41 _ _ _ rfl (xs:=(idV r.1).toArray) (ys:=(idV k9).toArray) rfl rfl (r:=true) eqId.noGuard (EQ _)) ?_;go_frame;try simp only[nTF]))
    have A3:=Wg.cell (show X.cell? ⟨zr,32,none⟩=some (.int .i64 r.2) from (k6 D 32).trans (kK J).2) L;obtain⟨Ad,cd,vm,y,h2,h3⟩:=C.out;have cm:=Wg.cell (k6 y 1) C.lt;obtain⟨Am,Y,rfl⟩:∃Am Y,vm=.slice Am mk.length Y:=kM h3;clear y h2 h3;refine jk yq yq ?_
    repeat (first|go_big_quiet_skip|(go_big_quiet_want;go_big_quiet_op;go_big_quiet_on))
    refine wpQuiet_nil ?_;rintro w' ⟨v,rfl⟩;have T:=v.2;generalize v.val=w5 at *;clear v;have U:=hid (B.trans (T.below.mono B.size));clear A3 cm T;go_wp2_with fail;go_ret;exact⟨U,by rw[Q.out];rfl⟩
   ·have d1:decide (r.2<0)=false:=dF yv;have d2:decide ((mk.length:Int)<(m:Int))=false:=dF yv;have Ar:decide (mk.length<m)=false:=dF yv;have d4:IntKind.i64.wrap ((mk.length:Int) - (m:Int))=(mk.length:Int) - (m:Int):=IntWalk.i64_in _ ⟨by omega,by omega⟩;have d3:decide ((mk.length:Int) - (m:Int)<r.2)=true:=dT q3;have Q:Hid (jD deps mk r d (m:Int)=false):=hid (by rw[HF.out,dF (show ¬r.2≤(mk.length:Int) - m by omega)];simp);clear q q2 q3;go_enter func251,ntmps251
    go_upto_region 1 with (first
      |(with_reducible refine kG ?_
        refine kz yk 110 _ rfl (kw r) _ rfl rfl (by rw[kq J.out];exact Ka) ?_;intro s M E N)
      |(with_reducible refine kG ?_
        refine kz yk 110 _ rfl (kw d) _ rfl rfl (by rw[kq Z.out];exact Ka) ?_;intro X F G O))
    have a:=hid Af.lt;have I:w.heap.size<s.heap.size:=(qX E);have D:=hid ((F.block w.heap.size I).trans E);have B:=hid (M.trans (F.mono (YV I)));have C:=hid (A0.keep B);have L:w.heap.size<X.heap.size:=qL I F.size;have R:s.heap.size<X.heap.size:=(qX G);obtain⟨zr,H⟩:=Xy w.heap.size;obtain⟨zd,P⟩:=Xy s.heap.size;rw[H] at D L ⊢;rw[P] at G R ⊢;have A2:=hid H;clear I H P N O E
    go_upto_region 3 with (first
      |(with_reducible refine k8 ?_
        refine k7 yk (kg 41 _ rfl (p:=⟨zr,0,none⟩) rfl (qV _ _ _ _ (idV r.1) _ (fun j u W=>by rw[qZ];exact(k6 D j).trans ((kK J).1 j u W)) underlying41 rfl z.out)) ?_)
      |(with_reducible refine kL ?_
        refine k7 yk (kp 41 #[] rfl (ZB _)) ?_)
      |(with_reducible refine kU ?_
        refine k7 yk (jV 41 _ _ _ rfl (xs:=(idV r.1).toArray) (ys:=(idV k9).toArray) rfl rfl (r:=true) eqId.noGuard (EQ _)) ?_;go_frame;try simp only[nTF]))
    have A3:=Wg.cell (show X.cell? ⟨zr,32,none⟩=some (.int .i64 r.2) from (k6 D 32).trans (kK J).2) L;obtain⟨Ad,cd,vm,y,h2,h3⟩:=C.out;have cm:=Wg.cell (k6 y 1) C.lt;obtain⟨Am,Y,rfl⟩:∃Am Y,vm=.slice Am mk.length Y:=kM h3;clear y h2 h3;refine jk yq yq ?_
    repeat (first|go_big_quiet_skip|(go_big_quiet_want;go_big_quiet_op;go_big_quiet_on))
    refine wpQuiet_nil ?_;rintro w' ⟨v,rfl⟩;have T:=v.2;generalize v.val=w5 at *;clear v;have U:=hid (B.trans (T.below.mono B.size));clear A3 cm T;go_wp2_with fail;go_ret;exact⟨U,by rw[Q.out];rfl⟩
   ·obtain⟨i,hi⟩:∃i:Nat,r.2=(i:Int):=⟨r.2.toNat,by omega⟩;have Au:i+m≤mk.length:=yv;have Ac:=hid (elems_all deps mk r d i m Aj hi Au);have d1:decide ((i:Int)<0)=false:=dF yv;have d2:decide ((mk.length:Int)<(m:Int))=false:=dF yv;have Ar:decide (mk.length<m)=false:=dF yv;have d4:IntKind.i64.wrap ((mk.length:Int) - (m:Int))=(mk.length:Int) - (m:Int):=IntWalk.i64_in _ ⟨by omega,by omega⟩;have d3:decide ((mk.length:Int) - (m:Int)<(i:Int))=false:=dF yv;have e5:IntKind.i64.wrap ((i:Int)+(m:Int))=(i:Int)+(m:Int):=IntWalk.i64_in _ ⟨by omega,by omega⟩;have HI:=hid hi;clear q q2 q3 hi;go_enter func251,ntmps251
    go_upto_region 1 with (first
      |(with_reducible refine kG ?_
        refine kz yk 110 _ rfl (kw r) _ rfl rfl (by rw[kq J.out];exact Ka) ?_;intro s M E N)
      |(with_reducible refine kG ?_
        refine kz yk 110 _ rfl (kw d) _ rfl rfl (by rw[kq Z.out];exact Ka) ?_;intro X F G O))
    have a:=hid Af.lt;have I:w.heap.size<s.heap.size:=(qX E);have D:=hid ((F.block w.heap.size I).trans E);have B:=hid (M.trans (F.mono (YV I)));have C:=hid (A0.keep B);have L:w.heap.size<X.heap.size:=qL I F.size;have R:s.heap.size<X.heap.size:=(qX G);obtain⟨zr,H⟩:=Xy w.heap.size;obtain⟨zd,P⟩:=Xy s.heap.size;rw[H] at D L ⊢;rw[P] at G R ⊢;have A2:=hid H;clear I H P N O E
    go_upto_region 3 with (first
      |(with_reducible refine k8 ?_
        refine k7 yk (kg 41 _ rfl (p:=⟨zr,0,none⟩) rfl (qV _ _ _ _ (idV r.1) _ (fun j u W=>by rw[qZ];exact(k6 D j).trans ((kK J).1 j u W)) underlying41 rfl z.out)) ?_)
      |(with_reducible refine kL ?_
        refine k7 yk (kp 41 #[] rfl (ZB _)) ?_)
      |(with_reducible refine kU ?_
        refine k7 yk (jV 41 _ _ _ rfl (xs:=(idV r.1).toArray) (ys:=(idV k9).toArray) rfl rfl (r:=true) eqId.noGuard (EQ _)) ?_;go_frame;try simp only[nTF]))
    have A3:=Wg.cell (show X.cell? ⟨zr,32,none⟩=some (.int .i64 (i:Int)) from (k6 D 32).trans ((kK J).2.trans (by rw[HI.out]))) L;obtain⟨Ad,cd,vm,y,h2,h3⟩:=C.out;have cm:=Wg.cell (k6 y 1) C.lt;obtain⟨gm,Y,rfl,-⟩:=QH h3 yv;have Az:mk.length≤Y:=by
      rcases h3.2 with⟨h0,_⟩|⟨g',AA,AB,h0,_,_,AC,_⟩
      ·cases h0
      ·injection h0 with _ _ h0;omega
    have Av:=(h3.lt gm rfl).2
    have Ak:=hid (fun (k:Nat) (hk:k<mk.length) (j:Nat) (u:Value) (W:(j9 mk[k])[j]?=some u)=>(show X.cell? ⟨gm,k*34+j,none⟩=some u from
      (h3.cellAt (k*34+j) (by have h9:=(yJ.1 W).1;rw[jI (HM _ (yQ hk))] at h9;omega)).trans (K9 (fun m h=>jI (HM m h)) k hk j u W)))
    have Ag:Hid (sliced (some ⟨gm,0,none⟩) i (i+m) Y 34=.slice (some ⟨gm,i*34,none⟩) m (Y - i)):=hid (by
      unfold sliced;rw[if_neg yv,Nat.add_sub_cancel_left];have e1:(⟨gm,0,none⟩:Addr).add (i*34)=⟨gm,i*34,none⟩:=by unfold Addr.add;split<;>simp_all
      rw[Option.map_some,e1])
    have Al:=hid (k6 y 1);clear y h2 h3;refine jk yq yq ?_
    repeat (first|go_big_quiet_skip|(go_big_quiet_want;go_big_quiet_op;go_big_quiet_on))
    refine wpQuiet_nil ?_;rintro w' ⟨v,rfl⟩;have T:=v.2;generalize v.val=w5 at *;clear v;clear A3 cm
    go_upto_region 5 with fail
    have A3:=Wg.cell ((T.below.cell (p:=⟨zr,32,none⟩) L).trans ((k6 D 32).trans ((kK J).2.trans (by rw[HI.out])))) (qL L T.below.size);have cm:=Wg.cell ((T.below.cell (p:=⟨g,1,none⟩) C.lt).trans Al) (qL C.lt T.below.size);refine jk yq yq ?_
    repeat (first
      |go_big_quiet_skip
      |(go_big_quiet_want
        first
           |(refine kP (fun w' AD=>ex_slice_lh 347 _ _ _ rfl (A:=some ⟨gm,0,none⟩) (n:=mk.length) (c:=Y) (l:=i) (h:=i+m) rfl rfl (by first|rfl|(exact congrArg (Value.int .i64) yv)) underlying347 Ut yv yv Ag.out) ?_
             go_big_quiet_on
             go_frame)
           |(go_big_quiet_op
             first
                |go_big_quiet_on
                |go_big_quiet_call (first|(fail)))))
    refine wpQuiet_nil ?_;rintro w' ⟨v,rfl⟩;have As:=v.2;generalize v.val=w6 at *;clear v;have U:=hid (T.below.trans (As.below.mono T.below.size));clear A3 cm T As;go_wp2_with fail
    go_loopw [54] (fun t wr=>∃j:Nat,j≤m∧t=.int .i64 (j:Int)∧Hid (Below X.heap.size X wr)∧Hid (∀q (h:i+q<mk.length),q<j→okM d mk[i+q]=true)) (fun t _=>m - (intOf t).toNat)
    case atStart=>exact⟨0,YX _,rfl,U,hid (fun q _ h=>absurd h yv)⟩
    case round=>
      obtain⟨j,W,rfl,S,A4⟩:=hrel;by_cases hjm:j<m
      ·have j0:(0:Int)≤(j:Int):=yv;have j1:(j:Int)<(m:Int):=yv;have Ap:i+j<mk.length:=yv;have A5:=hid (fun (jj:Nat) (u:Value) (h:(j9 mk[i+j])[jj]?=some u)=>(show wr.cell? ⟨gm,i*34+j*34+jj,none⟩=some u from by
         rw[show i*34+j*34+jj=(i+j)*34+jj by rw[Nat.add_mul]];exact(S.cell (p:=⟨gm,(i+j)*34+jj,none⟩) Av).trans (Ak (i+j) Ap jj u h)))
       have K:=hid (show zz mk[i+j].2 from HM _ (yQ Ap));have An:=hid (fun (h:okM d mk[i+j]=true) (q:Nat) (hq:i+q<mk.length) (hqj:q<j+1)=>(show okM d mk[i+q]=true by
         rcases (by omega:q<j∨q=j) with y|y
         ·exact A4.out q hq y
         ·subst y;exact h))
       have Ae:=hid (fun (h:okM d mk[i+j]=false)=>(show jD deps mk r d (m:Int)=false by
         rw[Ac.out,Bool.eq_false_iff];intro h2;have h3:=List.all_eq_true.1 h2 mk[i+j] (by
           have h4:((mk.drop i).take m)[j]?=some mk[i+j]:=by
             rw[List.getElem?_take_of_lt hjm,List.getElem?_drop,yK Ap]
           exact List.mem_of_getElem? h4)
         rw[h] at h3;cases h3))
       generalize mk[i+j]=x at *;cases hx1:x.1
       ·go_upto_region 8 with (first
          |(with_reducible refine k8 ?_
            refine kZ rfl 373 _ rfl gm _ rfl (j9 x) _ A5.out underlying373 rfl (by rw[jI K.out];exact Ut) ?_)
          |(with_reducible refine kF ?_
            refine kv yk 373 rfl (j9 (false,ko)) (QM _) ?_;intro W6 A6 A7 A8)
          |(with_reducible refine kD ?_
            refine kr yk 373 _ _ rfl wr.heap.size 0 [] (j9 (false,ko)) [] (j9 x) 373 _ rfl rfl rfl rfl (by simpa using A7.out) (by rw[jI K.out];rfl) (by rw[jI K.out];exact Ut) (vv _) ?_;intro W7 A9 Aq Aw;have A1:Hid (W7.heap[wr.heap.size]?=some (.cells (j9 x).toArray 373 (0,0))):=hid (by simpa using Aq.out)))
        have V:Hid (Below wr.heap.size wr W7):=hid (A6.trans (A9.below (by have:=A8.out;omega) (fun k hk e=>by omega)));have x0:W7.cell? ⟨wr.heap.size,0,none⟩=some (.bool x.1):=k6 A1.out 0;have Aa:=hid (show W7.rangeAt wr.heap.size 1 (kw x.2) from fun j u W=>(k6 A1 (1+j)).trans (by rw[Nat.add_comm];exact W));have Ab:=hid (show W7.rangeAt zd 0 (kw d) from fun j u W=>by rw[qZ];exact((V.cell (p:=⟨zd,j,none⟩) (qL R S.size)).trans ((S.cell (p:=⟨zd,j,none⟩) R).trans (k6 G j))).trans W);have o:=hid (Xx S.out V.out);rw[hx1] at x0;by_cases hx2:x.2=d
        ·have EX:=hid (fun (u:World)=>(jU K Z u).trans (by rw[dT hx2]));have Ah:=hid (An (by unfold okM;rw[hx1,dT hx2];rfl));clear hx2
         go_wp2_with (first
           |(with_reducible refine k8 ?_
             refine k7 yk (ldR K Aa) ?_)
           |(with_reducible refine k8 ?_
             refine k7 yk (ldR Z Ab) ?_)
           |(with_reducible refine kU ?_
             refine k7 yk (jV 110 _ _ _ rfl (xs:=(kw x.2).toArray) (ys:=(kw d).toArray) rfl rfl (r:=true) eqRef.noGuard (EX _)) ?_))
         go_roundw
         case rel=>exact⟨j+1,by omega,by go_num,o,Ah⟩
         case measure=>exact Xz
        ·have EX:=hid (fun (u:World)=>(jU K Z u).trans (by rw[dF hx2]));have Q:=hid (Ae (by unfold okM;rw[dF hx2,Bool.and_false]));clear hx2
         go_wp2_with (first
           |(with_reducible refine k8 ?_
             refine k7 yk (ldR K Aa) ?_)
           |(with_reducible refine k8 ?_
             refine k7 yk (ldR Z Ab) ?_)
           |(with_reducible refine kU ?_
             refine k7 yk (jV 110 _ _ _ rfl (xs:=(kw x.2).toArray) (ys:=(kw d).toArray) rfl rfl (r:=false) eqRef.noGuard (EX _)) ?_))
         go_ret;exact⟨B.trans (o.mono B.size),by rw[Q.out];rfl⟩
       ·have Q:=hid (Ae (by unfold okM;rw[hx1];rfl))
        go_upto_region 8 with (first
          |(with_reducible refine k8 ?_
            refine kZ rfl 373 _ rfl gm _ rfl (j9 x) _ A5.out underlying373 rfl (by rw[jI K.out];exact Ut) ?_)
          |(with_reducible refine kF ?_
            refine kv yk 373 rfl (j9 (false,ko)) (QM _) ?_;intro W6 A6 A7 A8)
          |(with_reducible refine kD ?_
            refine kr yk 373 _ _ rfl wr.heap.size 0 [] (j9 (false,ko)) [] (j9 x) 373 _ rfl rfl rfl rfl (by simpa using A7.out) (by rw[jI K.out];rfl) (by rw[jI K.out];exact Ut) (vv _) ?_;intro W7 A9 Aq Aw;have A1:Hid (W7.heap[wr.heap.size]?=some (.cells (j9 x).toArray 373 (0,0))):=hid (by simpa using Aq.out)))
        have V:Hid (Below wr.heap.size wr W7):=hid (A6.trans (A9.below (by have:=A8.out;omega) (fun k hk e=>by omega)));have x0:W7.cell? ⟨wr.heap.size,0,none⟩=some (.bool x.1):=k6 A1.out 0;have Aa:=hid (show W7.rangeAt wr.heap.size 1 (kw x.2) from fun j u W=>(k6 A1 (1+j)).trans (by rw[Nat.add_comm];exact W));have Ab:=hid (show W7.rangeAt zd 0 (kw d) from fun j u W=>by rw[qZ];exact((V.cell (p:=⟨zd,j,none⟩) (qL R S.size)).trans ((S.cell (p:=⟨zd,j,none⟩) R).trans (k6 G j))).trans W);have o:=hid (Xx S.out V.out);rw[hx1] at x0;go_wp2_with fail;go_ret;exact⟨B.trans (o.mono B.size),by rw[Q.out];rfl⟩
      ·have j1:¬(j:Int)<(m:Int):=yv;have Ax:j=m:=yv;have Q:Hid (jD deps mk r d (m:Int)=true):=hid (by
         rw[Ac.out,List.all_eq_true];intro q hq;obtain⟨n,hn,rfl⟩:=List.getElem_of_mem hq;have AE:n<m:=by rw[Yj] at hn;omega
         have y:=A4.out n yv yv;rw[List.getElem_take,List.getElem_drop];exact y)
       clear Ax;go_wp2_with fail;go_ret;exact⟨B.trans (S.mono B.size),by rw[Q.out];rfl⟩
  ·have EQ:=hid (fun (u:World)=>(Ai u).trans (by rw[dF hz]));have Q:Hid (jD deps mk r d (m:Int)=zC deps r):=hid (by unfold jD;rw[if_pos hz]);clear Ao Ai hz hr hd hk ho hmk;go_enter func251,ntmps251
   go_upto_region 1 with (first
     |(with_reducible refine kG ?_
       refine kz yk 110 _ rfl (kw r) _ rfl rfl (by rw[kq J.out];exact Ka) ?_;intro s M E N)
     |(with_reducible refine kG ?_
       refine kz yk 110 _ rfl (kw d) _ rfl rfl (by rw[kq Z.out];exact Ka) ?_;intro X F G O))
   have a:=hid Af.lt;have I:w.heap.size<s.heap.size:=(qX E);have D:=hid ((F.block w.heap.size I).trans E);have B:=hid (M.trans (F.mono (YV I)));have C:=hid (A0.keep B);have L:w.heap.size<X.heap.size:=qL I F.size;have R:s.heap.size<X.heap.size:=(qX G);obtain⟨zr,H⟩:=Xy w.heap.size;obtain⟨zd,P⟩:=Xy s.heap.size;rw[H] at D L ⊢;rw[P] at G R ⊢;have A2:=hid H;clear I H P N O E
   go_wp2_with (first
     |(with_reducible refine k8 ?_
       refine k7 yk (kg 41 _ rfl (p:=⟨zr,0,none⟩) rfl (qV _ _ _ _ (idV r.1) _ (fun j u W=>by rw[qZ];exact(k6 D j).trans ((kK J).1 j u W)) underlying41 rfl z.out)) ?_)
     |(with_reducible refine kL ?_
       refine k7 yk (kp 41 #[] rfl (ZB _)) ?_)
     |(with_reducible refine kU ?_
       refine k7 yk (jV 41 _ _ _ rfl (xs:=(idV r.1).toArray) (ys:=(idV k9).toArray) rfl rfl (r:=false) eqId.noGuard (EQ _)) ?_;go_frame;try simp only[nTF])
     |(with_reducible refine k8 ?_
       refine k7 yk (ldR (b:=zr) (f:=0) (r:=r) J (fun j u W=>by rw[qZ];exact(k6 D j).trans W)) ?_)
     |(go_at_call 275;refine(foreign_any g deps mk r X C HO hn J).mono ?_;rintro e w2 ⟨Ay,rfl⟩))
   go_ret;exact⟨B.trans (Ay.mono B.size),by rw[Q.out];rfl⟩
end
section
open Go.RowKit Go.Maps
def CkX(w:World)(g k:Nat):Prop:=k=g∨∃d v T z,w.heap[g]?=some (.cells #[d,v] T z)∧v.ownBlock=some k
def CkGo(g:Nat)(w w':World):Prop:=But (CkX w g) w w'∧∀i,i<w.heap.size→CkX w' g i→CkX w g i
section
variable {g:Nat} {deps:List (List UInt8)} {mk new:List jL} {w w' w1 w2:World}
theorem CkX.at_{d v:Value}{T:TypeId}{z:Nat×Nat}(h:w.heap[g]?=some (.cells #[d,v] T z)){k:Nat}(hx:CkX w g k):k=g∨v.ownBlock=some k:=by
  rcases hx with q|⟨B,C,D,E,A,q⟩
  ·exact .inl q
  ·rw[h] at A;injection A with A;injection A with A _ _;injection A with A;injection A with _ A;injection A with A _;subst A;exact .inr q
theorem CkAt.low(h:CkAt w g deps mk){k:Nat}(hk:k<g):¬CkX w g k:=by
  obtain⟨Ad,D,v,A,_,B⟩:=h;intro C;rcases C.at_ A with q|q
  ·omega
  ·have:=(B.lt k q).1;omega
theorem CkAt.newNot(h:CkAt w g deps mk)(hb:Below w.heap.size w w'){k:Nat}(hk:w.heap.size≤k):¬CkX w' g k:=by
  have A:=h.lt;obtain⟨Ad,E,v,B,_,C⟩:=h;intro D;rcases D.at_ ((hb.block g A).trans B) with q|q
  ·omega
  ·have:=(C.lt k q).2;omega
theorem CkGo.refl(g:Nat)(w:World):CkGo g w w:=⟨But.refl _ _,fun _ _ h=>h⟩
theorem CkGo.trans(h:CkGo g w w1)(k:CkGo g w1 w2):CkGo g w w2:=
  ⟨h.1.trans k.1 fun i A B=>h.2 i A B,fun i A B=>h.2 i A (k.2 i (Nat.lt_of_lt_of_le A h.1.size) B)⟩
theorem CkGo.below(hg:g<w.heap.size)(h:Below w.heap.size w w'):CkGo g w w':=
  ⟨But.of_below h,fun i C A=>by
    rcases A with q|⟨d,v,T,z,B,q⟩
    ·exact .inl q
    ·exact .inr ⟨d,v,T,z,(h.block g hg).symm.trans B,q⟩⟩
theorem CkGo.cell(h:CkGo g w w'){k j:Nat}(hk:k<w.heap.size)(hx:¬CkX w g k):w'.cell? ⟨k,j,none⟩=w.cell? ⟨k,j,none⟩:=h.1.cell hk hx
theorem CkGo.not(h:CkGo g w w'){k:Nat}(hk:k<w.heap.size)(hx:¬CkX w g k):¬CkX w' g k:=fun q=>hx (h.2 k hk q)
theorem CkGo.belowG(h:CkGo g w w')(hw:CkAt w g deps mk):Below g w w':=h.1.below (YV hw.lt) fun k A=>hw.low A
theorem CkAt.put{v':Value}{Ad:Option Addr}{cd:Nat}{v:Value}(h1:w.heap[g]?=some (.cells #[.slice Ad deps.length cd,v] 349 (0,0)))(hs:Sl w g Ad deps.length 32 (zB deps))(h2:w.ownsRow (g+1) 373 34 v mk.length (kf j9 mk))(hb:Below w.heap.size w w1)
    (ho:w2.ownsRow (g+1) 373 34 v' (mk.length+new.length) (kf j9 mk++kf j9 new)) (hg:w1.grownBy w2 v.ownBlock) (hw:Where w1.heap.size v v'):
    w2.cell? ⟨g,1,none⟩=some v∧w2.frozen? ⟨g,1,none⟩=false∧CkAt (w2.setCell ⟨g,1,none⟩ v') g deps (mk++new)∧CkGo g w (w2.setCell ⟨g,1,none⟩ v'):=by
  have A:=(Array.getElem?_eq_some_iff.1 h1).1;have F:=Nat.lt_of_lt_of_le A hb.size;have J:v.ownBlock≠some g:=fun e=>by have:=(h2.lt g e).1;omega
  have G:v'.ownBlock≠some g:=fun e=>by have:=(ho.lt g e).1;omega
  have B:w2.heap[g]?=some (.cells #[.slice Ad deps.length cd,v] 349 (0,0)):=((hg.block g F (fun e=>J e.symm)).trans (hb.block g A)).trans h1;have C:(w2.setCell ⟨g,1,none⟩ v').heap[g]?=some (.cells #[.slice Ad deps.length cd,v'] 349 (0,0)):=by
    simp [World.setCell,Array.getElem?_modify,B]
  have H:But (fun k=>k=g) w2 (w2.setCell ⟨g,1,none⟩ v'):=But.setCell (X:=fun k=>k=g) (But.refl _ _) (p:=⟨g,1,none⟩) (fun _=>rfl) v';have D:But (CkX w g) w (w2.setCell ⟨g,1,none⟩ v'):=But.setCell (But.grown (But.of_below hb) hg fun k E _=>.inr ⟨_,v,_,_,h1,E⟩) (fun _=>.inl rfl) v';refine⟨k6 (cs:=[.slice Ad deps.length cd,v]) B 1,by simp [World.frozen?,B],⟨Ad,cd,v',C,?_,?_⟩,D,?_⟩
  ·refine D.sl hs (YV A) fun k E I=>?_
   rcases I.at_ h1 with q|q
   ·omega
   ·have:=(h2.lt k q).1;omega
  ·have:=H.own ho fun k E e=>G (by rw[E,e])
   rw[yV,vu];exact this
  ·intro i K I;rcases I.at_ C with q|q
   ·exact .inl q
   ·rcases hw with e|⟨k,e,E⟩
    ·exact .inr ⟨_,v,_,_,h1,by rw[←e];exact q⟩
    ·rw[e] at q;injection q with q;have:=hb.size;omega
end
theorem Uu:(prog.info? 373).map (fun i=>(i.zero,i.size,i.bytes))=some (some (.agg (j9 (false,ko)).toArray),34,48):=yq
theorem madeDoc_built(w:World):(Instr.build 373 #[(0,.bool true)]).run prog w=.ok (.agg (j9 (true,ko)).toArray) w:=yq
structure InsJ (g:Nat) (deps:List (List UInt8)) (mk:List jL) (d:zy) (t:ByteArray) (zx zi:Nat) (pos i:Nat) (w:World):Prop where
  ck:CkAt w g deps (mk++List.replicate i (false,d))
  it:w.heap[zi]?=some (.stringIter t pos)
  low:g<zi
  lx:zx<w.heap.size
  nx:¬CkX w g zx
  ni:¬CkX w g zi
  doc:w.rangeAt zx 1 (kw d)
  nxi:zx≠zi
section
variable {g:Nat} {deps:List (List UInt8)} {mk:List jL} {d:zy} {t:ByteArray} {zx zi pos i:Nat} {w w1 w2:World}
theorem InsJ.li(h:InsJ g deps mk d t zx zi pos i w):zi<w.heap.size:=(qX h.it)
theorem InsJ.iter(h:InsJ g deps mk d t zx zi pos i w)(pos':Nat):InsJ g deps mk d t zx zi pos' i (w.iterAt zi t pos'):=by
  have A:=h.low;have C:(w.iterAt zi t pos').heap[g]?=w.heap[g]?:=Lib.iterAt_other w zi g t pos' yv;have D:∀k,CkX (w.iterAt zi t pos') g k→CkX w g k:=fun k q=>q.elim .inl fun⟨a,v,T,z,B,q⟩=>.inr ⟨a,v,T,z,C▸B,q⟩
  obtain⟨Ad,E,F,B,G,H⟩:=h.ck;refine⟨⟨Ad,E,F,C.trans B,G.keep (Lib.below_iterAt (qB _ _) (YV A) t pos'),qP H h.it pos'⟩,Lib.iterAt_heap w zi t pos pos' h.it,A,by rw[Lib.iterAt_size];exact h.lx,fun q=>h.nx (D _ q),fun q=>h.ni (D _ q),fun j u I=>?_,h.nxi⟩;rw[←h.doc j u I];unfold World.cell?;simp only[Lib.iterAt_other w zi zx t pos' h.nxi]
theorem InsJ.put{v':Value}{Ad:Option Addr}{cd:Nat}{v:Value}(h:InsJ g deps mk d t zx zi pos i w)(h1:w.heap[g]?=some (.cells #[.slice Ad deps.length cd,v] 349 (0,0)))(hs:Sl w g Ad deps.length 32 (zB deps))(h2:w.ownsRow (g+1) 373 34 v (mk++List.replicate i (false,d)).length (kf j9 (mk++List.replicate i (false,d))))(hb:Below w.heap.size w w1)
    (ho:w2.ownsRow (g+1) 373 34 v' ((mk++List.replicate i (false,d)).length+1) (kf j9 (mk++List.replicate i (false,d))++j9 (false,d))) (hg:w1.grownBy w2 v.ownBlock) (hw:Where w1.heap.size v v'):
    (w2.cell? ⟨g,1,none⟩=some v∧w2.rangeAt zx 1 (kw d))∧w2.frozen? ⟨g,1,none⟩=false∧InsJ g deps mk d t zx zi pos (i+1) (w2.setCell ⟨g,1,none⟩ v')∧CkGo g w (w2.setCell ⟨g,1,none⟩ v'):=by
  obtain⟨F,G,H,A⟩:=CkAt.put (new:=[(false,d)]) h1 hs h2 hb (by rw[show kf j9 [((false,d):jL)]=j9 (false,d) by simp [kf]];exact ho) hg hw;have C:v.ownBlock≠some zx:=fun e=>h.nx (.inr ⟨_,v,_,_,h1,e⟩)
  have D:w2.heap[zx]?=w.heap[zx]?:=(hg.block zx (qL h.lx hb.size) (fun e=>C e.symm)).trans (hb.block zx h.lx);have E:w2.rangeAt zx 1 (kw d):=fun j u B=>by
    rw[←h.doc j u B];unfold World.cell?;simp only[D]
  refine⟨⟨F,E⟩,G,⟨?_,(A.1.block zi h.li h.ni).trans h.it,h.low,qL h.lx A.1.size,A.not h.lx h.nx,A.not h.li h.ni,fun j u B=>(A.cell h.lx h.nx).trans (h.doc j u B),h.nxi⟩,A⟩;rw[List.replicate_succ',←Yz];exact H
end
theorem made_built{d:zy}(hd:zz d)(w:World):(Instr.build 373 #[(1,.agg (kw d).toArray)]).run prog w=.ok (.agg (j9 (false,d)).toArray) w:=by
  obtain⟨i,B,C,_,_⟩:=info_parts Uu;have E:(kw ko).length=33:=rfl;have h:=zl (P:=prog) B underlying373 C [[.bool false],kw ko] rfl (places:=[(0,1),(1,33)]) yq yq [(1,.agg (kw d).toArray)] (by
    intro q A;simp only[xK,YY,or_false] at A;subst A;exact⟨by show 1<2;omega,by show (kw d).toArray.size=33;rw[xz,kq hd]⟩)
  have D:=run_build (P:=prog) w 373 #[(1,.agg (kw d).toArray)] _ h;refine D.trans ?_;simp [j9,Value.cells]
end
end Go.Proofs.YtdgbjhfkmembdaaGreatDoor