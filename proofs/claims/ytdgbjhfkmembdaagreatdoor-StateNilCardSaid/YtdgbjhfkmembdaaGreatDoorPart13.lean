/-
  Plain facts, and contracts of the functions that the claim's walk comes to, one behind the other. Conditions: as each says.
-/
import Derived.Test.YtdgbjhfkmembdaaGreatDoorPart4
import Derived.Test.YtdgbjhfkmembdaaGreatDoorPart6
import Derived.Test.YtdgbjhfkmembdaaGreatDoorPart7
import Derived.Test.YtdgbjhfkmembdaaGreatDoorPart12
import Derived.Test.YtdgbjhfkmembdaaGreatDoorPart10
import Derived.Test.YtdgbjhfkmembdaaGreatDoorPart5
import Derived.Test.YtdgbjhfkmembdaaGreatDoorPart8
import Derived.Test.YtdgbjhfkmembdaaGreatDoorPart11
set_option linter.unusedVariables false
set_option linter.unusedSimpArgs false
set_option maxHeartbeats 4000000
set_option maxRecDepth 100000
open Go.Proofs.Tryz
namespace Go.Proofs.YtdgbjhfkmembdaaGreatDoor
open Lib (hid)
section
open Go.RowKit Go.Maps
theorem JU:(prog.info? 110).map (·.size)=some 33:=by kernel_rfl
theorem uY(deps:List (List UInt8))(r:zC)(A:Option Addr)(c:Nat)(w:World)(hn:deps.length≤1099511627776)(ho:IdsOk deps)(hr:za r)(hset:je deps=true)(hs:Sl w w.heap.size A deps.length 32 (zf deps)):
    Calls prog 276 #[.slice A deps.length c,.agg (kn r).toArray] w fun e w'=>Below w.heap.size w w'∧e=.returned (.bool (zH deps r)):=by
  obtain⟨I,H⟩:=r;have U:=hid ho;have V:=hid hs;have C:=hid hr
  have L:=hid (show zH deps (I,H)=(decide (I∈deps) && decide (0≤H) && decide (H≤2147483647)) by unfold zH;rw[hset,Bool.true_and]);clear ho hs hr hset;obtain⟨m,Z⟩:∃m,decide (I∈deps)=m:=⟨_,rfl⟩;have F:=hid Z;clear Z;go_enter func276,ntmps276
  go_upto_region 1 with (first
    |(with_reducible refine kB ?_
      refine kr yx 110 _ rfl (kn (I,H)) _ rfl rfl (by rw[kq C.out];exact JU) ?_;intro O S T a;have B:=hid S;have G:=hid T
      clear S T a))
  obtain⟨z,b⟩:∃z,w.heap.size=z:=⟨_,rfl⟩;rw[b] at G ⊢;have Q:=hid (show z<O.heap.size from (qX G.out))
  try go_frame
  clear b;have J:=hid (show O.rangeAt z 0 (idV I) from fun j u W=>by rw[qZ];exact(k4 G.out j).trans ((kL C.out).1 j u W));have Y:=hid (show O.rangeAt z 0 (kn (I,H)) from fun j u W=>by rw[qZ];exact(k4 G.out j).trans W);have N:O.cell? ⟨z,32,none⟩=some (.int .i64 H):=(k4 G.out 32).trans (kL C.out).2;have M:=hid ((refIn_any deps I A c O hn U.out C.1 ((V.keep B.out).more B.size)));cases m
  ·go_wp2_with (first
     |(refine k5 yx (kc 41 _ rfl (p:=⟨z,0,none⟩) rfl (qV _ _ _ _ (idV I) _ J.out underlying41 rfl (by rw[kf,show I.length=32 from C.1];exact js))) ?_)
     |(go_at_call 30;refine M.mono ?_;rintro e P ⟨E,rfl⟩;rw[F.out];have D:=hid (B.trans (E.mono B.size));clear E))
   go_ret;exact⟨D.out,by rw[L.out,F.out];rfl⟩
  ·have K:=hid (fun (u:World) (hu:Below O.heap.size O u)=>(show u.cell? ⟨z,32,none⟩=some (.int .i64 H) from (hu.cell (p:=⟨z,32,none⟩) Q.out).trans N));clear N;rcases (by omega:H<0∨(0≤H∧2147483647<H)∨(0≤H∧H≤2147483647)) with q|⟨q,d⟩|⟨q,d⟩
   ·have R:decide ((0:Int)≤H)=false:=by simp;omega
    go_wp2_with (first
      |(refine k5 yx (kc 41 _ rfl (p:=⟨z,0,none⟩) rfl (qV _ _ _ _ (idV I) _ J.out underlying41 rfl (by rw[kf,show I.length=32 from C.1];exact js))) ?_)
      |(go_at_call 30;refine M.mono ?_;rintro e P ⟨E,rfl⟩;rw[F.out];have N:=K.out P E;have D:=hid (B.trans (E.mono B.size));clear E))
    go_ret;exact⟨D.out,by rw[L.out,F.out];simp only[R,Bool.and_true,Bool.and_false,Bool.true_and];try rfl⟩
   ·have R:decide ((0:Int)≤H)=true:=by simp;omega
    have X:decide (H≤2147483647)=false:=by simp;omega
    go_wp2_with (first
      |(refine k5 yx (kc 41 _ rfl (p:=⟨z,0,none⟩) rfl (qV _ _ _ _ (idV I) _ J.out underlying41 rfl (by rw[kf,show I.length=32 from C.1];exact js))) ?_)
      |(go_at_call 30;refine M.mono ?_;rintro e P ⟨E,rfl⟩;rw[F.out];have N:=K.out P E;have D:=hid (B.trans (E.mono B.size));clear E))
    go_ret;exact⟨D.out,by rw[L.out,F.out];simp only[R,X,Bool.and_true,Bool.and_false,Bool.true_and];try rfl⟩
   ·have R:decide ((0:Int)≤H)=true:=by simp;omega
    have X:decide (H≤2147483647)=true:=by simp;omega
    go_wp2_with (first
      |(refine k5 yx (kc 41 _ rfl (p:=⟨z,0,none⟩) rfl (qV _ _ _ _ (idV I) _ J.out underlying41 rfl (by rw[kf,show I.length=32 from C.1];exact js))) ?_)
      |(go_at_call 30;refine M.mono ?_;rintro e P ⟨E,rfl⟩;rw[F.out];have N:=K.out P E;have D:=hid (B.trans (E.mono B.size));clear E))
    go_ret;exact⟨D.out,by rw[L.out,F.out];simp only[R,X,Bool.and_true,Bool.and_false,Bool.true_and];try rfl⟩
theorem jG(deps:List (List UInt8))(mk:List jQ)(r:zC)(A:Option Addr)(c:Nat)(Am:Option Addr)(cm:Nat)(w:World)(hn:deps.length≤1099511627776)(hmn:mk.length≤1099511627776)(ho:IdsOk deps)(hm:∀m∈mk,vM m)(hr:za r)(hset:je deps=true)(hs:Sl w w.heap.size A deps.length 32 (zf deps))(hsm:Sl w w.heap.size Am mk.length 34 (ke kU mk)):
    Calls prog 261 #[.slice A deps.length c,.slice Am mk.length cm,.agg (kn r).toArray] w fun e w'=>Below w.heap.size w w'∧e=.returned (.bool (JJ deps mk r)):=by
  obtain⟨E,G⟩:=r;have d:=hid ho;have f:=hid hs;have C:=hid hr;have Q:=hid hsm;have g:=hid hm
  clear ho hs hr hsm hm;by_cases F:E=k7
  ·have T:Hid (∀u:World,(Op.equalIn 10000 41 (.agg (idV E).toArray) (.agg (idV k7).toArray)).run prog u=.ok true u):=hid (fun u=>(zY C.1 jL u).trans (by rw[dT F]));have M:=hid (show JJ deps mk (E,G)=(decide (0≤G) && decide (G<mk.length) && (mk.getD G.toNat (false,kg)).1) by unfold JJ;rw[if_neg (by simp [F])]);clear F;rcases (by omega:G<0∨(0≤G∧(mk.length:Int)≤G)∨(0≤G∧G<mk.length)) with q|⟨q,o⟩|⟨q,o⟩
   ·have U:decide ((0:Int)≤G)=false:=by simp;omega
    go_enter func261,ntmps261
    go_upto_region 1 with (first
      |(with_reducible refine kB ?_
        refine kr yx 110 _ rfl (kn (E,G)) _ rfl rfl (by rw[kq C.out];exact JU) ?_;intro I J F O;have D:=hid J;have B:=hid F
        clear J F O))
    obtain⟨z,P⟩:∃z,w.heap.size=z:=⟨_,rfl⟩;rw[P] at B ⊢;have N:=hid (show z<I.heap.size from (qX B.out))
    try go_frame
    clear P;have H:=hid (show I.rangeAt z 0 (idV E) from fun j u K=>by rw[qZ];exact(k4 B.out j).trans ((kL C.out).1 j u K));have L:=hid (show I.rangeAt z 0 (kn (E,G)) from fun j u K=>by rw[qZ];exact(k4 B.out j).trans K);have V:I.cell? ⟨z,32,none⟩=some (.int .i64 G):=(k4 B.out 32).trans (kL C.out).2
    go_wp2_with (first
      |(refine k5 yx (kc 41 _ rfl (p:=⟨z,0,none⟩) rfl (qV _ _ _ _ (idV E) _ H.out underlying41 rfl (by rw[kf,show E.length=32 from C.1];exact js))) ?_)
      |(refine k5 yx (kj 41 #[] rfl (zu _)) ?_)
      |(refine k5 yx (jb 41 _ _ _ rfl (xs:=(idV E).toArray) (ys:=(idV k7).toArray) rfl rfl (r:=true) eqId.noGuard (T.out _)) ?_;go_frame;try simp only[nTF]))
    go_ret;exact⟨D.out,by rw[M.out];simp only[U,Bool.false_and];rfl⟩
   ·have U:decide ((0:Int)≤G)=true:=by simp;omega
    have l:decide (G<(mk.length:Int))=false:=by simp;omega
    go_enter func261,ntmps261
    go_upto_region 1 with (first
      |(with_reducible refine kB ?_
        refine kr yx 110 _ rfl (kn (E,G)) _ rfl rfl (by rw[kq C.out];exact JU) ?_;intro I J F O;have D:=hid J;have B:=hid F
        clear J F O))
    obtain⟨z,P⟩:∃z,w.heap.size=z:=⟨_,rfl⟩;rw[P] at B ⊢;have N:=hid (show z<I.heap.size from (qX B.out))
    try go_frame
    clear P;have H:=hid (show I.rangeAt z 0 (idV E) from fun j u K=>by rw[qZ];exact(k4 B.out j).trans ((kL C.out).1 j u K));have L:=hid (show I.rangeAt z 0 (kn (E,G)) from fun j u K=>by rw[qZ];exact(k4 B.out j).trans K);have V:I.cell? ⟨z,32,none⟩=some (.int .i64 G):=(k4 B.out 32).trans (kL C.out).2
    go_wp2_with (first
      |(refine k5 yx (kc 41 _ rfl (p:=⟨z,0,none⟩) rfl (qV _ _ _ _ (idV E) _ H.out underlying41 rfl (by rw[kf,show E.length=32 from C.1];exact js))) ?_)
      |(refine k5 yx (kj 41 #[] rfl (zu _)) ?_)
      |(refine k5 yx (jb 41 _ _ _ rfl (xs:=(idV E).toArray) (ys:=(idV k7).toArray) rfl rfl (r:=true) eqId.noGuard (T.out _)) ?_;go_frame;try simp only[nTF]))
    go_ret;exact⟨D.out,by rw[M.out];simp only[U,l,Bool.true_and,Bool.false_and];rfl⟩
   ·obtain⟨i,rfl⟩:∃i:Nat,G=(i:Int):=⟨G.toNat,by omega⟩;have X:i<mk.length:=by omega
    have U:decide ((0:Int)≤(i:Int))=true:=by simp
    have l:decide ((i:Int)<(mk.length:Int))=true:=by simp;omega
    obtain⟨b,Y,rfl,n,Z⟩:=Q.2 yz;have W:=Sl.row (fun m h=>jl (g.out m h)) Z X 0 (.bool mk[i].1) rfl;have R:=hid W;have k:=hid (show (mk.getD (i:Int).toNat (false,kg))=mk[i] by rw[Int.toNat_natCast,List.getD_eq_getElem?_getD,List.getElem?_eq_getElem X];rfl);clear W Z;go_enter func261,ntmps261
    go_upto_region 1 with (first
      |(with_reducible refine kB ?_
        refine kr yx 110 _ rfl (kn (E,(i:Int))) _ rfl rfl (by rw[kq C.out];exact JU) ?_;intro I J F O;have D:=hid J;have B:=hid F
        clear J F O))
    obtain⟨z,P⟩:∃z,w.heap.size=z:=⟨_,rfl⟩;rw[P] at B ⊢;have N:=hid (show z<I.heap.size from (qX B.out))
    try go_frame
    clear P;have H:=hid (show I.rangeAt z 0 (idV E) from fun j u K=>by rw[qZ];exact(k4 B.out j).trans ((kL C.out).1 j u K));have L:=hid (show I.rangeAt z 0 (kn (E,(i:Int))) from fun j u K=>by rw[qZ];exact(k4 B.out j).trans K);have V:I.cell? ⟨z,32,none⟩=some (.int .i64 (i:Int)):=(k4 B.out 32).trans (kL C.out).2;have s:I.cell? ⟨b,Y+i*34,none⟩=some (.bool mk[i].1):=(D.cell (p:=⟨b,Y+i*34,none⟩) n).trans R.out
    go_wp2_with (first
      |(refine k5 yx (kc 41 _ rfl (p:=⟨z,0,none⟩) rfl (qV _ _ _ _ (idV E) _ H.out underlying41 rfl (by rw[kf,show E.length=32 from C.1];exact js))) ?_)
      |(refine k5 yx (kj 41 #[] rfl (zu _)) ?_)
      |(refine k5 yx (jb 41 _ _ _ rfl (xs:=(idV E).toArray) (ys:=(idV k7).toArray) rfl rfl (r:=true) eqId.noGuard (T.out _)) ?_;go_frame;try simp only[nTF]))
    go_ret;exact⟨D.out,by rw[M.out];simp only[U,l,Bool.true_and];rw[k.out];rfl⟩
  ·have T:Hid (∀u:World,(Op.equalIn 10000 41 (.agg (idV E).toArray) (.agg (idV k7).toArray)).run prog u=.ok false u):=hid (fun u=>(zY C.1 jL u).trans (by rw[dF F]));have M:=hid (show JJ deps mk (E,G)=zH deps (E,G) by unfold JJ;rw[if_pos (by simp [F])]);clear F;go_enter func261,ntmps261
   go_upto_region 1 with (first
     |(with_reducible refine kB ?_
       refine kr yx 110 _ rfl (kn (E,G)) _ rfl rfl (by rw[kq C.out];exact JU) ?_;intro I J F O;have D:=hid J;have B:=hid F
       clear J F O))
   obtain⟨z,P⟩:∃z,w.heap.size=z:=⟨_,rfl⟩;rw[P] at B ⊢;have N:=hid (show z<I.heap.size from (qX B.out))
   try go_frame
   clear P;have H:=hid (show I.rangeAt z 0 (idV E) from fun j u K=>by rw[qZ];exact(k4 B.out j).trans ((kL C.out).1 j u K));have L:=hid (show I.rangeAt z 0 (kn (E,G)) from fun j u K=>by rw[qZ];exact(k4 B.out j).trans K);have V:I.cell? ⟨z,32,none⟩=some (.int .i64 G):=(k4 B.out 32).trans (kL C.out).2
   go_wp2_with (first
     |(refine k5 yx (kc 41 _ rfl (p:=⟨z,0,none⟩) rfl (qV _ _ _ _ (idV E) _ H.out underlying41 rfl (by rw[kf,show E.length=32 from C.1];exact js))) ?_)
     |(refine k5 yx (kj 41 #[] rfl (zu _)) ?_)
     |(refine k5 yx (jb 41 _ _ _ rfl (xs:=(idV E).toArray) (ys:=(idV k7).toArray) rfl rfl (r:=false) eqId.noGuard (T.out _)) ?_;go_frame;try simp only[nTF])
     |(refine k5 yx (ldR C.out L.out) ?_)
     |(go_at_call 276;refine(uY deps (E,G) A c I hn d.out C.out hset ((f.keep D.out).more D.size)).mono ?_;rintro e t ⟨a,rfl⟩;have S:=hid (D.trans (a.mono D.size));clear a))
   go_ret;exact⟨S.out,by rw[M.out];rfl⟩
def ElUpto(mk:List jQ)(ri:Int)(d:zC)(i:Nat):Prop:=∀j,j<i→0≤ri∧∃h:ri.toNat+j<mk.length,mk[ri.toNat+j].1=false∧mk[ri.toNat+j].2=d
theorem refEls_all{deps:List (List UInt8)}{mk:List jQ}{rc:List UInt8}{ri:Int}{d:zC}{m:Nat}(hz:rc=k7)(hm:1≤m)(h:ElUpto mk ri d m):jE deps mk (rc,ri) d (m:Int)=true:=by
  obtain⟨A,G,_⟩:=h (m - 1) yz;unfold jE;rw[if_neg (by simp [hz])];simp only[Bool.and_eq_true,decide_eq_true_eq];refine⟨⟨⟨A,by omega⟩,by omega⟩,?_⟩;rw[List.all_eq_true];intro x B;obtain⟨j,C,rfl⟩:=List.getElem_of_mem B;rw[List.length_take,List.length_drop] at C;rw[List.getElem_take,List.getElem_drop];obtain⟨_,F,D,E⟩:=h j yz;simp [D,E]
theorem refEls_not{deps:List (List UInt8)}{mk:List jQ}{rc:List UInt8}{ri:Int}{d:zC}{m j:Nat}(hz:rc=k7)(hj:j<m)(h:0≤ri→∀D:ri.toNat+j<mk.length,mk[ri.toNat+j].1=true∨mk[ri.toNat+j].2≠d):jE deps mk (rc,ri) d (m:Int)=false:=by
  rw[Bool.eq_false_iff];intro A;unfold jE at A;rw[if_neg (by simp [hz])] at A;simp only[Bool.and_eq_true,decide_eq_true_eq] at A;obtain⟨⟨⟨F,G⟩,H⟩,E⟩:=A;have D:ri.toNat+j<mk.length:=by omega
  rw[List.all_eq_true] at E;have B:=E mk[ri.toNat+j] (by
    have C:j<((mk.drop ri.toNat).take (m:Int).toNat).length:=by rw[List.length_take,List.length_drop];omega
    have:=List.getElem_mem C
    rwa [List.getElem_take,List.getElem_drop] at this)
  simp only[Bool.and_eq_true,Bool.not_eq_true',decide_eq_true_eq] at B;rcases h F D with q|q
  ·rw[q] at B;exact absurd B.1 yq
  ·exact q B.2
theorem ux(deps:List (List UInt8))(mk:List jQ)(r d:zC)(m:Nat)(A:Option Addr)(c:Nat)(Am:Option Addr)(cm:Nat)(w:World)(hm1:1≤m)(hm2:m≤4096)(hn:deps.length≤1099511627776)(hmn:mk.length≤1099511627776)(ho:IdsOk deps)(hm:∀m∈mk,vM m)(hr:za r)(hd:za d)(hset:je deps=true)(hs:Sl w w.heap.size A deps.length 32 (zf deps))(hsm:Sl w w.heap.size Am mk.length 34 (ke kU mk)):
    Calls prog 263 #[.slice A deps.length c,.slice Am mk.length cm,.agg (kn r).toArray,.agg (kn d).toArray,.int .i64 (m:Int)] w fun e w'=>Below w.heap.size w w'∧e=.returned (.bool (jE deps mk r d (m:Int))):=by
  obtain⟨Q,ri⟩:=r;have HO:=hid ho;have HS:=hid hs;have E:=hid hr;have N:=hid hd;have A4:=hid hsm;have HM:=hid hm
  have A5:=hid (zJ hr.2);clear ho hs hr hsm hm hd;by_cases S:Q=k7
  ·have EQ:Hid (∀u:World,(Op.equalIn 10000 41 (.agg (idV Q).toArray) (.agg (idV k7).toArray)).run prog u=.ok true u):=hid (fun u=>(zY E.1 jL u).trans (by rw[dT S]));have n:=hid S;clear S;go_enter func263,ntmps263
   go_upto_region 1 with (first
     |(with_reducible refine kB ?_
       refine kr yx 110 _ rfl (kn (Q,ri)) _ rfl rfl (by rw[kq E.out];exact JU) ?_;intro W0 s S A7;have K:=hid s;have G:=hid S
       clear s S A7)
     |(with_reducible refine kB ?_
       refine kr yx 110 _ rfl (kn d) _ rfl rfl (by rw[kq N.out];exact JU) ?_;intro T x O A8;have H:=hid x;have L:=hid O
       clear x O A8))
   obtain⟨z,hz⟩:∃z,w.heap.size=z:=⟨_,rfl⟩;obtain⟨z1,O⟩:∃z,W0.heap.size=z:=⟨_,rfl⟩;have a:=hid (show z<T.heap.size by rw[←hz];exact qL (qX G.out) H.size);have W:=hid (show z1<T.heap.size by rw[←O];exact(qX L.out));have F:=hid ((H.block _ (qX G.out)).trans G.out);have B:=hid (K.trans (H.mono K.size));rw[hz] at F ⊢;rw[O] at L ⊢
   try go_frame
   clear hz O G K H;have X:=hid (show T.rangeAt z 0 (idV Q) from fun j u Y=>by rw[qZ];exact(k4 F.out j).trans ((kL E.out).1 j u Y));have f:=hid (show T.rangeAt z 0 (kn (Q,ri)) from fun j u Y=>by rw[qZ];exact(k4 F.out j).trans Y);have A3:T.cell? ⟨z,32,none⟩=some (.int .i64 ri):=(k4 F.out 32).trans (kL E.out).2
   go_upto_region 4 with (first
     |(refine k5 yx (kc 41 _ rfl (p:=⟨z,0,none⟩) rfl (qV _ _ _ _ (idV Q) _ X.out underlying41 rfl (by rw[kf,show Q.length=32 from E.1];exact js))) ?_)
     |(refine k5 yx (kj 41 #[] rfl (zu _)) ?_)
     |(refine k5 yx (jb 41 _ _ _ rfl (xs:=(idV Q).toArray) (ys:=(idV k7).toArray) rfl rfl (r:=true) eqId.noGuard (EQ.out _)) ?_;go_frame;try simp only[nTF]))
   have A0:=hid (fun (u:World) (hu:Below T.heap.size T u)=>(show u.cell? ⟨z,32,none⟩=some (.int .i64 ri) from (hu.cell (p:=⟨z,32,none⟩) a.out).trans A3));have A1:=hid (fun (u:World) (hu:Below T.heap.size T u)=>(show ∀j v,(kn d)[j]?=some v→u.cell? ⟨z1,0+j,none⟩=some v from fun j v Y=>by rw[qZ];exact((hu.cell (p:=⟨z1,j,none⟩) W.out).trans (k4 L.out j)).trans Y));clear A3 X f L F;go_wp2_with fail
   go_loopw [11] (fun t wr=>∃i:Nat,i≤m∧t=.int .i64 (i:Int)∧Hid (Below T.heap.size T wr)∧Hid (ElUpto mk ri d i)) (fun t _=>m - (intOf t).toNat)
   case atStart=>exact⟨0,Nat.zero_le _,rfl,hid (qB _ _),hid fun j Y=>absurd Y yz⟩
   case round=>
     obtain⟨i,hi,rfl,C,HU⟩:=hrel;by_cases hlt:i<m
     ·have i1:(i:Int)<(m:Int):=by omega
      have A3:=Wd.cell (base:=wr.heap.size) (A0.out wr C.out) (qL a.out C.size);have P:=hid (fun h=>refEls_not (deps:=deps) (mk:=mk) (ri:=ri) (d:=d) (m:=m) (j:=i) n.out hlt h);by_cases hneg:ri<0
      ·have d1:decide (ri<0)=true:=dT hneg;have D:=hid (P.out fun h=>absurd h yz);go_wp2_with fail;refine zj (base:=wr.heap.size) wr (qB _ _) yy yy ?_
       repeat (first
         |go_big_quiet_skip
         |(go_big_quiet_want
           first
              |(go_big_quiet_op
                go_big_quiet_on)))
       refine wpQuiet_nil ?_;rintro w' ⟨R,rfl⟩;have M:=R.2;generalize R.val=w9 at *;clear R;have I:=hid (C.trans (M.mono C.size));clear M;go_wp2_with fail;go_ret;exact⟨B.trans (I.mono B.size),by rw[D.out];rfl⟩
      ·obtain⟨k,rfl⟩:∃k:Nat,ri=(k:Int):=⟨ri.toNat,by omega⟩;have Af:=A5.out;have d1:decide ((k:Int)<0)=false:=by simp
       have ew:IntKind.i64.wrap ((mk.length:Int) - (i:Int))=(mk.length:Int) - (i:Int):=IntWalk.i64_in _ ⟨by omega,by omega⟩;by_cases hfar:(mk.length:Int) - (i:Int)≤(k:Int)
       ·have d2:decide ((mk.length:Int) - (i:Int)≤(k:Int))=true:=dT hfar;have D:=hid (P.out fun _ hl=>absurd hl (by rw[Int.toNat_natCast];omega));go_wp2_with fail;refine zj (base:=wr.heap.size) wr (qB _ _) yy yy ?_
        repeat (first
          |go_big_quiet_skip
          |(go_big_quiet_want
            first
               |(go_big_quiet_op
                 go_big_quiet_on)))
        refine wpQuiet_nil ?_;rintro w' ⟨R,rfl⟩;have M:=R.2;generalize R.val=w9 at *;clear R;have I:=hid (C.trans (M.mono C.size));clear M;go_wp2_with fail;go_ret;exact⟨B.trans (I.mono B.size),by rw[D.out];rfl⟩
       ·have d2:decide ((mk.length:Int) - (i:Int)≤(k:Int))=false:=dF hfar;have Ag:IntKind.i64.wrap ((k:Int)+(i:Int))=((k+i:Nat):Int):=by rw[IntWalk.i64_in _ ⟨by omega,by omega⟩];omega
        have A9:k+i<mk.length:=by omega
        have q1:((k+i:Nat):Int)<(mk.length:Int):=by omega
        have q0:(0:Int)≤((k+i:Nat):Int):=by omega
        obtain⟨b,Ab,rfl,Ae,Ac⟩:=((A4.keep B.out).keep (C.mono B.size)).2 yz;have l:=Sl.row (fun m h=>jl (HM.out m h)) Ac A9;have Aa:b<wr.heap.size:=qL Ae (qT B.size C.size);have U:=hid (show za mk[k+i].2 from HM.out _ (List.getElem_mem A9));have V:=hid (show mk[k+i].1=false→mk[k+i].2=d→ElUpto mk (k:Int) d (i+1) from fun h1 h2 j Y=>by
          rcases (by omega:j<i∨j=i) with q|q
          ·exact HU.out j q
          ·subst q;exact⟨by omega,by simpa using A9,by simpa using h1,by simpa using h2⟩)
        have J:=hid (show (mk[k+i].1=true∨mk[k+i].2≠d)→jE deps mk (Q,(k:Int)) d (m:Int)=false from fun h=>P.out fun _ hl=>by simpa using h);clear P Ac HU;obtain⟨y,hy⟩:∃y,mk[k+i]=y:=⟨_,rfl⟩;rw[hy] at l U V J;clear hy;have CD:=Wd.cell (base:=wr.heap.size) (b:=b) (o:=Ab+(k+i)*34) (l 0 (.bool y.1) rfl) Aa;have R1:=hid (Wd.row (base:=wr.heap.size) (b:=b) (o:=Ab+(k+i)*34+1) (cs:=kn y.2) (fun j u Y=>by rw[Nat.add_assoc];exact l (1+j) u (by unfold kU;rw[Nat.add_comm 1 j];exact Y)) Aa);have R2:=hid (Wd.row (base:=wr.heap.size) (A1.out wr C.out) (qL W.out C.size));clear l;rcases hy1:y.1 with _ | _
        ·rw[hy1] at CD;by_cases hy2:y.2=d
         ·have g:Hid (∀u:World,(Op.equalIn 10000 110 (.agg (kn y.2).toArray) (.agg (kn d).toArray)).run prog u=.ok true u):=hid (fun u=>(j7 U.out N.out u).trans (by rw[dT hy2]));have HN:=hid (V.out hy1 hy2);clear hy1 hy2 V J;go_wp2_with fail;refine zj (base:=wr.heap.size) wr (qB _ _) yy yy ?_
          repeat (first
            |go_big_quiet_skip
            |(go_big_quiet_want
              first
                 |(refine kR (fun w' Z=>ldR U.out (R1.out w' Z)) ?_
                   go_big_quiet_on
                   go_frame;try simp only[nTF])
                 |(refine kR (fun w' Z=>ldR N.out (R2.out w' Z)) ?_
                   go_big_quiet_on
                   go_frame;try simp only[nTF])
                 |(refine kR (fun w' Z=>jb 110 _ _ _ rfl (xs:=(kn y.2).toArray) (ys:=(kn d).toArray) rfl rfl (r:=true) eqRef.noGuard (g.out w')) ?_
                   go_big_quiet_on
                   go_frame;try simp only[nTF])
                 |(go_big_quiet_op
                   go_big_quiet_on)))
          refine wpQuiet_nil ?_;rintro w' ⟨R,rfl⟩;have M:=R.2;generalize R.val=w9 at *;clear R;have I:=hid (C.trans (M.mono C.size));clear M;go_wp2_with fail
          go_roundw
          case rel=>exact⟨i+1,by omega,by go_num,I,HN⟩
          case measure=>(simp [intOf])<;>omega
         ·have g:Hid (∀u:World,(Op.equalIn 10000 110 (.agg (kn y.2).toArray) (.agg (kn d).toArray)).run prog u=.ok false u):=hid (fun u=>(j7 U.out N.out u).trans (by rw[dF hy2]));have D:=hid (J.out (.inr hy2));clear hy1 hy2 V J;go_wp2_with fail;refine zj (base:=wr.heap.size) wr (qB _ _) yy yy ?_
          repeat (first
            |go_big_quiet_skip
            |(go_big_quiet_want
              first
                 |(refine kR (fun w' Z=>ldR U.out (R1.out w' Z)) ?_
                   go_big_quiet_on
                   go_frame;try simp only[nTF])
                 |(refine kR (fun w' Z=>ldR N.out (R2.out w' Z)) ?_
                   go_big_quiet_on
                   go_frame;try simp only[nTF])
                 |(refine kR (fun w' Z=>jb 110 _ _ _ rfl (xs:=(kn y.2).toArray) (ys:=(kn d).toArray) rfl rfl (r:=false) eqRef.noGuard (g.out w')) ?_
                   go_big_quiet_on
                   go_frame;try simp only[nTF])
                 |(go_big_quiet_op
                   go_big_quiet_on)))
          refine wpQuiet_nil ?_;rintro w' ⟨R,rfl⟩;have M:=R.2;generalize R.val=w9 at *;clear R;have I:=hid (C.trans (M.mono C.size));clear M;go_wp2_with fail;go_ret;exact⟨B.trans (I.mono B.size),by rw[D.out];rfl⟩
        ·rw[hy1] at CD;have D:=hid (J.out (.inl hy1));clear hy1 V J;go_wp2_with fail;refine zj (base:=wr.heap.size) wr (qB _ _) yy yy ?_
         repeat (first
           |go_big_quiet_skip
           |(go_big_quiet_want
             first
                |(go_big_quiet_op
                  go_big_quiet_on)))
         refine wpQuiet_nil ?_;rintro w' ⟨R,rfl⟩;have M:=R.2;generalize R.val=w9 at *;clear R;have I:=hid (C.trans (M.mono C.size));clear M;go_wp2_with fail;go_ret;exact⟨B.trans (I.mono B.size),by rw[D.out];rfl⟩
     ·have i1:¬(i:Int)<(m:Int):=by omega
      have A2:=hid (refEls_all (deps:=deps) (m:=m) n.out hm1 (by have h:=HU.out;rwa [show i=m by omega] at h));go_wp2_with fail;go_ret;exact⟨B.trans (C.mono B.size),by rw[A2.out];rfl⟩
  ·have EQ:Hid (∀u:World,(Op.equalIn 10000 41 (.agg (idV Q).toArray) (.agg (idV k7).toArray)).run prog u=.ok false u):=hid (fun u=>(zY E.1 jL u).trans (by rw[dF S]));have HF:=hid (show jE deps mk (Q,ri) d (m:Int)=zH deps (Q,ri) by unfold jE;rw[if_pos (by simp [S])]);clear S;go_enter func263,ntmps263
   go_upto_region 1 with (first
     |(with_reducible refine kB ?_
       refine kr yx 110 _ rfl (kn (Q,ri)) _ rfl rfl (by rw[kq E.out];exact JU) ?_;intro W0 s S A7;have K:=hid s;have G:=hid S
       clear s S A7)
     |(with_reducible refine kB ?_
       refine kr yx 110 _ rfl (kn d) _ rfl rfl (by rw[kq N.out];exact JU) ?_;intro T x O A8;have H:=hid x;have L:=hid O
       clear x O A8))
   obtain⟨z,hz⟩:∃z,w.heap.size=z:=⟨_,rfl⟩;obtain⟨z1,O⟩:∃z,W0.heap.size=z:=⟨_,rfl⟩;have a:=hid (show z<T.heap.size by rw[←hz];exact qL (qX G.out) H.size);have W:=hid (show z1<T.heap.size by rw[←O];exact(qX L.out));have F:=hid ((H.block _ (qX G.out)).trans G.out);have B:=hid (K.trans (H.mono K.size));rw[hz] at F ⊢;rw[O] at L ⊢
   try go_frame
   clear hz O G K H;have X:=hid (show T.rangeAt z 0 (idV Q) from fun j u Y=>by rw[qZ];exact(k4 F.out j).trans ((kL E.out).1 j u Y));have f:=hid (show T.rangeAt z 0 (kn (Q,ri)) from fun j u Y=>by rw[qZ];exact(k4 F.out j).trans Y);have A3:T.cell? ⟨z,32,none⟩=some (.int .i64 ri):=(k4 F.out 32).trans (kL E.out).2
   go_wp2_with (first
     |(refine k5 yx (kc 41 _ rfl (p:=⟨z,0,none⟩) rfl (qV _ _ _ _ (idV Q) _ X.out underlying41 rfl (by rw[kf,show Q.length=32 from E.1];exact js))) ?_)
     |(refine k5 yx (kj 41 #[] rfl (zu _)) ?_)
     |(refine k5 yx (jb 41 _ _ _ rfl (xs:=(idV Q).toArray) (ys:=(idV k7).toArray) rfl rfl (r:=false) eqId.noGuard (EQ.out _)) ?_;go_frame;try simp only[nTF])
     |(refine k5 yx (ldR E.out f.out) ?_)
     |(go_at_call 276;refine(uY deps (Q,ri) A c T hn HO.out E.out hset ((HS.keep B.out).more B.size)).mono ?_;rintro e w2 ⟨Ad,rfl⟩;have A6:=hid (B.trans (Ad.mono B.size));clear Ad))
   go_ret;exact⟨A6.out,by rw[HF.out];rfl⟩
end
section
open Go.RowKit
def RF(s:ByteArray)(w:World)(e:Ending)(w':World):Prop:=Below w.heap.size w w'∧e=.returned (.bool (K7 s jI))
theorem uy(s:ByteArray)(w:World)(hs:s.size≤1099511627776):Calls prog 260 #[.string s] w (RF s w):=by
  go_enter func260,ntmps260;go_wp2_with fail;refine(Ub s _ hs).mono ?_;rintro e Z ⟨G,⟨l,A,c,J,rfl,N⟩|⟨J,n,rfl⟩⟩
  ·have E:K7 s jI=l.all jI:=by unfold K7;rw[J]
   have B:=hid E;clear E;have V:l.length≤s.size:=by
     have H:∀(f K:Nat) (l:List Nat),Jn s f K=some l→l.length≤f:=by
       intro f
       induction f with
       |zero=>intro K l h;simp [Jn] at h;subst h;simp
       |succ f ih=>
        intro K l h;rw[Jn] at h
        split at h
        ·split at h
         ·obtain⟨a,S,rfl⟩:=Option.map_eq_some_iff.1 h;have:=ih _ _ S;simp;omega
         ·cases h
        ·cases h;simp
     exact H _ _ _ J
   clear J;have O:=hid N;clear N;go_wp2_with fail
   go_loop [6] (fun t=>∃k:Nat,k≤l.length∧t=.int .i64 k∧Hid (∀j (h:j<l.length),j<k→jI l[j]=true)) (fun t=>l.length - (intOf t).toNat)
   case atStart=>exact⟨0,by omega,rfl,hid fun j _ L=>absurd L yz⟩
   case round=>
     obtain⟨k,d,rfl,T⟩:=hrel;by_cases hlt:k<l.length
     ·obtain⟨b,W,rfl,X,M⟩:=O.2 yz;have g:=M k (.int .i32 (l[k]:Int)) (by simp [qy,hlt]);have R:=hid M;clear M;have I:jI l[k]=false→K7 s jI=false:=by
        intro h;rw[B.out,List.all_eq_false];exact⟨l[k],List.getElem_mem hlt,by simp [h]⟩
      have H:jI l[k]=true→∀j (h:j<l.length),j<k+1→jI l[j]=true:=by
        intro h j L Y;rcases (by omega:j<k∨j=k) with P|P
        ·exact T.out j L P
        ·subst P;exact h
      generalize hr:l[k]=r at *;clear hr;have C:=hid I;clear I;have D:=hid H;clear H;rcases (by omega:r<32∨r=127∨(32≤r∧r<127)∨127<r) with h|h|h|h
      ·have F:Hid (K7 s jI=false):=hid (C.out (by simp [jI];omega));go_wp2_with fail;go_ret;exact⟨G,by rw[F.out];rfl⟩
      ·subst h;have F:Hid (K7 s jI=false):=hid (C.out yv);go_wp2_with fail;go_ret;exact⟨G,by rw[F.out];rfl⟩
      ·have F:Hid (jI r=true):=hid (by simp [jI];omega);have Q:((r:Int) == 127)=false:=by simp;omega
       go_wp2_with fail
       go_round
       case rel=>exact⟨k+1,by omega,by go_num,hid (D.out F.out)⟩
       case measure=>simp [intOf];omega
      ·have F:Hid (jI r=true):=hid (by simp [jI];omega);have Q:((r:Int) == 127)=false:=by simp;omega
       go_wp2_with fail
       go_round
       case rel=>exact⟨k+1,by omega,by go_num,hid (D.out F.out)⟩
       case measure=>simp [intOf];omega
     ·go_wp2_with fail;go_ret;refine⟨G,?_⟩;have:K7 s jI=true:=by
        rw[B.out,List.all_eq_true];intro x U;obtain⟨j,L,rfl⟩:=List.getElem_of_mem U;exact T.out j L yz
      rw[this];rfl
  ·have E:K7 s jI=false:=by unfold K7;rw[J]
   have B:=hid E;clear E J;go_wp2_with fail;go_ret;exact⟨G,by rw[B.out];rfl⟩
theorem Ko(s:ByteArray)(w:World)(hs:s.size≤maxLen):Calls prog 236 #[.string s] w fun e w'=>Below w.heap.size w w'∧e=.returned (.bool (zK s)):=by
  unfold maxLen at hs;by_cases h1:1≤s.size
  ·by_cases h2:s.size≤32
   ·rw[show zK s=K7 s jI by simp [zK,h1,h2]];go_enter func236,ntmps236
    go_wp2_with (go_at_call 260;refine(uy s _ yz).mono ?_;rintro e B ⟨A,rfl⟩)
    go_ret;exact⟨A,rfl⟩
   ·rw[show zK s=false by simp [zK,h2]];go_enter func236,ntmps236;go_wp2_with fail;go_ret;exact⟨Below.refl _ _,rfl⟩
  ·rw[show zK s=false by simp [zK,h1]];go_enter func236,ntmps236;go_wp2_with fail;go_ret;exact⟨Below.refl _ _,rfl⟩
theorem info_str:(prog.info? 9).map (fun i=>(i.zero,i.size,i.bytes))=some (some (.string ByteArray.empty),1,16):=by kernel_rfl
def Piecing(s:ByteArray)(q:List ByteArray)(f k:Nat):Prop:=
  (k≤s.size∧f≤k∧pieces (L s)=q.map L++pieces ((L s).drop f)∧(∀j,f≤j→j<k→B s j≠47))∨(k=s.size+1∧pieces (L s)=q.map L)
def StrsBack(l:List (List UInt8))(w:World)(e:Ending)(w':World):Prop:=
  Below w.heap.size w w'∧∃(q:List ByteArray) (A:Option Addr) (c:Nat),q.map L=l∧e=.returned (.slice A q.length c)∧Sl w' w'.heap.size A q.length 1 (q.map Value.string)∧∀t∈q,t.size≤1099511627776
theorem fin_pieces{s:ByteArray}{q:List ByteArray}(h:pieces (L s)=q.map L)(hs:s.size≤1099511627776):∀t∈q,t.size≤1099511627776:=by
  have B:∀(l:List UInt8) (p:List UInt8),p∈pieces l→p.length≤l.length:=by
    intro l
    induction l with
    |nil=>intro p A;simp [pieces] at A;subst A;simp
    |cons c l ih=>
     intro p A;rw[pieces] at A
     split at A
     ·rcases List.mem_cons.1 A with rfl|A
      ·simp
      ·have:=ih p A;simp;omega
     ·split at A
      ·rename_i x F C;rcases List.mem_cons.1 A with rfl|A
       ·have:=ih x (by rw[C];simp);simp;omega
       ·have:=ih p (by rw[C];simp [A]);simp;omega
      ·simp at A;subst A;simp
  intro t D;have E:L t∈pieces (L s):=by rw[h];exact List.mem_map_of_mem D
  have:=B _ _ E;rw[ji,ji] at this;omega
theorem pieces_any(s:ByteArray)(w:World)(hs:s.size≤1099511627776):Calls prog 277 #[.string s] w (StrsBack (pieces (L s)) w):=by
  have Z:=getB s;go_enter func277,ntmps277
  go_wp2
  go_loopw [3,4,5] (fun v sf si wr=>∃(q:List ByteArray) (f k:Nat),k≤s.size+1∧f≤s.size+1∧q.length≤k∧sf=.int .i64 f∧si=.int .i64 k∧wr.ownsRow w.heap.size 9 1 v q.length (q.map Value.string)∧Below w.heap.size w wr∧Hid (Piecing s q f k)) (fun _ _ si _=>s.size+1 - (intOf si).toNat)
  case atStart=>exact⟨[],0,0,by omega,by omega,by simp,rfl,rfl,World.ownsRow_nil _ _ _ _,Below.refl _ _,hid (.inl ⟨by omega,by omega,by simp,fun j R P=>absurd P yz⟩)⟩
  case round=>
    obtain⟨q,f,k,a,b,Y,rfl,rfl,E,H,S⟩:=hrel;by_cases hlt:k<s.size
    ·have d:=Js s k;have Q:((k:Int) == (s.size:Int))=false:=by simp;omega
     obtain⟨U,M,J,K⟩:k≤s.size∧f≤k∧pieces (L s)=q.map L++pieces ((L s).drop f)∧(∀j,f≤j→j<k→B s j≠47):=by
       rcases S.out with h|h
       ·exact h
       ·omega
     have C:=hid J;clear J;have D:=hid K;clear K;by_cases h47:B s k=47
     ·have T:(((B s k:Nat):Int) == 47)=true:=by rw[h47];rfl
      have F:=hid h47;clear h47
      go_wp2_with (at_builtin;refine J3 rfl _ _ 52 rfl w.heap.size 9 (.string ByteArray.empty) 16 underlying52 info_str rfl _ _ _ rfl E _ _ rfl rfl ?c1 ?c2 ?c3 ?_)
      case c1=>unfold maxLen;omega
      case c2=>omega
      case c3=>exact H.size
      intro W X I G;have N:=G _ _ (Nat.le_refl _) H;clear G;go_wp2_with fail
      go_roundw
      case rel=>
        refine⟨q++[s.extract f k],k+1,k+1,by omega,by omega,by simp;omega,by go_num,by go_num,?_,N,hid (.inl ⟨by omega,by omega,?_,fun j R P=>absurd P yz⟩)⟩
        ·simpa using I
        ·rw[C.out,pieces_at M hlt F.out D.out];simp
      case measure=>simp [intOf];omega
     ·have T:(((B s k:Nat):Int) == 47)=false:=by simp;omega
      have F:=hid h47;clear h47;go_wp2_with fail
      go_roundw
      case rel=>
        refine⟨q,f,k+1,by omega,by omega,by omega,rfl,by go_num,E,H,hid (.inl ⟨by omega,by omega,C.out,fun j R P=>?_⟩)⟩;rcases (by omega:j<k∨j=k) with h|h
        ·exact D.out j R h
        ·rw[h];exact F.out
      case measure=>simp [intOf];omega
    ·by_cases Q:k=s.size
     ·obtain⟨U,M,J,K⟩:k≤s.size∧f≤k∧pieces (L s)=q.map L++pieces ((L s).drop f)∧(∀j,f≤j→j<k→B s j≠47):=by
        rcases S.out with h|h
        ·exact h
        ·omega
      subst Q;have C:=hid J;clear J;have D:=hid K;clear K
      go_wp2_with (at_builtin;refine J3 rfl _ _ 52 rfl w.heap.size 9 (.string ByteArray.empty) 16 underlying52 info_str rfl _ _ _ rfl E _ _ rfl rfl ?c1 ?c2 ?c3 ?_)
      case c1=>unfold maxLen;omega
      case c2=>omega
      case c3=>exact H.size
      intro W X I G;have N:=G _ _ (Nat.le_refl _) H;clear G;go_wp2_with fail
      go_roundw
      case rel=>
        refine⟨q++[s.extract f s.size],s.size+1,s.size+1,by omega,by omega,by simp;omega,by go_num,by go_num,?_,N,hid (.inr ⟨rfl,?_⟩)⟩
        ·simpa using I
        ·rw[C.out,pieces_end M D.out];simp
      case measure=>simp [intOf]
     ·go_wp2_with fail;go_ret;obtain⟨A,c,V⟩:=jd E;have O:pieces (L s)=q.map L:=by
        rcases S.out with h|h
        ·omega
        ·exact h.2
      refine⟨H,q,A,c,O.symm,?_,?_,fin_pieces O hs⟩
      ·rw[←V];rfl
      ·rw[V] at E;exact Sl.of_own E
theorem pathB_pieces{s:ByteArray}{q:List ByteArray}(hq:q.map L=pieces (L s))(h1:¬s.size<1)(h2:¬64<s.size)(hp:K7 s jI=true):jZ s=(q.map L).all Jd:=by
  rw[hq];simp [jZ,hp];omega
theorem vx(s:ByteArray)(w:World)(hs:s.size≤maxLen):Calls prog 262 #[.string s] w fun e w'=>Below w.heap.size w w'∧e=.returned (.bool (jZ s)):=by
  unfold maxLen at hs;by_cases h1:s.size<1
  ·rw[show jZ s=false by simp [jZ];omega];go_enter func262,ntmps262;go_wp2_with fail;go_ret;exact⟨Below.refl _ _,rfl⟩
  by_cases h2:64<s.size
  ·rw[show jZ s=false by simp [jZ];omega];go_enter func262,ntmps262;go_wp2_with fail;go_ret;exact⟨Below.refl _ _,rfl⟩
  have K:s.size≤1099511627776:=by omega
  cases hp:K7 s jI
  ·have C:=hid hp;clear hp;rw[show jZ s=false by simp [jZ,C.out]];go_enter func262,ntmps262
   go_wp2_with (go_at_call 260;refine(uy s _ K).mono ?_;unfold RF;rw[C.out];rintro e Y ⟨F,rfl⟩)
   go_ret;exact⟨F,rfl⟩
  ·have C:=hid hp;clear hp;go_enter func262,ntmps262
   go_wp2_with (go_at_call 260;refine(uy s _ K).mono ?_;unfold RF;rw[C.out];rintro e Y ⟨F,rfl⟩)
   refine(pieces_any s _ K).mono ?_;rintro e Z ⟨U,q,A,c,O,rfl,P,_⟩;have I:Hid (jZ s=(q.map L).all Jd):=hid (pathB_pieces O h1 h2 C.out);have d:q.length≤65:=by
     have h:=congrArg List.length O;rw[List.length_map] at h;have M:=UD s;have V:=congrArg List.length M;rw[List.length_map,←h] at V;have l:=Lib.splitB_length_le Kv 0 (Lib.countB s Kv) s;have m:=Lib.countB_le Kv yv _ s (Nat.le_refl _);omega
   have T:=hid P;clear P;have X:=hid O;clear O;have G:Below w.heap.size w Z:=F.trans (U.mono F.size);go_wp2_with fail
   go_loop [4] (fun t=>∃k:Nat,k≤q.length∧t=.int .i64 k∧Hid (∀j (h:j<q.length),j<k→Jd (L q[j])=true)) (fun t=>q.length - (intOf t).toNat)
   case atStart=>exact⟨0,by omega,rfl,hid fun j _ N=>absurd N yz⟩
   case round=>
     obtain⟨k,n,rfl,W⟩:=hrel;by_cases hlt:k<q.length
     ·obtain⟨b,f,rfl,g,Q⟩:=T.2 yz;have o:=Q k (.string q[k]) (by simp [hlt]);clear Q;have R:=piece_eq q[k];have H:Jd (L q[k])=false→jZ s=false:=by
        intro h;rw[I.out,List.all_eq_false];exact⟨L q[k],List.mem_map_of_mem (List.getElem_mem hlt),by simp [h]⟩
      have S:Jd (L q[k])=true→∀j (h:j<q.length),j<k+1→Jd (L q[j])=true:=by
        intro h j N i;rcases (by omega:j<k∨j=k) with M|M
        ·exact W.out j N M
        ·subst M;exact h
      generalize hqk:q[k]=p at *;clear hqk;have B:=hid R;clear R;have D:=hid H;clear H;have J:=hid S;clear S;cases e1:p.toList.isEmpty
      ·cases e2:(p.toList == [46])
       ·cases e3:(p.toList == [46,46])
        ·have E:Hid (Jd (L p)=true):=hid (by rw[B.out,e1,e2,e3];rfl);go_wp2_with fail
         go_round
         case rel=>exact⟨k+1,by omega,by go_num,hid (J.out E.out)⟩
         case measure=>simp [intOf];omega
        ·have E:Hid (jZ s=false):=hid (D.out (by rw[B.out,e1,e2,e3];rfl));go_wp2_with fail;go_ret;exact⟨G,by rw[E.out];rfl⟩
       ·have E:Hid (jZ s=false):=hid (D.out (by rw[B.out,e1,e2];rfl));go_wp2_with fail;go_ret;exact⟨G,by rw[E.out];rfl⟩
      ·have E:Hid (jZ s=false):=hid (D.out (by rw[B.out,e1];rfl));go_wp2_with fail;go_ret;exact⟨G,by rw[E.out];rfl⟩
     ·go_wp2_with fail;go_ret;refine⟨G,?_⟩;have:jZ s=true:=by
        rw[I.out,List.all_eq_true];intro x a;obtain⟨y,E,rfl⟩:=List.mem_map.1 a;obtain⟨j,N,rfl⟩:=List.getElem_of_mem E;exact W.out j N yz
      rw[this];rfl
end
section
open Go.RowKit Go.Maps
theorem zeroRef_run8(w:World):(zeroValue 110).run prog w=.ok (.agg (kn kg).toArray) w:=by kernel_rfl
theorem zeroRef_built8(w:World):(Instr.build 110 #[]).run prog w=.ok (.agg (kn kg).toArray) w:=by kernel_rfl
theorem Zd:(prog.info? 383).map (fun i=>(i.zero,i.size,i.bytes))=some (some (.agg (kU (false,kg)).toArray),34,48):=by kernel_rfl
theorem madeDoc_built8(w:World):(Instr.build 383 #[(0,.bool true)]).run prog w=.ok (.agg (kU (true,kg)).toArray) w:=by kernel_rfl
theorem QX{d:zC}(hd:za d)(w:World):(Instr.build 383 #[(1,.agg (kn d).toArray)]).run prog w=.ok (.agg (kU (false,d)).toArray) w:=by
  obtain⟨i,B,C,_,_⟩:=info_parts Zd;have E:(kn kg).length=33:=rfl;have h:=zl (P:=prog) B underlying383 C [[.bool false],kn kg] rfl (places:=[(0,1),(1,33)]) yy yy [(1,.agg (kn d).toArray)] (by
    intro q A;simp only[List.mem_cons,List.not_mem_nil,or_false] at A;subst A;exact⟨by show 1<2;omega,by show (kn d).toArray.size=33;rw[List.size_toArray,kq hd]⟩)
  have D:=run_build (P:=prog) w 383 #[(1,.agg (kn d).toArray)] _ h;refine D.trans ?_;simp [kU,Value.cells]
theorem bytesS_ok{t:ByteArray}(h:KW t=true):Kx t=0:=by
  unfold KW at h;simp only[Bool.and_eq_true,decide_eq_true_eq] at h;unfold Kx;rw[if_neg yz,if_pos h.2]
theorem bytesS_no{t:ByteArray}(h:KW t=false):∃fb,Kx t=fb∧fb≠0:=by
  refine⟨_,rfl,?_⟩;unfold KW at h;unfold Kx
  split
  ·decide
  ·rename_i A;rw[dT (show t.size≤4096 by omega),Bool.true_and] at h;rw[if_neg (by rw[h];decide)];decide
theorem runes_ok{t:ByteArray}(h:KW t=true):jx t≠none:=by
  unfold KW at h;simp only[Bool.and_eq_true] at h;intro B;have A:=h.2;unfold KO at A;rw[B] at A;exact absurd A yq
def OpGives(base:Nat)(deps:List (List UInt8))(mk:List jQ)(x:OpD)(w:World)(e:Ending)(w':World):Prop:=
  Below base w w'∧(opB deps mk x=false→∃v,e=.returned (.tuple #[v,.bool false]))∧
  (opB deps mk x=true→∃A c,e=.returned (.tuple #[.slice A (mk.length+(zL x).length) c,.bool true])∧w'.ownsRow base 383 34 (.slice A (mk.length+(zL x).length) c) (mk.length+(zL x).length) (ke kU (mk++zL x)))
theorem refOp_all(base:Nat)(deps:List (List UInt8))(mk:List jQ)(k:UInt8)(d a:zC)(t:ByteArray)(n:Int)(q:ByteArray)(A:Option Addr)(c:Nat)(Am:Option Addr)(cm:Nat)(w:World)(hn:deps.length≤1099511627776)(hmn:mk.length≤1000000000)(ho:IdsOk deps)(hm:∀m∈mk,vM m)(hx:KR (k,d,a,t,n,q))(hset:je deps=true)(hs:Sl w w.heap.size A deps.length 32 (zf deps))(how:w.ownsRow base 383 34 (.slice Am mk.length cm) mk.length (ke kU mk))(hbs:base≤w.heap.size):
    Calls prog 237 #[.slice A deps.length c,.slice Am mk.length cm,.agg (opV (k,d,a,t,n,q)).toArray] w (OpGives base deps mk (k,d,a,t,n,q) w):=by
  have Q:=hid ho;have HS:=hid hs;have R:=hid hm;have D:=hid hx;have x:=hid how;have AL:=hid (Sl.of_own how)
  have hmn:mk.length≤1099511627776:=by omega
  clear ho hs hm hx how;go_enter func237,ntmps237
  go_upto_region 2 with (first
    |(with_reducible refine kB ?_
      refine kr yx 112 _ rfl (opV (k,d,a,t,n,q)) _ rfl rfl (by rw[kH D.out];exact Kg) ?_;intro W0 AT AU B0;have Aq:=hid AT;have As:=hid AU
      clear AT AU B0)
    |(with_reducible refine kJ ?_
      refine k5 yx (kj 110 #[] rfl (zeroRef_built8 _)) ?_)
    |(with_reducible refine kA ?_
      refine ks yx 110 rfl (kn kg) (zeroRef_run8 _) ?_;intro Wa AV AW B1;have At:=hid AV;have AE:=hid AW
      clear AV AW B1)
    |(with_reducible refine kw ?_
      refine ko yx 110 _ _ rfl W0.heap.size 0 [] (kn kg) [] (kn kg) 110 _ rfl rfl rfl rfl (by simpa using AE.out) rfl yy (qm _) ?_;intro s AX AY B2;have An:=hid (At.trans (AX.below At.size (fun k hk e=>by have e':k=W0.heap.size:=e;omega)));have Ao:Hid (s.heap[W0.heap.size]?=some (.cells (kn kg).toArray 110 (0,0))):=hid (by simpa using AY);clear AX AY B2))
  obtain⟨O,AK⟩:∃z,w.heap.size=z:=⟨_,rfl⟩;obtain⟨z8,AN⟩:∃z,W0.heap.size=z:=⟨_,rfl⟩;have l0:=(qX As.out);have y:=hid ((An.block _ l0).trans As.out);have Y:=hid (show O<s.heap.size by rw[←AK];exact qL l0 An.size);have AM:=hid (show z8<s.heap.size by rw[←AN];exact(qX Ao.out));have E:=hid (Aq.trans (An.mono Aq.size));rw[AK] at y ⊢;rw[AN] at Ao ⊢
  try go_frame
  have AO:Hid (w.heap.size=O):=hid AK;clear AK AN l0 As Aq An At AE
  have C:=hid (fun (u:World) (hu:Below s.heap.size s u)=>(show u.cell? ⟨O,0,none⟩=some (.int .u8 (k.toNat:Int))∧u.cell? ⟨O,67,none⟩=some (.string t)∧u.cell? ⟨O,68,none⟩=some (.int .i64 n)∧u.cell? ⟨O,69,none⟩=some (.string q) from
    ⟨(hu.cell (p:=⟨O,0,none⟩) Y.out).trans (k4 y.out 0),(hu.cell (p:=⟨O,67,none⟩) Y.out).trans ((k4 y.out 67).trans (kp D.out).2.2.2.1),(hu.cell (p:=⟨O,68,none⟩) Y.out).trans ((k4 y.out 68).trans (kp D.out).2.2.2.2.1),(hu.cell (p:=⟨O,69,none⟩) Y.out).trans ((k4 y.out 69).trans (kp D.out).2.2.2.2.2)⟩))
  have M:=hid (fun (u:World) (hu:Below s.heap.size s u)=>(show u.rangeAt O 1 (kn d) from fun j v hj=>(hu.cell (p:=⟨O,1+j,none⟩) Y.out).trans ((k4 y.out (1+j)).trans ((kp D.out).2.1 j v hj))));have H:=hid (fun (u:World) (hu:Below s.heap.size s u)=>(show u.rangeAt O 34 (kn a) from fun j v hj=>(hu.cell (p:=⟨O,34+j,none⟩) Y.out).trans ((k4 y.out (34+j)).trans ((kp D.out).2.2.1 j v hj))));have N:=hid (fun (u:World) (hu:Below s.heap.size s u)=>(show u.rangeAt z8 0 (kn kg) from fun j v hj=>by rw[qZ];exact((hu.cell (p:=⟨z8,j,none⟩) AM.out).trans (k4 Ao.out j)).trans hj));have J:=hid (fun (u:World) (hu:Below s.heap.size s u)=>(HS.keep (E.trans (hu.mono E.size))).more (qT E.size hu.size));have K:=hid (fun (u:World) (hu:Below s.heap.size s u)=>(AL.keep (E.trans (hu.mono E.size))).more (qT E.size hu.size));have B:=hid (qB s.heap.size s);obtain⟨P,S,T,U⟩:=C.out _ B.out;clear y Ao;by_cases h5:k=5
  ·subst h5;have C:Hid (∀(u:World),Below s.heap.size s u→(u.cell? ⟨O,0,none⟩=some (.int .u8 (5:Int))∧u.cell? ⟨O,67,none⟩=some (.string t)∧u.cell? ⟨O,68,none⟩=some (.int .i64 n)∧u.cell? ⟨O,69,none⟩=some (.string q))):=hid C.out;obtain⟨P,S,T,U⟩:=C.out _ B.out;by_cases hdoc:JJ deps mk d=true
   rotate_left
   focus
     have G:=hid (Bool.eq_false_iff.2 hdoc);have F:Hid (opB deps mk (5,d,a,t,n,q)=false):=hid (by unfold opB;rw[show kD (5:UInt8)=some (true,false,false,false,false) from rfl];simp [kv,hdoc]);clear hdoc
   rotate_right
   have G:=hid hdoc;by_cases ht:t=kM
   rotate_left
   focus
     have et:t.toList.isEmpty=false:=by rw[kP];exact dF ht
     have F:Hid (opB deps mk (5,d,a,t,n,q)=false):=hid (by unfold opB;rw[show kD (5:UInt8)=some (true,false,false,false,false) from rfl];simp [kv,hdoc,ht]);clear hdoc ht
   rotate_right
   have et:t.toList.isEmpty=true:=by rw[kP];exact dT ht
   by_cases hc:n=0
   rotate_left
   focus
     have ec:(n != 0)=true:=by simpa [bne,beq_eq_false_iff_ne] using hc
     have F:Hid (opB deps mk (5,d,a,t,n,q)=false):=hid (by unfold opB;rw[show kD (5:UInt8)=some (true,false,false,false,false) from rfl];simp [kv,hdoc,ht,hc]);clear hdoc ht hc
   rotate_right
   have ec:(n != 0)=false:=by rw[hc];rfl
   by_cases haz:a=kg
   rotate_left
   focus
     have A6:=hid (fun (u:World)=>(j7 D.1.2.1 kI u).trans (by rw[dF haz]));have F:Hid (opB deps mk (5,d,a,t,n,q)=false):=hid (by unfold opB;rw[show kD (5:UInt8)=some (true,false,false,false,false) from rfl];simp [kv,hdoc,ht,hc,haz]);clear hdoc ht hc haz
   rotate_right
   have A6:=hid (fun (u:World)=>(j7 D.1.2.1 kI u).trans (by rw[dT haz]));by_cases hq:q=kM
   rotate_left
   focus
     have eq:q.toList.isEmpty=false:=by rw[kP];exact dF hq
     have F:Hid (opB deps mk (5,d,a,t,n,q)=false):=hid (by unfold opB;rw[show kD (5:UInt8)=some (true,false,false,false,false) from rfl];simp [kv,hdoc,ht,hc,haz,hq]);clear hdoc ht hc haz hq
   rotate_right
   have eq:q.toList.isEmpty=true:=by rw[kP];exact dT hq
   ·have F:Hid (opB deps mk (5,d,a,t,n,q)=true):=hid (by unfold opB;rw[show kD (5:UInt8)=some (true,false,false,false,false) from rfl];simp [kv,hdoc,ht,hc,haz,hq]);clear hdoc ht hc haz hq
    go_upto_region 22 with (first
      |(with_reducible refine k6 ?_
        refine k5 yx (ldR D.1.1 (M.out _ B.out)) ?_)
      |(with_reducible refine k6 ?_
        refine k5 yx (ldR D.1.2.1 (H.out _ B.out)) ?_)
      |(with_reducible refine k6 ?_
        refine k5 yx (ldR kI (N.out _ B.out)) ?_)
      |(go_at_call 261;refine(jG deps mk d A c Am cm _ hn hmn Q.out R.out D.1.1 hset (J.out _ B.out) (K.out _ B.out)).mono ?_;rintro e w2 ⟨I,rfl⟩;rw[G.out];have B:=hid (B.trans (I.mono B.size));obtain⟨P,S,T,U⟩:=C.out _ B.out;clear I)
      |(with_reducible refine kG ?_
        refine k5 yx (jb 110 _ _ _ rfl (xs:=(kn a).toArray) (ys:=(kn kg).toArray) rfl rfl (r:=true) eqRef.noGuard (A6.out _)) ?_;go_frame;try simp only[nTF]))
    have AZ:=Wg.cell P (qL Y.out B.size);clear P S T U
    try go_frame
    refine j8 yy yy ?_
    repeat (first
      |go_big_quiet_skip
      |(go_big_quiet_want
        first
           |(go_big_quiet_op
             first
                |go_big_quiet_on
                |go_big_quiet_call (first|(fail)))))
    refine wpQuiet_nil ?_;rintro w' ⟨kk,rfl⟩;have Ap:=kk.2;generalize kk.val=w9 at *;clear kk;have B:=hid (B.trans (Ap.below.mono B.size));clear Ap;go_wp2_with fail;go_ret2;have A2:Hid (zL (5,d,a,t,n,q)=[]):=hid rfl;have A0:Hid (mk.length+(zL (5,d,a,t,n,q)).length=mk.length):=hid rfl;exact⟨(E.mono hbs).trans (B.mono (qT hbs E.size)),fun h=>absurd (F.symm.trans h) yv,fun _=>⟨Am,cm,by rw[A0.out];rfl,by rw[A0.out,A2.out,List.append_nil];exact(But.of_below (X:=NoB) (E.trans (B.mono E.size))).own x.out fun _ _ q=>q⟩⟩
   all_goals
     go_wp2_with (first
       |(with_reducible refine k6 ?_
         refine k5 yx (ldR D.1.1 (M.out _ B.out)) ?_)
       |(with_reducible refine k6 ?_
         refine k5 yx (ldR D.1.2.1 (H.out _ B.out)) ?_)
       |(with_reducible refine k6 ?_
         refine k5 yx (ldR kI (N.out _ B.out)) ?_)
       |(go_at_call 261;refine(jG deps mk d A c Am cm _ hn hmn Q.out R.out D.1.1 hset (J.out _ B.out) (K.out _ B.out)).mono ?_;rintro e w2 ⟨I,rfl⟩;rw[G.out];have B:=hid (B.trans (I.mono B.size));obtain⟨P,S,T,U⟩:=C.out _ B.out;clear I)
       |(with_reducible refine kG ?_
         refine k5 yx (jb 110 _ _ _ rfl (xs:=(kn a).toArray) (ys:=(kn kg).toArray) rfl rfl (r:=_) eqRef.noGuard (A6.out _)) ?_;go_frame;try simp only[nTF]))
     go_ret2;exact⟨(E.mono hbs).trans (B.mono (qT hbs E.size)),fun _=>⟨_,rfl⟩,fun h=>absurd (F.symm.trans h) yv⟩
  by_cases h4:k=4
  ·subst h4;have C:Hid (∀(u:World),Below s.heap.size s u→(u.cell? ⟨O,0,none⟩=some (.int .u8 (4:Int))∧u.cell? ⟨O,67,none⟩=some (.string t)∧u.cell? ⟨O,68,none⟩=some (.int .i64 n)∧u.cell? ⟨O,69,none⟩=some (.string q))):=hid C.out;obtain⟨P,S,T,U⟩:=C.out _ B.out;by_cases hdoc:JJ deps mk d=true
   rotate_left
   focus
     have G:=hid (Bool.eq_false_iff.2 hdoc);have F:Hid (opB deps mk (4,d,a,t,n,q)=false):=hid (by unfold opB;rw[show kD (4:UInt8)=some (true,false,false,false,true) from rfl];simp [kv,hdoc]);clear hdoc
   rotate_right
   have G:=hid hdoc;by_cases ht:t=kM
   rotate_left
   focus
     have et:t.toList.isEmpty=false:=by rw[kP];exact dF ht
     have F:Hid (opB deps mk (4,d,a,t,n,q)=false):=hid (by unfold opB;rw[show kD (4:UInt8)=some (true,false,false,false,true) from rfl];simp [kv,hdoc,ht]);clear hdoc ht
   rotate_right
   have et:t.toList.isEmpty=true:=by rw[kP];exact dT ht
   by_cases hc:n=0
   rotate_left
   focus
     have ec:(n != 0)=true:=by simpa [bne,beq_eq_false_iff_ne] using hc
     have F:Hid (opB deps mk (4,d,a,t,n,q)=false):=hid (by unfold opB;rw[show kD (4:UInt8)=some (true,false,false,false,true) from rfl];simp [kv,hdoc,ht,hc]);clear hdoc ht hc
   rotate_right
   have ec:(n != 0)=false:=by rw[hc];rfl
   by_cases haz:a=kg
   rotate_left
   focus
     have A6:=hid (fun (u:World)=>(j7 D.1.2.1 kI u).trans (by rw[dF haz]));have F:Hid (opB deps mk (4,d,a,t,n,q)=false):=hid (by unfold opB;rw[show kD (4:UInt8)=some (true,false,false,false,true) from rfl];simp [kv,hdoc,ht,hc,haz]);clear hdoc ht hc haz
   rotate_right
   have A6:=hid (fun (u:World)=>(j7 D.1.2.1 kI u).trans (by rw[dT haz]));by_cases hpath:jZ q=true
   rotate_left
   focus
     have V:=hid (Bool.eq_false_iff.2 hpath);have F:Hid (opB deps mk (4,d,a,t,n,q)=false):=hid (by unfold opB;rw[show kD (4:UInt8)=some (true,false,false,false,true) from rfl];simp [kv,hdoc,ht,hc,haz,hpath]);clear hdoc ht hc haz hpath
   rotate_right
   have V:=hid hpath
   ·have F:Hid (opB deps mk (4,d,a,t,n,q)=true):=hid (by unfold opB;rw[show kD (4:UInt8)=some (true,false,false,false,true) from rfl];simp [kv,hdoc,ht,hc,haz,hpath]);clear hdoc ht hc haz hpath
    go_upto_region 22 with (first
      |(with_reducible refine k6 ?_
        refine k5 yx (ldR D.1.1 (M.out _ B.out)) ?_)
      |(with_reducible refine k6 ?_
        refine k5 yx (ldR D.1.2.1 (H.out _ B.out)) ?_)
      |(with_reducible refine k6 ?_
        refine k5 yx (ldR kI (N.out _ B.out)) ?_)
      |(go_at_call 261;refine(jG deps mk d A c Am cm _ hn hmn Q.out R.out D.1.1 hset (J.out _ B.out) (K.out _ B.out)).mono ?_;rintro e w2 ⟨I,rfl⟩;rw[G.out];have B:=hid (B.trans (I.mono B.size));obtain⟨P,S,T,U⟩:=C.out _ B.out;clear I)
      |(with_reducible refine kG ?_
        refine k5 yx (jb 110 _ _ _ rfl (xs:=(kn a).toArray) (ys:=(kn kg).toArray) rfl rfl (r:=true) eqRef.noGuard (A6.out _)) ?_;go_frame;try simp only[nTF])
      |(go_at_call 262;refine(vx q _ D.2.2).mono ?_;rintro e w4 ⟨Ag,rfl⟩;rw[V.out];have B:=hid (B.trans (Ag.mono B.size));obtain⟨P,S,T,U⟩:=C.out _ B.out;clear Ag))
    have AZ:=Wg.cell P (qL Y.out B.size);clear P S T U
    try go_frame
    refine j8 yy yy ?_
    repeat (first
      |go_big_quiet_skip
      |(go_big_quiet_want
        first
           |(go_big_quiet_op
             first
                |go_big_quiet_on
                |go_big_quiet_call (first|(fail)))))
    refine wpQuiet_nil ?_;rintro w' ⟨kk,rfl⟩;have Ap:=kk.2;generalize kk.val=w9 at *;clear kk;have B:=hid (B.trans (Ap.below.mono B.size));clear Ap;go_wp2_with fail;go_ret2;have A2:Hid (zL (4,d,a,t,n,q)=[]):=hid rfl;have A0:Hid (mk.length+(zL (4,d,a,t,n,q)).length=mk.length):=hid rfl;exact⟨(E.mono hbs).trans (B.mono (qT hbs E.size)),fun h=>absurd (F.symm.trans h) yv,fun _=>⟨Am,cm,by rw[A0.out];rfl,by rw[A0.out,A2.out,List.append_nil];exact(But.of_below (X:=NoB) (E.trans (B.mono E.size))).own x.out fun _ _ q=>q⟩⟩
   all_goals
     go_wp2_with (first
       |(with_reducible refine k6 ?_
         refine k5 yx (ldR D.1.1 (M.out _ B.out)) ?_)
       |(with_reducible refine k6 ?_
         refine k5 yx (ldR D.1.2.1 (H.out _ B.out)) ?_)
       |(with_reducible refine k6 ?_
         refine k5 yx (ldR kI (N.out _ B.out)) ?_)
       |(go_at_call 261;refine(jG deps mk d A c Am cm _ hn hmn Q.out R.out D.1.1 hset (J.out _ B.out) (K.out _ B.out)).mono ?_;rintro e w2 ⟨I,rfl⟩;rw[G.out];have B:=hid (B.trans (I.mono B.size));obtain⟨P,S,T,U⟩:=C.out _ B.out;clear I)
       |(with_reducible refine kG ?_
         refine k5 yx (jb 110 _ _ _ rfl (xs:=(kn a).toArray) (ys:=(kn kg).toArray) rfl rfl (r:=_) eqRef.noGuard (A6.out _)) ?_;go_frame;try simp only[nTF])
       |(go_at_call 262;refine(vx q _ D.2.2).mono ?_;rintro e w4 ⟨Ag,rfl⟩;rw[V.out];have B:=hid (B.trans (Ag.mono B.size));obtain⟨P,S,T,U⟩:=C.out _ B.out;clear Ag))
     go_ret2;exact⟨(E.mono hbs).trans (B.mono (qT hbs E.size)),fun _=>⟨_,rfl⟩,fun h=>absurd (F.symm.trans h) yv⟩
  by_cases h3:k=3
  ·subst h3;have C:Hid (∀(u:World),Below s.heap.size s u→(u.cell? ⟨O,0,none⟩=some (.int .u8 (3:Int))∧u.cell? ⟨O,67,none⟩=some (.string t)∧u.cell? ⟨O,68,none⟩=some (.int .i64 n)∧u.cell? ⟨O,69,none⟩=some (.string q))):=hid C.out;obtain⟨P,S,T,U⟩:=C.out _ B.out;by_cases hdz:d=kg
   rotate_left
   focus
     have AP:=hid (fun (u:World)=>(j7 D.1.1 kI u).trans (by rw[dF hdz]));have F:Hid (opB deps mk (3,d,a,t,n,q)=false):=hid (by unfold opB;rw[show kD (3:UInt8)=some (false,false,false,false,true) from rfl];simp [kv,hdz]);clear hdz
   rotate_right
   have AP:=hid (fun (u:World)=>(j7 D.1.1 kI u).trans (by rw[dT hdz]));by_cases ht:t=kM
   rotate_left
   focus
     have et:t.toList.isEmpty=false:=by rw[kP];exact dF ht
     have F:Hid (opB deps mk (3,d,a,t,n,q)=false):=hid (by unfold opB;rw[show kD (3:UInt8)=some (false,false,false,false,true) from rfl];simp [kv,hdz,ht]);clear hdz ht
   rotate_right
   have et:t.toList.isEmpty=true:=by rw[kP];exact dT ht
   by_cases hc:n=0
   rotate_left
   focus
     have ec:(n != 0)=true:=by simpa [bne,beq_eq_false_iff_ne] using hc
     have F:Hid (opB deps mk (3,d,a,t,n,q)=false):=hid (by unfold opB;rw[show kD (3:UInt8)=some (false,false,false,false,true) from rfl];simp [kv,hdz,ht,hc]);clear hdz ht hc
   rotate_right
   have ec:(n != 0)=false:=by rw[hc];rfl
   by_cases haz:a=kg
   rotate_left
   focus
     have A6:=hid (fun (u:World)=>(j7 D.1.2.1 kI u).trans (by rw[dF haz]));have F:Hid (opB deps mk (3,d,a,t,n,q)=false):=hid (by unfold opB;rw[show kD (3:UInt8)=some (false,false,false,false,true) from rfl];simp [kv,hdz,ht,hc,haz]);clear hdz ht hc haz
   rotate_right
   have A6:=hid (fun (u:World)=>(j7 D.1.2.1 kI u).trans (by rw[dT haz]));by_cases hpath:jZ q=true
   rotate_left
   focus
     have V:=hid (Bool.eq_false_iff.2 hpath);have F:Hid (opB deps mk (3,d,a,t,n,q)=false):=hid (by unfold opB;rw[show kD (3:UInt8)=some (false,false,false,false,true) from rfl];simp [kv,hdz,ht,hc,haz,hpath]);clear hdz ht hc haz hpath
   rotate_right
   have V:=hid hpath
   ·have F:Hid (opB deps mk (3,d,a,t,n,q)=true):=hid (by unfold opB;rw[show kD (3:UInt8)=some (false,false,false,false,true) from rfl];simp [kv,hdz,ht,hc,haz,hpath]);clear hdz ht hc haz hpath
    go_wp2_with (first
      |(with_reducible refine k6 ?_
        refine k5 yx (ldR D.1.1 (M.out _ B.out)) ?_)
      |(with_reducible refine k6 ?_
        refine k5 yx (ldR D.1.2.1 (H.out _ B.out)) ?_)
      |(with_reducible refine k6 ?_
        refine k5 yx (ldR kI (N.out _ B.out)) ?_)
      |(with_reducible refine kG ?_
        refine k5 yx (jb 110 _ _ _ rfl (xs:=(kn d).toArray) (ys:=(kn kg).toArray) rfl rfl (r:=true) eqRef.noGuard (AP.out _)) ?_;go_frame;try simp only[nTF])
      |(with_reducible refine kG ?_
        refine k5 yx (jb 110 _ _ _ rfl (xs:=(kn a).toArray) (ys:=(kn kg).toArray) rfl rfl (r:=true) eqRef.noGuard (A6.out _)) ?_;go_frame;try simp only[nTF])
      |(go_at_call 262;refine(vx q _ D.2.2).mono ?_;rintro e w4 ⟨Ag,rfl⟩;rw[V.out];have B:=hid (B.trans (Ag.mono B.size));obtain⟨P,S,T,U⟩:=C.out _ B.out;clear Ag)
      |(with_reducible refine kJ ?_
        refine k5 yx (kj 383 #[(0,.const (.bool true))] rfl (madeDoc_built8 _)) ?_)
      |(refine jJ yx 358 _ rfl 383 underlying358 (.agg (kU (false,kg)).toArray) 34 48 Zd rfl yv yv (kU (true,kg)) rfl rfl ?_)
      |(at_builtin;refine wp_appN rfl _ _ 358 rfl base 383 (.agg (kU (false,kg)).toArray) 34 48 underlying358 Zd rfl yv (.slice Am mk.length cm) mk.length (ke kU mk) rfl ((But.of_below (X:=NoB) (E.trans (B.mono E.size))).own x.out fun _ _ q=>q) (kU (true,kg)) 383 rfl rfl (Zb _) yk yz (qT hbs (qT E.size B.size)) ?_
        intro v9 w9 Ah AQ;obtain⟨A9,c9,rfl⟩:=kO Ah;have Aa:=hid Ah;have Ab:=hid (AQ base w (qR _) ((E.mono hbs).trans (B.mono (qT hbs E.size))));clear Ah AQ))
    go_ret2;exact⟨Ab.out,fun h=>absurd (F.symm.trans h) yv,fun _=>⟨A9,c9,rfl,by
      rw[show zL (3,d,a,t,n,q)=[(true,kg)] from rfl,Z7];exact Aa.out⟩⟩
   all_goals
     go_wp2_with (first
       |(with_reducible refine k6 ?_
         refine k5 yx (ldR D.1.1 (M.out _ B.out)) ?_)
       |(with_reducible refine k6 ?_
         refine k5 yx (ldR D.1.2.1 (H.out _ B.out)) ?_)
       |(with_reducible refine k6 ?_
         refine k5 yx (ldR kI (N.out _ B.out)) ?_)
       |(with_reducible refine kG ?_
         refine k5 yx (jb 110 _ _ _ rfl (xs:=(kn d).toArray) (ys:=(kn kg).toArray) rfl rfl (r:=_) eqRef.noGuard (AP.out _)) ?_;go_frame;try simp only[nTF])
       |(with_reducible refine kG ?_
         refine k5 yx (jb 110 _ _ _ rfl (xs:=(kn a).toArray) (ys:=(kn kg).toArray) rfl rfl (r:=_) eqRef.noGuard (A6.out _)) ?_;go_frame;try simp only[nTF])
       |(go_at_call 262;refine(vx q _ D.2.2).mono ?_;rintro e w4 ⟨Ag,rfl⟩;rw[V.out];have B:=hid (B.trans (Ag.mono B.size));obtain⟨P,S,T,U⟩:=C.out _ B.out;clear Ag))
     go_ret2;exact⟨(E.mono hbs).trans (B.mono (qT hbs E.size)),fun _=>⟨_,rfl⟩,fun h=>absurd (F.symm.trans h) yv⟩
  by_cases h2:k=2
  ·subst h2;have C:Hid (∀(u:World),Below s.heap.size s u→(u.cell? ⟨O,0,none⟩=some (.int .u8 (2:Int))∧u.cell? ⟨O,67,none⟩=some (.string t)∧u.cell? ⟨O,68,none⟩=some (.int .i64 n)∧u.cell? ⟨O,69,none⟩=some (.string q))):=hid C.out;obtain⟨P,S,T,U⟩:=C.out _ B.out;by_cases hdoc:JJ deps mk d=true
   rotate_left
   focus
     have G:=hid (Bool.eq_false_iff.2 hdoc);have F:Hid (opB deps mk (2,d,a,t,n,q)=false):=hid (by unfold opB;rw[show kD (2:UInt8)=some (true,true,false,true,false) from rfl];simp [kv,hdoc]);clear hdoc
   rotate_right
   have G:=hid hdoc;by_cases ht:t=kM
   rotate_left
   focus
     have et:t.toList.isEmpty=false:=by rw[kP];exact dF ht
     have F:Hid (opB deps mk (2,d,a,t,n,q)=false):=hid (by unfold opB;rw[show kD (2:UInt8)=some (true,true,false,true,false) from rfl];simp [kv,hdoc,ht]);clear hdoc ht
   rotate_right
   have et:t.toList.isEmpty=true:=by rw[kP];exact dT ht
   by_cases hq:q=kM
   rotate_left
   focus
     have eq:q.toList.isEmpty=false:=by rw[kP];exact dF hq
     have F:Hid (opB deps mk (2,d,a,t,n,q)=false):=hid (by unfold opB;rw[show kD (2:UInt8)=some (true,true,false,true,false) from rfl];simp [kv,hdoc,ht,hq]);clear hdoc ht hq
   rotate_right
   have eq:q.toList.isEmpty=true:=by rw[kP];exact dT hq
   by_cases hc1:1≤n
   rotate_left
   focus
     have B3:decide (1≤n)=false:=dF hc1;have F:Hid (opB deps mk (2,d,a,t,n,q)=false):=hid (by unfold opB;rw[show kD (2:UInt8)=some (true,true,false,true,false) from rfl];simp [kv,hdoc,ht,hq,hc1]);clear hdoc ht hq hc1
   rotate_right
   have B3:decide (1≤n)=true:=dT hc1;by_cases hc2:n≤4096
   rotate_left
   focus
     have B4:decide (n≤4096)=false:=dF hc2;have F:Hid (opB deps mk (2,d,a,t,n,q)=false):=hid (by unfold opB;rw[show kD (2:UInt8)=some (true,true,false,true,false) from rfl];simp [kv,hdoc,ht,hq,hc1,hc2]);clear hdoc ht hq hc1 hc2
   rotate_right
   have B4:decide (n≤4096)=true:=dT hc2;by_cases hel:jE deps mk a d n=true
   rotate_left
   focus
     have l:=hid (Bool.eq_false_iff.2 hel);have Z:=hid (fun (u:World) (g1:Sl u u.heap.size A deps.length 32 (zf deps)) (g2:Sl u u.heap.size Am mk.length 34 (ke kU mk))=>(show Calls prog 263 #[.slice A deps.length c,.slice Am mk.length cm,.agg (kn a).toArray,.agg (kn d).toArray,.int .i64 n] u fun e w'=>Below u.heap.size u w'∧e=.returned (.bool (jE deps mk a d n)) from by
       obtain⟨n',AR⟩:∃n':Nat,n=(n':Int):=⟨n.toNat,by omega⟩;rw[AR];exact ux deps mk a d n' A c Am cm u yz yz hn hmn Q.out R.out D.1.2.1 D.1.1 hset g1 g2))
     have F:Hid (opB deps mk (2,d,a,t,n,q)=false):=hid (by unfold opB;rw[show kD (2:UInt8)=some (true,true,false,true,false) from rfl];simp [kv,hdoc,ht,hq,hc1,hc2,hel]);clear hdoc ht hq hc1 hc2 hel
   rotate_right
   have l:=hid hel
   ·have F:Hid (opB deps mk (2,d,a,t,n,q)=true):=hid (by unfold opB;rw[show kD (2:UInt8)=some (true,true,false,true,false) from rfl];simp [kv,hdoc,ht,hq,hc1,hc2,hel]);have Z:=hid (fun (u:World) (g1:Sl u u.heap.size A deps.length 32 (zf deps)) (g2:Sl u u.heap.size Am mk.length 34 (ke kU mk))=>(show Calls prog 263 #[.slice A deps.length c,.slice Am mk.length cm,.agg (kn a).toArray,.agg (kn d).toArray,.int .i64 n] u fun e w'=>Below u.heap.size u w'∧e=.returned (.bool (jE deps mk a d n)) from by
      obtain⟨n',AR⟩:∃n':Nat,n=(n':Int):=⟨n.toNat,by omega⟩;rw[AR];exact ux deps mk a d n' A c Am cm u yz yz hn hmn Q.out R.out D.1.2.1 D.1.1 hset g1 g2))
    clear hdoc ht hq hc1 hc2 hel
    go_wp2_with (first
      |(with_reducible refine k6 ?_
        refine k5 yx (ldR D.1.1 (M.out _ B.out)) ?_)
      |(with_reducible refine k6 ?_
        refine k5 yx (ldR D.1.2.1 (H.out _ B.out)) ?_)
      |(with_reducible refine k6 ?_
        refine k5 yx (ldR kI (N.out _ B.out)) ?_)
      |(go_at_call 261;refine(jG deps mk d A c Am cm _ hn hmn Q.out R.out D.1.1 hset (J.out _ B.out) (K.out _ B.out)).mono ?_;rintro e w2 ⟨I,rfl⟩;rw[G.out];have B:=hid (B.trans (I.mono B.size));obtain⟨P,S,T,U⟩:=C.out _ B.out;clear I)
      |(go_at_call 263;refine(Z.out _ (J.out _ B.out) (K.out _ B.out)).mono ?_;rintro e w3 ⟨A1,rfl⟩;rw[l.out];have B:=hid (B.trans (A1.mono B.size));obtain⟨P,S,T,U⟩:=C.out _ B.out;clear A1))
    go_ret2;have A2:Hid (zL (2,d,a,t,n,q)=[]):=hid rfl;have A0:Hid (mk.length+(zL (2,d,a,t,n,q)).length=mk.length):=hid rfl;exact⟨(E.mono hbs).trans (B.mono (qT hbs E.size)),fun h=>absurd (F.symm.trans h) yv,fun _=>⟨Am,cm,by rw[A0.out];rfl,by rw[A0.out,A2.out,List.append_nil];exact(But.of_below (X:=NoB) (E.trans (B.mono E.size))).own x.out fun _ _ q=>q⟩⟩
   all_goals
     go_wp2_with (first
       |(with_reducible refine k6 ?_
         refine k5 yx (ldR D.1.1 (M.out _ B.out)) ?_)
       |(with_reducible refine k6 ?_
         refine k5 yx (ldR D.1.2.1 (H.out _ B.out)) ?_)
       |(with_reducible refine k6 ?_
         refine k5 yx (ldR kI (N.out _ B.out)) ?_)
       |(go_at_call 261;refine(jG deps mk d A c Am cm _ hn hmn Q.out R.out D.1.1 hset (J.out _ B.out) (K.out _ B.out)).mono ?_;rintro e w2 ⟨I,rfl⟩;rw[G.out];have B:=hid (B.trans (I.mono B.size));obtain⟨P,S,T,U⟩:=C.out _ B.out;clear I)
       |(go_at_call 263;refine(Z.out _ (J.out _ B.out) (K.out _ B.out)).mono ?_;rintro e w3 ⟨A1,rfl⟩;rw[l.out];have B:=hid (B.trans (A1.mono B.size));obtain⟨P,S,T,U⟩:=C.out _ B.out;clear A1))
     go_ret2;exact⟨(E.mono hbs).trans (B.mono (qT hbs E.size)),fun _=>⟨_,rfl⟩,fun h=>absurd (F.symm.trans h) yv⟩
  by_cases h1:k=1
  ·subst h1;have C:Hid (∀(u:World),Below s.heap.size s u→(u.cell? ⟨O,0,none⟩=some (.int .u8 (1:Int))∧u.cell? ⟨O,67,none⟩=some (.string t)∧u.cell? ⟨O,68,none⟩=some (.int .i64 n)∧u.cell? ⟨O,69,none⟩=some (.string q))):=hid C.out;obtain⟨P,S,T,U⟩:=C.out _ B.out;by_cases hdoc:JJ deps mk d=true
   ·by_cases hc:n=0
    ·have G:=hid hdoc;have ec:(n != 0)=false:=by rw[hc];rfl
     by_cases hq:q=kM
     ·have eq:q.toList.isEmpty=true:=by rw[kP];exact dT hq
      by_cases had:a=d
      ·have Aj:=hid (fun (u:World)=>(j7 D.1.2.1 D.1.1 u).trans (by rw[dT had]));by_cases ht:t=kM
       ·have et:t.toList.isEmpty=true:=by rw[kP];exact dT ht
        have F:Hid (opB deps mk (1,d,a,t,n,q)=false):=hid (by unfold opB;rw[show kD (1:UInt8)=some (true,true,true,false,false) from rfl];simp [kv,hdoc,hc,hq,had,ht]);clear hdoc hc hq had ht
        go_wp2_with (first
          |(with_reducible refine k6 ?_
            refine k5 yx (ldR D.1.1 (M.out _ B.out)) ?_)
          |(with_reducible refine k6 ?_
            refine k5 yx (ldR D.1.2.1 (H.out _ B.out)) ?_)
          |(with_reducible refine k6 ?_
            refine k5 yx (ldR kI (N.out _ B.out)) ?_)
          |(go_at_call 261;refine(jG deps mk d A c Am cm _ hn hmn Q.out R.out D.1.1 hset (J.out _ B.out) (K.out _ B.out)).mono ?_;rintro e w2 ⟨I,rfl⟩;rw[G.out];have B:=hid (B.trans (I.mono B.size));obtain⟨P,S,T,U⟩:=C.out _ B.out;clear I)
          |(with_reducible refine kG ?_
            refine k5 yx (jb 110 _ _ _ rfl (xs:=(kn a).toArray) (ys:=(kn d).toArray) rfl rfl (r:=true) eqRef.noGuard (Aj.out _)) ?_;go_frame;try simp only[nTF]))
        go_ret2;exact⟨(E.mono hbs).trans (B.mono (qT hbs E.size)),fun _=>⟨_,rfl⟩,fun h=>absurd (F.symm.trans h) yv⟩
       ·have et:t.toList.isEmpty=false:=by rw[kP];exact dF ht
        by_cases hfile:KW t=true
        ·have W:=hid (bytesS_ok hfile);have AS:t.size≤1099511627776:=by have:=Jv hfile;omega
         have Au:=hid (show jx t≠none from runes_ok hfile);have Av:=hid (Jv hfile);have F:Hid (opB deps mk (1,d,a,t,n,q)=true):=hid (by unfold opB;rw[show kD (1:UInt8)=some (true,true,true,false,false) from rfl];simp [kv,hdoc,hc,hq,had,ht,hfile]);clear hdoc hc hq had ht hfile
         go_upto_region 13 with (first
           |(with_reducible refine k6 ?_
             refine k5 yx (ldR D.1.1 (M.out _ B.out)) ?_)
           |(with_reducible refine k6 ?_
             refine k5 yx (ldR D.1.2.1 (H.out _ B.out)) ?_)
           |(with_reducible refine k6 ?_
             refine k5 yx (ldR kI (N.out _ B.out)) ?_)
           |(go_at_call 261;refine(jG deps mk d A c Am cm _ hn hmn Q.out R.out D.1.1 hset (J.out _ B.out) (K.out _ B.out)).mono ?_;rintro e w2 ⟨I,rfl⟩;rw[G.out];have B:=hid (B.trans (I.mono B.size));obtain⟨P,S,T,U⟩:=C.out _ B.out;clear I)
           |(with_reducible refine kG ?_
             refine k5 yx (jb 110 _ _ _ rfl (xs:=(kn a).toArray) (ys:=(kn d).toArray) rfl rfl (r:=true) eqRef.noGuard (Aj.out _)) ?_;go_frame;try simp only[nTF])
           |(go_at_call 264;refine(J6 t _).mono ?_;rintro e w5 ⟨Ak,rfl⟩;rw[W.out];have B:=hid (B.trans (Ak.mono B.size));obtain⟨P,S,T,U⟩:=C.out _ B.out;clear Ak)
           |(go_at_call 119;refine(Ub t _ AS).mono ?_;rintro e w6 ⟨AF,A8⟩;rcases A8 with⟨rl,Ar,cr,A8,rfl,-⟩|⟨A8,-⟩
             rotate_left
             ·exact absurd A8 Au.out
             have Aw:=hid A8;clear A8;have B:=hid (B.trans (AF.mono B.size));obtain⟨P,S,T,U⟩:=C.out _ B.out;clear AF))
         have A3:=hid (show rl.length=jV t by unfold jV;rw[Aw.out]);have B5:rl.length≤4096:=by have:=ub t;have:=A3.out;have:=Av.out;omega
         have Al:=AO;go_wp2_with fail
         go_loopw [1,12] (fun t1 t12 wr=>∃(i:Nat) (Ai:Option Addr) (ci:Nat),i≤rl.length∧t12=.int .i64 (i:Int)∧t1=.slice Ai (mk.length+i) ci∧Hid (wr.ownsRow base 383 34 (.slice Ai (mk.length+i) ci) (mk.length+i) (ke kU (mk++List.replicate i (false,d))))∧Hid (Below base w wr)∧Hid (wr.rangeAt O 1 (kn d))∧Hid (∀b,(Value.slice Ai (mk.length+i) ci).ownBlock=some b→b≠O)∧Hid (O<wr.heap.size)) (fun _ t12 _=>rl.length - (intOf t12).toNat)
         case atStart=>
           refine⟨0,Am,cm,Nat.zero_le _,rfl,rfl,hid ?_,hid ((E.mono hbs).trans (B.mono (qT hbs E.size))),hid (M.out _ B.out),hid (fun b e h=>by have h9:=(x.lt b e).2;rw[h,←Al.out] at h9;omega),hid (qL Y.out B.size)⟩;rw[List.replicate_zero,List.append_nil];exact(But.of_below (X:=NoB) (E.trans (B.mono E.size))).own x.out fun _ _ q=>q
         case round=>
           obtain⟨i,Ai,ci,hi,rfl,rfl,A4,f,Ac,Ad,o⟩:=hrel;by_cases hlt:i<rl.length
           ·have i1:(i:Int)<(rl.length:Int):=by omega
            have L:=hid (show Below wr.heap.size wr (wr.alloc (.cells (kU (false,d)).toArray 383)) from (qB _ _).alloc (qR _) _);have Ax:=hid ((But.of_below (X:=NoB) L.out).own A4.out fun _ _ q=>q);have Ay:=hid (show base≤(wr.alloc (.cells (kU (false,d)).toArray 383)).heap.size from qT hbs (qT (qT (show w.heap.size≤wr.heap.size from f.size) (qR _)) L.size));have Az:=hid (show ∀j u,(kU (false,d))[j]?=some u→(wr.alloc (.cells (kU (false,d)).toArray 383)).cell? ((⟨wr.heap.size,0,none⟩:Addr).add j)=some u from fun j u hj=>by
              have e1:(⟨wr.heap.size,0,none⟩:Addr).add j=⟨wr.heap.size,j,none⟩:=by unfold Addr.add;split<;>simp_all
              rw[e1];exact(k4 (heap_alloc_new _ _) j).trans hj)
            go_wp2_with (first
              |(with_reducible refine k6 ?_
                refine k5 yx (ldR D.1.1 Ac.out) ?_)
              |(with_reducible refine kJ ?_
                refine k5 yx (kj 383 #[(1,.tmp 148)] rfl (by simp only[List.map_toArray,List.map_cons,List.map_nil];exact QX (d:=d) D.1.1 _)) ?_)
              |(refine jJ yx 358 _ rfl 383 underlying358 (.agg (kU (false,kg)).toArray) 34 48 Zd rfl yv yv (kU (false,d)) (jl (m:=(false,d)) D.1.1) rfl ?_)
              |(at_builtin;refine KM yx _ _ 358 rfl base 383 (.agg (kU (false,kg)).toArray) 34 48 underlying358 Zd rfl yv (.slice Ai (mk.length+i) ci) (mk.length+i) (ke kU (mk++List.replicate i (false,d))) rfl (Ax.out) ⟨wr.heap.size,0,none⟩ 1 1 (kU (false,d)) rfl (by rw[Nat.one_mul];exact jl (m:=(false,d)) D.1.1) Az.out (Zb _) yk yz Ay.out ?_
                intro v9 w9 Ah AG AH;obtain⟨A9,c9,rfl⟩:=kO Ah;have Aa:=hid Ah;have A5:=hid AG;have AA:=hid AH
                clear Ah AG AH))
            have AB:=hid (show ∀b,(Value.slice A9 (mk.length+i+1) c9).ownBlock=some b→b≠O from fun b e h=>by
              rcases AA.out with q|⟨g,q,hz⟩
              ·exact Ad.out b (by rw[←q];exact e) h
              ·rw[q] at e;have h2:g=b:=Option.some.inj e;have h3:=o.out;have h4:=L.size;omega)
            have AC:=hid (show w9.rangeAt O 1 (kn d) from fun j v hj=>by
              have h1:=Ac.out j v hj;have h2:=(L.cell (p:=⟨O,1+j,none⟩) o.out).trans h1;unfold World.cell? at h2 ⊢;rw[A5.block O (qL o.out L.size) (fun e=>Ad.out O e.symm rfl)];exact h2)
            have Ab:=hid (show Below base w w9 from (f.trans (L.mono (qT hbs f.size))).grown A5.out (qT hbs (qT f.size L.size)) (fun k e=>(A4.lt k e).1));have AD:=hid (show O<w9.heap.size from qL o.out (qT L.size A5.size))
            go_roundw
            case rel=>exact⟨i+1,A9,c9,by omega,by go_num,rfl,hid (by rw[List.replicate_succ',←List.append_assoc,Z7,←Nat.add_assoc];simpa [ke] using Aa.out),Ab,AC,AB,AD⟩
            case measure=>(simp [intOf])<;>omega
           ·have i1:¬(i:Int)<(rl.length:Int):=by omega
            have Ae:=hid (show i=jV t by rw[←A3.out];omega);have Af:=hid (show zL (1,d,a,t,n,q)=List.replicate (jV t) (false,d) from rfl);go_wp2_with fail;go_ret2;exact⟨f.out,fun h=>absurd (F.symm.trans h) yv,fun _=>⟨Ai,ci,by rw[Af.out,List.length_replicate,←Ae.out];rfl,by rw[Af.out,List.length_replicate,←Ae.out];exact A4.out⟩⟩
        ·obtain⟨fb,AI,AJ⟩:=bytesS_no (Bool.eq_false_iff.2 hfile);have W:=hid AI;have B6:(fb != 0)=true:=by simpa [bne,beq_eq_false_iff_ne] using AJ
         clear AI AJ;have F:Hid (opB deps mk (1,d,a,t,n,q)=false):=hid (by unfold opB;rw[show kD (1:UInt8)=some (true,true,true,false,false) from rfl];simp [kv,hdoc,hc,hq,had,ht,hfile]);clear hdoc hc hq had ht hfile
         go_wp2_with (first
           |(with_reducible refine k6 ?_
             refine k5 yx (ldR D.1.1 (M.out _ B.out)) ?_)
           |(with_reducible refine k6 ?_
             refine k5 yx (ldR D.1.2.1 (H.out _ B.out)) ?_)
           |(with_reducible refine k6 ?_
             refine k5 yx (ldR kI (N.out _ B.out)) ?_)
           |(go_at_call 261;refine(jG deps mk d A c Am cm _ hn hmn Q.out R.out D.1.1 hset (J.out _ B.out) (K.out _ B.out)).mono ?_;rintro e w2 ⟨I,rfl⟩;rw[G.out];have B:=hid (B.trans (I.mono B.size));obtain⟨P,S,T,U⟩:=C.out _ B.out;clear I)
           |(with_reducible refine kG ?_
             refine k5 yx (jb 110 _ _ _ rfl (xs:=(kn a).toArray) (ys:=(kn d).toArray) rfl rfl (r:=true) eqRef.noGuard (Aj.out _)) ?_;go_frame;try simp only[nTF])
           |(go_at_call 264;refine(J6 t _).mono ?_;rintro e w5 ⟨Ak,rfl⟩;rw[W.out];have B:=hid (B.trans (Ak.mono B.size));obtain⟨P,S,T,U⟩:=C.out _ B.out;clear Ak))
         go_ret2;exact⟨(E.mono hbs).trans (B.mono (qT hbs E.size)),fun _=>⟨_,rfl⟩,fun h=>absurd (F.symm.trans h) yv⟩
      ·have Aj:=hid (fun (u:World)=>(j7 D.1.2.1 D.1.1 u).trans (by rw[dF had]))
       have Z:=hid (fun (u:World) (g1:Sl u u.heap.size A deps.length 32 (zf deps)) (g2:Sl u u.heap.size Am mk.length 34 (ke kU mk))=>(show Calls prog 263 #[.slice A deps.length c,.slice Am mk.length cm,.agg (kn a).toArray,.agg (kn d).toArray,.int .i64 1] u fun e w'=>Below u.heap.size u w'∧e=.returned (.bool (jE deps mk a d 1)) from
         ux deps mk a d 1 A c Am cm u yz yz hn hmn Q.out R.out D.1.2.1 D.1.1 hset g1 g2))
       by_cases hel1:jE deps mk a d 1=true
       ·have l:=hid hel1;by_cases ht:t=kM
        ·have et:t.toList.isEmpty=true:=by rw[kP];exact dT ht
         have F:Hid (opB deps mk (1,d,a,t,n,q)=false):=hid (by unfold opB;rw[show kD (1:UInt8)=some (true,true,true,false,false) from rfl];simp [kv,hdoc,hc,hq,had,hel1,ht]);clear hdoc hc hq had hel1 ht
         go_wp2_with (first
           |(with_reducible refine k6 ?_
             refine k5 yx (ldR D.1.1 (M.out _ B.out)) ?_)
           |(with_reducible refine k6 ?_
             refine k5 yx (ldR D.1.2.1 (H.out _ B.out)) ?_)
           |(with_reducible refine k6 ?_
             refine k5 yx (ldR kI (N.out _ B.out)) ?_)
           |(go_at_call 261;refine(jG deps mk d A c Am cm _ hn hmn Q.out R.out D.1.1 hset (J.out _ B.out) (K.out _ B.out)).mono ?_;rintro e w2 ⟨I,rfl⟩;rw[G.out];have B:=hid (B.trans (I.mono B.size));obtain⟨P,S,T,U⟩:=C.out _ B.out;clear I)
           |(with_reducible refine kG ?_
             refine k5 yx (jb 110 _ _ _ rfl (xs:=(kn a).toArray) (ys:=(kn d).toArray) rfl rfl (r:=false) eqRef.noGuard (Aj.out _)) ?_;go_frame;try simp only[nTF])
           |(go_at_call 263;refine(Z.out _ (J.out _ B.out) (K.out _ B.out)).mono ?_;rintro e w3 ⟨A1,rfl⟩;rw[l.out];have B:=hid (B.trans (A1.mono B.size));obtain⟨P,S,T,U⟩:=C.out _ B.out;clear A1))
         go_ret2;exact⟨(E.mono hbs).trans (B.mono (qT hbs E.size)),fun _=>⟨_,rfl⟩,fun h=>absurd (F.symm.trans h) yv⟩
        ·have et:t.toList.isEmpty=false:=by rw[kP];exact dF ht
         by_cases hfile:KW t=true
         ·have W:=hid (bytesS_ok hfile);have AS:t.size≤1099511627776:=by have:=Jv hfile;omega
          have Au:=hid (show jx t≠none from runes_ok hfile);have Av:=hid (Jv hfile);have F:Hid (opB deps mk (1,d,a,t,n,q)=true):=hid (by unfold opB;rw[show kD (1:UInt8)=some (true,true,true,false,false) from rfl];simp [kv,hdoc,hc,hq,had,hel1,ht,hfile]);clear hdoc hc hq had hel1 ht hfile
          go_upto_region 13 with (first
            |(with_reducible refine k6 ?_
              refine k5 yx (ldR D.1.1 (M.out _ B.out)) ?_)
            |(with_reducible refine k6 ?_
              refine k5 yx (ldR D.1.2.1 (H.out _ B.out)) ?_)
            |(with_reducible refine k6 ?_
              refine k5 yx (ldR kI (N.out _ B.out)) ?_)
            |(go_at_call 261;refine(jG deps mk d A c Am cm _ hn hmn Q.out R.out D.1.1 hset (J.out _ B.out) (K.out _ B.out)).mono ?_;rintro e w2 ⟨I,rfl⟩;rw[G.out];have B:=hid (B.trans (I.mono B.size));obtain⟨P,S,T,U⟩:=C.out _ B.out;clear I)
            |(with_reducible refine kG ?_
              refine k5 yx (jb 110 _ _ _ rfl (xs:=(kn a).toArray) (ys:=(kn d).toArray) rfl rfl (r:=false) eqRef.noGuard (Aj.out _)) ?_;go_frame;try simp only[nTF])
            |(go_at_call 263;refine(Z.out _ (J.out _ B.out) (K.out _ B.out)).mono ?_;rintro e w3 ⟨A1,rfl⟩;rw[l.out];have B:=hid (B.trans (A1.mono B.size));obtain⟨P,S,T,U⟩:=C.out _ B.out;clear A1)
            |(go_at_call 264;refine(J6 t _).mono ?_;rintro e w5 ⟨Ak,rfl⟩;rw[W.out];have B:=hid (B.trans (Ak.mono B.size));obtain⟨P,S,T,U⟩:=C.out _ B.out;clear Ak)
            |(go_at_call 119;refine(Ub t _ AS).mono ?_;rintro e w6 ⟨AF,A8⟩;rcases A8 with⟨rl,Ar,cr,A8,rfl,-⟩|⟨A8,-⟩
              rotate_left
              ·exact absurd A8 Au.out
              have Aw:=hid A8;clear A8;have B:=hid (B.trans (AF.mono B.size));obtain⟨P,S,T,U⟩:=C.out _ B.out;clear AF))
          have A3:=hid (show rl.length=jV t by unfold jV;rw[Aw.out]);have B5:rl.length≤4096:=by have:=ub t;have:=A3.out;have:=Av.out;omega
          have Al:=AO;go_wp2_with fail
          go_loopw [1,12] (fun t1 t12 wr=>∃(i:Nat) (Ai:Option Addr) (ci:Nat),i≤rl.length∧t12=.int .i64 (i:Int)∧t1=.slice Ai (mk.length+i) ci∧Hid (wr.ownsRow base 383 34 (.slice Ai (mk.length+i) ci) (mk.length+i) (ke kU (mk++List.replicate i (false,d))))∧Hid (Below base w wr)∧Hid (wr.rangeAt O 1 (kn d))∧Hid (∀b,(Value.slice Ai (mk.length+i) ci).ownBlock=some b→b≠O)∧Hid (O<wr.heap.size)) (fun _ t12 _=>rl.length - (intOf t12).toNat)
          case atStart=>
            refine⟨0,Am,cm,Nat.zero_le _,rfl,rfl,hid ?_,hid ((E.mono hbs).trans (B.mono (qT hbs E.size))),hid (M.out _ B.out),hid (fun b e h=>by have h9:=(x.lt b e).2;rw[h,←Al.out] at h9;omega),hid (qL Y.out B.size)⟩;rw[List.replicate_zero,List.append_nil];exact(But.of_below (X:=NoB) (E.trans (B.mono E.size))).own x.out fun _ _ q=>q
          case round=>
            obtain⟨i,Ai,ci,hi,rfl,rfl,A4,f,Ac,Ad,o⟩:=hrel;by_cases hlt:i<rl.length
            ·have i1:(i:Int)<(rl.length:Int):=by omega
             have L:=hid (show Below wr.heap.size wr (wr.alloc (.cells (kU (false,d)).toArray 383)) from (qB _ _).alloc (qR _) _);have Ax:=hid ((But.of_below (X:=NoB) L.out).own A4.out fun _ _ q=>q);have Ay:=hid (show base≤(wr.alloc (.cells (kU (false,d)).toArray 383)).heap.size from qT hbs (qT (qT (show w.heap.size≤wr.heap.size from f.size) (qR _)) L.size));have Az:=hid (show ∀j u,(kU (false,d))[j]?=some u→(wr.alloc (.cells (kU (false,d)).toArray 383)).cell? ((⟨wr.heap.size,0,none⟩:Addr).add j)=some u from fun j u hj=>by
               have e1:(⟨wr.heap.size,0,none⟩:Addr).add j=⟨wr.heap.size,j,none⟩:=by unfold Addr.add;split<;>simp_all
               rw[e1];exact(k4 (heap_alloc_new _ _) j).trans hj)
             go_wp2_with (first
               |(with_reducible refine k6 ?_
                 refine k5 yx (ldR D.1.1 Ac.out) ?_)
               |(with_reducible refine kJ ?_
                 refine k5 yx (kj 383 #[(1,.tmp 148)] rfl (by simp only[List.map_toArray,List.map_cons,List.map_nil];exact QX (d:=d) D.1.1 _)) ?_)
               |(refine jJ yx 358 _ rfl 383 underlying358 (.agg (kU (false,kg)).toArray) 34 48 Zd rfl yv yv (kU (false,d)) (jl (m:=(false,d)) D.1.1) rfl ?_)
               |(at_builtin;refine KM yx _ _ 358 rfl base 383 (.agg (kU (false,kg)).toArray) 34 48 underlying358 Zd rfl yv (.slice Ai (mk.length+i) ci) (mk.length+i) (ke kU (mk++List.replicate i (false,d))) rfl (Ax.out) ⟨wr.heap.size,0,none⟩ 1 1 (kU (false,d)) rfl (by rw[Nat.one_mul];exact jl (m:=(false,d)) D.1.1) Az.out (Zb _) yk yz Ay.out ?_
                 intro v9 w9 Ah AG AH;obtain⟨A9,c9,rfl⟩:=kO Ah;have Aa:=hid Ah;have A5:=hid AG;have AA:=hid AH
                 clear Ah AG AH))
             have AB:=hid (show ∀b,(Value.slice A9 (mk.length+i+1) c9).ownBlock=some b→b≠O from fun b e h=>by
               rcases AA.out with q|⟨g,q,hz⟩
               ·exact Ad.out b (by rw[←q];exact e) h
               ·rw[q] at e;have h2:g=b:=Option.some.inj e;have h3:=o.out;have h4:=L.size;omega)
             have AC:=hid (show w9.rangeAt O 1 (kn d) from fun j v hj=>by
               have h1:=Ac.out j v hj;have h2:=(L.cell (p:=⟨O,1+j,none⟩) o.out).trans h1;unfold World.cell? at h2 ⊢;rw[A5.block O (qL o.out L.size) (fun e=>Ad.out O e.symm rfl)];exact h2)
             have Ab:=hid (show Below base w w9 from (f.trans (L.mono (qT hbs f.size))).grown A5.out (qT hbs (qT f.size L.size)) (fun k e=>(A4.lt k e).1));have AD:=hid (show O<w9.heap.size from qL o.out (qT L.size A5.size))
             go_roundw
             case rel=>exact⟨i+1,A9,c9,by omega,by go_num,rfl,hid (by rw[List.replicate_succ',←List.append_assoc,Z7,←Nat.add_assoc];simpa [ke] using Aa.out),Ab,AC,AB,AD⟩
             case measure=>(simp [intOf])<;>omega
            ·have i1:¬(i:Int)<(rl.length:Int):=by omega
             have Ae:=hid (show i=jV t by rw[←A3.out];omega);have Af:=hid (show zL (1,d,a,t,n,q)=List.replicate (jV t) (false,d) from rfl);go_wp2_with fail;go_ret2;exact⟨f.out,fun h=>absurd (F.symm.trans h) yv,fun _=>⟨Ai,ci,by rw[Af.out,List.length_replicate,←Ae.out];rfl,by rw[Af.out,List.length_replicate,←Ae.out];exact A4.out⟩⟩
         ·obtain⟨fb,AI,AJ⟩:=bytesS_no (Bool.eq_false_iff.2 hfile);have W:=hid AI;have B6:(fb != 0)=true:=by simpa [bne,beq_eq_false_iff_ne] using AJ
          clear AI AJ;have F:Hid (opB deps mk (1,d,a,t,n,q)=false):=hid (by unfold opB;rw[show kD (1:UInt8)=some (true,true,true,false,false) from rfl];simp [kv,hdoc,hc,hq,had,hel1,ht,hfile]);clear hdoc hc hq had hel1 ht hfile
          go_wp2_with (first
            |(with_reducible refine k6 ?_
              refine k5 yx (ldR D.1.1 (M.out _ B.out)) ?_)
            |(with_reducible refine k6 ?_
              refine k5 yx (ldR D.1.2.1 (H.out _ B.out)) ?_)
            |(with_reducible refine k6 ?_
              refine k5 yx (ldR kI (N.out _ B.out)) ?_)
            |(go_at_call 261;refine(jG deps mk d A c Am cm _ hn hmn Q.out R.out D.1.1 hset (J.out _ B.out) (K.out _ B.out)).mono ?_;rintro e w2 ⟨I,rfl⟩;rw[G.out];have B:=hid (B.trans (I.mono B.size));obtain⟨P,S,T,U⟩:=C.out _ B.out;clear I)
            |(with_reducible refine kG ?_
              refine k5 yx (jb 110 _ _ _ rfl (xs:=(kn a).toArray) (ys:=(kn d).toArray) rfl rfl (r:=false) eqRef.noGuard (Aj.out _)) ?_;go_frame;try simp only[nTF])
            |(go_at_call 263;refine(Z.out _ (J.out _ B.out) (K.out _ B.out)).mono ?_;rintro e w3 ⟨A1,rfl⟩;rw[l.out];have B:=hid (B.trans (A1.mono B.size));obtain⟨P,S,T,U⟩:=C.out _ B.out;clear A1)
            |(go_at_call 264;refine(J6 t _).mono ?_;rintro e w5 ⟨Ak,rfl⟩;rw[W.out];have B:=hid (B.trans (Ak.mono B.size));obtain⟨P,S,T,U⟩:=C.out _ B.out;clear Ak))
          go_ret2;exact⟨(E.mono hbs).trans (B.mono (qT hbs E.size)),fun _=>⟨_,rfl⟩,fun h=>absurd (F.symm.trans h) yv⟩
       ·have l:=hid (Bool.eq_false_iff.2 hel1);have F:Hid (opB deps mk (1,d,a,t,n,q)=false):=hid (by unfold opB;rw[show kD (1:UInt8)=some (true,true,true,false,false) from rfl];simp [kv,hdoc,hc,hq,had,hel1]);clear hdoc hc hq had hel1
        go_wp2_with (first
          |(with_reducible refine k6 ?_
            refine k5 yx (ldR D.1.1 (M.out _ B.out)) ?_)
          |(with_reducible refine k6 ?_
            refine k5 yx (ldR D.1.2.1 (H.out _ B.out)) ?_)
          |(with_reducible refine k6 ?_
            refine k5 yx (ldR kI (N.out _ B.out)) ?_)
          |(go_at_call 261;refine(jG deps mk d A c Am cm _ hn hmn Q.out R.out D.1.1 hset (J.out _ B.out) (K.out _ B.out)).mono ?_;rintro e w2 ⟨I,rfl⟩;rw[G.out];have B:=hid (B.trans (I.mono B.size));obtain⟨P,S,T,U⟩:=C.out _ B.out;clear I)
          |(with_reducible refine kG ?_
            refine k5 yx (jb 110 _ _ _ rfl (xs:=(kn a).toArray) (ys:=(kn d).toArray) rfl rfl (r:=false) eqRef.noGuard (Aj.out _)) ?_;go_frame;try simp only[nTF])
          |(go_at_call 263;refine(Z.out _ (J.out _ B.out) (K.out _ B.out)).mono ?_;rintro e w3 ⟨A1,rfl⟩;rw[l.out];have B:=hid (B.trans (A1.mono B.size));obtain⟨P,S,T,U⟩:=C.out _ B.out;clear A1))
        go_ret2;exact⟨(E.mono hbs).trans (B.mono (qT hbs E.size)),fun _=>⟨_,rfl⟩,fun h=>absurd (F.symm.trans h) yv⟩
     ·have eq:q.toList.isEmpty=false:=by rw[kP];exact dF hq
      have F:Hid (opB deps mk (1,d,a,t,n,q)=false):=hid (by unfold opB;rw[show kD (1:UInt8)=some (true,true,true,false,false) from rfl];simp [kv,hdoc,hc,hq]);clear hdoc hc hq
      go_wp2_with (first
        |(with_reducible refine k6 ?_
          refine k5 yx (ldR D.1.1 (M.out _ B.out)) ?_)
        |(with_reducible refine k6 ?_
          refine k5 yx (ldR D.1.2.1 (H.out _ B.out)) ?_)
        |(with_reducible refine k6 ?_
          refine k5 yx (ldR kI (N.out _ B.out)) ?_)
        |(go_at_call 261;refine(jG deps mk d A c Am cm _ hn hmn Q.out R.out D.1.1 hset (J.out _ B.out) (K.out _ B.out)).mono ?_;rintro e w2 ⟨I,rfl⟩;rw[G.out];have B:=hid (B.trans (I.mono B.size));obtain⟨P,S,T,U⟩:=C.out _ B.out;clear I))
      go_ret2;exact⟨(E.mono hbs).trans (B.mono (qT hbs E.size)),fun _=>⟨_,rfl⟩,fun h=>absurd (F.symm.trans h) yv⟩
    ·have G:=hid hdoc;have ec:(n != 0)=true:=by simpa [bne,beq_eq_false_iff_ne] using hc
     have F:Hid (opB deps mk (1,d,a,t,n,q)=false):=hid (by unfold opB;rw[show kD (1:UInt8)=some (true,true,true,false,false) from rfl];simp [kv,hdoc,hc]);clear hdoc hc
     go_wp2_with (first
       |(with_reducible refine k6 ?_
         refine k5 yx (ldR D.1.1 (M.out _ B.out)) ?_)
       |(with_reducible refine k6 ?_
         refine k5 yx (ldR D.1.2.1 (H.out _ B.out)) ?_)
       |(with_reducible refine k6 ?_
         refine k5 yx (ldR kI (N.out _ B.out)) ?_)
       |(go_at_call 261;refine(jG deps mk d A c Am cm _ hn hmn Q.out R.out D.1.1 hset (J.out _ B.out) (K.out _ B.out)).mono ?_;rintro e w2 ⟨I,rfl⟩;rw[G.out];have B:=hid (B.trans (I.mono B.size));obtain⟨P,S,T,U⟩:=C.out _ B.out;clear I))
     go_ret2;exact⟨(E.mono hbs).trans (B.mono (qT hbs E.size)),fun _=>⟨_,rfl⟩,fun h=>absurd (F.symm.trans h) yv⟩
   ·have G:=hid (Bool.eq_false_iff.2 hdoc);have F:Hid (opB deps mk (1,d,a,t,n,q)=false):=hid (by unfold opB;rw[show kD (1:UInt8)=some (true,true,true,false,false) from rfl];simp [kv,hdoc]);clear hdoc
    go_wp2_with (first
      |(with_reducible refine k6 ?_
        refine k5 yx (ldR D.1.1 (M.out _ B.out)) ?_)
      |(with_reducible refine k6 ?_
        refine k5 yx (ldR D.1.2.1 (H.out _ B.out)) ?_)
      |(with_reducible refine k6 ?_
        refine k5 yx (ldR kI (N.out _ B.out)) ?_)
      |(go_at_call 261;refine(jG deps mk d A c Am cm _ hn hmn Q.out R.out D.1.1 hset (J.out _ B.out) (K.out _ B.out)).mono ?_;rintro e w2 ⟨I,rfl⟩;rw[G.out];have B:=hid (B.trans (I.mono B.size));obtain⟨P,S,T,U⟩:=C.out _ B.out;clear I))
    go_ret2;exact⟨(E.mono hbs).trans (B.mono (qT hbs E.size)),fun _=>⟨_,rfl⟩,fun h=>absurd (F.symm.trans h) yv⟩
  have A7:=hid (show kD k=none by unfold kD;simp [h1,h2,h3,h4,h5]);have B7:((k.toNat:Int) == 1)=false:=by rw[beq_eq_false_iff_ne];intro h;exact h1 (by apply UInt8.toNat_inj.1;show k.toNat=1;omega)
  have Bc:((k.toNat:Int) != 1)=true:=by simp only[bne,B7,Bool.not_false]
  have B8:((k.toNat:Int) == 2)=false:=by rw[beq_eq_false_iff_ne];intro h;exact h2 (by apply UInt8.toNat_inj.1;show k.toNat=2;omega)
  have Bd:((k.toNat:Int) != 2)=true:=by simp only[bne,B8,Bool.not_false]
  have B9:((k.toNat:Int) == 3)=false:=by rw[beq_eq_false_iff_ne];intro h;exact h3 (by apply UInt8.toNat_inj.1;show k.toNat=3;omega)
  have Be:((k.toNat:Int) != 3)=true:=by simp only[bne,B9,Bool.not_false]
  have Ba:((k.toNat:Int) == 4)=false:=by rw[beq_eq_false_iff_ne];intro h;exact h4 (by apply UInt8.toNat_inj.1;show k.toNat=4;omega)
  have Bf:((k.toNat:Int) != 4)=true:=by simp only[bne,Ba,Bool.not_false]
  have Bb:((k.toNat:Int) == 5)=false:=by rw[beq_eq_false_iff_ne];intro h;exact h5 (by apply UInt8.toNat_inj.1;show k.toNat=5;omega)
  have Bg:((k.toNat:Int) != 5)=true:=by simp only[bne,Bb,Bool.not_false]
  clear h1 h2 h3 h4 h5;by_cases hdoc:JJ deps mk d=true
  rotate_left
  focus
    have G:=hid (Bool.eq_false_iff.2 hdoc);have F:Hid (opB deps mk (k,d,a,t,n,q)=false):=hid (by unfold opB;rw[A7.out]);clear hdoc
  rotate_right
  have G:=hid hdoc;by_cases ht:t=kM
  rotate_left
  focus
    have et:t.toList.isEmpty=false:=by rw[kP];exact dF ht
    have F:Hid (opB deps mk (k,d,a,t,n,q)=false):=hid (by unfold opB;rw[A7.out]);clear hdoc ht
  rotate_right
  have et:t.toList.isEmpty=true:=by rw[kP];exact dT ht
  by_cases hc:n=0
  rotate_left
  focus
    have ec:(n != 0)=true:=by simpa [bne,beq_eq_false_iff_ne] using hc
    have F:Hid (opB deps mk (k,d,a,t,n,q)=false):=hid (by unfold opB;rw[A7.out]);clear hdoc ht hc
  rotate_right
  have ec:(n != 0)=false:=by rw[hc];rfl
  by_cases haz:a=kg
  rotate_left
  focus
    have A6:=hid (fun (u:World)=>(j7 D.1.2.1 kI u).trans (by rw[dF haz]));have F:Hid (opB deps mk (k,d,a,t,n,q)=false):=hid (by unfold opB;rw[A7.out]);clear hdoc ht hc haz
  rotate_right
  have A6:=hid (fun (u:World)=>(j7 D.1.2.1 kI u).trans (by rw[dT haz]));by_cases hq:q=kM
  rotate_left
  focus
    have eq:q.toList.isEmpty=false:=by rw[kP];exact dF hq
    have F:Hid (opB deps mk (k,d,a,t,n,q)=false):=hid (by unfold opB;rw[A7.out]);clear hdoc ht hc haz hq
  rotate_right
  have eq:q.toList.isEmpty=true:=by rw[kP];exact dT hq
  ·have F:Hid (opB deps mk (k,d,a,t,n,q)=false):=hid (by unfold opB;rw[A7.out]);clear hdoc ht hc haz hq
   go_upto_region 22 with (first
     |(with_reducible refine k6 ?_
       refine k5 yx (ldR D.1.1 (M.out _ B.out)) ?_)
     |(with_reducible refine k6 ?_
       refine k5 yx (ldR D.1.2.1 (H.out _ B.out)) ?_)
     |(with_reducible refine k6 ?_
       refine k5 yx (ldR kI (N.out _ B.out)) ?_)
     |(go_at_call 261;refine(jG deps mk d A c Am cm _ hn hmn Q.out R.out D.1.1 hset (J.out _ B.out) (K.out _ B.out)).mono ?_;rintro e w2 ⟨I,rfl⟩;rw[G.out];have B:=hid (B.trans (I.mono B.size));obtain⟨P,S,T,U⟩:=C.out _ B.out;clear I)
     |(with_reducible refine kG ?_
       refine k5 yx (jb 110 _ _ _ rfl (xs:=(kn a).toArray) (ys:=(kn kg).toArray) rfl rfl (r:=true) eqRef.noGuard (A6.out _)) ?_;go_frame;try simp only[nTF]))
   have AZ:=Wg.cell P (qL Y.out B.size);clear P S T U
   try go_frame
   refine j8 yy yy ?_
   repeat (first
     |go_big_quiet_skip
     |(go_big_quiet_want
       first
          |(go_big_quiet_op
            first
               |go_big_quiet_on
               |go_big_quiet_call (first|(fail)))))
   refine wpQuiet_nil ?_;rintro w' ⟨kk,rfl⟩;have Ap:=kk.2;generalize kk.val=w9 at *;clear kk;have B:=hid (B.trans (Ap.below.mono B.size));clear Ap;go_wp2_with fail;go_ret2;exact⟨(E.mono hbs).trans (B.mono (qT hbs E.size)),fun _=>⟨_,rfl⟩,fun h=>absurd (F.symm.trans h) yv⟩
  all_goals
    go_wp2_with (first
      |(with_reducible refine k6 ?_
        refine k5 yx (ldR D.1.1 (M.out _ B.out)) ?_)
      |(with_reducible refine k6 ?_
        refine k5 yx (ldR D.1.2.1 (H.out _ B.out)) ?_)
      |(with_reducible refine k6 ?_
        refine k5 yx (ldR kI (N.out _ B.out)) ?_)
      |(go_at_call 261;refine(jG deps mk d A c Am cm _ hn hmn Q.out R.out D.1.1 hset (J.out _ B.out) (K.out _ B.out)).mono ?_;rintro e w2 ⟨I,rfl⟩;rw[G.out];have B:=hid (B.trans (I.mono B.size));obtain⟨P,S,T,U⟩:=C.out _ B.out;clear I)
      |(with_reducible refine kG ?_
        refine k5 yx (jb 110 _ _ _ rfl (xs:=(kn a).toArray) (ys:=(kn kg).toArray) rfl rfl (r:=_) eqRef.noGuard (A6.out _)) ?_;go_frame;try simp only[nTF]))
    go_ret2;exact⟨(E.mono hbs).trans (B.mono (qT hbs E.size)),fun _=>⟨_,rfl⟩,fun h=>absurd (F.symm.trans h) yv⟩
theorem refOp_any(base:Nat)(deps:List (List UInt8))(mk:List jQ)(x:OpD)(A:Option Addr)(c:Nat)(Am:Option Addr)(cm:Nat)(w:World)(hn:deps.length≤1099511627776)(hmn:mk.length≤1000000000)(ho:IdsOk deps)(hm:∀m∈mk,vM m)(hx:KR x)(hset:je deps=true)(hs:Sl w w.heap.size A deps.length 32 (zf deps))(how:w.ownsRow base 383 34 (.slice Am mk.length cm) mk.length (ke kU mk))(hbs:base≤w.heap.size):
    Calls prog 237 #[.slice A deps.length c,.slice Am mk.length cm,.agg (opV x).toArray] w (OpGives base deps mk x w):=by
  obtain⟨k,d,a,t,n,q⟩:=x;exact refOp_all base deps mk k d a t n q A c Am cm w hn hmn ho hm hx hset hs how hbs
end
end Go.Proofs.YtdgbjhfkmembdaaGreatDoor