/-
  Plain facts, and contracts of the functions that the claim's walk comes to, one behind the other. Conditions: as each says.
-/
import Derived.Test.YtdgbjhfkmembdaaGreatDoorPart17
import Derived.Test.YtdgbjhfkmembdaaGreatDoorPart15
import Derived.Test.YtdgbjhfkmembdaaGreatDoorPart7
set_option linter.unusedVariables false
set_option linter.unusedSimpArgs false
set_option maxHeartbeats 4000000
set_option maxRecDepth 100000
open Go.Proofs.Tryz
namespace Go.Proofs.YtdgbjhfkmembdaaGreatDoor
section
open Go.RowKit Go.Maps Go.Shelf
open Lib (hid)
def zO:kF:=(0,k7,0)
theorem QB:kN zO:=⟨by decide,jL,by decide⟩
theorem key_built0:prog.built 89 []=some (k8 zO).toArray:=by kernel_rfl
theorem find_none{r:List vF}{l:List kS}{p:ByteArray}(hr:(r.map fun x=>(x.1,L x.2))=uN l)(h:∀j (hj:j<r.length),r[j].2≠p):Ks l (L p)=none:=by
  unfold Ks;rw[Option.map_eq_none_iff,List.find?_eq_none,←hr];intro x A;obtain⟨y,B,rfl⟩:=List.mem_map.1 A;obtain⟨j,hj,rfl⟩:=List.getElem_of_mem B;simp only[beq_iff_eq];exact fun e=>h j hj (L_inj e)
theorem find_hit{r:List vF}{l:List kS}{p:ByteArray}(hr:(r.map fun x=>(x.1,L x.2))=uN l){i:Nat}(hi:i<r.length)(hp:r[i].2=p)(h:∀j (hj:j<r.length),j<i→r[j].2≠p):Ks l (L p)=some r[i].1:=by
  unfold Ks;have:((uN l).find? fun n=>n.2 == L p)=some (r[i].1,L r[i].2):=by
    rw[←hr,List.find?_eq_some_iff_getElem];refine⟨by simp [hp],i,by simpa using hi,by simp,fun j hj=>?_⟩;simp only[List.getElem_map,Bool.not_eq_true',beq_eq_false_iff_ne,ne_eq];exact fun e=>h j yz hj (L_inj e)
  rw[this];rfl
theorem find_any14(l:List kS)(p:ByteArray)(A:Option Addr)(c:Nat)(w:World)(hl:l.length≤90)(hok:∀x∈l,Kf x)(hsm:∀x∈l,x.2.2.2.size≤1073741824)(hsl:Sl w w.heap.size A l.length 70 (ke kT l))(hg:Glob w):
    Calls prog 146 #[.slice A l.length c,.string p] w fun e w'=>Below w.heap.size w w'∧e=.returned (.tuple #[ZX ((Ks l (L p)).getD zO),.bool (Ks l (L p)).isSome]):=by
  have J:Below w.heap.size w (w.alloc (.cells (k8 zO).toArray 89)):=(Below.refl _ _).alloc (Nat.le_refl _) _;have h0:(w.alloc (.cells (k8 zO).toArray 89)).heap[w.heap.size]?=some (.cells (k8 zO).toArray 89 (0,0)):=heap_alloc_new _ _;have Q:=paths_any l A c (w.alloc (.cells (k8 zO).toArray 89)) hl hok hsm ((hsl.keep J).more J.size) (hg.next J);have A7:(w.alloc (.cells (k8 zO).toArray 89)).heap.size=w.heap.size+1:=by simp
  have A8:(k8 zO).length=34:=k9 QB;clear hsl hok hsm;go_enter func146,ntmps146;go_wp2_with fail;refine Q.mono ?_;generalize w.alloc (.cells (k8 zO).toArray 89)=W0 at *;rintro e W ⟨k,A1,c1,r,rfl,hr,hk,hs⟩;have A0:Below w.heap.size w W:=J.trans (k.mono J.size);have X:W.heap[w.heap.size]?=some (.cells (k8 zO).toArray 89 (0,0)):=(k.block _ yz).trans h0;have A2:w.heap.size<W.heap.size:=(Array.getElem?_eq_some_iff.1 X).1;have A9:r.length≤90:=by
    have h:=congrArg List.length hr;rw[List.length_map] at h;rw[h];unfold uN
    split
    ·have:=JY (Kk l) (docsS l) [];have:=Qc l;omega
    ·simp
  have N:=find_none (p:=p) hr;have F:=fun i hi hp h=>find_hit (p:=p) hr (i:=i) hi hp h
  obtain⟨A3,Y⟩:∃A3,Ks l (L p)=A3:=⟨_,rfl⟩;rw[Y] at N F;have G:=hid Y;have D:=hid N;have C:=hid F;have f:=hid hk;have HS:=hid hs;have O:=hid X;have E:=hid A0
  clear N F hk hs X A0 k h0 J Q hr A7 Y;go_wp2_with fail
  go_loopw [11] (fun t wr=>∃i:Nat,i≤r.length∧t=.int .i64 i∧Below W.heap.size W wr∧Hid (∀j (R:j<r.length),j<i→r[j].2≠p)) (fun t _=>r.length - (intOf t).toNat)
  case atStart=>exact⟨0,by omega,rfl,Below.refl _ _,hid fun j R h=>absurd h yz⟩
  case round=>
    obtain⟨i,hi,rfl,I,hI⟩:=hrel;by_cases hlt:i<r.length
    ·obtain⟨b,Aa,rfl,Ab,A4⟩:=(HS.keep I).2 yz;have i0:(0:Int)≤(i:Int):=by omega
     have i1:(i:Int)<(r.length:Int):=by omega
     have K:∀z∈r,NamedOk z:=fun z hz=>⟨(f.out z hz).1,by have:=(f.out z hz).2;unfold maxLen;omega⟩
     have m:=Sl.row (fun z hz=>vG (K z hz)) A4 hlt;have hn:=K _ (List.getElem_mem hlt);have F:=C.out i hlt;have a:r[i].2≠p→∀j (R:j<r.length),j<i+1→r[j].2≠p:=by
       intro h j R Ac;rcases (by omega:j<i∨j=i) with q|rfl
       ·exact hI.out j R q
       ·exact h
     have S:=hid (fun h=>F h hI.out);have H:=hid a;have T:=hid m;have M:=hid hn
     clear m A4 F a K hn;generalize r[i]=z at *;have A5:=vG M.out;have A6:(prog.info? 91).map (·.size)=some (jW z).length:=by rw[A5];kernel_rfl
     go_upto_region 4 with (first
       |(refine j9 rfl 91 _ rfl b _ rfl (jW z) _ T.out underlying91 rfl A6 ?_)
       |(refine Kw (B:=wr.heap.size) (w0:=wr) rfl 91 _ _ rfl wr.heap.size _ rfl rfl 91 _ (heap_alloc_new _ _) (by rw[List.size_toArray];exact A6) (by rw[List.size_toArray,List.size_toArray,A5];rfl) (by simpa using namedV_one z) ((Below.refl _ _).alloc (Nat.le_refl _) _) (Nat.le_refl _) ?_;intro W2 n o _))
     have Ad:=(jt o 34).trans (named_cell M.out);have K2:Hid (∀j u,(k8 z.1)[j]?=some u→W2.cell? ⟨wr.heap.size,0+j,none⟩=some u):=fun j u R=>(jt o (0+j)).trans (named_doc M.out j u R)
     have B2:Hid (Below W.heap.size W W2):=I.trans (n.mono I.size);have d:kN z.1:=M.1;have s:Hid (W2.heap[w.heap.size]?=some (.cells (k8 zO).toArray 89 (0,0))):=(B2.block _ A2).trans O.out;clear o n I;by_cases heq:z.2=p
     ·have v:=S.out heq;have U:=hid v;have e1:(z.2.toList == p.toList)=true:=by rw[heq];exact beq_self_eq_true _
      clear v heq S H D C
      go_wp2_with (first
        |(refine j9 rfl 89 _ rfl wr.heap.size 0 rfl (k8 z.1) _ K2.out underlying89 rfl (by rw[k9 d];exact KV) ?_)
        |(refine Kw (B:=w.heap.size) (w0:=w) rfl 89 _ _ rfl w.heap.size _ rfl rfl 89 _ s.out (Ky d) (by rw[List.size_toArray,List.size_toArray,A8,k9 d]) (by simpa using j4 z.1) (E.trans (B2.mono E.size)) (Nat.le_refl _) ?_;intro W4 Z y _))
      refine bodyPost_ret (K8 results146 _ _ rfl rfl (run_loadVar_row (P:=prog) _ w.heap.size 89 89 _ (0,0) _ y underlying89 rfl (Ky d))) rfl ⟨Z,?_⟩;rw[G.out,U.out];rfl
     ·have e1:(z.2.toList == p.toList)=false:=by
        rw[beq_eq_false_iff_ne];intro h;rw[ZR,ZR] at h;exact heq (L_inj h)
      have K:=H.out heq;have V:=hid K;clear K heq S H C;go_wp2_with fail
      go_roundw
      case rel=>exact⟨i+1,by omega,by go_num,B2.out,V⟩
      case measure=>simp [intOf];omega
    ·have v:=D.out (fun j R=>hI.out j R yz);have U:=hid v;have s:Hid (wr.heap[w.heap.size]?=some (.cells (k8 zO).toArray 89 (0,0))):=(I.block _ A2).trans O.out;have g:=hid I;clear v I
     go_wp2_with (first
       |((with_reducible refine wpList_buildTo rfl 89 _ rfl _ rfl (k8 zO).toArray ?_ ?_)
         ·simp only[List.map_toArray,List.map_nil];exact key_built0)
       |(refine Kw (B:=w.heap.size) (w0:=w) rfl 89 _ _ rfl w.heap.size _ rfl rfl 89 _ s.out (Ky QB) rfl (by simpa using j4 zO) (E.trans (g.mono E.size)) (Nat.le_refl _) ?_;intro W4 Z y _))
     refine bodyPost_ret (K8 results146 _ _ rfl rfl (run_loadVar_row (P:=prog) _ w.heap.size 89 89 _ (0,0) _ y underlying89 rfl (Ky QB))) rfl ⟨Z,?_⟩;rw[G.out,U.out];rfl
end
section
open Go.RowKit Go.Maps
open Lib (hid)
def U1(S:kz)(q:j5)(k:kF):Value:=((jR S k).map fun _=>Value.pointer (some ⟨q.ptr k,0,none⟩)).getD (.pointer none)
theorem docPtrZ15(w:World):(zeroValue 92).run prog w=.ok (.pointer none) w:=by kernel_rfl
theorem named_any15(B s:Nat)(S:kz)(q:j5)(p:ByteArray)(w:World)(h:StateAt w B s S q)(hl:S.2.1.length≤90)(hsm:∀x∈S.2.1,x.2.2.2.size≤1073741824)(hg:Glob w)(hk:kN ((Ks S.2.1 (L p)).getD zO)):
    Calls prog 87 #[.pointer (some ⟨s,0,none⟩),.string p] w fun e w'=>Below w.heap.size w w'∧e=.returned (.tuple #[.agg (k8 ((Ks S.2.1 (L p)).getD zO)).toArray,U1 S q ((Ks S.2.1 (L p)).getD zO),.bool (Ks S.2.1 (L p)).isSome]):=by
  have Z:=hid h;have I:=hid hk
  obtain⟨A,c,hv⟩:=jd h.claims;have J:=hid (fun (u:World) (Y:Below w.heap.size w u)=>find_any14 S.2.1 p A c u hl h.claimsOk hsm (Sl.of_own (by have:=(h.keep Y).claims;rw[hv] at this;exact this)) (hg.next Y));have c1:w.cell? ⟨s,1,none⟩=some (.slice A S.2.1.length c):=(k4 h.box 1).trans (congrArg some hv);clear h hk hsm hg hv;obtain⟨k,W⟩:∃k,(Ks S.2.1 (L p)).getD zO=k:=⟨_,rfl⟩;obtain⟨bb,i⟩:∃b,(Ks S.2.1 (L p)).isSome=b:=⟨_,rfl⟩;rw[W,i];simp only[W,i] at J;rw[W] at I;clear W i;have V:=k9 I.out;have l:Below w.heap.size w (w.alloc (.cells (k8 (0,k7,0)).toArray 89)):=(qB _ _).alloc (qR _) _;go_enter func87,ntmps87
  go_upto_region 1 with (first
    |(with_reducible refine kA ?_
      refine ks yx 89 rfl (k8 (0,k7,0)) (zq _) ?_;intro W0 l n A3;have D:=hid l;have E:=hid n
      clear l n A3))
  obtain⟨O,Q⟩:∃z,w.heap.size=z:=⟨_,rfl⟩;rw[Q] at E ⊢;have a:=hid (show w.heap.size≤O by omega);have A4:W0.cell? ⟨s,1,none⟩=some (.slice A S.2.1.length c):=(D.cell (p:=⟨s,1,none⟩) (qX Z.box)).trans c1;clear c1 Q
  go_upto_region 2 with (first
    |(go_at_call 146;refine(J.out W0 D.out).mono ?_;rintro e m ⟨o,rfl⟩;have F:=hid o;clear o)
    |(with_reducible refine kA ?_
      refine ks yx 89 rfl (k8 (0,k7,0)) (zq _) ?_;intro W2 r t A5;have K:=hid r;have T:=hid t
      clear r t A5)
    |(with_reducible refine kw ?_
      refine ko yx 89 _ _ rfl m.heap.size 0 [] (k8 (0,k7,0)) [] (k8 k) 89 (.agg (k8 k).toArray) rfl rfl rfl rfl (by simpa using T.out) (by rw[V];rfl) (by rw[V];kernel_rfl) (j4 _) ?_;intro R y A0 A6;have U:=hid (F.trans ((K.trans (y.below (B:=m.heap.size) K.size (fun k hk e=>by have e2:k=m.heap.size:=e;omega))).mono F.size));have M:Hid (R.heap[m.heap.size]?=some (.cells (k8 k).toArray 89 (0,0))):=hid (by simpa using A0);clear y A0 A6))
  clear A4;obtain⟨b7,A1⟩:∃z,m.heap.size=z:=⟨_,rfl⟩;have HN:=hid (show O≠b7 by have:=qX E.out;have:=F.size;omega);rw[A1] at M ⊢;have G:Hid (Below w.heap.size w R):=hid (D.trans (U.mono D.size));have C:=hid (Z.keep G.out);have N:=hid ((U.block O (qX E.out)).trans E.out);clear F K T A1 J;have H:=hid (show ∀u:World,But (fun k=>k=O) R u→u.rangeAt b7 0 (k8 k)∧u.cell? ⟨s,0,none⟩=some (.map (some q.bd))∧MapV u prog 89 kN uP q.bd q.nd (fun k=>(jR S k).map fun _=>.pointer (some ⟨q.ptr k,0,none⟩)) from fun u Y=>⟨fun j v hj=>by rw[qZ];exact(k4 ((Y.block b7 (qX M.out) fun e=>HN.out e.symm).trans M.out) j).trans hj,k4 ((Y.block s (qX C.box) (jr C.box N.out yv)).trans C.box) 0,Y.map C.mapD fun e=>Jt N.out C.mapD_obj e.symm⟩);refine rN 11 (fun u=>But (fun k=>k=O) R u) (But.of_below (qD _ _)) fun X=>?_
  refine tl 0 (.agg (k8 k).toArray) rfl X (fun w' P=>ldK I.out (H.out w' P).1) ?_;go_frame;refine tw 1 (.pointer (some ⟨s,0,none⟩)) ?_;go_frame;refine tw 2 (.pointer (some ⟨s,0,none⟩)) ?_;go_frame;refine tw 3 (.pointer (some ⟨s,0,none⟩)) ?_;go_frame;refine tl 4 (.map (some q.bd)) rfl X (fun w' P=>l1 underlying81 (H.out w' P).2.1) ?_;go_frame;refine tl 5 (.agg (k8 k).toArray) rfl X (fun w' P=>ldK I.out (H.out w' P).1) ?_;go_frame;refine tl 6 (U1 S q k) rfl X (fun w' P=>KF keyEnc underlying81 (docPtrZ15 _) (H.out w' P).2.2 I.out rfl) ?_;go_frame;refine tw 7 (.bool bb) ?_;go_frame;refine ta 8 ?_;refine kW _ rfl yy 89 _ _ rfl O 0 [] (k8 (0,k7,0)) [] (k8 k) 89 (.agg (k8 k).toArray) rfl rfl rfl rfl (by simpa using (show R.drew.heap[O]?=_ from N.out)) (by rw[V];rfl) (by rw[V];kernel_rfl) (j4 _) ?_;intro W4 Q A2 A7;have d:=hid (((qD R.heap.size R).mono G.size).trans (Q.below (B:=w.heap.size) G.size (fun k hk e=>by have e2:k=O:=e;have:=a.out;omega)));have f:Hid (But (fun k=>k=O) R W4):=hid ((But.refl _ R).drew.trans Q fun k _ e=>e);have g:Hid (W4.rangeAt O 0 (k8 k)):=hid fun j u hj=>by rw[qZ];exact(k4 A2 j).trans (by simpa using hj)
  clear Q A2 A7;refine⟨fun _ _=>f.out,?_⟩;go_frame;refine tw 9 (U1 S q k) ?_;go_frame;refine tw 10 (.bool bb) ?_;go_frame;refine ku yy ?_ _;go_wp2_with fail;refine bodyPost_ret (vz results87 _ _ rfl (qV _ O 0 89 (k8 k) _ g.out underlying89 rfl (by rw[V];kernel_rfl))) rfl ?_;exact⟨G.trans d.out,rfl⟩
def FindRes(S:kz)(q:j5)(p:ByteArray):Value:=match Ks S.2.1 (L p) with
  |none=>.tuple #[.agg (k8 (0,k7,0)).toArray,.pointer none,.int .i64 4]
  |some k=>.tuple #[.agg (k8 k).toArray,U1 S q k,.int .i64 0]
theorem sfind_any(B s:Nat)(S:kz)(q:j5)(p:ByteArray)(w:World)(h:StateAt w B s S q)(hl:S.2.1.length≤90)(hsm:∀x∈S.2.1,x.2.2.2.size≤1073741824)(hg:Glob w)(hk:kN ((Ks S.2.1 (L p)).getD zO)):
    Calls prog 40 #[.pointer (some ⟨s,0,none⟩),.string p] w fun e w'=>Below w.heap.size w w'∧e=.returned (FindRes S q p):=by
  have J:=hid hk;have I:=hid (fun (u:World) (hu:Below w.heap.size w u)=>named_any15 B s S q p u (h.keep hu) hl hsm (hg.next hu) hk);clear h hl hsm hg hk;unfold FindRes;obtain⟨o,l⟩:∃o,Ks S.2.1 (L p)=o:=⟨_,rfl⟩;rw[l] at J ⊢;simp only[l] at I;clear l;have P:=k9 J.out;cases o with
  |none=>
   go_enter func40,ntmps40
   go_wp2_with (first
      |(go_at_call 87;refine(I.out _ A.out).mono ?_;rintro e a ⟨Q,rfl⟩;have C:=hid Q;have E:=hid ((Q.block w.heap.size (qX D.out)).trans D.out);clear Q)
      |(with_reducible refine kA ?_
        first
        |(refine ks yx 89 rfl (k8 (0,k7,0)) (zq _) ?_;intro t R U c;have F:=hid (C.trans (R.mono C.size));have K:=hid U
          have G:=hid ((R.block w.heap.size (qX E.out)).trans E.out);clear R U c)
        |(refine ks yx 89 rfl (k8 (0,k7,0)) (zq _) ?_;intro v V W d;have A:=hid V;have D:=hid W
          clear V W d))
      |(with_reducible refine kJ ?_
        refine k5 yx (kj 89 _ rfl (keyZ_built _)) ?_)
      |(with_reducible refine kw ?_
        first
        |(refine ko yx 89 _ _ rfl w.heap.size 0 [] (k8 (0,k7,0)) [] (k8 (0,k7,0)) 89 (.agg (k8 (0,k7,0)).toArray) rfl rfl rfl rfl (by simpa using M.out) rfl yy (j4 _) ?_;intro m X Y f;have N:Hid (m.rangeAt w.heap.size 0 (k8 (0,k7,0))):=hid fun j u g=>by rw[qZ];exact(k4 Y j).trans (by simpa using g)
          have O:=hid (H.trans (X.below (B:=w.heap.size) (qT A.size H.size) (fun k hk e=>by have n:k=w.heap.size:=e;omega)));clear X Y f)
        |(refine ko yx 89 _ _ rfl a.heap.size 0 [] (k8 (0,k7,0)) [] (k8 zO) 89 (.agg (k8 zO).toArray) rfl rfl rfl rfl (by simpa using K.out) rfl yy (j4 _) ?_;intro r T Z i;have H:=hid (F.mono A.size|>.trans (T.below (B:=w.heap.size) (qT A.size F.size) (fun k hk e=>by have n:k=a.heap.size:=e;have:=A.size;have:=C.size;omega)));have M:=hid ((T.block w.heap.size (qX G.out) (by have:=qX D.out;have:=C.size;omega)).trans G.out);clear T Z i)))
   refine bodyPost_ret (vz results40 _ _ rfl (qV _ w.heap.size 0 89 (k8 (0,k7,0)) _ N.out underlying89 rfl yy)) rfl ?_;exact⟨A.trans O.out,rfl⟩
  |some k=>
   replace J:Hid (kN k):=J
   replace P:(k8 k).length=34:=P
   simp only[Option.getD_some,Option.isSome_some] at I;go_enter func40,ntmps40
   go_wp2_with (first
      |(go_at_call 87;refine(I.out _ A.out).mono ?_;rintro e a ⟨Q,rfl⟩;have C:=hid Q;have E:=hid ((Q.block w.heap.size (qX D.out)).trans D.out);clear Q)
      |(with_reducible refine kA ?_
        first
        |(refine ks yx 89 rfl (k8 (0,k7,0)) (zq _) ?_;intro t R U c;have F:=hid (C.trans (R.mono C.size));have K:=hid U
          have G:=hid ((R.block w.heap.size (qX E.out)).trans E.out);clear R U c)
        |(refine ks yx 89 rfl (k8 (0,k7,0)) (zq _) ?_;intro v V W d;have A:=hid V;have D:=hid W
          clear V W d))
      |(with_reducible refine k6 ?_
        refine k5 yx (ldK J.out b.out) ?_)
      |(with_reducible refine kw ?_
        first
        |(refine ko yx 89 _ _ rfl w.heap.size 0 [] (k8 (0,k7,0)) [] (k8 k) 89 (.agg (k8 k).toArray) rfl rfl rfl rfl (by simpa using M.out) (by rw[P];rfl) (by rw[P];kernel_rfl) (j4 _) ?_;intro m X Y f;have N:Hid (m.rangeAt w.heap.size 0 (k8 k)):=hid fun j u g=>by rw[qZ];exact(k4 Y j).trans (by simpa using g)
          have O:=hid (H.trans (X.below (B:=w.heap.size) (qT A.size H.size) (fun k hk e=>by have n:k=w.heap.size:=e;omega)));clear X Y f)
        |(refine ko yx 89 _ _ rfl a.heap.size 0 [] (k8 (0,k7,0)) [] (k8 k) 89 (.agg (k8 k).toArray) rfl rfl rfl rfl (by simpa using K.out) (by rw[P];rfl) (by rw[P];kernel_rfl) (j4 _) ?_;intro r T Z i;have H:=hid (F.mono A.size|>.trans (T.below (B:=w.heap.size) (qT A.size F.size) (fun k hk e=>by have n:k=a.heap.size:=e;have:=A.size;have:=C.size;omega)));have b:Hid (r.rangeAt a.heap.size 0 (k8 k)):=hid fun j u g=>by rw[qZ];exact(k4 Z j).trans (by simpa using g)
          have M:=hid ((T.block w.heap.size (qX G.out) (by have:=qX D.out;have:=C.size;omega)).trans G.out);clear T Z i)))
   refine bodyPost_ret (vz results40 _ _ rfl (qV _ w.heap.size 0 89 (k8 k) _ N.out underlying89 rfl (by rw[P];kernel_rfl))) rfl ?_;exact⟨A.trans O.out,rfl⟩
end
section
open Go.RowKit Go.Maps
theorem lives_any(d:Option Addr)(w:World):Calls prog 80 #[.pointer d] w fun e w'=>Below w.heap.size w w'∧w'.heap[w.heap.size]?=some (.cells [.pointer d].toArray 92 (0,0))∧e=.returned (.func (.func 132) #[] #[.pointer (some ⟨w.heap.size,0,none⟩)]):=by
  have F:∀(fn:Fn) (first cap:Array Value) (w:World),(Instr.makeFunc fn first cap).run prog w=.ok (.func fn first cap) w:=fun _ _ _ _=>rfl
  go_enter func80,ntmps80
  go_wp2_with (first
    |(with_reducible refine kB ?_
      refine kr yx 92 _ rfl [.pointer d] _ rfl rfl yy ?_;intro G C D E;have A:=Lib.hid C;have B:=Lib.hid D
      clear C D E))
  go_ret;exact⟨A.out,B.out,rfl⟩
theorem livesIt_nil(b:Nat)(y:Value)(w:World)(h:w.heap[b]?=some (.cells [.pointer none].toArray 92 (0,0))):Calls prog 132 #[y,.pointer (some ⟨b,0,none⟩)] w fun e w'=>w'=w∧e=.returned (.tuple #[]):=by
  have A:w.cell? ⟨b,0,none⟩=some (.pointer none):=k4 h 0;clear h;go_enter func132,ntmps132
  go_wp2
  refine bodyPost_ret (results_none yy _ _ _) rfl ?_;exact⟨rfl,rfl⟩
end
end Go.Proofs.YtdgbjhfkmembdaaGreatDoor