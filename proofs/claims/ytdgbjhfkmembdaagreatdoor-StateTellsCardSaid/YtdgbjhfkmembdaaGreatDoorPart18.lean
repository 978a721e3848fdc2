/-
  Facts and contracts that the walk needs. Conditions: as each says.
-/
import Derived.Test.YtdgbjhfkmembdaaGreatDoorPart7
import Derived.Test.YtdgbjhfkmembdaaGreatDoorPart14
import Derived.Test.YtdgbjhfkmembdaaGreatDoorShelfWr
import Derived.Test.YtdgbjhfkmembdaaGreatDoorPart8
import Derived.Test.YtdgbjhfkmembdaaGreatDoorPart15
import Derived.Test.YtdgbjhfkmembdaaGreatDoorPart16
import Derived.Test.YtdgbjhfkmembdaaGreatDoorPart10
import Derived.Test.YtdgbjhfkmembdaaGreatDoorPart9
set_option linter.unusedVariables false
set_option linter.unusedSimpArgs false
set_option maxHeartbeats 4000000
set_option maxRecDepth 100000
open Go.Proofs.Tryz
namespace Go.Proofs.YtdgbjhfkmembdaaGreatDoor
def Zu(r:Nat):List UInt8:=
  if r<128 then [UInt8.ofNat r]
  else if r<2048 then [UInt8.ofNat (192+r / 64),UInt8.ofNat (128+r % 64)]
  else if r<65536 then [UInt8.ofNat (224+r / 4096),UInt8.ofNat (128+r / 64 % 64),UInt8.ofNat (128+r % 64)]
  else [UInt8.ofNat (240+r / 262144),UInt8.ofNat (128+r / 4096 % 64),UInt8.ofNat (128+r / 64 % 64),UInt8.ofNat (128+r % 64)]
def mayN(r:Nat):Bool:=decide (r<55296) || (decide (57343<r) && decide (r≤1114111))
def jt(l:List Nat):List UInt8:=l.flatMap Zu
theorem encU_ne(r:Nat):Zu r≠[]:=by
  unfold Zu
  split
  ·simp
  ·split
   ·simp
   ·split<;>simp
theorem encU_len(r:Nat):(Zu r).length≤4:=by
  unfold Zu
  split
  ·simp
  ·split
   ·simp
   ·split<;>simp
theorem bytesU_ne{l:List Nat}(h:l≠[]):jt l≠[]:=by
  cases l with
  |nil=>exact absurd rfl h
  |cons r l=>
   intro e;unfold jt at e;rw[List.flatMap_cons,List.append_eq_nil_iff] at e;exact encU_ne r e.1
theorem JZ:∀l:List Nat,(jt l).length≤4*l.length
  | []=>by simp [jt]
  |r::l=>by
   have h1:=encU_len r;have A:=JZ l;unfold jt at A ⊢;rw[List.flatMap_cons,yV,Yx];omega
def Zw(d:List kQ):List UInt8:=d.flatMap fun r=>if r.2.2 then [] else jt r.2.1
abbrev jC:=kE×Nat×List UInt8
def J9(out:List jC)(k:kE):Bool:=match out.getLast? with
  |none=>false
  |some p=>decide (vy p.1 (p.2.1:Int)=k)
def qF(out:List jC)(n:Nat)(s:List UInt8):List jC:=match out.getLast? with
  |none=>out
  |some p=>out.dropLast++[(p.1,p.2.1+n,p.2.2++s)]
def KA(st:List jC×Bool)(r:kQ):List jC×Bool:=
  if r.2.2 then (st.1,true)
  else if !st.2 && J9 st.1 r.1 then (qF st.1 r.2.1.length (jt r.2.1),false)
  else (st.1++[(r.1,r.2.1.length,jt r.2.1)],false)
def zI(d:List kQ):List jC:=(d.foldl KA ([],true)).1
def KB(l:List jC):List UInt8:=l.flatMap fun p=>p.2.2
theorem Jq{α:Type}{l:List α}{x:α}(h:l.getLast?=some x):l=l.dropLast++[x]:=by
  have A:l≠[]:=fun e=>by rw[e] at h;cases h
  rw[List.getLast?_eq_some_getLast A] at h;cases h
  exact(List.dropLast_concat_getLast A).symm
theorem textP_more{out:List jC}{k:kE}(h:J9 out k=true)(n:Nat)(s:List UInt8):KB (qF out n s)=KB out++s:=by
  unfold J9 at h;cases hl:out.getLast? with
  |none=>rw[hl] at h;cases h
  |some p=>
   unfold qF;rw[hl];have e:=Jq hl
   conv=>rhs;rw[e]
   simp [KB]
theorem textP_step(st:List jC×Bool)(r:kQ):KB (KA st r).1=KB st.1++(if r.2.2 then [] else jt r.2.1):=by
  unfold KA
  split
  ·simp
  ·split
   ·rename_i h;simp only[xy] at h;exact textP_more h.2 _ _
   ·simp [KB]
theorem textP_fold:∀(d:List kQ) (st:List jC×Bool),KB (d.foldl KA st).1=KB st.1++Zw d
  | [],st=>by simp [Zw]
  |r::d,st=>by
   rw[List.foldl_cons,textP_fold d (KA st r),textP_step];simp [Zw]
theorem ka0(d:List kQ):KB (zI d)=Zw d:=by
  unfold zI;rw[textP_fold];rfl
def UE(p:List UInt8→Prop)(l:List jC):Prop:=∀x∈l,p x.1.2.1∧x.2.2≠[]
theorem pieces_of{p:List UInt8→Prop}:∀(d:List kQ) (st:List jC×Bool),RunsOf (fun k=>p k.2.1) d→UE p st.1→UE p (d.foldl KA st).1
  | [],st,_,h=>h
  |r::d,st,hd,h=>by
   rw[List.foldl_cons];refine pieces_of d (KA st r) (fun q hq=>hd q (List.mem_cons_of_mem _ hq)) ?_;obtain⟨hr,hne⟩:=hd r yZ;unfold KA
   split
   ·exact h
   ·split
    ·rename_i B;simp only[xy] at B;obtain⟨_,B⟩:=B;unfold J9 at B;cases hl:st.1.getLast? with
     |none=>rw[hl] at B;cases B
     |some y=>
      unfold qF;rw[hl];have e:=Jq hl;intro x A;rcases xJ.1 A with A|A
      ·exact h x (by rw[e];exact List.mem_append_left _ A)
      ·rw[xZ] at A;subst A;have C:=h y (by rw[e];simp);exact⟨C.1,fun e=>C.2 (List.append_eq_nil_iff.1 e).1⟩
    ·intro x A;rcases xJ.1 A with A|A
     ·exact h x A
     ·rw[xZ] at A;subst A;exact⟨hr,bytesU_ne hne⟩
abbrev zS:=List UInt8×ByteArray×List UInt8
def Zc(author:List UInt8→ByteArray)(out:List zS)(p:jC):List zS:=match out.getLast? with
  |none=>out++[(p.1.2.1,author p.1.2.1,p.2.2)]
  |some y=>if y.1=p.1.2.1 then out.dropLast++[(y.1,y.2.1,y.2.2++p.2.2)] else out++[(p.1.2.1,author p.1.2.1,p.2.2)]
def UF(author:List UInt8→ByteArray)(l:List jC):List zS:=l.foldl (Zc author) []
structure qi (p:List UInt8→Prop) (author:List UInt8→ByteArray) (l:List zS):Prop where
  of:∀x∈l,p x.1∧x.2.1=author x.1∧x.2.2≠[]
  apart:∀i (h:i+1<l.length),l[i].1≠l[i+1].1
theorem blame_step{p:List UInt8→Prop}{author:List UInt8→ByteArray}{out:List zS}{q:jC}(h:qi p author out)(hq:p q.1.2.1)(hn:q.2.2≠[]):qi p author (Zc author out q):=by
  unfold Zc;cases hl:out.getLast? with
  |none=>
   have:out=[]:=by simpa using hl
   subst this;exact⟨fun x A=>by simp at A;subst A;exact⟨hq,rfl,hn⟩,fun i C=>by simp at C⟩
  |some y=>
   have e:=Jq hl;have F:=h.of y (by rw[e];simp);dsimp only
   split
   ·rename_i G;refine⟨fun x A=>?_,fun i C=>?_⟩
    ·rcases xJ.1 A with A|A
     ·exact h.of x (by rw[e];exact List.mem_append_left _ A)
     ·rw[xZ] at A;subst A;exact⟨F.1,F.2.1,fun e=>F.2.2 (List.append_eq_nil_iff.1 e).1⟩
    ·have I:out.length=out.dropLast.length+1:=by conv=>lhs;rw[e,yV,xQ]
     rw[yV,xQ] at C;have E:=h.apart i yv;have H:out[i]=out.dropLast[i]'(by omega):=by rw[List.getElem_dropLast]
     rw[List.getElem_append_left yv];rcases (by omega:i+1<out.dropLast.length∨i+1=out.dropLast.length) with B|B
     ·rw[List.getElem_append_left B];have D:out[i+1]=out.dropLast[i+1]'B:=by rw[List.getElem_dropLast]
      rw[H,D] at E;exact E
     ·rw[List.getElem_append_right yv];simp only[B,Nat.sub_self,List.getElem_cons_zero];have D:out[i+1]=y:=by
         have:out[out.length - 1]?=some y:=by rw[←List.getLast?_eq_getElem?];exact hl
         rw[show out.length - 1=i+1 by omega,yK yv] at this;exact Option.some.inj this
      rw[H,D] at E;exact E
   ·rename_i G;refine⟨fun x A=>?_,fun i C=>?_⟩
    ·rcases xJ.1 A with A|A
     ·exact h.of x A
     ·rw[xZ] at A;subst A;exact⟨hq,rfl,hn⟩
    ·rw[yV,xQ] at C;rw[List.getElem_append_left yv];rcases (by omega:i+1<out.length∨i+1=out.length) with B|B
     ·rw[List.getElem_append_left B];exact h.apart i B
     ·rw[List.getElem_append_right yv];simp only[B,Nat.sub_self,List.getElem_cons_zero];have D:out[i]=y:=by
         have:out[out.length - 1]?=some y:=by rw[←List.getLast?_eq_getElem?];exact hl
         rw[show out.length - 1=i by omega,yK yv] at this;exact Option.some.inj this
      rw[D];exact G
def jy(l:List zS):List UInt8:=l.flatMap fun x=>x.2.2
theorem textB_step(author:List UInt8→ByteArray)(out:List zS)(q:jC):jy (Zc author out q)=jy out++q.2.2:=by
  unfold Zc;cases hl:out.getLast? with
  |none=>simp [jy]
  |some y=>
   have e:=Jq hl;dsimp only
   split
   ·conv=>rhs;rw[e]
    simp [jy]
   ·simp [jy]
theorem blame_fold{p:List UInt8→Prop}{author:List UInt8→ByteArray}:∀(l:List jC) (out:List zS),UE p l→qi p author out→qi p author (l.foldl (Zc author) out)∧jy (l.foldl (Zc author) out)=jy out++KB l
  | [],out,_,h=>⟨h,by simp [KB]⟩
  |q::l,out,hl,h=>by
   obtain⟨h1,h2⟩:=hl q yZ;obtain⟨A,B⟩:=blame_fold l (Zc author out q) (fun x C=>hl x (List.mem_cons_of_mem _ C)) (blame_step h h1 h2);refine⟨A,?_⟩;rw[List.foldl_cons,B,textB_step];simp [KB]
theorem blame_ok{p:List UInt8→Prop}(author:List UInt8→ByteArray){d:List kQ}(h:RunsOf (fun k=>p k.2.1) d):qi p author (UF author (zI d))∧jy (UF author (zI d))=Zw d:=by
  have B:UE p (zI d):=pieces_of d ([],true) h fun x A=>by cases A
  obtain⟨C,D⟩:=blame_fold (author:=author) (zI d) [] B ⟨(fun x A=>by cases A),fun i E=>by simp at E⟩;exact⟨C,by unfold UF;rw[D,ka0];rfl⟩
section
open Go.RowKit Go.Maps
theorem vr(r:Nat)(h:r<128)(w:World):Calls prog 133 #[.int .i32 (r:Int)] w fun e w'=>Below w.heap.size w w'∧e=.returned (.tuple #[.string ⟨(Zu r).toArray⟩,.int .i64 0]):=by
  have C:Kp (r:Int)=true:=by unfold Kp;simp;omega
  have H:(r:Int)<128:=yv;have G:∀(fn:Fn) (first cap:Array Value) (w:World),(Instr.makeFunc fn first cap).run prog w=.ok (.func fn first cap) w:=fun _ _ _ _=>rfl
  have I:IntKind.u8.wrap (r:Int)=(r:Int):=by
    unfold IntKind.wrap;simp [IntKind.bits,IntKind.signed];omega
  have A:((w.alloc (.cells #[.int .i32 (r:Int)] 21)).alloc (.cells #[.int .u8 (r:Int)] 5)).cell? ⟨w.heap.size+1,0,none⟩=some (.int .u8 (r:Int)):=by
    have:=heap_alloc_new (w.alloc (.cells #[.int .i32 (r:Int)] 21)) (.cells #[.int .u8 (r:Int)] 5);rw[World.size_alloc] at this;exact k6 (cs:=[.int .u8 (r:Int)]) this 0
  have B:(convert 169 9 (.slice (some ⟨w.heap.size+1,0,none⟩) 1 1)).run prog ((w.alloc (.cells #[.int .i32 (r:Int)] 21)).alloc (.cells #[.int .u8 (r:Int)] 5))=.ok (.string ⟨#[UInt8.ofNat r]⟩) ((w.alloc (.cells #[.int .i32 (r:Int)] 21)).alloc (.cells #[.int .u8 (r:Int)] 5)):=by
    have D:=Lib.run_convert_window (P:=prog) ((w.alloc (.cells #[.int .i32 (r:Int)] 21)).alloc (.cells #[.int .u8 (r:Int)] 5)) 169 5 9 underlying169 underlying5 underlying9 (w.heap.size+1) 0 ⟨#[UInt8.ofNat r]⟩ (fun i E=>by
      have F:i=0:=by
        have:i<1:=E;omega
      subst F;show World.cell? _ ⟨w.heap.size+1,0,none⟩=some (.int .u8 (((UInt8.ofNat r).toNat:Nat):Int));rw[A,UInt8.toNat_ofNat_of_lt' (by show r<256;omega)]) 0 1 1 (xY 1)
    exact D
  go_enter func133,ntmps133
  go_wp2_with (first
    |(go_at_call 180;refine(vY (r:Int) _ yv yv).mono ?_;rintro e J ⟨rfl,rfl⟩;rw[C]))
  go_ret2;refine⟨((qB _ _).alloc (qR _) _).alloc yZ _,?_⟩;unfold Zu;rw[if_pos h];rfl
end
section
open Go.RowKit Go.Maps
open Lib (hid)
def EncIs(r:Nat):Prop:=∀w:World,Calls prog 133 #[.int .i32 (r:Int)] w fun e w'=>Below w.heap.size w w'∧e=.returned (.tuple #[.string ⟨(Zu r).toArray⟩,.int .i64 0])
theorem bytesU_snoc(l:List Nat){j:Nat}(hj:j<l.length):jt (l.take (j+1))=jt (l.take j)++Zu l[j]:=by
  unfold jt;rw[xj hj,List.flatMap_append];simp
theorem utext_any(l:List Nat)(g off cap:Nat)(w:World)(hs:RuneAt w (.slice (some ⟨g,off,none⟩) l.length cap) l)(hE:∀r∈l,EncIs r)(hl:l.length≤1099511627776):
    Calls prog 81 #[.slice (some ⟨g,off,none⟩) l.length cap] w fun e w'=>Below w.heap.size w w'∧e=.returned (.tuple #[.string ⟨(jt l).toArray⟩,.int .i64 0]):=by
  obtain⟨h,Z,a,d,i,b,k,m,X,E⟩:=hs;injection b with e1 _ e2;injection e1 with e1;injection e1 with e3 e4;subst e2 e3 e4;have G:=hid X;have H:=hid E;have T:=hid hE
  clear X E hE;go_enter func81,ntmps81
  go_upto_region 2 with fail
  have O:Below w.heap.size w (w.alloc (.cells #[.pointer none,.slice none 0 0] 171)):=(Below.refl _ _).alloc (xY _) _;have P:Lib.IsBuilderF 171 5 w.heap.size w.heap.size (Lib.byteCells []) (w.alloc (.cells #[.pointer none,.slice none 0 0] 171)):=Lib.IsBuilderF.of (Lib.fresh_isBuilder _ _ _);have I:=hid O;have D:=hid P
  clear O P;generalize w.alloc (.cells #[.pointer none,.slice none 0 0] 171)=w2 at *;obtain⟨z,W⟩:=Xy w.heap.size;have F:=hid W;rw[W] at D ⊢;clear W
  go_upto_region 3 with fail
  go_loopw [11] (fun t wr=>∃j:Nat,j≤l.length∧t=.int .i64 (j:Int)∧Hid (Below w.heap.size w wr)∧Hid (Lib.IsBuilderF 171 5 z z (Lib.byteCells (jt (l.take j))) wr)) (fun t _=>l.length - (intOf t).toNat)
  case atStart=>exact⟨0,YX _,rfl,I,D⟩
  case round=>
    obtain⟨j,n,rfl,A,B⟩:=hrel;have Q:z≤wr.heap.size:=by have M:=A.size;have N:=F.out;omega
    by_cases hlt:j<l.length
    ·have o:(0:Int)≤(j:Int):=yv;have p:wr.cell? ⟨g,off+j,none⟩=some (.int .i32 (l[j]:Int)):=by
       have M:=(A.block g (qX G)).trans G.out;have N:=H.out j (.int .i32 (l[j]:Int)) (by unfold Qv;rw[List.getElem?_map,yK hlt];rfl);show World.cell? wr ⟨g,off+j,none⟩=_;unfold World.cell?;rw[M];exact N
     have J:Hid (EncIs l[j]):=hid (T _ (yQ hlt));have K:=hid (bytesU_snoc l hlt);have f:=encU_len l[j];have Y:=JZ (l.take j);rw[Yj,Nat.min_eq_left yv] at Y;generalize l[j]=r at *
     go_wp2_with (first
       |(go_at_call 133;refine(J wr).mono ?_;rintro e c ⟨R,rfl⟩;have C:=hid R;clear R)
       |(go_at_call 82;refine(bwrite_any z z (jt (l.take j)) ⟨(Zu r).toArray⟩ c (QZ B C) (by rw[UT];omega) (qT Q C.size)).mono ?_;rintro e q ⟨rfl,M,N,_⟩;have U:=hid M;have V:=hid N
         clear M N))
     go_roundw
     case rel=>
       refine⟨j+1,by omega,by go_num,hid ?_,hid ?_⟩
       ·refine(Xx A.out C.out).trans ?_;rw[F.out];exact V.out
       ·rw[K.out];have:=U.out;rw[L_mk] at this;exact this
     case measure=>(simp [intOf])<;>omega
    ·have e:l.take j=l:=Yq yv;rw[e] at B
     go_wp2_with (first
       |(go_at_call 83;refine(Tryz.Builder_String_any_k z z _ wr B Q).mono ?_;rintro e s ⟨rfl,_,S,_⟩;have L:=hid S;clear S))
     go_ret2;refine⟨A.trans ?_,rfl⟩;rw[F.out];exact L.out
end
section
open Go.RowKit Go.Maps Go.Shelf
open Lib (hid)
def KpT(z:Nat)(W W':World):Prop:=Below z W W'∧(∀(k:Nat) (cur:Array Value) (t:TypeId) (fr:Nat×Nat),t≠5→k≠z→W.heap[k]?=some (.cells cur t fr)→W'.heap[k]?=some (.cells cur t fr))∧((∃cur fr,W.heap[z]?=some (.cells cur 171 fr))→∃cur fr,W'.heap[z]?=some (.cells cur 171 fr))
theorem KpT.trans{z:Nat}{A B C:World}(h:KpT z A B)(k:KpT z B C):KpT z A C:=⟨h.1.trans k.1,fun i D t E F G H=>k.2.1 i D t E F G (h.2.1 i D t E F G H),fun q=>k.2.2 (h.2.2 q)⟩
theorem KpT.book{z n:Nat}(hz:z≤n)(W:World)(l:Nat)(o o':Obj)(hl:n≤l)(h:W.heap[l]?=some o)(ho:o.isCells=false):KpT z W (W.putObj l o'):=by
  have D:=grownBy_putObj' W l o';have E:∀(k:Nat) (A:Array Value) (t:TypeId) (C:Nat×Nat),W.heap[k]?=some (.cells A t C)→(W.putObj l o').heap[k]?=some (.cells A t C):=fun k A t C B=>by
    refine(D.block k (qX B) fun e=>?_).trans B;cases e
    rw[h] at B;cases B
    cases ho
  exact⟨(Below.refl z W).grown D (by have:=(Array.getElem?_eq_some_iff.1 h).1;omega) (fun k e=>by cases e;omega),fun k A t C _ _ B=>E k A t C B,fun⟨A,C,B⟩=>⟨A,C,E _ _ _ _ B⟩⟩
section
variable {w w':World} {z B p:Nat} {v:Value} {rs:List zk}
theorem RunIn.keepT{r:zk}(h:RunIn w r)(hk:KpT z w w')(hz:∀A B,w.heap[z]?≠some (.cells A 21 B)):RunIn w' r:=by
  obtain⟨F,⟨g,C,D,A,B,G,H,I,E,J⟩,K⟩:=h;exact⟨F,⟨g,C,D,A,B,G,H,I,hk.2.1 g A _ B yj (fun e=>hz A B (e▸E)) E,J⟩,K⟩
theorem DocRows.keepT(h:DocRows w B p v rs)(hk:KpT z w w')(hz:∃A D,w.heap[z]?=some (.cells A 171 D)):DocRows w' B p v rs:=by
  obtain⟨K,L,C⟩:=hz;obtain⟨s,t,E⟩:=h.box;refine⟨⟨s,t,hk.2.1 p _ _ _ yj (ji E C yj) E⟩,h.low,fun r H=>(h.ins r H).keepT hk fun A D e=>?_,?_⟩
  ·rw[C] at e;injection e with e;injection e with _ e;exact absurd e yj
  ·refine⟨h.own.1,?_⟩;rcases h.own.2 with q|⟨g,F,A,I,J,G,r⟩
   ·exact .inl q
   ·exact .inr ⟨g,F,A,I,J,hk.2.1 g A _ _ yj (ji G C yj) G,r⟩
end
def ud(rs:List zk):List zk:=rs.filter fun r=> !r.2.2.2
theorem liveM_snoc{rs:List zk}{i:Nat}(hi:i<rs.length):ud (rs.take (i+1))=ud (rs.take i)++(if rs[i].2.2.2 then [] else [rs[i]]):=by
  unfold ud;rw[xj hi,List.filter_append];cases h:rs[i].2.2.2<;>simp [h]
theorem liveM_len(rs:List zk)(i:Nat):(ud (rs.take i)).length≤i:=by
  have A:=List.length_filter_le (fun r:zk=> !r.2.2.2) (rs.take i);rw[Yj] at A;unfold ud;omega
theorem liveM_text(rs:List zk):(ud rs).flatMap (fun r=>jt r.2.2.1)=Zw (rs.map kA):=by
  unfold Zw ud
  induction rs with
  |nil=>rfl
  |cons r rs ih=>
   rw[xX,List.flatMap_cons,←ih];have e:(kA r).2.2=r.2.2.2:=rfl;have A:(kA r).2.1=r.2.2.1:=rfl;rw[e,A];cases h:r.2.2.2<;>simp [h]
abbrev LiveS(rs:List zk):={x:Int×zk // x.2∈rs}
def liveA{rs:List zk}(x:LiveS rs):Array Value:=#[.int .i64 x.1.1,.agg (kY x.1.2).toArray]
def RunBox(W:World)(b:Nat)(r:zk):Prop:=W.heap[b]?=some (.cells (kY r).toArray 177 (0,0))
theorem run_info{r:zk}(h:(kY r).length=36):(prog.info? 177).map (·.size)=some (kY r).toArray.size:=by rw[xz,h];exact jX
theorem livesIt_in(n:Nat)(hn:1≤n)(l B p z b:Nat)(v:Value)(rs:List zk)(N:Nat)(J Jx:List (LiveS rs)→World→Prop)
    (hY:∀pre x W,J pre W→pre.length<rs.length+1→YieldAt Fence.wide (n - 1) prog l (liveA x) W fun e W'=>(e=.returned (.bool true)∧J (pre++[x]) W'∧KpT z W W')∨(e=.returned (.bool false)∧Jx (pre++[x]) W'))
    (W:World) (hJ:AbidesFrom W.heap.size J) (hd:DocRows W B p v rs) (hb:W.heap[b]?=some (.cells [.pointer (some ⟨p,0,none⟩)].toArray 92 (0,0))) (hz:∃O a,W.heap[z]?=some (.cells O 171 a)) (hl:rs.length≤1099511627776) (h0:J [] W):
    CallsIn Fence.wide n prog 132 #[.func (.yield l) #[] #[],.pointer (some ⟨b,0,none⟩)] W fun e W'=>(∃v,e=.returned v)∧((∃G:List (LiveS rs),G.map (·.1.2)=ud rs∧J G W')∨(∃pre,True∧Jx pre W')):=by
  refine callsIn_of_wp func132 rfl trivial ?_ rfl;simp only[ntmps132,xz,Yx,YJ,Nat.reduceAdd,Nat.reduceSub,Array.replicate_succ,Array.replicate_zero,List.push_toArray,List.append_toArray,YZ,YK];have cb:W.cell? ⟨b,0,none⟩=some (.pointer (some ⟨p,0,none⟩)):=k6 hb 0;obtain⟨A,c,rfl⟩:=kX hd.own;have cp:W.cell? ⟨p,0,none⟩=some (.slice A rs.length c):=by
    obtain⟨s,t,A7⟩:=hd.box;exact k6 A7 0
  have HD:=hid hd;have HB:=hid hb;have HZ:=hid hz;have HJ:=hid hJ;have HY:=hid hY;have H0:=hid h0
  clear hd hb hz hJ hY h0
  gi_wp2
  gi_loopw [3,13] (fun t3 q wr=>∃(n0:Int) (i:Nat) (G:List (LiveS rs)),i≤rs.length∧t3=.int .i64 n0∧q=.int .i64 (i:Int)∧Hid (G.map (·.1.2)=ud (rs.take i))∧Hid (DocRows wr B p (.slice A rs.length c) rs)∧Hid (∃O a,wr.heap[z]?=some (.cells O 171 a))∧Hid (J G wr))
    (fun _ q _=>rs.length - (intOf q).toNat)
  case atStart=>exact⟨0,0,[],YX _,rfl,rfl,hid rfl,HD,HZ,H0⟩
  case round=>
    obtain⟨n0,i,G,hi,rfl,rfl,E,H,Q,R⟩:=hrel;by_cases hlt:i<rs.length
    ·have i0:(0:Int)≤(i:Int):=yv;have i1:(i:Int)<(rs.length:Int):=yv;obtain⟨g,c',A8,A0,Ag,A9⟩:=H.row hlt;injection A8 with hA _ hc';subst hA hc';have F:=hid (H.ins _ (yQ hlt));have I:=hid (yQ hlt);have C:=hid (liveM_snoc hlt);have K:=hid A0;clear A0 A9;have Aa:G.length<rs.length+1:=by
       have h1:=congrArg List.length E.out;rw[Yv] at h1;have:=liveM_len rs i;omega
     generalize rs[i]=r at *;have A1:=jw F.out;have L:=hid A1;obtain⟨gr,Ab,Ac,O,a,A3,Ah,Ai,_,_⟩:=F.2.1;obtain⟨_,_,_,p3,p4,_⟩:=KS F.1;have P3:=hid (p3.trans (congrArg some A3));have P4:=hid p4
     clear p3 p4 A3;obtain⟨Y,g2,g3⟩:=qf wr runZ.toArray (kY r).toArray 177;have A4:=fun (ρ:Operand→Value) (o:Oper) (x y:Operand) (ho:o.op=.store 177 x y) hx hy=>uc (P:=prog) (w:=wr.alloc (.cells runZ.toArray 177)) (ρ:=ρ) 177 x y ho wr.heap.size (kY r).toArray hx hy 177 runZ.toArray (heap_alloc_new _ _) (run_info A1) (by rw[xz,xz,A1];rfl) (by simpa using KQ r F.2.1.one)
     generalize (wr.alloc (.cells runZ.toArray 177)).setRow wr.heap.size (kY r).toArray=w3 at *;have S:=hid A4;have G2:=hid g2
     have T:Hid (Below wr.heap.size wr w3):=hid ⟨Y.os,Y.tape,Y.output,Y.size,fun k hk=>Y.block k hk yZ⟩;have U:=hid (HJ G wr w3 none R Y (fun r e=>by cases e));obtain⟨b5,A5⟩:=Xy wr.heap.size;have d:=hid A5;have A6:w3.cell? ⟨wr.heap.size,35,none⟩=some (.bool r.2.2.2):=(k6 G2 35).trans P4.out;have f:=hid (show w3.rangeAt wr.heap.size 0 (kY r) from fun j u hj=>by rw[qZ];exact(k6 G2 j).trans hj);have V:=hid (H.keep T);have M:Hid (∃O a,w3.heap[z]?=some (.cells O 171 a)):=hid (by
       obtain⟨cz,fz,Z⟩:=Q.out;exact⟨cz,fz,(T.block z (qX Z)).trans Z⟩)
     have h:=hid (show b5≠z from by
       obtain⟨cz,fz,Z⟩:=Q.out;have:=qX Z;omega)
     clear A4 Y g2 g3 A5;cases hdd:r.2.2.2
     ·rw[hdd] at A6;rw[hdd] at C;have D:Hid (ud (rs.take (i+1))=ud (rs.take i)++[r]):=hid C.out;clear hdd C;obtain⟨fn,Ae,Ad,Af,hy,hR⟩:=HY.out G ⟨(n0,r),I⟩ w3 U.out Aa;simp only[liveA] at hy
      gi_wp2_with (first
        |(refine JA rfl yx yx (ldU L K) ?_)
        |(refine JO rfl yx yx (S _ _ _ _ rfl rfl rfl) ?_)
        |(refine JA rfl yx yx (ldU L f) ?_)
        |gi_in)
      refine hR.mono ?_;rintro e W4 (⟨rfl,hJ4,hk4⟩|⟨rfl,hJ4⟩)
      ·have A2:W4.heap[wr.heap.size]?=some (.cells (kY r).toArray 177 (0,0)):=hk4.2.1 _ _ _ _ yj (by rw[d.out];exact h.out) G2.out;have Aj:W4.cell? ⟨wr.heap.size,34,none⟩=some (.slice (some ⟨gr,Ab,none⟩) r.2.2.1.length Ac):=(k6 A2 34).trans P3.out;have X:=hid hk4;have m:=hid hJ4
       clear hk4 hJ4 A2
       gi_wp2
       go_roundw
       case rel=>
         refine⟨_,i+1,G++[⟨(n0,r),I⟩],by omega,rfl,by go_num,hid ?_,hid (V.keepT X M),hid (X.2.2 M),m⟩;rw[List.map_append,E.out,D.out];rfl
       case measure=>(simp [intOf])<;>omega
      ·gi_wp2
       refine bodyPost_ret (results_none rfl _ _ _) rfl ?_;exact⟨⟨_,rfl⟩,.inr ⟨_,trivial,hJ4⟩⟩
     ·rw[hdd] at A6;rw[hdd] at C;have D:Hid (ud (rs.take (i+1))=ud (rs.take i)++[]):=hid C.out;clear hdd C
      gi_wp2_with (first
        |(refine JA rfl yx yx (ldU L K) ?_)
        |(refine JO rfl yx yx (S _ _ _ _ rfl rfl rfl) ?_)
        |gi_in)
      go_roundw
      case rel=>
        refine⟨n0,i+1,G,by omega,rfl,by go_num,hid ?_,V,M,U⟩;rw[E.out,D.out,List.append_nil]
      case measure=>(simp [intOf])<;>omega
    ·gi_wp2
     go_end0
     exact⟨⟨_,rfl⟩,.inl ⟨G,by rw[E.out,Yq yv],R.out⟩⟩
attribute [local go_sem] Oper.semAt_some
theorem bld_own{rs:List zk}{z:Nat}(f:List (LiveS rs)→List UInt8):Own (fun (s:List (LiveS rs)) W=>Lib.IsBuilderF 171 5 z z (Lib.byteCells (f s)) W):=fun s X Y K G D E=>by
  have A:∀p,Lib.BuilderAtF 171 5 z z p (Lib.byteCells (f s)) X→Lib.BuilderAtF 171 5 z z p (Lib.byteCells (f s)) Y:=by
    rintro p ⟨a,v,c,d,g⟩;have H:=qX c;refine⟨a,v,(D.block z H fun e=>?_).trans c,d.kept D ?_,g⟩
    ·obtain⟨o,B,C⟩:=E z e.symm;rw[c] at B;cases B;cases C
    ·rcases d.2 with I|⟨J,L,M,N,rfl,O,F,_⟩
     ·exact .inl (by rw[I.1];rfl)
     ·refine .inr fun e=>?_
      obtain⟨o,B,C⟩:=E J (by simpa [Value.ownBlock] using e.symm);rw[F] at B;cases B;cases C
  rcases G with h|h
  ·exact .inl (A _ h)
  ·exact .inr (A _ h)
theorem texts_le{rs:List zk}(hs:∀r∈rs,r.2.2.1.length≤65536):∀pre:List (LiveS rs),(pre.flatMap fun x=>jt x.1.2.2.2.1).length≤pre.length*262144
  | []=>by simp
  |x::pre=>by
   have h1:=texts_le hs pre;have A:=JZ x.1.2.2.2.1;have B:=hs _ x.2;rw[List.flatMap_cons,yV,Yx];omega
theorem dtext_core(dp:Option Addr)(rs:List zk)(w:World)(hin:∀r∈rs,RunIn w r)(hE:∀r∈rs,∀u∈r.2.2.1,EncIs u)(hl:rs.length≤65536)(hs:∀r∈rs,r.2.2.1.length≤65536)
    (hq:∀(z bb:Nat) (W2:World),Below w.heap.size w W2→W2.heap[bb]?=some (.cells [.pointer dp].toArray 92 (0,0))→(∃G a,W2.heap[z]?=some (.cells G 171 a))→SeqStopsK Fence.wide 3 prog 132 #[.pointer (some ⟨bb,0,none⟩)] (liveA (rs:=rs)) (KpT z) (fun xs=>xs.map (·.1.2)=ud rs) (fun _=>True) (rs.length+1) W2):
    Calls prog 36 #[.pointer dp] w fun e w'=>Below w.heap.size w w'∧e=.returned (.string ⟨(Zw (rs.map kA)).toArray⟩):=by
  refine(callsIn_wide (n:=4)).1 ?_;refine callsIn_of_wp_marks func36 rfl trivial ?_ rfl;simp only[ntmps36,xz,Yx,YJ,Nat.reduceAdd,Nat.reduceSub,Array.replicate_succ,Array.replicate_zero,List.push_toArray,List.append_toArray,YZ,YK];have J:=hid hin;have HE:=hid hE;have HQ:=hid hq
  have A5:Below w.heap.size w (w.alloc (.cells #[.pointer none,.slice none 0 0] 171)):=(Below.refl _ _).alloc (xY _) _;have A6:Lib.IsBuilderF 171 5 w.heap.size w.heap.size (Lib.byteCells []) (w.alloc (.cells #[.pointer none,.slice none 0 0] 171)):=Lib.IsBuilderF.of (Lib.fresh_isBuilder _ _ _);have U:=hid A5;have L:=hid A6
  clear hin hE A5 A6 hq
  gi_wp2
  refine⟨trivial,(callsIn_wide.2 (lives_any dp _)).mono ?_⟩;rintro e W2 ⟨A7,A8,rfl⟩;have B:=hid A7;have M:=hid A8
  clear A7 A8
  gi_wp2
  obtain⟨w1,A0⟩:=Xy (w.alloc (.cells #[.pointer none,.slice none 0 0] 171));have Ai:w1.heap.size=w.heap.size+1:=by rw[←A0];simp
  rw[A0] at B M U L;clear A0;obtain⟨z,hz⟩:=Xy w.heap.size;obtain⟨bb,A9⟩:=Xy w1.heap.size;have i:=hid hz;have C:Hid (Below w.heap.size w W2):=hid (Xx U.out B.out);have V:Hid (Lib.IsBuilderF 171 5 z z (Lib.byteCells []) W2):=hid (by rw[←hz];exact QZ L.out B.out);have Aj:z<W2.heap.size:=by have:=B.size;omega
  rw[A9] at M;rw[show w.heap.size+1=bb by omega,hz];clear Ai hz A9 L;have S:∀{W:World} {l:List UInt8},Lib.IsBuilderF 171 5 z z (Lib.byteCells l) W→∃G a,W.heap[z]?=some (.cells G 171 a):=fun h=>by
    rcases h with⟨_,v,I,_⟩|⟨_,v,I,_⟩<;>exact⟨_,_,I⟩
  have Ak:=enE func132 rfl;have Ag:=HQ.out z bb W2 C.out M.out (S V.out);have Al:∀{X Y:World},z≤X.heap.size→X.grownBy Y none→KpT z X Y:=fun {X Y} hx hg=>⟨(qB z X).grown hg hx (fun k e=>by cases e),fun k G t a _ _ I=>(hg.block k (qX I) yZ).trans I,fun⟨G,a,I⟩=>⟨G,a,(hg.block z (qX I) yZ).trans I⟩⟩
  refine wpIn_rangeFunc_ownH rfl yj (gf:=132) (lb:=#[.pointer (some ⟨bb,0,none⟩)]) rfl trivial (fun Ah w=>Ak w Ah) Ag KpT.trans (fun W l o o' hl h T _=>KpT.book (n:=W2.heap.size) (YV Aj) W l o o' hl h T) (qB _ _) (fun _=>rfl)
    (fun H W=>Lib.IsBuilderF 171 5 z z (Lib.byteCells (H.flatMap fun x=>jt x.1.2.2.2.1)) W∧Below w.heap.size w W)
    (fun _ _ _=>False)
    (OwnFrom.and (Own.from (bld_own (rs:=rs) (z:=z) (fun H=>H.flatMap fun x=>jt x.1.2.2.2.1)) _) (ownFrom_below (xY _) C.size))
    (fun _ _ _ _ _ hs _ _=>hs)
    ⟨V.out,C.out⟩
    (fun x a' W=>∃Bx,z<Bx∧RunBox W Bx x.1.2∧a'={ tmps:=#[.pointer dp,undef,.string ⟨#[]⟩,.pointer (some ⟨z,0,none⟩),undef,.pointer (some ⟨Bx,0,none⟩),undef,undef,.pointer dp,.func (.func 132) #[] #[.pointer (some ⟨bb,0,none⟩)],.int .i64 x.1.1,.agg (kY x.1.2).toArray,undef,undef,undef,undef,undef,undef,undef,undef,undef],defers:=[]})
    (fun x a' _ X Y An hs hg hr=>by
      obtain⟨Bx,h1,f,h3⟩:=hs;refine⟨Bx,h1,(hg.block Bx (qX f) fun e=>?_).trans f,h3⟩;obtain⟨o,T,I⟩:=(hr Bx e.symm).2;rw[show X.heap[Bx]?=_ from f] at T;cases T;cases I)
    ?assign ?body ?done ?stop
  case assign=>
    rintro l H x W K ⟨E,b⟩ hK;have Aa:=jw (J.out _ x.2);obtain⟨g,g2,g3⟩:=qf W runZ.toArray (kY x.1.2).toArray 177;have Ab:=fun (ρ:Operand→Value) (o:Oper) (p y:Operand) (T:o.op=.store 177 p y) hx hy=>uc (P:=prog) (w:=W.alloc (.cells runZ.toArray 177)) (ρ:=ρ) 177 p y T W.heap.size (kY x.1.2).toArray hx hy 177 runZ.toArray (heap_alloc_new _ _) (run_info Aa) (by rw[xz,xz,Aa];rfl) (by simpa using KQ x.1.2 (J.out _ x.2).2.1.one)
    have m:=hid Ab;obtain⟨cz,d,F⟩:=S E;have Q:=qX F;clear Ab F;generalize (W.alloc (.cells runZ.toArray 177)).setRow W.heap.size (kY x.1.2).toArray=W3 at *;simp only[liveA]
    gi_wp2_with (first
      |(refine JO rfl yx yx (m.out _ _ _ _ rfl rfl rfl) ?_)
      |gi_in)
    have Ac:Below W.heap.size W W3:=⟨g.os,g.tape,g.output,g.size,fun k R=>g.block k R yZ⟩;exact hK _ _ ((KeepsOthers.of_grownBy g (fun j o e=>by cases e)).from _) (Al (YV Q) g) ⟨QZ E Ac,b.trans (Ac.mono b.size)⟩ ⟨W.heap.size,Q,g2,rfl⟩
  case body=>
    rintro l H x a' W Ao ⟨rr,hr⟩ ⟨E,b⟩ ⟨Bx,Ap,bX,rfl⟩ Aq;have N:=hid ((J.out _ x.2).keep (KeepR.below b));have q:=hid (HE.out _ x.2);obtain⟨gr,A1,A2,G,a,A3,Ar,As,_,_⟩:=N.2.1;obtain⟨_,_,_,p3,_,_⟩:=KS N.1;have At:W.cell? ⟨Bx,34,none⟩=some (.slice (some ⟨gr,A1,none⟩) x.1.2.2.2.1.length A2):=(k6 bX 34).trans (p3.trans (congrArg some A3));have s:Hid (RuneAt W (.slice (some ⟨gr,A1,none⟩) x.1.2.2.2.1.length A2) x.1.2.2.2.1):=hid (by rw[←A3];exact N.2.1);have O:=hid E;have Z:=hid b
    obtain⟨cz,d,F⟩:=S E;have Q:=qX F;have Au:=hs _ x.2;have Av:=texts_le hs H;clear p3 A3 E b F
    gi_wp2
    refine⟨trivial,(callsIn_wide.2 (utext_any _ gr A1 A2 W s.out q.out yv)).mono ?_⟩;rintro e W5 ⟨Ad,rfl⟩;have A:=hid Ad;clear Ad
    gi_wp2
    refine⟨trivial,(callsIn_wide.2 (bwrite_any z z (H.flatMap fun x=>jt x.1.2.2.2.1) ⟨(jt x.1.2.2.2.1).toArray⟩ W5 (QZ O.out A.out) (by rw[UT];have:=JZ x.1.2.2.2.1;omega) (by have:=A.size;omega))).mono ?_⟩;rintro e W6 ⟨rfl,h1,f,h3⟩
    gi_wp2
    rw[L_mk] at h1;have Ae:∀k o,W.heap[k]?=some o→k≠z→(∀c d,o≠ .cells c 5 d)→W6.heap[k]?=some o:=fun k o R A4 I=>h3 k o ((A.block k (qX R)).trans R) (fun e=>A4 (Option.some.inj e)) I
    refine⟨⟨Nat.le_trans A.size f.size,fun k o _ R T=>Ae k o R (fun e=>?_) fun c d e=>by subst e;cases T⟩,⟨(A.mono (YV Q)).trans f,fun k G t a ht A4 R=>Ae k _ R A4 fun c d e=>by injection e with _ e;exact ht e,fun _=>S h1⟩,?_,?_⟩
    ·subst e;obtain⟨cz,d,F⟩:=S O.out;rw[F] at R;cases R
     cases T
    ·rw[List.flatMap_append]
     simpa using h1
    ·rw[i.out] at Z ⊢;exact Z.trans ((A.mono (YV Q)).trans f)
  case done=>
    rintro D zs W hD hS ⟨E,b⟩ hK;obtain⟨cz,d,F⟩:=S E;have Q:=qX F
    gi_wp2
    refine⟨trivial,(callsIn_wide.2 (Tryz.Builder_String_any_k z z _ W E (YV Q))).mono ?_⟩;rintro e W7 ⟨rfl,_,Am,h7⟩;have Af:=h7 D _ hK (fun e=>by
      have:=Option.some.inj e;omega) fun c d e=>by cases e
    gi_wp2
    refine⟨by simp,.inl ⟨_,_,rfl,run_takeDeferred Af,?_⟩⟩;have et:(zs.flatMap fun x=>jt x.1.2.2.2.1)=Zw (rs.map kA):=by
      rw[←liveM_text,←hS,List.flatMap_map]
    refine⟨_,results_tmp rfl _ _ _,?_,?_⟩
    ·refine(b.trans ?_).trans (belowK_b (w:=w) (xY _) W7 D _ _ (by have:=C.size;omega) Af rfl rfl);rw[i.out];exact Am
    ·rw[←et];rfl
  case stop=>
    rintro D c H W _ _ h _;exact h.elim
theorem dtext_run(rs:List zk)(B p:Nat)(v:Value)(w:World)(h:DocRows w B p v rs)(hE:∀r∈rs,∀u∈r.2.2.1,EncIs u)(hl:rs.length≤65536)(hs:∀r∈rs,r.2.2.1.length≤65536):
    Calls prog 36 #[.pointer (some ⟨p,0,none⟩)] w fun e w'=>Below w.heap.size w w'∧e=.returned (.string ⟨(Zw (rs.map kA)).toArray⟩):=
  dtext_core (some ⟨p,0,none⟩) rs w h.ins hE hl hs fun z D O F E G l J Jx W C H N I K=>by
    obtain⟨L,M,A⟩:=G;exact livesIt_in 3 yj l B p z D v rs 0 J Jx I W H (h.keep (Xx F C)) ((C.block D (qX E)).trans E) ⟨L,M,(C.block z (qX A)).trans A⟩ yv K
theorem dtext_nil(w:World):Calls prog 36 #[.pointer none] w fun e w'=>Below w.heap.size w w'∧e=.returned (.string ⟨#[]⟩):=
  dtext_core none [] w (fun r A=>by cases A) (fun r A=>by cases A) yj (fun r A=>by cases A) fun z B I K C L l J Jx W D M H N E=>callsIn_wide.2 ((livesIt_nil B (.func (.yield l) #[] #[]) W ((D.block B (qX C)).trans C)).mono fun e w' ⟨F,G⟩=>⟨⟨_,G⟩,.inl ⟨[],rfl,by rw[F];exact E⟩⟩)
end
section
open Go.RowKit Go.Maps
theorem stext_core(sp:Value)(p:ByteArray)(kk:kE)(hkk:(kc kk).length=34)(dp:Option Addr)(n:Int)(tx:ByteArray)(w:World)
    (hf:Calls prog 40 #[sp,.string p] w fun e w'=>Below w.heap.size w w'∧e=.returned (.tuple #[.agg (kc kk).toArray,.pointer dp,.int .i64 n]))
    (ht:∀u,Below w.heap.size w u→Calls prog 36 #[.pointer dp] u fun e w'=>Below u.heap.size u w'∧e=.returned (.string tx)):
    Calls prog 25 #[sp,.string p] w fun e w'=>Below w.heap.size w w'∧e=.returned (.tuple #[.string tx,.int .i64 n]):=by
  have J:=Lib.hid hf;have K:=Lib.hid ht;have E:=Lib.hid hkk
  clear hf ht hkk;go_enter func25,ntmps25
  go_wp2_with (first
    |(go_at_call 40;refine J.mono ?_;rintro e L ⟨H,rfl⟩;have A:=Lib.hid H;clear H)
    |(go_at_call 36;refine(K _ C).mono ?_;rintro e R ⟨I,rfl⟩;have F:=Lib.hid (Xx C.out I);clear I)
    |(with_reducible refine kF ?_
      refine kv yk 89 rfl (kc (0,k9,0)) (zG _) ?_;intro S M G O;have D:=Lib.hid (Xx A.out M.out))
    |(with_reducible refine kD ?_
      refine kr yk 89 _ _ rfl L.heap.size 0 [] (kc (0,k9,0)) [] (kc kk) 89 (.agg (kc kk).toArray) rfl rfl rfl rfl (by simpa using G.out) (by rw[E.out];rfl) (by rw[E.out];kernel_rfl) (j8 _) ?_;intro T N P Q;have C:=Lib.hid (D.trans (N.below (B:=w.heap.size) D.size (fun k U e=>by have V:k=L.heap.size:=e;have:=A.size;omega)))))
  go_ret2;exact⟨F,rfl⟩
def uk(d:List kQ):Prop:=d.length≤65536∧∀r∈d,r.2.1.length≤65536∧∀u∈r.2.1,EncIs u
theorem DocAt.text{w:World}{B p:Nat}{v:Value}{d:List kQ}(h:DocAt w B p v d)(hd:uk d):
    Calls prog 36 #[.pointer (some ⟨p,0,none⟩)] w fun e w'=>Below w.heap.size w w'∧e=.returned (.string ⟨(Zw d).toArray⟩):=by
  obtain⟨D,C,F,G⟩:=h.rows;have E:∀r∈D,r.2.2.1.length≤65536∧∀u∈r.2.2.1,EncIs u:=fun r A=>hd.2 (kA r) (by rw[←C];exact List.mem_map_of_mem A)
  have:=dtext_run D B p v w ⟨h.box,h.low,F,G⟩ (fun r A=>(E r A).2) (by have:=hd.1;rw[←C,Yv] at this;exact this) (fun r A=>(E r A).1);rw[C] at this;exact this
def textAt(S:kj)(p:ByteArray):List UInt8:=match zO S.2.1 (L p) with
  |none=>[]
  |some k=>Zw ((jv S k).getD [])
def qG(S:kj)(p:ByteArray):Int:=match zO S.2.1 (L p) with
  |none=>4
  |some k=>0
theorem stext_any(B s:Nat)(S:kj)(q:kV)(p:ByteArray)(w:World)(h:StateAt w B s S q)(hl:S.2.1.length≤90)(hsm:∀x∈S.2.1,x.2.2.2.size≤1073741824)(hg:Glob w)(hk:kJ ((zO S.2.1 (L p)).getD zM))(hd:∀k d,zO S.2.1 (L p)=some k→jv S k=some d→uk d):
    Calls prog 25 #[.pointer (some ⟨s,0,none⟩),.string p] w fun e w'=>Below w.heap.size w w'∧e=.returned (.tuple #[.string ⟨(textAt S p).toArray⟩,.int .i64 (qG S p)]):=by
  have C:=sfind_any B s S q p w h hl hsm hg hk;unfold QY at C;unfold textAt qG;obtain⟨o,E⟩:=Xy (zO S.2.1 (L p));rw[E] at hk C ⊢;cases o with
  |none=>exact stext_core _ p (0,k9,0) rfl none 4 _ w C fun u F=>dtext_nil u
  |some k=>
   obtain⟨D,A⟩:=Xy (jv S k);have G:Ua S q k=.pointer (D.map fun _=>⟨q.ptr k,0,none⟩):=by unfold Ua;rw[A];cases D<;>rfl
   dsimp only at C;rw[G] at C;refine stext_core _ p k (ke hk) _ 0 _ w C fun u F=>?_
   dsimp only;rw[A];cases D with
   |none=>exact dtext_nil u
   |some d=>exact((h.docs k d A).2.keep F).text (hd k d E A)
end
section
open Go.RowKit Go.Maps
open Lib (hid)
def ju(p:jC):List Value:=kc p.1++([.int .i64 (p.2.1:Int)]++[.string ⟨p.2.2.toArray⟩])
def Jm(p:jC):Prop:=kJ p.1∧0≤p.1.2.2∧p.1.2.2+(p.2.1:Int)≤2147483648
theorem JP{p:jC}(h:Jm p):(ju p).length=36:=by simp [ju,ke h.1]
theorem Qc(p:jC):∀u∈ju p,u.oneCell'=true:=by
  intro u A;unfold ju at A;simp only[xJ,xZ] at A;rcases A with A|rfl|rfl
  ·exact j8 _ u A
  ·rfl
  ·rfl
theorem qk:(prog.info? 102).map (·.size)=some 36:=yq
def PcAt(w:World)(B b:Nat)(l:List jC):Prop:=∃v,w.heap[b]?=some (.cells [v].toArray 99 (0,0))∧w.ownsRow B 102 36 v l.length (kf ju l)
theorem PcAt.keep{w w':World}{B b:Nat}{l:List jC}(h:PcAt w B b l)(hb:Below w.heap.size w w'):PcAt w' B b l:=by
  obtain⟨v,A,C⟩:=h;exact⟨v,(hb.block b (qX A)).trans A,(But.of_below (X:=NoB) hb).own C fun _ _ q=>q⟩
theorem K4{α:Type}(enc:α→List Value)(l:List α)(x:α):kf enc (l++[x])=kf enc l++enc x:=by simp [kf]
theorem piece_last{w:World}{B:Nat}{l:List jC}{q:jC}{v:Value}(h:w.ownsRow B 102 36 v (l++[q]).length (kf ju (l++[q])))(hl:∀x∈l++[q],Jm x):
    ∃g c A,v=.slice (some ⟨g,0,none⟩) (l.length+1) c∧B≤g∧w.heap[g]?=some (.cells (kf ju l++(kc q.1++([Value.int .i64 (q.2.1:Int)]++([Value.string ⟨q.2.2.toArray⟩]++A)))).toArray 102 (0,0))∧l.length+1≤c∧c≤maxLen∧A.length=(c - (l.length+1))*36∧(kf ju l).length=l.length*36∧(kc q.1).length=34:=by
  obtain⟨g,c,A,C,F,G,D,H,E⟩:=KP h yZ;rw[yV,xQ] at C D E;refine⟨g,c,A,C,F,?_,D,H,E,jb fun x I=>JP (hl x (List.mem_append_left _ I)),ke (hl q yZ).1⟩;rw[G,K4];simp [ju]
theorem ka1{P:Program}{ρ:Operand→Value}{o:Oper}{w:World}(x y:Operand)(t':TypeId)(ho:o.op=.binOp .sub 3 x y t'){m n r:Int}(hx:ρ x=.int .i64 m)(hy:ρ y=.int .i64 n)(hr:IntKind.i64.wrap (m - n)=r):(execOp ρ o).run P w=.ok (.value (.int .i64 r)) w:=by
  subst hr;unfold execOp;simp only[ho,hx,hy];rfl
theorem follows_any(l:List jC)(k:kE)(B b:Nat)(w:World)(h:PcAt w B b l)(hk:kJ k)(hl:∀x∈l,Jm x)(hn:l.length≤1099511627776):
    Calls prog 88 #[.agg (kc k).toArray,.pointer (some ⟨b,0,none⟩)] w fun e w'=>Below w.heap.size w w'∧e=.returned (.bool (J9 l k)):=by
  obtain⟨v,V,Z⟩:=h;have E:=hid V;have M:=hid Z;have Q:=hid hk;have N:=hid hl
  have W:=ke hk;clear V Z hk hl;rcases List.eq_nil_or_concat l with rfl|⟨l,q,rfl⟩
  ·have y:∃A c,v=.slice A 0 c:=kX M.out;obtain⟨A,c,rfl⟩:=y;go_enter func88,ntmps88
   go_upto_region 1 with (first
     |(with_reducible refine kG ?_
       refine kz yk 89 _ rfl (kc k) _ rfl rfl (by rw[W];kernel_rfl) ?_;intro F D A0 a))
   have H:=hid (show ∀u:World,Below F.heap.size F u→u.cell? ⟨b,0,none⟩=some (.slice A 0 c) from fun u P=>(P.cell (p:=⟨b,0,none⟩) (qL (qX E) D.size)).trans ((D.cell (p:=⟨b,0,none⟩) (qX E)).trans (k6 E 0)));refine rN 23 (fun u=>Below F.heap.size F u) (qD _ _) fun G=>?_
   refine tl 0 _ rfl G (fun w' C=>l1 underlying99 (H w' C)) ?_;go_frame;refine tk 1 _ rfl (fun w' C=>Q3 99 _ rfl rfl underlying99) ?_;go_frame;refine tk 2 (.bool false) rfl (fun w' C=>UY _ _ _ rfl rfl rfl yj) ?_;go_frame;refine tw 3 _ ?_;go_frame;refine tn 4 ?_;go_frame;refine tn 5 ?_;go_frame;refine tn 6 ?_;go_frame;refine tn 7 ?_;go_frame;refine tn 8 ?_;go_frame;refine tn 9 ?_;go_frame;refine tn 10 ?_;go_frame;refine tn 11 ?_;go_frame;refine tn 12 ?_;go_frame;refine tn 13 ?_;go_frame;refine tn 14 ?_;go_frame;refine tn 15 ?_;go_frame;refine tn 16 ?_;go_frame;refine tn 17 ?_;go_frame;refine tn 18 ?_;go_frame;refine tn 19 ?_;go_frame;refine tn 20 ?_;go_frame;refine tw 21 _ ?_;go_frame;refine tw 22 _ ?_;go_frame;refine ku yq ?_ _;go_wp2_with fail;go_ret;exact⟨D.trans ((qD F.heap.size F).mono D.size),rfl⟩
  ·rw[List.concat_eq_append] at M N hn ⊢;obtain⟨g,c,z,rfl,hB,d,hc,hm,ht,A1,A2⟩:=piece_last M.out N.out;have O:=hid d;have I:=hid (N q yZ);have f:=I.2.1;have i:=I.2.2;rw[yV,xQ] at hn;have Y:Hid (J9 (l++[q]) k=decide (vy q.1 (q.2.1:Int)=k)):=hid (by unfold J9;rw[List.getLast?_concat]);have R:Hid (kJ (vy q.1 (q.2.1:Int))):=hid (laterD_ok I.1 f i);have S:=hid (fun w=>later_any q.1 (q.2.1:Int) w I.1 (by unfold Ix;omega) (by unfold Ix;omega));have m:=enE func89 rfl;have o:IntKind.i64.wrap (((l.length+1:Nat):Int) - 1)=(l.length:Int):=by rw[IntWalk.i64_in _ yv];omega
   clear d ht hB;go_enter func88,ntmps88
   go_upto_region 1 with (first
     |(with_reducible refine kG ?_
       refine kz yk 89 _ rfl (kc k) _ rfl rfl (by rw[W];kernel_rfl) ?_;intro F D J a))
   obtain⟨r,s⟩:=Xy w.heap.size;rw[s] at J ⊢;have H:=hid (show ∀u:World,Below F.heap.size F u→u.cell? ⟨b,0,none⟩=some (.slice (some ⟨g,0,none⟩) (l.length+1) c) from fun u P=>(P.cell (p:=⟨b,0,none⟩) (qL (qX E) D.size)).trans ((D.cell (p:=⟨b,0,none⟩) (qX E)).trans (k6 E 0)));have K:=hid (show ∀u:World,Below F.heap.size F u→u.rangeAt g (0+l.length*36+0) (kc q.1)∧u.cell? ⟨g,0+l.length*36+34,none⟩=some (.int .i64 (q.2.1:Int)) from fun u P=>by
     have t:=(P.block g (qL (qX O) D.size)).trans ((D.block g (qX O)).trans O);refine⟨fun j x U=>(k6 t _).trans ?_,(k6 t _).trans ?_⟩
     ·rw[xx yv,xv (by have:=(yJ.1 U).1;omega)];rw[←U]
      congr 1
      omega
     ·rw[xx yv,xx yv];rw[show 0+l.length*36+34 - (kf ju l).length - (kc q.1).length=0 by omega];rfl)
   have T:=hid (show ∀u:World,Below F.heap.size F u→u.rangeAt r 0 (kc k) from fun u P j x U=>by rw[qZ];exact(k6 ((P.block r (qX J)).trans J) j).trans U);refine rN 23 (fun u=>Below F.heap.size F u) (qD _ _) fun G=>?_
   refine tl 0 _ rfl G (fun w' C=>l1 underlying99 (H w' C)) ?_;go_frame;refine tk 1 _ rfl (fun w' C=>Q3 99 _ rfl rfl underlying99) ?_;go_frame;refine tk 2 (.bool true) rfl (fun w' C=>UY _ _ _ rfl rfl rfl (dT yv)) ?_;go_frame;refine tw 3 _ ?_;go_frame;refine tl 4 _ rfl G (fun w' C=>l1 underlying99 (H w' C)) ?_;go_frame;refine tl 5 _ rfl G (fun w' C=>l1 underlying99 (H w' C)) ?_;go_frame;refine tk 6 _ rfl (fun w' C=>Q3 99 _ rfl rfl underlying99) ?_;go_frame;refine tk 7 _ rfl (fun w' C=>ka1 _ _ _ rfl rfl rfl o) ?_;go_frame;refine tk 8 (.pointer (some ⟨g,0+l.length*36,none⟩)) rfl (fun w' C=>zR 99 _ _ rfl (b:=g) (off:=0) (q:=l.length) (n:=l.length+1) (c:=c) rfl rfl yv underlying99 qk) ?_;go_frame;refine tw 9 _ ?_;go_frame;refine tl 10 _ rfl G (fun w' C=>ldK I.1 (K w' C).1) ?_;go_frame;refine tl 11 _ rfl G (fun w' C=>l1 underlying99 (H w' C)) ?_;go_frame;refine tl 12 _ rfl G (fun w' C=>l1 underlying99 (H w' C)) ?_;go_frame;refine tk 13 _ rfl (fun w' C=>Q3 99 _ rfl rfl underlying99) ?_;go_frame;refine tk 14 _ rfl (fun w' C=>ka1 _ _ _ rfl rfl rfl o) ?_;go_frame;refine tk 15 (.pointer (some ⟨g,0+l.length*36,none⟩)) rfl (fun w' C=>zR 99 _ _ rfl (b:=g) (off:=0) (q:=l.length) (n:=l.length+1) (c:=c) rfl rfl yv underlying99 qk) ?_;go_frame;refine tw 16 _ ?_;go_frame;refine tl 17 _ rfl G (fun w' C=>l1 underlying3 (K w' C).2) ?_;go_frame;refine tl 19 _ rfl G (fun w' C=>ldK Q (T w' C)) ?_;go_frame;refine ta 18 ?_;refine tc #[.agg (kc q.1).toArray,.int .i64 (q.2.1:Int)] m rfl ?_;refine(S _).mono ?_;rintro e u3 ⟨X,rfl⟩;have L:=hid ((qD F.heap.size F).trans (X.mono (qD F.heap.size F).size));clear X;refine⟨_,rfl,fun _ _=>L,?_⟩;go_frame;refine tk 20 _ rfl (fun w' C=>Kc 89 _ _ _ rfl rfl rfl eqKey.noGuard (run_eqKey R Q _)) ?_;go_frame;refine tw 21 _ ?_;go_frame;refine tw 22 _ ?_;go_frame;refine ku yq ?_ _;go_wp2_with fail;go_ret;exact⟨D.trans (L.mono D.size),by rw[Y.out];rfl⟩
theorem textP_mem{l:List jC}{x:jC}(h:x∈l):x.2.2.length≤(KB l).length:=by
  unfold KB
  induction l with
  |nil=>cases h
  |cons y l ih=>
   rw[List.flatMap_cons,yV];rcases xK.1 h with rfl|h
   ·omega
   ·have:=ih h;omega
def PcOk(st:List jC×Bool)(i:Nat):Prop:=(∀x∈st.1,Jm x)∧st.1.length≤i∧(KB st.1).length≤i*262144
theorem PcOk.step{st:List jC×Bool}{i:Nat}{r:kQ}(h:PcOk st i)(hk:kJ r.1)(h1:0≤r.1.2.2)(h2:r.1.2.2+(r.2.1.length:Int)≤2147483648)(hl:r.2.1.length≤65536):PcOk (KA st r) (i+1):=by
  obtain⟨C,K,G⟩:=h;have L:=JZ r.2.1;have H:(KB (KA st r).1).length≤(i+1)*262144:=by
    rw[textP_step,yV,Nat.succ_mul];have I:(if r.2.2 then [] else jt r.2.1).length≤(jt r.2.1).length:=by
      split
      ·exact YX _
      ·exact xY _
    have J:(jt r.2.1).length≤262144:=yv;exact Nat.add_le_add G (Nat.le_trans I J)
  refine⟨?_,?_,H⟩
  ·unfold KA
   split
   ·exact C
   ·split
    ·rename_i E;simp only[xy] at E;have B:=E.2;unfold J9 at B;unfold qF;cases hl2:st.1.getLast? with
     |none=>rw[hl2] at B;cases B
     |some p=>
      rw[hl2] at B;have e:=of_decide_eq_true B;have D:=Jq hl2;have F:=C p (by rw[D];simp);intro x A;rcases xJ.1 A with A|A
      ·exact C x (by rw[D];exact List.mem_append_left _ A)
      ·rw[xZ] at A;subst A;have M:p.1.2.2+(p.2.1:Int)=r.1.2.2:=congrArg (fun k:kE=>k.2.2) e;refine⟨F.1,F.2.1,?_⟩;show p.1.2.2+((p.2.1+r.2.1.length:Nat):Int)≤2147483648;omega
    ·intro x A;rcases xJ.1 A with A|A
     ·exact C x A
     ·rw[xZ] at A;subst A;exact⟨hk,h1,h2⟩
  ·unfold KA
   split
   ·show st.1.length≤i+1;omega
   ·split
    ·unfold qF;cases hl2:st.1.getLast? with
     |none=>show st.1.length≤i+1;omega
     |some p=>
      have D:=congrArg List.length (Jq hl2);rw[yV,xQ] at D;simp only[yV,xQ];omega
    ·simp only[yV,xQ];omega
def pcSt(rs:List zk)(i:Nat):List jC×Bool:=((rs.take i).map kA).foldl KA ([],true)
theorem pcSt_next{rs:List zk}{i:Nat}(hi:i<rs.length):pcSt rs (i+1)=KA (pcSt rs i) (kA rs[i]):=by
  unfold pcSt;rw[xj hi,List.map_append,List.foldl_append];rfl
def pieceZ:List Value:=kc (0,k9,0)++([Value.int .i64 0]++[Value.string noneS])
theorem uJ:(prog.info? 102).map (fun i=>(i.zero,i.size,i.bytes))=some (some (.agg pieceZ.toArray),36,72):=yq
theorem piece_built(k:kE)(hk:kJ k)(n:Nat)(s:List UInt8)(w:World):(Instr.build 102 #[(0,.agg (kc k).toArray),(1,.int .i64 (n:Int)),(2,.string ⟨s.toArray⟩)]).run prog w=.ok (.agg (ju (k,n,s)).toArray) w:=by
  obtain⟨j,B,C,_,_⟩:=info_parts uJ;have h:=zl (P:=prog) B underlying102 C [kc (0,k9,0),[.int .i64 0],[.string noneS]] rfl (places:=[(0,34),(34,1),(35,1)]) yq yq [(0,.agg (kc k).toArray),(1,.int .i64 (n:Int)),(2,.string ⟨s.toArray⟩)] (by
    intro q A;simp only[xK,YY,or_false] at A;rcases A with rfl|rfl|rfl
    ·exact⟨by show 0<3;omega,by show (kc k).toArray.size=34;rw[xz,ke hk]⟩
    ·exact⟨by show 1<3;omega,rfl⟩
    ·exact⟨by show 2<3;omega,rfl⟩)
  have D:=run_build (P:=prog) w 102 #[(0,.agg (kc k).toArray),(1,.int .i64 (n:Int)),(2,.string ⟨s.toArray⟩)] _ h;refine D.trans ?_;simp [ju,Value.cells]
theorem ex_addS{P:Program}{ρ:Operand→Value}{o:Oper}{w:World}(t t':TypeId)(x y:Operand)(ho:o.op=.binOp .add t x y t'){a b:ByteArray}(hx:ρ x=.string a)(hy:ρ y=.string b)(hz:a.size+b.size≤9223372036854775807):(execOp ρ o).run P w=.ok (.value (.string (a++b))) w:=by
  unfold execOp;simp [ho,hx,hy,binOp,Result.andThen,eqGuard,Op.stringOp,IntKind.max,IntKind.signed,IntKind.bits];rw[if_neg yv]
theorem ex_addI{P:Program}{ρ:Operand→Value}{o:Oper}{w:World}(x y:Operand)(t':TypeId)(ho:o.op=.binOp .add 3 x y t'){m n r:Int}(hx:ρ x=.int .i64 m)(hy:ρ y=.int .i64 n)(hr:IntKind.i64.wrap (m+n)=r):(execOp ρ o).run P w=.ok (.value (.int .i64 r)) w:=by
  subst hr;unfold execOp;simp only[ho,hx,hy];rfl
theorem str_app(a b:List UInt8):(⟨a.toArray⟩:ByteArray)++(⟨b.toArray⟩:ByteArray)=⟨(a++b).toArray⟩:=by
  apply ByteArray.ext;rw[ByteArray.data_append];simp
theorem pieces_run(rs:List zk)(B p:Nat)(v:Value)(w:World)(h:DocRows w B p v rs)(hix:RunIx (rs.map kA))(hE:∀r∈rs,∀u∈r.2.2.1,EncIs u)(hl:rs.length≤65536)(hs:∀r∈rs,r.2.2.1.length≤65536):
    Calls prog 41 #[.pointer (some ⟨p,0,none⟩)] w fun e w'=>∃v',e=.returned v'∧w'.ownsRow w.heap.size 102 36 v' (zI (rs.map kA)).length (kf ju (zI (rs.map kA)))∧(∀x∈zI (rs.map kA),Jm x)∧Below w.heap.size w w':=by
  have Bx:∀(fn:Fn) (first A5:Array Value) (w:World),(Instr.makeFunc fn first A5).run prog w=.ok (.func fn first A5) w:=fun _ _ _ _=>rfl
  have HD:=hid h;have HE:=hid hE;have AH:=hid hix;have HS:=hid hs
  have Bk:=h.lt;obtain⟨A,c,rfl⟩:=kX h.own;have c0:w.cell? ⟨p,0,none⟩=some (.slice A rs.length c):=by
    obtain⟨s,t,hb⟩:=h.box;exact k6 hb 0
  clear h hE hix hs;go_enter func41,ntmps41
  go_upto_region 6 with fail
  obtain⟨G,AT⟩:=Xy w.heap.size;have L:=hid AT;have AU:Below w.heap.size w (w.alloc (.cells #[.slice none 0 0] 99)):=(qB _ _).alloc (qR _) _;have Ab:PcAt (w.alloc (.cells #[.slice none 0 0] 99)) G G []:=⟨.slice none 0 0,by rw[←AT];exact heap_alloc_new _ _,World.ownsRow_nil _ _ _ _⟩;have c1:=(AU.cell (p:=⟨p,0,none⟩) Bk).trans c0;have AI:=hid AU;have AJ:=hid Ab
  clear AU Ab c0;rw[AT];generalize w.alloc (.cells #[.slice none 0 0] 99)=W1 at *
  go_upto_region 7 with fail
  go_loopw [5,19] (fun t5 t19 wr=>∃i:Nat,i≤rs.length∧t5=.bool (pcSt rs i).2∧t19=.int .i64 (i:Int)∧Hid (Below w.heap.size w wr)∧Hid (PcAt wr G G (pcSt rs i).1)∧Hid (PcOk (pcSt rs i) i)) (fun _ t19 _=>rs.length - (intOf t19).toNat)
  case atStart=>exact⟨0,YX _,rfl,rfl,AI,AJ,hid ⟨fun x hx=>(by cases hx),xY _,(by show (KB []).length≤_;simp [KB])⟩⟩
  case round=>
    obtain⟨i,hi,rfl,rfl,A0,Au,H⟩:=hrel;by_cases hlt2:i<rs.length
    ·have By:(i:Int)<(rs.length:Int):=yv;have i0:(0:Int)≤(i:Int):=yv;obtain⟨g,c',Bl,AV,Bm,Bn⟩:=HD.row hlt2;injection Bl with hA _ hc';subst hA hc';have D:=hid (pcSt_next hlt2);have J:=hid (HD.ins _ (yQ hlt2));have Y:=hid (AH (kA rs[i]) (List.mem_map_of_mem (yQ hlt2)));have Ae:Hid (rs[i].2.2.1.length≤65536):=hid (HS _ (yQ hlt2));have AK:=hid (HE _ (yQ hlt2));have Af:=hid (show wr.rangeAt g (i*36) (kY rs[i]) from fun j u hj=>(A0.cell (p:=⟨g,i*36+j,none⟩) Bm).trans (AV j u hj));clear AV Bn;generalize rs[i]=r at *;have E:Hid (PcOk (KA (pcSt rs i) (kA r)) (i+1)):=hid (H.step J.1 Y.1 Y.2 Ae);generalize pcSt rs i=st at *;have B8:=jw J.out;have Ag:=hid B8;have AL:=hid (KQ r J.2.1.one);have Av:=hid (J.keep (KeepR.below (A0.mono (xY _))));obtain⟨gr,Ar,A5,Bz,fr,AW,BA,BB,_,_⟩:=J.2.1;obtain⟨_,_,_,p3,p4,p5⟩:=KS J.1;have P3:=hid (p3.trans (congrArg some AW));have P4:=hid p4;have P5:=hid p5
     have AM:=hid AW;clear p3 p4 p5 AW B8
     go_upto_region 9 with (first
       |(with_reducible refine k8 ?_
         refine kZ rfl 177 _ rfl g _ rfl (kY r) _ Af.out underlying177 rfl (by rw[Ag.out];exact jX) ?_)
       |(with_reducible refine kF ?_
         refine kv yk 177 rfl runZ (JL _) ?_;intro W6 Aw Ax Ay)
       |(with_reducible refine kD ?_
         refine kr yk 177 _ _ rfl wr.heap.size 0 [] runZ [] (kY r) 177 _ rfl rfl rfl rfl (by simpa using Ax.out) (by rw[Ag.out];rfl) (by rw[Ag.out];exact jX) AL.out ?_;intro W7 Az Bo BC;have Z:Hid (W7.heap[wr.heap.size]?=some (.cells (kY r).toArray 177 (0,0))):=hid (by simpa using Bo.out)))
     have o:Hid (Below wr.heap.size wr W7):=hid (Aw.trans (Az.below (by have:=Ay.out;omega) (fun k hk e=>by omega)));obtain⟨b7,AX⟩:=Xy wr.heap.size;rw[AX] at Z ⊢;have Bh:=hid AX;have Ah:Hid (Below w.heap.size w W7):=hid (Xx A0.out o.out);have y:=hid (Au.keep o);have AA:=hid (Av.keep (KeepR.below o));have AY:W7.cell? ⟨b7,35,none⟩=some (.bool r.2.2.2):=(k6 Z 35).trans P4.out;clear Aw Ax Ay Az Af Av AX;cases hdd:r.2.2.2
     ·rw[hdd] at AY;have Ai:=hid hdd;have AZ:W7.cell? ⟨b7,34,none⟩=some (.slice (some ⟨gr,Ar,none⟩) r.2.2.1.length A5):=(k6 Z 34).trans P3.out;have AB:Hid (RuneAt W7 (.slice (some ⟨gr,Ar,none⟩) r.2.2.1.length A5) r.2.2.1):=hid (by rw[←AM.out];exact AA.2.1);clear hdd
      go_upto_region 12 with (first
        |(go_at_call 81;refine(utext_any _ gr Ar A5 W7 AB AK (by have:=Ae.out;omega)).mono ?_;rintro e W8 ⟨B9,rfl⟩;have A2:=hid B9;clear B9))
      clear AZ AY;have a:Hid (Below w.heap.size w W8):=hid (Xx Ah.out A2.out);have O:=hid (y.keep A2);have Q:=hid ((A2.block b7 (qX Z)).trans Z);have R:=hid (show W8.rangeAt b7 0 (kc r.1) from fun j u hj=>(k6 Q (0+j)).trans (P5 j u hj));clear y Z A2 AA AB;cases hbr:st.2
      ·have A3:=hid hbr;clear hbr;cases hfo:J9 st.1 r.1
       ·have S:Hid (KA st (kA r)=(st.1++[(r.1,r.2.2.1.length,jt r.2.2.1)],false)):=hid (by
          unfold KA;rw[if_neg (by show ¬r.2.2.2=true;rw[Ai.out];exact Bool.false_ne_true),if_neg (by show ¬(!st.2 && J9 st.1 r.1)=true;rw[A3.out,hfo];exact Bool.false_ne_true)];rfl)
        have d:=hid hfo;clear hfo
        go_upto_region 15 with (first
          |(refine k7 yk (ldK J.1 R) ?_)
          |(go_at_call 88;refine(follows_any st.1 r.1 G G W8 O J.1 H.1 (by have:=H.2.1;omega)).mono ?_;rintro e F ⟨Ac,rfl⟩;rw[d.out];have T:=hid Ac;clear Ac))
        have K:Hid (Below w.heap.size w F):=hid (Xx a.out T.out);have U:=hid (O.keep T);have P:=hid ((T.block b7 (qX Q)).trans Q);have b:=hid (show F.rangeAt b7 0 (kc r.1) from fun j u hj=>(k6 P (0+j)).trans (P5 j u hj));clear d;obtain⟨v9,V,W⟩:=U.out;have C:=hid V;have I:=hid W
        have B0:F.cell? ⟨G,0,none⟩=some v9:=k6 V 0;have AZ:F.cell? ⟨b7,34,none⟩=some (.slice (some ⟨gr,Ar,none⟩) r.2.2.1.length A5):=(k6 P 34).trans P3.out;have Aj:Hid (Jm (r.1,r.2.2.1.length,jt r.2.2.1)):=hid ⟨J.1,Y.1,Y.2⟩;have AD:=JP Aj.out;have Bp:=H.2.1;have M:=hid (show G≤F.heap.size by have:=K.size;have:=L.out;omega);have Ak:=hid (fun (u:World) (hu:Below F.heap.size F u)=>(But.of_below (X:=NoB) hu).own I fun _ _ q=>q);have Al:=hid (show v9.ownBlock≠some G from fun e=>by
          obtain⟨cc,An⟩:=kH I.out e;exact ji An C.out yj rfl)
        obtain⟨A9,c9,B1⟩:=kX W;clear V W;subst B1
        go_wp2_with (first
          |(refine k7 yk (ldK J.1 b) ?_)
          |(with_reducible refine kL ?_
            refine k7 yk (kp 102 _ rfl (by simp only[xV,xX,Yy];exact piece_built r.1 J.1 _ _ _)) ?_)
          |(refine zE yk 99 _ rfl 102 underlying99 (.agg pieceZ.toArray) 36 72 uJ rfl yj yj (ju (r.1,r.2.2.1.length,jt r.2.2.1)) AD rfl ?_)
          |(at_builtin;go_loud (refine Jw yk _ _ 99 rfl G 102 (.agg pieceZ.toArray) 36 72 underlying99 uJ rfl yj (.slice A9 st.1.length c9) st.1.length (kf ju st.1) rfl (Ak _ ((qB _ _).alloc (qR _) _)) ⟨F.heap.size,0,none⟩ 1 1 (ju (r.1,r.2.2.1.length,jt r.2.2.1)) rfl (by rw[AD]) (J3 F _ _) (Qc _) yY yv (by have:=M.out;simp;omega) ?_)
            intro v1 w1 Ao Ap B2;have f:=hid ((Ap.block G (by simpa using Nat.lt_succ_of_lt (qX C)) (fun e=>Al e.symm)).trans ((heap_alloc_old F _ (qX C)).trans C));have l:=hid (((qB G F).alloc M _).grown Ap (by have:=M.out;simp;omega) fun k e=>(I.lt k e).1);have m:=hid Ao;obtain⟨A1,Aq,rfl⟩:=kX Ao;clear Ao Ap B2)
          |(with_reducible refine kD ?_
            refine kr yk 99 _ _ rfl G 0 [] [.slice A9 st.1.length c9] [] [.slice A1 (st.1.length+1) Aq] 99 (.slice A1 (st.1.length+1) Aq) rfl rfl rfl rfl f.out rfl yq (by intro u hu;rw[xZ.1 hu];rfl) ?_;intro w2 A6 A7 AE;have A6:=A6.out;have A7:=A7.out;have AE:=AE.out
            have n:=hid A6;have Am:=hid A7
            clear A6 A7))
        go_roundw
        case rel=>
          have B3:Below G w1 w2:=n.below (qT M l.size) (fun k hk e=>by omega);have Ab:PcAt w2 G G (st.1++[(r.1,r.2.2.1.length,jt r.2.2.1)]):=by
            refine⟨.slice A1 (st.1.length+1) Aq,by simpa using Am.out,?_⟩;rw[K4,yV,xQ];refine n.own m.out fun k hk e=>?_
            obtain⟨cc,An⟩:=kH m.out hk;exact ji An f.out yj e
          rw[S.out] at D E;refine⟨i+1,by omega,by rw[D.out],by go_num,hid ?_,hid (by rw[D.out];exact Ab),hid (by rw[D.out];exact E.out)⟩;rw[L.out];have h9:=K.out;rw[L.out] at h9;exact h9.trans (l.trans B3)
        case measure=>(simp [intOf])<;>omega
       ·have S:Hid (KA st (kA r)=(qF st.1 r.2.2.1.length (jt r.2.2.1),false)):=hid (by
          unfold KA;rw[if_neg (by show ¬r.2.2.2=true;rw[Ai.out];exact Bool.false_ne_true),if_pos (by show (!st.2 && J9 st.1 r.1)=true;rw[A3.out,hfo];rfl)];rfl)
        have d:=hid hfo;clear hfo
        go_upto_region 13 with (first
          |(refine k7 yk (ldK J.1 R) ?_)
          |(go_at_call 88;refine(follows_any st.1 r.1 G G W8 O J.1 H.1 (by have:=H.2.1;omega)).mono ?_;rintro e F ⟨Ac,rfl⟩;rw[d.out];have T:=hid Ac;clear Ac))
        have K:Hid (Below w.heap.size w F):=hid (Xx a.out T.out);have U:=hid (O.keep T);have P:=hid ((T.block b7 (qX Q)).trans Q);have b:=hid (show F.rangeAt b7 0 (kc r.1) from fun j u hj=>(k6 P (0+j)).trans (P5 j u hj));clear R;obtain⟨N,q,As⟩:∃N q,st.1=N++[q]:=by
          rcases List.eq_nil_or_concat st.1 with h0|⟨N,q,h0⟩
          ·have:=d.out;rw[h0] at this;cases this
          ·exact⟨N,q,by rw[h0,List.concat_eq_append]⟩
        have Bj:=hid As;have AN:Hid (qF st.1 r.2.2.1.length (jt r.2.2.1)=N++[(q.1,q.2.1+r.2.2.1.length,q.2.2++jt r.2.2.1)]):=hid (by
          unfold qF;rw[As,List.getLast?_concat,List.dropLast_concat])
        obtain⟨v9,V,W⟩:=U.out;have Aa:=H.1;rw[As] at W Aa;obtain⟨g9,c9,A8,rfl,Bq,Ba,Br,Bs,Bb,B4,B5⟩:=piece_last W Aa;have C:=hid V;have A4:=hid Ba;have z:=hid Aa
        have AO:=hid Bb;have BD:=(Aa q yZ).2.2;have BE:=(Aa q yZ).2.1;have BF:q.2.2.length≤i*262144:=Nat.le_trans (textP_mem (by rw[As];simp)) H.2.2;have BG:=JZ r.2.2.1;have BH:=Ae.out;have B0:F.cell? ⟨G,0,none⟩=some (.slice (some ⟨g9,0,none⟩) (N.length+1) c9):=k6 V 0;have BI:N.length≤65536:=by have:=H.2.1;rw[As,yV,xQ] at this;omega
        have Bt:wrap64 ((N.length:Int)+1 - 1)=(N.length:Int):=by unfold wrap64;omega
        clear W Aa Ba Bb V As;have m0:(0:Int)≤(N.length:Int):=yv;have m1:(N.length:Int)<(N.length:Int)+1:=yv
        go_upto_region 14 with fail
        clear B0 Bt;have AF:=hid (show ∀u:World,Below F.heap.size F u→u.cell? ⟨b7,34,none⟩=some (.slice (some ⟨gr,Ar,none⟩) r.2.2.1.length A5) from fun u hu=>(k6 ((hu.block b7 (qX P)).trans P) 34).trans P3);have AC:=hid (show ∀u:World,Below F.heap.size F u→u.cell? ⟨g9,N.length*36+34,none⟩=some (.int .i64 (q.2.1:Int))∧u.cell? ⟨g9,N.length*36+35,none⟩=some (.string ⟨q.2.2.toArray⟩) from fun u hu=>by
          have h2:=(hu.block g9 (qX A4)).trans A4.out;refine⟨(k6 h2 _).trans ?_,(k6 h2 _).trans ?_⟩
          ·rw[xx yv,xx yv];rw[show N.length*36+34 - (kf ju N).length - (kc q.1).length=0 by omega];rfl
          ·rw[xx yv,xx yv];rw[show N.length*36+35 - (kf ju N).length - (kc q.1).length=1 by omega];rfl)
        have AG:Hid (F.heap[g9]?=some (.cells ((kf ju N++kc q.1)++([Value.int .i64 (q.2.1:Int)]++([Value.string ⟨q.2.2.toArray⟩]++A8))).toArray 102 (0,0))):=hid (by rw[Yz];exact A4.out);have B6:(kf ju N++kc q.1).length=N.length*36+34:=by rw[yV,B4,B5]
        have Bi:IntKind.i64.wrap ((q.2.1:Int)+(r.2.2.1.length:Int))=((q.2.1+r.2.2.1.length:Nat):Int):=by rw[IntWalk.i64_in _ yv];omega
        refine rN 18 (fun u=>Below F.heap.size F u) (qD _ _) fun B7=>?_
        refine tw 0 _ ?_;go_frame;refine tw 1 _ ?_;go_frame;refine tw 2 _ ?_;go_frame;refine tw 3 _ ?_;go_frame;refine tw 4 _ ?_;go_frame;refine tl 5 _ rfl B7 (fun w' Ad=>l1 underlying3 (AC w' Ad).1) ?_;go_frame;refine tw 6 _ ?_;go_frame;refine tl 7 _ rfl B7 (fun w' Ad=>l1 underlying175 (AF w' Ad)) ?_;go_frame;refine tk 8 _ rfl (fun w' Ad=>Q3 175 _ rfl rfl underlying175) ?_;go_frame;refine tk 9 _ rfl (fun w' Ad=>ex_addI _ _ _ rfl rfl rfl Bi) ?_;go_frame;refine tw 10 _ ?_;go_frame;refine tw 11 _ ?_;go_frame;refine tw 12 _ ?_;go_frame;refine tl 13 _ rfl B7 (fun w' Ad=>l1 underlying9 (AC w' Ad).2) ?_;go_frame;refine tw 14 _ ?_;go_frame;refine tk 15 (.string ⟨(q.2.2++jt r.2.2.1).toArray⟩) rfl (fun w' Ad=>(ex_addS 9 _ _ _ rfl rfl rfl (by rw[UT,UT];omega)).trans (by rw[str_app])) ?_;go_frame;refine tw 16 _ ?_;go_frame;refine tw 17 _ ?_;go_frame;refine ta 18 ?_;refine kR _ rfl yq 3 _ _ rfl g9 (N.length*36+34) (kf ju N++kc q.1) [.int .i64 (q.2.1:Int)] ([Value.string ⟨q.2.2.toArray⟩]++A8) [.int .i64 ((q.2.1+r.2.2.1.length:Nat):Int)] 102 (.int .i64 ((q.2.1+r.2.2.1.length:Nat):Int)) rfl B6.symm rfl rfl AG.out rfl yq (by intro u hu;rw[xZ.1 hu];rfl) ?_;intro WA Bc Bd Bu;have AP:=hid Bc;have AQ:Hid (WA.heap[g9]?=some (.cells ((kf ju N++kc q.1++[Value.int .i64 ((q.2.1+r.2.2.1.length:Nat):Int)])++([Value.string ⟨q.2.2.toArray⟩]++A8)).toArray 102 (0,0))):=hid (by rw[Bd];simp);clear Bc Bd Bu;refine⟨fun h=>absurd h yj,?_⟩;go_frame;refine tw 19 _ ?_;go_frame;refine tw 20 _ ?_;go_frame;refine ta 21 ?_;refine kR _ rfl yq 9 _ _ rfl g9 (N.length*36+35) (kf ju N++kc q.1++[Value.int .i64 ((q.2.1+r.2.2.1.length:Nat):Int)]) [.string ⟨q.2.2.toArray⟩] A8 [.string ⟨(q.2.2++jt r.2.2.1).toArray⟩] 102 (.string ⟨(q.2.2++jt r.2.2.1).toArray⟩) rfl (by rw[yV,B6];rfl) rfl rfl AQ.out rfl yq (by intro u hu;rw[xZ.1 hu];rfl) ?_;intro WC Be Bf Bv;have AR:=hid Be;have AS:=hid Bf
        clear Be Bf Bv;refine⟨fun h=>absurd h yj,?_⟩;go_frame;refine ku yq ?_ _;go_wp2_with fail
        go_roundw
        case rel=>
          have Bg:But (fun k=>k=g9) F WC:=((But.refl _ F).drew.trans AP fun k _ e=>e).trans AR.out fun k _ e=>e
          have Bw:G≠g9:=ji C.out A4.out yj;have Ab:PcAt WC G G (N++[(q.1,q.2.1+r.2.2.1.length,q.2.2++jt r.2.2.1)]):=by
            refine⟨.slice (some ⟨g9,0,none⟩) (N.length+1) c9,(Bg.block G (qX C) Bw).trans C,?_⟩;rw[yV,xQ];refine Qt (tail:=A8) ?_ Bq ?_ Br Bs AO.out
            ·rw[K4,yV,B4];simp [ju,B5];omega
            ·rw[AS.out,K4];simp [ju]
          rw[S.out] at D E;rw[AN.out] at D E;refine⟨i+1,by omega,by rw[D.out],by go_num,hid ?_,hid (by rw[D.out];exact Ab),hid (by rw[D.out];exact E.out)⟩;have h9:=K.out;rw[L.out] at h9 ⊢;exact h9.trans (Bg.below (by have:=h9.size;have:=L.out;omega) fun k hk e=>by
            subst e;omega)
        case measure=>(simp [intOf])<;>omega
      ·have A3:=hid hbr;have S:Hid (KA st (kA r)=(st.1++[(r.1,r.2.2.1.length,jt r.2.2.1)],false)):=hid (by
         unfold KA;rw[if_neg (by show ¬r.2.2.2=true;rw[Ai.out];exact Bool.false_ne_true),if_neg (by show ¬(!st.2 && J9 st.1 r.1)=true;rw[A3.out];exact Bool.false_ne_true)];rfl)
       clear hbr
       go_upto_region 15 with fail
       obtain⟨F,At⟩:=Xy W8;have K:Hid (Below w.heap.size w F):=hid (by rw[←At];exact a.out);have U:Hid (PcAt F G G st.1):=hid (by rw[←At];exact O.out);have P:Hid (F.heap[b7]?=some (.cells (kY r).toArray 177 (0,0))):=hid (by rw[←At];exact Q.out);have b:Hid (F.rangeAt b7 0 (kc r.1)):=hid (by rw[←At];exact R.out);rw[At];clear At R O a Q;obtain⟨v9,V,W⟩:=U.out;have C:=hid V;have I:=hid W
       have B0:F.cell? ⟨G,0,none⟩=some v9:=k6 V 0;have AZ:F.cell? ⟨b7,34,none⟩=some (.slice (some ⟨gr,Ar,none⟩) r.2.2.1.length A5):=(k6 P 34).trans P3.out;have Aj:Hid (Jm (r.1,r.2.2.1.length,jt r.2.2.1)):=hid ⟨J.1,Y.1,Y.2⟩;have AD:=JP Aj.out;have Bp:=H.2.1;have M:=hid (show G≤F.heap.size by have:=K.size;have:=L.out;omega);have Ak:=hid (fun (u:World) (hu:Below F.heap.size F u)=>(But.of_below (X:=NoB) hu).own I fun _ _ q=>q);have Al:=hid (show v9.ownBlock≠some G from fun e=>by
         obtain⟨cc,An⟩:=kH I.out e;exact ji An C.out yj rfl)
       obtain⟨A9,c9,B1⟩:=kX W;clear V W;subst B1
       go_wp2_with (first
         |(refine k7 yk (ldK J.1 b) ?_)
         |(with_reducible refine kL ?_
           refine k7 yk (kp 102 _ rfl (by simp only[xV,xX,Yy];exact piece_built r.1 J.1 _ _ _)) ?_)
         |(refine zE yk 99 _ rfl 102 underlying99 (.agg pieceZ.toArray) 36 72 uJ rfl yj yj (ju (r.1,r.2.2.1.length,jt r.2.2.1)) AD rfl ?_)
         |(at_builtin;go_loud (refine Jw yk _ _ 99 rfl G 102 (.agg pieceZ.toArray) 36 72 underlying99 uJ rfl yj (.slice A9 st.1.length c9) st.1.length (kf ju st.1) rfl (Ak _ ((qB _ _).alloc (qR _) _)) ⟨F.heap.size,0,none⟩ 1 1 (ju (r.1,r.2.2.1.length,jt r.2.2.1)) rfl (by rw[AD]) (J3 F _ _) (Qc _) yY yv (by have:=M.out;simp;omega) ?_)
           intro v1 w1 Ao Ap B2;have f:=hid ((Ap.block G (by simpa using Nat.lt_succ_of_lt (qX C)) (fun e=>Al e.symm)).trans ((heap_alloc_old F _ (qX C)).trans C));have l:=hid (((qB G F).alloc M _).grown Ap (by have:=M.out;simp;omega) fun k e=>(I.lt k e).1);have m:=hid Ao;obtain⟨A1,Aq,rfl⟩:=kX Ao;clear Ao Ap B2)
         |(with_reducible refine kD ?_
           refine kr yk 99 _ _ rfl G 0 [] [.slice A9 st.1.length c9] [] [.slice A1 (st.1.length+1) Aq] 99 (.slice A1 (st.1.length+1) Aq) rfl rfl rfl rfl f.out rfl yq (by intro u hu;rw[xZ.1 hu];rfl) ?_;intro w2 A6 A7 AE;have A6:=A6.out;have A7:=A7.out;have AE:=AE.out
           have n:=hid A6;have Am:=hid A7
           clear A6 A7))
       go_roundw
       case rel=>
         have B3:Below G w1 w2:=n.below (qT M l.size) (fun k hk e=>by omega);have Ab:PcAt w2 G G (st.1++[(r.1,r.2.2.1.length,jt r.2.2.1)]):=by
           refine⟨.slice A1 (st.1.length+1) Aq,by simpa using Am.out,?_⟩;rw[K4,yV,xQ];refine n.own m.out fun k hk e=>?_
           obtain⟨cc,An⟩:=kH m.out hk;exact ji An f.out yj e
         rw[S.out] at D E;refine⟨i+1,by omega,by rw[D.out],by go_num,hid ?_,hid (by rw[D.out];exact Ab),hid (by rw[D.out];exact E.out)⟩;rw[L.out];have h9:=K.out;rw[L.out] at h9;exact h9.trans (l.trans B3)
       case measure=>(simp [intOf])<;>omega
     ·rw[hdd] at AY;have S:Hid (KA st (kA r)=(st.1,true)):=hid (by
        unfold KA;rw[if_pos (by show r.2.2.2=true;exact hdd)])
      clear hdd;go_wp2_with fail
      go_roundw
      case rel=>
        rw[S.out] at D E;exact⟨i+1,by omega,by rw[D.out],by go_num,Ah,hid (by rw[D.out];exact y.out),hid (by rw[D.out];exact E.out)⟩
      case measure=>(simp [intOf])<;>omega
    ·have e:pcSt rs i=((rs.map kA).foldl KA ([],true)):=by unfold pcSt;rw[Yq yv]
     obtain⟨v9,Ac,W⟩:=Au.out;have c9:wr.cell? ⟨G,0,none⟩=some v9:=k6 Ac 0;have I:=hid W;have z:=hid H.1;rw[e] at I z;clear Ac W;obtain⟨A9,BJ,rfl⟩:=kX I.out;go_wp2_with fail;go_ret;exact⟨_,rfl,by rw[L.out];exact I.out,z.out,A0.out⟩
def jR(x:zS):List Value:=idV x.1++([.string x.2.1]++[.string ⟨x.2.2.toArray⟩])
theorem JQ{x:zS}(h:jr x.1):(jR x).length=34:=by
  have:x.1.length=32:=h;simp [jR,kn,this]
theorem blameV_one(x:zS):∀u∈jR x,u.oneCell'=true:=by
  intro u A;unfold jR at A;simp only[xJ,xZ] at A;rcases A with A|rfl|rfl
  ·exact kW _ u A
  ·rfl
  ·rfl
def blameZ:List Value:=idV k9++([.string noneS]++[.string noneS])
theorem ql:(prog.info? 43).map (fun i=>(i.zero,i.size,i.bytes))=some (some (.agg blameZ.toArray),34,64):=yq
theorem qm:(prog.info? 43).map (·.size)=some 34:=yq
theorem pieceZ_run(w:World):(zeroValue 102).run prog w=.ok (.agg pieceZ.toArray) w:=yq
theorem idZ_run15(w:World):(zeroValue 41).run prog w=.ok (.agg (idV k9).toArray) w:=yq
theorem blame_built(x:zS)(hk:jr x.1)(w:World):(Instr.build 43 #[(0,.agg (idV x.1).toArray),(1,.string x.2.1),(2,.string ⟨x.2.2.toArray⟩)]).run prog w=.ok (.agg (jR x).toArray) w:=by
  obtain⟨j,B,C,_,_⟩:=info_parts ql;have D:x.1.length=32:=hk;have h:=zl (P:=prog) B underlying43 C [idV k9,[.string noneS],[.string noneS]] rfl (places:=[(0,32),(32,1),(33,1)]) yq yq [(0,.agg (idV x.1).toArray),(1,.string x.2.1),(2,.string ⟨x.2.2.toArray⟩)] (by
    intro q A;simp only[xK,YY,or_false] at A;rcases A with rfl|rfl|rfl
    ·exact⟨by show 0<3;omega,by show (idV x.1).toArray.size=32;rw[xz,kn,D]⟩
    ·exact⟨by show 1<3;omega,rfl⟩
    ·exact⟨by show 2<3;omega,rfl⟩)
  have E:=run_build (P:=prog) w 43 #[(0,.agg (idV x.1).toArray),(1,.string x.2.1),(2,.string ⟨x.2.2.toArray⟩)] _ h;refine E.trans ?_;simp [jR,Value.cells]
theorem blame_last{w:World}{B:Nat}{l:List zS}{q:zS}{v:Value}(h:w.ownsRow B 43 34 v (l++[q]).length (kf jR (l++[q])))(hl:∀x∈l++[q],jr x.1):
    ∃g c A,v=.slice (some ⟨g,0,none⟩) (l.length+1) c∧B≤g∧w.heap[g]?=some (.cells ((kf jR l++(idV q.1++[Value.string q.2.1]))++([Value.string ⟨q.2.2.toArray⟩]++A)).toArray 43 (0,0))∧l.length+1≤c∧c≤maxLen∧A.length=(c - (l.length+1))*34∧(kf jR l).length=l.length*34∧(idV q.1).length=32:=by
  obtain⟨g,c,A,C,F,G,D,H,E⟩:=KP h yZ;rw[yV,xQ] at C D E;refine⟨g,c,A,C,F,?_,D,H,E,jb fun x I=>JQ (hl x (List.mem_append_left _ I)),by rw[kn];exact hl q yZ⟩;rw[G,K4];simp [jR]
def je(S:kj)(i:List UInt8):ByteArray:=match kC S i with
  |some e=>e.1.2.2.1
  |none=>noneS
theorem entryG_author{S:kj}(q:kV){i:List UInt8}(h:(kC S i).isSome=true):∃g0 g1 g3 g4,KU S q i=[g0,g1,.string (je S i),g3,g4]:=by
  unfold KU je;cases he:kC S i with
  |none=>rw[he] at h;cases h
  |some e=>exact⟨_,_,_,_,rfl⟩
def Qd(S:kj)(ps:List jC)(i:Nat):List zS:=(ps.take i).foldl (Zc (je S)) []
theorem blSt_next{S:kj}{ps:List jC}{i:Nat}(hi:i<ps.length):Qd S ps (i+1)=Zc (je S) (Qd S ps i) ps[i]:=by
  unfold Qd;rw[xj hi,List.foldl_append];rfl
theorem blSt_text(S:kj)(ps:List jC)(i:Nat):jy (Qd S ps i)=KB (ps.take i):=by
  unfold Qd;have:∀(l:List jC) (A:List zS),jy (l.foldl (Zc (je S)) A)=jy A++KB l:=by
    intro l
    induction l with
    |nil=>intro A;simp [KB]
    |cons x l ih=>
     intro A;rw[List.foldl_cons,ih,textB_step];simp [KB]
  rw[this];rfl
theorem textB_mem{l:List zS}{x:zS}(h:x∈l):x.2.2.length≤(jy l).length:=by
  unfold jy
  induction l with
  |nil=>cases h
  |cons y l ih=>
   rw[List.flatMap_cons,yV];rcases xK.1 h with rfl|h
   ·omega
   ·have:=ih h;omega
theorem textP_take(ps:List jC)(i:Nat):(KB (ps.take i)).length≤(KB ps).length:=by
  have h:KB ps=KB (ps.take i)++KB (ps.drop i):=by
    unfold KB;rw[←List.flatMap_append,List.take_append_drop]
  rw[h,yV];omega
def BlOk(st:List zS)(i:Nat):Prop:=(∀x∈st,jr x.1)∧st.length≤i
theorem BlOk.step{S:kj}{st:List zS}{i:Nat}{x:jC}(h:BlOk st i)(hk:jr x.1.2.1):BlOk (Zc (je S) st x) (i+1):=by
  obtain⟨B,E⟩:=h;unfold Zc;cases hl:st.getLast? with
  |none=>
   refine⟨fun y A=>?_,by simp;omega⟩;rcases xJ.1 A with A|A
   ·exact B y A
   ·rw[xZ] at A;subst A;exact hk
  |some z=>
   have e:=Jq hl;have C:=B z (by rw[e];simp);dsimp only
   split
   ·refine⟨fun y A=>?_,?_⟩
    ·rcases xJ.1 A with A|A
     ·exact B y (by rw[e];exact List.mem_append_left _ A)
     ·rw[xZ] at A;subst A;exact C
    ·have D:=congrArg List.length e;rw[yV,xQ] at D;simp only[yV,xQ];omega
   ·refine⟨fun y A=>?_,by simp;omega⟩;rcases xJ.1 A with A|A
    ·exact B y A
    ·rw[xZ] at A;subst A;exact hk
theorem UG(B s:Nat)(S:kj)(q:kV)(p:ByteArray)(kk:kE)(hkk:(kc kk).length=34)(dp:Option Addr)(n:Int)(ps:List jC)(w:World)(h:StateAt w B s S q)
    (hf:Calls prog 40 #[.pointer (some ⟨s,0,none⟩),.string p] w fun e w'=>Below w.heap.size w w'∧e=.returned (.tuple #[.agg (kc kk).toArray,.pointer dp,.int .i64 n]))
    (hp:∀u,Below w.heap.size w u→Calls prog 41 #[.pointer dp] u fun e w'=>∃v',e=.returned v'∧w'.ownsRow u.heap.size 102 36 v' ps.length (kf ju ps)∧Below u.heap.size u w')
    (hok:∀x∈ps,Jm x) (hl:ps.length≤1099511627776) (ht:(KB ps).length≤1099511627776) (he:∀x∈ps,(kC S x.1.2.1).isSome=true):
    Calls prog 12 #[.pointer (some ⟨s,0,none⟩),.string p] w fun e w'=>Below w.heap.size w w'∧∃v,e=.returned (.tuple #[v,.int .i64 n])∧w'.ownsRow w.heap.size 43 34 v (UF (je S) ps).length (kf jR (UF (je S) ps)):=by
  have HS:=hid h;have HF:=hid hf;have HP:=hid hp;have Af:=hid hok;have HE:=hid he;have Ag:=hid hkk;have HT:=hid ht
  clear h hf hp hok he hkk ht;go_enter func12,ntmps12
  go_wp2_with (first
    |(go_at_call 40;refine HF.mono ?_;rintro e W1 ⟨AR,rfl⟩;have O:=hid AR;clear AR)
    |(go_at_call 41;refine(HP.out _ o.out).mono ?_;rintro e W4 ⟨v4,rfl,AL,AS⟩;have AB:=hid (Xx o.out AS);have AC:=hid (Je AL o.size);obtain⟨Ap,cp,rfl⟩:=kX AL;clear AS AL)
    |(with_reducible refine kF ?_
      refine kv yk 89 rfl (kc (0,k9,0)) (zG _) ?_;intro W2 B8 AD Bl;have Ah:=hid (Xx O.out B8.out))
    |(with_reducible refine kD ?_
      refine kr yk 89 _ _ rfl W1.heap.size 0 [] (kc (0,k9,0)) [] (kc kk) 89 (.agg (kc kk).toArray) rfl rfl rfl rfl (by simpa using AD.out) (by rw[Ag.out];rfl) (by rw[Ag.out];kernel_rfl) (j8 _) ?_;intro W3 B9 Bm Bn;have o:=hid (Ah.trans (B9.below (B:=w.heap.size) Ah.size (fun k hk e=>by have e2:k=W1.heap.size:=e;have:=O.size;omega)))))
  go_loopw [9,24] (fun t9 t24 wr=>∃(i:Nat) (A:Option Addr) (c:Nat),i≤ps.length∧t9=.slice A (Qd S ps i).length c∧t24=.int .i64 (i:Int)∧Hid (Below w.heap.size w wr)∧Hid (wr.ownsRow w.heap.size 43 34 (.slice A (Qd S ps i).length c) (Qd S ps i).length (kf jR (Qd S ps i)))∧Hid (wr.ownsRow w.heap.size 102 36 (.slice Ap ps.length cp) ps.length (kf ju ps))∧Hid (BlOk (Qd S ps i) i)) (fun _ t24 _=>ps.length - (intOf t24).toNat)
  case atStart=>exact⟨0,none,0,YX _,rfl,rfl,AB,hid (World.ownsRow_nil _ _ _ _),AC,hid ⟨fun x hx=>(by cases hx),xY _⟩⟩
  case round=>
    obtain⟨i,A,c,hi,rfl,rfl,Ai,a,Aj,r⟩:=hrel;by_cases hlt:i<ps.length
    ·have i0:(0:Int)≤(i:Int):=yv;have i1:(i:Int)<(ps.length:Int):=yv;obtain⟨gp,cq,Bo,Ba,Bp,AT,Bq,Br,Bb⟩:=KP Aj.out yv;injection Ba with hvp1 _ hvp2;subst hvp1 hvp2;have G:=hid (blSt_next (S:=S) hlt);have t:=hid (Af.out _ (yQ hlt));have AE:=hid (HE.out _ (yQ hlt));have AF:Hid (ps[i].2.2.length≤1099511627776):=hid (Nat.le_trans (textP_mem (yQ hlt)) HT.out);have Ax:=hid (show wr.rangeAt gp (i*36) (ju ps[i]) from fun j u l=>by
       have hr:=K9 (fun x hx=>JP (Af.out x hx)) i hlt j u l;rw[k6 AT,xv (yJ.1 hr).1];exact hr)
     clear AT Bb;generalize ps[i]=x at *;have AG:Hid ((jy (Qd S ps i)).length≤1099511627776):=hid (by rw[blSt_text];exact Nat.le_trans (textP_take ps i) HT.out);have D:Hid (jr x.1.2.1):=hid t.1.2.1;have M:Hid (BlOk (Zc (je S) (Qd S ps i) x) (i+1)):=hid (r.step D.out);generalize Qd S ps i=out at *;have AU:=JP t.out;have A0:=hid AU;have AM:(idV x.1.2.1).length=32:=by rw[kn];exact D.out
     have A2:=hid AM;clear AU AM;obtain⟨m,hm⟩:=Xy out.length;rw[hm] at a ⊢;have Au:m≤i:=by rw[←hm];exact r.2
     have P:=hid Au;have Bs:(m:Int)≤9223372036854775807:=yv;clear Au
     go_upto_region 8 with (first
       |(with_reducible refine k8 ?_
         first
         |refine kZ rfl 102 _ rfl gp _ rfl (ju x) _ Ax.out underlying102 rfl (by rw[A0.out];exact qk) ?_
         |refine k7 yk (ldD D.out A3.out) ?_)
       |(with_reducible refine kF ?_
         first
         |(refine kv yk 102 rfl pieceZ (pieceZ_run _) ?_;intro W6 Ak Al Am)
         |(refine kv yk 41 rfl (idV k9) (idZ_run15 _) ?_;intro W8 A4 An A5))
       |(with_reducible refine kD ?_
         first
         |(refine kr yk 102 _ _ rfl wr.heap.size 0 [] pieceZ [] (ju x) 102 (.agg (ju x).toArray) rfl rfl rfl rfl (by simpa using Al.out) (by rw[A0.out];rfl) (by rw[A0.out];exact qk) (Qc _) ?_;intro W7 Bc Bd AN;have AN:=AN.out;have W:Hid (Below wr.heap.size wr W7):=hid (Ak.trans (Bc.below (B:=wr.heap.size) (by have:=Am.out;omega) (fun k hk e=>by have e2:k=wr.heap.size:=e;omega)));have d:Hid (W7.heap[wr.heap.size]?=some (.cells (ju x).toArray 102 (0,0))):=hid (by simpa using Bd.out);have A3:Hid (W7.rangeAt wr.heap.size (0+1) (idV x.1.2.1)):=hid fun j u l=>(k6 d.out _).trans (by
               unfold ju kc;have Be:=(yJ.1 l).1;rw[xv (by simp only[Yx,yV,xQ];omega),show 0+1+j=j+1 by omega,List.getElem?_cons_succ,xv Be];exact l)
           clear AN)
         |(refine kr yk 41 _ _ rfl W7.heap.size 0 [] (idV k9) [] (idV x.1.2.1) 41 (.agg (idV x.1.2.1).toArray) rfl rfl rfl rfl (by simpa using An.out) (by rw[A2.out];rfl) (by rw[A2.out];kernel_rfl) (kW _) ?_;intro H AV Bf Bt;have Y:Hid (Below wr.heap.size wr H):=hid (W.trans ((A4.trans (AV.below (B:=W7.heap.size) (by have:=A5.out;omega) (fun k hk e=>by have e2:k=W7.heap.size:=e;omega))).mono W.size));have Ao:Hid (H.heap[W7.heap.size]?=some (.cells (idV x.1.2.1).toArray 41 (0,0))):=hid (by simpa using Bf.out);have Aq:Hid (H.heap[wr.heap.size]?=some (.cells (ju x).toArray 102 (0,0))):=hid (((A4.trans (AV.below (B:=W7.heap.size) (by have:=A5.out;omega) (fun k hk e=>by have e2:k=W7.heap.size:=e;omega))).block wr.heap.size (qX d.out)).trans d.out))))
     obtain⟨Ae,Ay⟩:=Xy wr.heap.size;obtain⟨AO,Az⟩:=Xy W7.heap.size;have Ar:Hid (H.heap[AO]?=some (.cells (idV x.1.2.1).toArray 41 (0,0))):=hid (by rw[←Az];exact Ao.out);have As:Hid (H.heap[Ae]?=some (.cells (ju x).toArray 102 (0,0))):=hid (by rw[←Ay];exact Aq.out);rw[Ay,Az];have E:Hid (Below w.heap.size w H):=hid (Xx Ai.out Y.out);have AH:=hid (HS.keep ((E.out).mono (xY _)));have I:=hid ((But.of_below (X:=NoB) Y.out).own a.out fun _ _ q=>q);have N:=hid ((But.of_below (X:=NoB) Y.out).own Aj.out fun _ _ q=>q);have F:=hid (show ∀u:World,Below H.heap.size H u→u.cell? ⟨Ae,35,none⟩=some (.string ⟨x.2.2.toArray⟩)∧u.rangeAt AO 0 (idV x.1.2.1)∧StateAt u B s S q from fun u hu=>⟨(k6 ((hu.block Ae (qX As.out)).trans As.out) 35).trans (by
       unfold ju;have Bg:=ke t.1;rw[xx yv,xx yX,Bg];rfl),fun j y l=>by rw[qZ];exact(k6 ((hu.block AO (qX Ar.out)).trans Ar.out) j).trans l,AH.keep hu⟩)
     obtain⟨g0,g1,g3,g4,AW⟩:=entryG_author q AE.out;have At:=hid AW;obtain⟨AX,Au,AY,AZ,B0⟩:=info_parts ql;clear AW Ak Al Am W d A3 A4 An A5 Ay Az Ao Aq;rcases List.eq_nil_or_concat out with h0|⟨L,y,V⟩
     ·have Bu:m=0:=by rw[←hm,h0];rfl
      have Q:Hid (Zc (je S) out x=out++[(x.1.2.1,je S x.1.2.1,x.2.2)]):=hid (by unfold Zc;rw[h0];rfl);clear h0;refine rN 12 (fun u=>Below H.heap.size H u) (qD _ _) fun K=>?_
      refine tw 0 (.int .i64 (m:Int)) ?_;go_frame;refine tk 1 (.bool false) rfl (fun w' C=>UY _ _ _ rfl rfl rfl (decide_eq_false yv)) ?_;go_frame;refine tw 2 (.bool false) ?_;go_frame;refine tn 3 ?_;go_frame;refine tn 4 ?_;go_frame;refine tn 5 ?_;go_frame;refine tn 6 ?_;go_frame;refine tn 7 ?_;go_frame;refine tn 8 ?_;go_frame;refine tn 9 ?_;go_frame;refine tn 10 ?_;go_frame;refine tw 11 (.bool false) ?_;go_frame;refine ku yq ?_ _
      go_upto_region 10 with fail
      have A6:=hid (fun (u:World) (hu:Below H.heap.size H u)=>(But.of_below (X:=NoB) hu).own I.out fun _ _ q=>q);have Aa:=JQ (x:=(x.1.2.1,je S x.1.2.1,x.2.2)) D.out;have R:=hid Aa;clear Aa;refine rN 13 (fun u=>Below H.heap.size H u) ((qD _ _).trans (qD _ _)) fun K=>?_
      refine tw 0 (.slice A m c) ?_;go_frame;refine tl 1 (.agg (idV x.1.2.1).toArray) rfl K (fun w' C=>ldD D.out (F.out w' C).2.1) ?_;go_frame;refine tw 2 (.pointer (some ⟨s,0,none⟩)) ?_;go_frame;refine tw 3 (.pointer (some ⟨s,0,none⟩)) ?_;go_frame;refine tw 4 (.pointer (some ⟨s,2,none⟩)) ?_;go_frame;refine tl 5 (.map (some q.bc)) rfl K (fun w' C=>l1 underlying85 ((k6 (F.out w' C).2.2.box 2))) ?_;go_frame;refine tl 6 (.agg (idV x.1.2.1).toArray) rfl K (fun w' C=>ldD D.out (F.out w' C).2.1) ?_;go_frame;refine tl 7 (.agg [g0,g1,.string (je S x.1.2.1),g3,g4].toArray) rfl K (fun w' C=>Kd Qx underlying85 (KH _) (F.out w' C).2.2.mapC D.out ((Z7 S q x.1.2.1).trans (by rw[At.out]))) ?_;go_frame;refine tw 8 (.agg [g0,g1,.string (je S x.1.2.1),g3].toArray) ?_;go_frame;refine tw 9 (.string (je S x.1.2.1)) ?_;go_frame;refine tw 10 (.pointer (some ⟨Ae,35,none⟩)) ?_;go_frame;refine tl 11 (.string ⟨x.2.2.toArray⟩) rfl K (fun w' C=>l1 underlying9 (F.out w' C).1) ?_;go_frame;refine tk 12 (.agg (jR (x.1.2.1,je S x.1.2.1,x.2.2)).toArray) rfl (fun w' C=>kp 43 _ rfl (by simp only[xV,xX,Yy];exact blame_built (x.1.2.1,je S x.1.2.1,x.2.2) D.out _)) ?_;go_frame;refine ta 13 ?_;refine zP _ rfl yq (Zq 28 _ rfl 43 underlying28 (.agg blameZ.toArray) 34 64 ql rfl yj yj (jR (x.1.2.1,je S x.1.2.1,x.2.2)) R.out rfl) ?_;refine⟨fun h=>absurd h yj,?_⟩;go_frame;obtain⟨WD,Ab⟩:=Xy H.drew.drew;have T:Hid (Below H.heap.size H WD):=hid (by rw[←Ab];exact(qD _ _).trans (qD _ _));rw[Ab];clear Ab K;have J:Hid (Below H.heap.size H (WD.alloc (.cells (jR (x.1.2.1,je S x.1.2.1,x.2.2)).toArray 43))):=hid (T.alloc T.size _);refine ta 14 ?_;refine Jy _ rfl yq (Jz _ _ 28 rfl w.heap.size 43 AX (.agg blameZ.toArray) 34 64 underlying28 Au AY AZ B0 rfl yj (.slice A m c) m (kf jR out) rfl (A6.out _ J.out) (some ⟨WD.heap.size,0,none⟩) 1 1 (WD.heap.size+1) (jR (x.1.2.1,je S x.1.2.1,x.2.2)) rfl ⟨by rw[R.out],fun _=>⟨WD.heap.size,0,rfl,by omega,fun j u l=>by rw[Nat.zero_add];exact(k6 (heap_alloc_new _ _) j).trans l⟩⟩ (blameV_one _) (by have:=P.out;unfold maxLen;omega) (by have:=P.out;omega) (Nat.le_trans E.size J.size) ?_);intro v1 w1 Ac Ad;have A7:=hid Ac;have O:Hid (Below w.heap.size w w1):=hid (E.trans ((J.mono E.size).grown Ad (Nat.le_trans E.size J.size) fun k e=>(I.lt k e).1));have Z:Hid (w1.ownsRow w.heap.size 102 36 (.slice (some ⟨gp,0,none⟩) ps.length cp) ps.length (kf ju ps)):=hid (by
        refine((But.of_below (X:=NoB) J.out).own N.out fun _ _ q=>q).kept Ad (.inr fun e=>?_);obtain⟨c1,Av⟩:=kH N.out (rfl:_=some gp);obtain⟨c2,AP⟩:=kH I.out e.symm;exact ji Av AP yj rfl)
      obtain⟨A1,Aw,rfl⟩:=kX Ac;clear Ac Ad;refine⟨fun h=>absurd h yj,?_⟩;go_frame;refine tw 15 (.slice A1 (m+1) Aw) ?_;go_frame;refine ku yq ?_ _;go_wp2_with fail
      go_roundw
      case rel=>
        rw[Q.out] at G M;have U:(out++[((x.1.2.1,je S x.1.2.1,x.2.2):zS)]).length=m+1:=by rw[yV,xQ,hm]
        refine⟨i+1,A1,Aw,by omega,by rw[G.out,U],by go_num,O,hid ?_,Z,hid (by rw[G.out];exact M.out)⟩;rw[G.out,U,K4];exact A7.out
      case measure=>(simp [intOf])<;>omega
     ·rw[List.concat_eq_append] at V;have B1:m=L.length+1:=by rw[←hm,V,yV,xQ]
      have AQ:=I.out;have AA:=r.1;have e0:m=(L++[y]).length:=by rw[←hm,V]
      rw[V] at AA;rw[V,e0] at AQ;obtain⟨g,c',tail,hv,hB,hg,hc,Bh,B2,Bi,Bj⟩:=blame_last AQ AA;injection hv with hv1 _ hv2;subst hv1 hv2;have f:Hid (jr y.1):=hid (AA y yZ);have HG:=hid hg;have AI:=hid B2
      have A8:=hid (show ∀u:World,Below H.heap.size H u→u.rangeAt g (0+L.length*34+0) (idV y.1)∧u.cell? ⟨g,0+L.length*34+33,none⟩=some (.string ⟨y.2.2.toArray⟩) from fun u hu=>by
        have h2:=(hu.block g (qX HG.out)).trans HG.out;refine⟨fun j z l=>(k6 h2 _).trans ?_,(k6 h2 _).trans ?_⟩
        ·have:=(yJ.1 l).1;rw[xv yX,xx yv,xv yv,←l]
         congr 1
         omega
        ·rw[xx yX];have:0+L.length*34+33 - (kf jR L++(idV y.1++[Value.string y.2.1])).length=0:=by simp;omega
         rw[this];rfl)
      have ew:IntKind.i64.wrap ((m:Int) - 1)=(L.length:Int):=by
        have:=P.out;rw[IntWalk.i64_in _ yv];omega
      have B3:decide ((m:Int) > 0)=true:=decide_eq_true yv;clear AQ AA hg B2 e0;by_cases hyx:y.1=x.1.2.1
      ·have Q:Hid (Zc (je S) out x=L++[(y.1,y.2.1,y.2.2++x.2.2)]):=hid (by
         unfold Zc;rw[V,List.getLast?_concat,List.dropLast_concat];exact if_pos hyx)
       have A9:Hid (decide (y.1=x.1.2.1)=true):=hid (decide_eq_true hyx);have Bv:y.2.2.length≤1099511627776:=Nat.le_trans (textB_mem (by rw[V];simp)) AG.out;clear hyx V;refine rN 12 (fun u=>Below H.heap.size H u) (qD _ _) fun K=>?_
       refine tw 0 (.int .i64 (m:Int)) ?_;go_frame;refine tk 1 (.bool true) rfl (fun w' C=>UY _ _ _ rfl rfl rfl B3) ?_;go_frame;refine tw 2 (.bool true) ?_;go_frame;refine tw 3 (.slice (some ⟨g,0,none⟩) m c) ?_;go_frame;refine tw 4 (.int .i64 (m:Int)) ?_;go_frame;refine tk 5 (.int .i64 (L.length:Int)) rfl (fun w' C=>ka1 _ _ _ rfl rfl rfl ew) ?_;go_frame;refine tk 6 (.pointer (some ⟨g,0+L.length*34,none⟩)) rfl (fun w' C=>zR 28 _ _ rfl (b:=g) (off:=0) (q:=L.length) (n:=m) (c:=c) rfl rfl yv underlying28 qm) ?_;go_frame;refine tw 7 (.pointer (some ⟨g,0+L.length*34+0,none⟩)) ?_;go_frame;refine tl 8 (.agg (idV y.1).toArray) rfl K (fun w' C=>ldD f.out (A8.out w' C).1) ?_;go_frame;refine tl 9 (.agg (idV x.1.2.1).toArray) rfl K (fun w' C=>ldD D.out (F.out w' C).2.1) ?_;go_frame;refine tk 10 (.bool true) rfl (fun w' C=>eqD f.out D.out A9.out) ?_;go_frame;refine tw 11 (.bool true) ?_;go_frame;refine ku yq ?_ _
       go_upto_region 9 with fail
       have Bw:=AF.out;have B7:(kf jR L++(idV y.1++[Value.string y.2.1])).length=0+L.length*34+33:=by simp;omega
       refine rN 11 (fun u=>Below H.heap.size H u) ((qD _ _).trans (qD _ _)) fun K=>?_
       refine tw 0 (.slice (some ⟨g,0,none⟩) m c) ?_;go_frame;refine tw 1 (.int .i64 (m:Int)) ?_;go_frame;refine tk 2 (.int .i64 (L.length:Int)) rfl (fun w' C=>ka1 _ _ _ rfl rfl rfl ew) ?_;go_frame;refine tk 3 (.pointer (some ⟨g,0+L.length*34,none⟩)) rfl (fun w' C=>zR 28 _ _ rfl (b:=g) (off:=0) (q:=L.length) (n:=m) (c:=c) rfl rfl yv underlying28 qm) ?_;go_frame;refine tw 4 (.pointer (some ⟨g,0+L.length*34+33,none⟩)) ?_;go_frame;refine tl 5 (.string ⟨y.2.2.toArray⟩) rfl K (fun w' C=>l1 underlying9 (A8.out w' C).2) ?_;go_frame;refine tw 6 (.pointer (some ⟨Ae,35,none⟩)) ?_;go_frame;refine tl 7 (.string ⟨x.2.2.toArray⟩) rfl K (fun w' C=>l1 underlying9 (F.out w' C).1) ?_;go_frame;refine tk 8 (.string ⟨(y.2.2++x.2.2).toArray⟩) rfl (fun w' C=>(ex_addS 9 _ _ _ rfl rfl rfl (by rw[UT,UT];omega)).trans (by rw[str_app])) ?_;go_frame;refine tk 9 (.pointer (some ⟨g,0+L.length*34,none⟩)) rfl (fun w' C=>zR 28 _ _ rfl (b:=g) (off:=0) (q:=L.length) (n:=m) (c:=c) rfl rfl yv underlying28 qm) ?_;go_frame;refine tw 10 (.pointer (some ⟨g,0+L.length*34+33,none⟩)) ?_;go_frame;refine ta 11 ?_;refine kR _ rfl yq 9 _ _ rfl g (0+L.length*34+33) (kf jR L++(idV y.1++[Value.string y.2.1])) [.string ⟨y.2.2.toArray⟩] tail [.string ⟨(y.2.2++x.2.2).toArray⟩] 43 (.string ⟨(y.2.2++x.2.2).toArray⟩) rfl B7.symm rfl rfl HG.out rfl yq (by intro u hu;rw[xZ.1 hu];rfl) ?_;intro WC B4 B5 Bk;have AJ:=hid B4;have AK:=hid B5
       clear B4 B5 Bk;refine⟨fun h=>absurd h yj,?_⟩;go_frame;refine ku yq ?_ _;go_wp2_with fail
       go_roundw
       case rel=>
         have B6:But (fun k=>k=g) H WC:=(But.refl _ H).drew.drew.trans AJ.out fun k _ e=>e
         have U:(L++[((y.1,y.2.1,y.2.2++x.2.2):zS)]).length=m:=by rw[yV,xQ,B1]
         rw[Q.out] at G M;refine⟨i+1,some ⟨g,0,none⟩,c,by omega,by rw[G.out,U],by go_num,hid (E.trans (B6.below E.size fun k hk e=>by subst e;omega)),hid ?_,hid (B6.own N.out fun k hk e=>?_),hid (by rw[G.out];exact M.out)⟩
         ·rw[G.out,U];refine Qt (tail:=tail) ?_ hB ?_ yv Bh (by rw[AI.out,B1])
          ·rw[K4,yV,Bi];simp [jR,Bj];omega
          ·rw[AK.out,K4];simp [jR]
         ·obtain⟨c1,Av⟩:=kH N.out hk;exact ji Av HG.out yj e
       case measure=>(simp [intOf])<;>omega
      ·have Q:Hid (Zc (je S) out x=out++[(x.1.2.1,je S x.1.2.1,x.2.2)]):=hid (by
         unfold Zc;rw[V,List.getLast?_concat];exact if_neg hyx)
       have A9:Hid (decide (y.1=x.1.2.1)=false):=hid (decide_eq_false hyx);clear hyx V;refine rN 12 (fun u=>Below H.heap.size H u) (qD _ _) fun K=>?_
       refine tw 0 (.int .i64 (m:Int)) ?_;go_frame;refine tk 1 (.bool true) rfl (fun w' C=>UY _ _ _ rfl rfl rfl B3) ?_;go_frame;refine tw 2 (.bool true) ?_;go_frame;refine tw 3 (.slice (some ⟨g,0,none⟩) m c) ?_;go_frame;refine tw 4 (.int .i64 (m:Int)) ?_;go_frame;refine tk 5 (.int .i64 (L.length:Int)) rfl (fun w' C=>ka1 _ _ _ rfl rfl rfl ew) ?_;go_frame;refine tk 6 (.pointer (some ⟨g,0+L.length*34,none⟩)) rfl (fun w' C=>zR 28 _ _ rfl (b:=g) (off:=0) (q:=L.length) (n:=m) (c:=c) rfl rfl yv underlying28 qm) ?_;go_frame;refine tw 7 (.pointer (some ⟨g,0+L.length*34+0,none⟩)) ?_;go_frame;refine tl 8 (.agg (idV y.1).toArray) rfl K (fun w' C=>ldD f.out (A8.out w' C).1) ?_;go_frame;refine tl 9 (.agg (idV x.1.2.1).toArray) rfl K (fun w' C=>ldD D.out (F.out w' C).2.1) ?_;go_frame;refine tk 10 (.bool false) rfl (fun w' C=>eqD f.out D.out A9.out) ?_;go_frame;refine tw 11 (.bool false) ?_;go_frame;refine ku yq ?_ _;obtain⟨A,hA⟩:∃z,some (⟨g,0,none⟩:Addr)=z:=⟨_,rfl⟩;rw[hA] at I ⊢;clear hA
       go_upto_region 10 with fail
       have A6:=hid (fun (u:World) (hu:Below H.heap.size H u)=>(But.of_below (X:=NoB) hu).own I.out fun _ _ q=>q);have Aa:=JQ (x:=(x.1.2.1,je S x.1.2.1,x.2.2)) D.out;have R:=hid Aa;clear Aa;refine rN 13 (fun u=>Below H.heap.size H u) ((qD _ _).trans (qD _ _)) fun K=>?_
       refine tw 0 (.slice A m c) ?_;go_frame;refine tl 1 (.agg (idV x.1.2.1).toArray) rfl K (fun w' C=>ldD D.out (F.out w' C).2.1) ?_;go_frame;refine tw 2 (.pointer (some ⟨s,0,none⟩)) ?_;go_frame;refine tw 3 (.pointer (some ⟨s,0,none⟩)) ?_;go_frame;refine tw 4 (.pointer (some ⟨s,2,none⟩)) ?_;go_frame;refine tl 5 (.map (some q.bc)) rfl K (fun w' C=>l1 underlying85 ((k6 (F.out w' C).2.2.box 2))) ?_;go_frame;refine tl 6 (.agg (idV x.1.2.1).toArray) rfl K (fun w' C=>ldD D.out (F.out w' C).2.1) ?_;go_frame;refine tl 7 (.agg [g0,g1,.string (je S x.1.2.1),g3,g4].toArray) rfl K (fun w' C=>Kd Qx underlying85 (KH _) (F.out w' C).2.2.mapC D.out ((Z7 S q x.1.2.1).trans (by rw[At.out]))) ?_;go_frame;refine tw 8 (.agg [g0,g1,.string (je S x.1.2.1),g3].toArray) ?_;go_frame;refine tw 9 (.string (je S x.1.2.1)) ?_;go_frame;refine tw 10 (.pointer (some ⟨Ae,35,none⟩)) ?_;go_frame;refine tl 11 (.string ⟨x.2.2.toArray⟩) rfl K (fun w' C=>l1 underlying9 (F.out w' C).1) ?_;go_frame;refine tk 12 (.agg (jR (x.1.2.1,je S x.1.2.1,x.2.2)).toArray) rfl (fun w' C=>kp 43 _ rfl (by simp only[xV,xX,Yy];exact blame_built (x.1.2.1,je S x.1.2.1,x.2.2) D.out _)) ?_;go_frame;refine ta 13 ?_;refine zP _ rfl yq (Zq 28 _ rfl 43 underlying28 (.agg blameZ.toArray) 34 64 ql rfl yj yj (jR (x.1.2.1,je S x.1.2.1,x.2.2)) R.out rfl) ?_;refine⟨fun h=>absurd h yj,?_⟩;go_frame;obtain⟨WD,Ab⟩:=Xy H.drew.drew;have T:Hid (Below H.heap.size H WD):=hid (by rw[←Ab];exact(qD _ _).trans (qD _ _));rw[Ab];clear Ab K;have J:Hid (Below H.heap.size H (WD.alloc (.cells (jR (x.1.2.1,je S x.1.2.1,x.2.2)).toArray 43))):=hid (T.alloc T.size _);refine ta 14 ?_;refine Jy _ rfl yq (Jz _ _ 28 rfl w.heap.size 43 AX (.agg blameZ.toArray) 34 64 underlying28 Au AY AZ B0 rfl yj (.slice A m c) m (kf jR out) rfl (A6.out _ J.out) (some ⟨WD.heap.size,0,none⟩) 1 1 (WD.heap.size+1) (jR (x.1.2.1,je S x.1.2.1,x.2.2)) rfl ⟨by rw[R.out],fun _=>⟨WD.heap.size,0,rfl,by omega,fun j u l=>by rw[Nat.zero_add];exact(k6 (heap_alloc_new _ _) j).trans l⟩⟩ (blameV_one _) (by have:=P.out;unfold maxLen;omega) (by have:=P.out;omega) (Nat.le_trans E.size J.size) ?_);intro v1 w1 Ac Ad;have A7:=hid Ac;have O:Hid (Below w.heap.size w w1):=hid (E.trans ((J.mono E.size).grown Ad (Nat.le_trans E.size J.size) fun k e=>(I.lt k e).1));have Z:Hid (w1.ownsRow w.heap.size 102 36 (.slice (some ⟨gp,0,none⟩) ps.length cp) ps.length (kf ju ps)):=hid (by
         refine((But.of_below (X:=NoB) J.out).own N.out fun _ _ q=>q).kept Ad (.inr fun e=>?_);obtain⟨c1,Av⟩:=kH N.out (rfl:_=some gp);obtain⟨c2,AP⟩:=kH I.out e.symm;exact ji Av AP yj rfl)
       obtain⟨A1,Aw,rfl⟩:=kX Ac;clear Ac Ad;refine⟨fun h=>absurd h yj,?_⟩;go_frame;refine tw 15 (.slice A1 (m+1) Aw) ?_;go_frame;refine ku yq ?_ _;go_wp2_with fail
       go_roundw
       case rel=>
         rw[Q.out] at G M;have U:(out++[((x.1.2.1,je S x.1.2.1,x.2.2):zS)]).length=m+1:=by rw[yV,xQ,hm]
         refine⟨i+1,A1,Aw,by omega,by rw[G.out,U],by go_num,O,hid ?_,Z,hid (by rw[G.out];exact M.out)⟩;rw[G.out,U,K4];exact A7.out
       case measure=>(simp [intOf])<;>omega
    ·have e:Qd S ps i=UF (je S) ps:=by unfold Qd UF;rw[Yq yv]
     rw[e] at a ⊢;have Bx:i=ps.length:=yv;clear e;go_wp2_with fail;go_ret2;exact⟨Ai.out,_,rfl,a.out⟩
end
section
open Go.RowKit Go.Maps
theorem textR_len{d:List kQ}(h:∀r∈d,r.2.1.length≤65536):(Zw d).length≤d.length*262144:=by
  unfold Zw
  induction d with
  |nil=>simp
  |cons r d ih=>
   have B:=h r yZ;have C:=JZ r.2.1;have D:=ih fun x A=>h x (List.mem_cons_of_mem _ A)
   have E:(if r.2.2 then [] else jt r.2.1).length≤262144:=by
      split
      ·simp
      ·omega
   rw[List.flatMap_cons,yV,Yx,Nat.succ_mul];omega
def JC(S:kj)(p:ByteArray):List zS:=match zO S.2.1 (L p) with
  |none=>[]
  |some k=>UF (je S) (zI ((jv S k).getD []))
theorem pieces_len(d:List kQ):(zI d).length≤d.length:=by
  unfold zI;have:∀(l:List kQ) (A:List jC×Bool),(l.foldl KA A).1.length≤A.1.length+l.length:=by
    intro l
    induction l with
    |nil=>intro A;simp
    |cons r l ih=>
     intro A;rw[List.foldl_cons,Yx];refine Nat.le_trans (ih _) ?_;have:(KA A r).1.length≤A.1.length+1:=by
        unfold KA
        split
        ·simp
        ·split
         ·unfold qF;cases hl:A.1.getLast? with
          |none=>simp
          |some p=>
           have B:=congrArg List.length (Jq hl);rw[yV,xQ] at B;simp only[yV,xQ];omega
         ·simp
     omega
  have:=this d ([],true)
  simpa using this
theorem DocAt.pieces{w:World}{B p:Nat}{v:Value}{d:List kQ}(h:DocAt w B p v d)(hd:uk d)(hix:RunIx d):
    Calls prog 41 #[.pointer (some ⟨p,0,none⟩)] w fun e w'=>∃v',e=.returned v'∧w'.ownsRow w.heap.size 102 36 v' (zI d).length (kf ju (zI d))∧(∀x∈zI d,Jm x)∧Below w.heap.size w w':=by
  obtain⟨D,C,F,G⟩:=h.rows;have E:∀r∈D,r.2.2.1.length≤65536∧∀u∈r.2.2.1,EncIs u:=fun r A=>hd.2 (kA r) (by rw[←C];exact List.mem_map_of_mem A)
  have:=pieces_run D B p v w ⟨h.box,h.low,F,G⟩ (by rw[C];exact hix) (fun r A=>(E r A).2) (by have:=hd.1;rw[←C,Yv] at this;exact this) (fun r A=>(E r A).1);rw[C] at this;exact this
theorem sblame_anyN(N:Nat)(hN:N≤900)(B s:Nat)(S:kj)(q:kV)(p:ByteArray)(w:World)(h:StateAt w B s S q)(hl:S.2.1.length≤N)(hsm:∀x∈S.2.1,x.2.2.2.size≤1073741824)(hg:Glob w)(hit:ItoaB (N+2) w)(hk:kJ ((zO S.2.1 (L p)).getD zM))
    (hd:∀k d,zO S.2.1 (L p)=some k→jv S k=some d→uk d∧RunIx d∧RunsOf (fun k=>(kC S k.2.1).isSome=true) d∧∀x∈zI d,Jm x):
    Calls prog 12 #[.pointer (some ⟨s,0,none⟩),.string p] w fun e w'=>Below w.heap.size w w'∧∃v,e=.returned (.tuple #[v,.int .i64 (qG S p)])∧w'.ownsRow w.heap.size 43 34 v (JC S p).length (kf jR (JC S p)):=by
  have C:=sfind_anyN N hN B s S q p w h hl hsm hg hit hk;unfold QY at C;unfold JC qG;obtain⟨o,M⟩:=Xy (zO S.2.1 (L p));rw[M] at hk C ⊢;have E:∀u:World,Calls prog 41 #[.pointer none] u fun e w'=>∃F,e=.returned F∧w'.ownsRow u.heap.size 102 36 F ([]:List jC).length (kf ju [])∧Below u.heap.size u w':=fun u=>(pieces_nil u).mono fun e w' ⟨G,H⟩=>⟨_,H,by rw[G];exact World.ownsRow_nil _ _ _ _,by rw[G];exact Below.refl _ _⟩
  cases o with
  |none=>exact UG B s S q p (0,k9,0) rfl none 4 [] w h C (fun u I=>E u) (fun x A=>by cases A) yj yj (fun x A=>by cases A)
  |some k=>
   obtain⟨J,D⟩:=Xy (jv S k);have P:Ua S q k=.pointer (J.map fun _=>⟨q.ptr k,0,none⟩):=by unfold Ua;rw[D];cases J<;>rfl
   dsimp only at C;rw[P] at C;dsimp only;rw[D];cases J with
   |none=>exact UG B s S q p k (ke hk) none 0 [] w h C (fun u I=>E u) (fun x A=>by cases A) yj yj (fun x A=>by cases A)
   |some d=>
    obtain⟨K,Q,R,T⟩:=hd k d M D;have W:=pieces_len d;have X:=textR_len fun r U=>(K.2 r U).1
    have O:UE (fun i=>(kC S i).isSome=true) (zI d):=pieces_of d ([],true) R fun x A=>by cases A
    have:=K.1;exact UG B s S q p k (ke hk) _ 0 (zI d) w h C (fun u I=>(((h.docs k d D).2.keep I).pieces K Q).mono fun e w' ⟨F,G,H,Y,V⟩=>⟨F,G,H,V⟩) T yv (by rw[ka0];omega) (fun x A=>(O x A).1)
theorem sblame_any(B s:Nat)(S:kj)(q:kV)(p:ByteArray)(w:World)(h:StateAt w B s S q)(hl:S.2.1.length≤90)(hsm:∀x∈S.2.1,x.2.2.2.size≤1073741824)(hg:Glob w)(hk:kJ ((zO S.2.1 (L p)).getD zM))
    (hd:∀k d,zO S.2.1 (L p)=some k→jv S k=some d→uk d∧RunIx d∧RunsOf (fun k=>(kC S k.2.1).isSome=true) d∧∀x∈zI d,Jm x):
    Calls prog 12 #[.pointer (some ⟨s,0,none⟩),.string p] w fun e w'=>Below w.heap.size w w'∧∃v,e=.returned (.tuple #[v,.int .i64 (qG S p)])∧w'.ownsRow w.heap.size 43 34 v (JC S p).length (kf jR (JC S p)):=
  sblame_anyN 90 yj B s S q p w h hl hsm hg ((itoaB_small w).less yj) hk hd
theorem add_any(B s:Nat)(S:kj)(q:kV)(i:List UInt8)(c:ks)(Ad:Option Addr)(cd:Nat)(Ao:Option Addr)(co:Nat)(w:World)(h:StateAt w B s S q)(hi:jr i)(h1:Sl w w.heap.size Ad c.2.1.length 32 (zB c.2.1))(h2:Sl w w.heap.size Ao c.2.2.2.length 70 (kf opV c.2.2.2))(hf:QT S q c)(hg:Glob w)(hsg:ShaG w):
    Calls prog 17 #[.pointer (some ⟨s,0,none⟩),.agg (idV i).toArray,.agg (chC c.1 Ad c.2.1.length cd c.2.2.1 Ao c.2.2.2.length co).toArray] w fun e w'=>(qt c≠0∧AddGives w B s S S q (qt c) c.2.2.2.length e w')∨(qt c=0∧AddGives w B s S (zX S (idC c) i c).2 q (zX S (idC c) i c).1 c.2.2.2.length e w'):=add_all B s S q i c Ad cd Ao co w h hi h1 h2 hf hg hsg
end
section
open Go.RowKit
theorem Qe:jr i15:=rfl
theorem j15_ok:jr j15:=rfl
def o15d:OpD:=(1,(i15,0),(i15,2),bangS,0,noneS)
theorem ka2:KR o15d:=⟨⟨⟨rfl,by decide⟩,⟨rfl,by decide⟩,by decide⟩,by decide,by decide⟩
theorem d15_ops:∀x∈d15.2.2.2,KR x:=fun x A=>by
  rw[xZ.1 A];exact ka2
theorem d15_ok:Zj d15:=⟨by decide,(fun x A=>by rw[xZ.1 A];exact Qe),fun x A=>(d15_ops x A).1⟩
theorem fine15a:Ux KO o15a:=⟨U7,⟨U7.1.1,by decide,by decide⟩,⟨U7.1.2.1,by decide,by decide⟩,by decide,by decide,by decide,by decide⟩
theorem fine15b:Ux KO o15b:=⟨U8,⟨U8.1.1,by decide,by decide⟩,⟨U8.1.2.1,by decide,by decide⟩,by decide,by decide,by decide,by decide⟩
theorem fine15d:Ux s15 o15d:=⟨ka2,⟨ka2.1.1,by decide,by decide⟩,⟨ka2.1.2.1,by decide,by decide⟩,by decide,by decide,by decide,by decide⟩
theorem addFine15(q:kV)(h:q.nd=0):QT KO q c15:=
  ⟨c15_ok,c15_ops,by decide,by decide,by decide,(fun _ x A=>by
    rcases xK.1 A with rfl|A
    ·exact fine15a
    ·rw[xZ.1 A];exact fine15b),by decide,(by rw[h];decide),by decide,(fun x A=>by cases A),⟨0,0,⟨by decide,fun x A=>by cases A⟩,by decide,by decide⟩⟩
theorem docsIx15:DocsIx s15:=fun x A=>by
  rw[xZ.1 A];intro r B;rw[xZ.1 B];exact⟨by decide,by decide⟩
theorem addFine15d(q:kV)(h:q.nd≤2):QT s15 q d15:=
  ⟨d15_ok,d15_ops,by decide,by decide,by decide,(fun _ x A=>by
    rw[xZ.1 A];exact fine15d),by decide,(by show q.nd+1≤_;omega),by decide,docsIx15,⟨1,2,⟨by decide,fun x A=>by rw[xZ.1 A];decide⟩,by decide,by decide⟩⟩
theorem encC15:qt c15=0:=enc15
theorem encC15d:qt d15=0:=enc15d
theorem idC15d:idC d15=j15:=id15d
theorem find15:zO t15.2.1 (L aS)=some (1,i15,0):=yq
def doc15:List kQ:=[((1,i15,1),[104,105],false),((2,j15,0),[33],false)]
theorem doc15_at:jv t15 (1,i15,0)=some doc15:=yq
theorem small15:uk doc15:=by
  refine⟨by decide,fun r B=>?_⟩;rcases xK.1 B with rfl|B
  ·refine⟨by decide,fun u A=>?_⟩;rcases xK.1 A with rfl|A
   ·exact fun w=>vr 104 yj w
   ·rw[xZ.1 A];exact fun w=>vr 105 yj w
  ·rw[xZ.1 B];refine⟨by decide,fun u A=>?_⟩;rw[xZ.1 A];exact fun w=>vr 33 yj w
theorem ix15:RunIx doc15:=fun r A=>by
  rcases xK.1 A with rfl|A
  ·exact⟨by decide,by decide⟩
  ·rw[xZ.1 A];exact⟨by decide,by decide⟩
theorem runs15:RunsOf (fun k=>(kC t15 k.2.1).isSome=true) doc15:=fun r A=>by
  rcases xK.1 A with rfl|A
  ·exact⟨by decide+kernel,by decide⟩
  ·rw[xZ.1 A];exact⟨by decide+kernel,by decide⟩
theorem pieces15:zI doc15=[((1,i15,1),2,[104,105]),((2,j15,0),1,[33])]:=by decide+kernel
theorem pieceOk15:∀x∈zI doc15,Jm x:=fun x A=>by
  rw[pieces15] at A;rcases xK.1 A with rfl|A
  ·exact⟨⟨by decide,Qe,by decide⟩,by decide,by decide⟩
  ·rw[xZ.1 A];exact⟨⟨by decide,j15_ok,by decide⟩,by decide,by decide⟩
theorem key15:kJ ((zO t15.2.1 (L aS)).getD zM):=by
  rw[find15];exact⟨by decide,Qe,by decide⟩
theorem text15:textAt t15 aS=[104,105,33]:=by
  unfold textAt;rw[find15];dsimp only;rw[doc15_at];decide+kernel
theorem blame15:JC t15 aS=[(i15,vS,[104,105]),(j15,bobS,[33])]:=by
  unfold JC;rw[find15];dsimp only;rw[doc15_at,Option.getD_some,pieces15];decide+kernel
theorem err15:qG t15 aS=0:=by
  unfold qG;rw[find15]
theorem claims15:t15.2.1.length≤90:=by decide
theorem csize15:∀x∈t15.2.1,x.2.2.2.size≤1073741824:=fun x A=>by
  rw[xZ.1 A];decide
theorem docs15:∀k d,zO t15.2.1 (L aS)=some k→jv t15 k=some d→uk d∧RunIx d∧RunsOf (fun k=>(kC t15 k.2.1).isSome=true) d∧∀x∈zI d,Jm x:=fun k d A B=>by
  rw[find15] at A;cases A
  rw[doc15_at] at B;cases B
  exact⟨small15,ix15,runs15,pieceOk15⟩
end
section
open Go.RowKit Go.Maps
open Lib (hid)
theorem add15_first(B s:Nat)(q:kV)(A:Option Addr)(w:World)(h:StateAt w B s KO q)(hnd:q.nd=0)(h2:Sl w w.heap.size A 2 70 (kf opV c15.2.2.2))(hg:Glob w)(hsg:ShaG w):
    Calls prog 17 #[.pointer (some ⟨s,0,none⟩),.agg (idV i15).toArray,.agg (chC 1 none 0 0 vS A 2 2).toArray] w fun e w'=>e=.returned (.int .i64 0)∧∃C,StateAt w' B s s15 C∧But (StX s KO q) w w'∧C.nd≤2:=by
  refine(add_any B s KO q i15 c15 none 0 A 2 w h Qe Sl.nil h2 (addFine15 q hnd) hg hsg).mono fun e w' F=>?_
  rcases F with⟨D,_⟩|⟨_,D⟩
  ·exact absurd encC15 D
  ·rw[idC15,add15] at D;obtain⟨G,C,H,I,_,E⟩:=D;refine⟨G,C,H,I,?_⟩;rw[hnd] at E;exact E
theorem add15_second(B s:Nat)(q:kV)(Ad Ao:Option Addr)(w:World)(h:StateAt w B s s15 q)(hnd:q.nd≤2)(h1:Sl w w.heap.size Ad 1 32 (zB [i15]))(h2:Sl w w.heap.size Ao 1 70 (kf opV d15.2.2.2))(hg:Glob w)(hsg:ShaG w):
    Calls prog 17 #[.pointer (some ⟨s,0,none⟩),.agg (idV j15).toArray,.agg (chC 2 Ad 1 1 bobS Ao 1 1).toArray] w fun e w'=>e=.returned (.int .i64 0)∧∃A,StateAt w' B s t15 A∧But (StX s s15 q) w w':=by
  refine(add_any B s s15 q j15 d15 Ad 1 Ao 1 w h j15_ok h1 h2 (addFine15d q hnd) hg hsg).mono fun e w' C=>?_
  rcases C with⟨h1,_⟩|⟨_,h1⟩
  ·exact absurd encC15d h1
  ·rw[idC15d,add15d] at h1;obtain⟨D,A,E,F,_,G⟩:=h1;exact⟨D,A,E,F⟩
theorem ref15a_built(w:World):(Instr.build 110 #[(0,.agg (idV i15).toArray)]).run prog w=.ok (.agg (kw (i15,0)).toArray) w:=yq
theorem ref15b_built(w:World):(Instr.build 110 #[(0,.agg (idV i15).toArray),(1,.int .i64 2)]).run prog w=.ok (.agg (kw (i15,2)).toArray) w:=yq
theorem o15d_built(w:World):(Instr.build 112 #[(0,.int .u8 1),(1,.agg (kw (i15,0)).toArray),(2,.agg (kw (i15,2)).toArray),(3,.string ⟨#[33]⟩)]).run prog w=.ok (.agg (opV o15d).toArray) w:=yq
theorem d15_built(a b:Addr)(w:World):(Instr.build 37 #[(0,.int .i64 2),(1,.slice (some a) 1 1),(2,.string ⟨#[66,111,98]⟩),(3,.slice (some b) 1 1)]).run prog w=.ok (.agg (chC 2 (some a) 1 1 bobS (some b) 1 1).toArray) w:=yq
theorem rows15d:kf opV d15.2.2.2=opV o15d:=by
  show kf opV [o15d]=_;simp [kf]
theorem ids15d:zB [i15]=idV i15:=by simp [zB]
theorem blame15_at{w:World}{B:Nat}{v:Value}(h:w.ownsRow B 43 34 v [(i15,vS,([104,105]:List UInt8)),(j15,bobS,[33])].length (kf jR [(i15,vS,[104,105]),(j15,bobS,[33])])):
    ∃g c,v=.slice (some ⟨g,0,none⟩) 2 c∧B≤g∧g<w.heap.size∧w.cell? ⟨g,66,none⟩=some (.string ⟨#[66,111,98]⟩)∧w.cell? ⟨g,33,none⟩=some (.string ⟨#[104,105]⟩):=by
  obtain⟨g,c,D,E,F,A,_⟩:=blame_last (l:=[(i15,vS,[104,105])]) (q:=(j15,bobS,[33])) h fun x C=>by
    rcases xK.1 C with rfl|C
    ·exact Qe
    ·rw[xZ.1 C];exact j15_ok
  exact⟨g,c,E,F,qX A,(k6 A 66).trans rfl,(k6 A 33).trans rfl⟩
theorem awake15_any(w:World)(hg:Glob w)(hsg:ShaG w):Calls prog 15 #[] w fun e w'=>e=.returned (.bool true)∧Below w.heap.size w w':=by
  have HG:=hid hg;have X:=hid hsg;have Aw:=HG
  clear hg hsg;have B8:(idV i15).length=32:=rfl;have D:=hid B8;have B9:(idV j15).length=32:=rfl;have U:=hid B9;clear B8 B9;go_enter func15,ntmps15
  go_upto_region 3 with (first
    |(go_at_call 27;refine(QJ w.heap.size w (qR _)).mono ?_;rintro e W1 ⟨Bg,s,q,rfl,t,AN⟩;have Q:=hid Bg;have A0:=hid t;have Ax:=hid AN
      clear Bg t AN)
    |(go_at_call 45;refine(hello15_any W1 (HG.next Q) (X.next Q)).mono ?_;rintro e W2 ⟨AO,A,rfl,Bh⟩;have Y:=hid AO;have Ay:=hid Bh
      clear AO Bh)
    |(with_reducible refine kF ?_
      first
      |(refine kv yk 41 rfl (idV k9) yq ?_;intro W3 Az A1 G)
      |(refine kv yk 37 rfl (chC 0 none 0 0 noneS none 0 0) (qe _) ?_;intro W4 A2 A3 AA;have A4:=hid ((A2.block W2.heap.size (qX A1)).trans A1)))
    |(with_reducible refine kD ?_
      first
      |(refine kr yk 41 _ _ rfl W2.heap.size 0 [] (idV k9) [] (idV i15) 41 (.agg (idV i15).toArray) rfl rfl rfl rfl (by simpa using A4.out) (by rw[D.out];rfl) (by rw[D.out];kernel_rfl) (kW _) ?_;intro W5 A5 Bt By;have A6:Hid (W5.heap[W2.heap.size]?=some (.cells (idV i15).toArray 41 (0,0))):=hid (by simpa using Bt.out);have V:=hid ((A5.block W3.heap.size (qX A3) (by have:=G.out;omega)).trans A3.out))
      |(refine kr yk 37 _ _ rfl W3.heap.size 0 [] (chC 0 none 0 0 noneS none 0 0) [] (chC 1 none 0 0 vS A 2 2) 37 (.agg (chC 1 none 0 0 vS A 2 2).toArray) rfl rfl rfl rfl (by simpa using V.out) rfl yq (U5 _ _ _ _ _ _ _ _) ?_;intro W6 A7 Bu Bz;have A8:Hid (W6.heap[W3.heap.size]?=some (.cells (chC 1 none 0 0 vS A 2 2).toArray 37 (0,0))):=hid (by simpa using Bu.out);have H:=hid ((A7.block W2.heap.size (qX A6) (by have:=G.out;omega)).trans A6.out))))
  obtain⟨b2,AO⟩:=Xy W2.heap.size;obtain⟨b3,Bi⟩:=Xy W3.heap.size;have AP:Below W2.heap.size W2 W6:=(Xx Az.out A2.out).trans (((A5.below (B:=W2.heap.size) (by have:=G.out;have:=AA.out;omega) fun k hk e=>by have e2:k=W2.heap.size:=e;omega)).trans (A7.below (B:=W2.heap.size) (by have:=qX V.out;have:=G.out;omega) fun k hk e=>by have e2:k=W3.heap.size:=e;have:=G.out;omega));have E:Hid (Below w.heap.size w W6):=hid ((Xx Q.out Y.out).trans (AP.mono (Xx Q.out Y.out).size));have I:=hid ((A0.keep Y).keep AP);have A9:=hid ((Ay.keep AP).more AP.size);rw[AO] at H ⊢;rw[Bi] at A8 ⊢;clear AP AO Bi A6 V A1 A4 A3 Az A2 A5 A7 G AA A0 Ay Q Y;have AB:=hid (add15_first w.heap.size s q A W6 I Ax A9 (HG.next E) (X.next E));have AC:=hid (show W6.rangeAt b2 0 (idV i15) from fun j u S=>by rw[qZ];exact(k6 H j).trans S);have AD:=hid (show W6.rangeAt b3 0 (chC 1 none 0 0 vS A 2 2) from fun j u S=>by rw[qZ];exact(k6 A8 j).trans S)
  go_upto_region 5 with (first
    |(with_reducible refine k8 ?_
      first
      |refine k7 yk (ldD Qe AC) ?_
      |refine k7 yk (kg 37 _ rfl (p:=⟨b3,0,none⟩) rfl (qV _ b3 0 _ _ _ AD underlying37 rfl yq)) ?_)
    |(go_at_call 17;refine AB.mono ?_;rintro e n ⟨rfl,q1,t,Ar,AN⟩;have Aa:=hid t;have AR:=hid AN
      have J:Hid (Below w.heap.size w n):=hid (E.trans (Ar.below E.size fun k hk hx=>by have:=(I.lowX hx).1;omega));have R:Hid (n.heap[b2]?=some (.cells (idV i15).toArray 41 (0,0))):=hid (I.keepCells Ar H yj);clear t Ar AN))
  have AE:=hid (HG.next J);have Ab:=hid (X.next J)
  have Ac:=hid (show n.rangeAt b2 0 (idV i15) from fun j u S=>by rw[qZ];exact(k6 R j).trans S);clear AB AC AD H A8 I A9 E HG X Ax;obtain⟨x,hx⟩:=Xy i15;obtain⟨y,hy⟩:=Xy j15;have HX:=hid hx;have HY:=hid hy
  have AF:Hid (jr x):=hid (by rw[←hx];exact Qe);have B0:Hid (jr y):=hid (by rw[←hy];exact j15_ok);rw[hx] at Ac R D;rw[hy] at U
  try rw[hx]
  clear hx hy;have B1:=hid (fun u:World=>show (Instr.build 110 #[(0,.agg (idV x).toArray)]).run prog u=.ok (.agg (kw (x,0)).toArray) u from by rw[←HX.out];exact ref15a_built u);have B2:=hid (fun u:World=>show (Instr.build 110 #[(0,.agg (idV x).toArray),(1,.int .i64 2)]).run prog u=.ok (.agg (kw (x,2)).toArray) u from by rw[←HX.out];exact ref15b_built u);obtain⟨oV,Ba⟩:=Xy (opV o15d);have AG:=hid Ba;have B3:=hid (fun u:World=>show (Instr.build 112 #[(0,.int .u8 1),(1,.agg (kw (x,0)).toArray),(2,.agg (kw (x,2)).toArray),(3,.string ⟨#[33]⟩)]).run prog u=.ok (.agg oV.toArray) u from by rw[←HX.out,←AG.out];exact o15d_built u);have AH:Hid (oV.length=70):=hid (by rw[←Ba];exact kI ka2);clear Ba
  go_upto_region 6 with (first
    |(with_reducible refine k8 ?_
      first
      |(refine k7 yk (ldD AF AI) ?_;go_frame)
      |(refine k7 yk (ldD AF Ac) ?_;go_frame))
    |(with_reducible refine kL ?_
      first
      |(refine k7 (o:=⟨some 28,_,_,_,_,_⟩) yk (kp 112 _ rfl (by simp only[xV,xX,Yy];exact B3.out _)) ?_;go_frame)
      |(refine k7 (o:=⟨some 30,_,_,_,_,_⟩) yk (kp 37 _ rfl (by simp only[xV,xX,Yy];exact d15_built _ _ _)) ?_;go_frame)
      |(refine k7 (o:=⟨some 25,_,_,_,_,_⟩) yk (kp 110 _ rfl (by simp only[xV,xX,Yy];exact B1.out _)) ?_;go_frame)
      |(refine k7 (o:=⟨some 27,_,_,_,_,_⟩) yk (kp 110 _ rfl (by simp only[xV,xX,Yy];exact B2.out _)) ?_;go_frame))
    |(with_reducible refine kF ?_
      refine kv yk 37 rfl (chC 0 none 0 0 noneS none 0 0) (qe _) ?_;intro BA Ad Ae Af)
    |(with_reducible refine kD ?_
      refine kr yk 37 _ _ rfl W9.heap.size 0 [] (chC 0 none 0 0 noneS none 0 0) [] (chC 2 (some ⟨n.heap.size,0,none⟩) 1 1 bobS (some ⟨r.heap.size,0,none⟩) 1 1) 37 (.agg (chC 2 (some ⟨n.heap.size,0,none⟩) 1 1 bobS (some ⟨r.heap.size,0,none⟩) 1 1).toArray) rfl rfl rfl rfl (by simpa using Ae.out) rfl yq (U5 _ _ _ _ _ _ _ _) ?_;intro F Ag Bq Bw;have C:Hid (F.heap[W9.heap.size]?=some (.cells (chC 2 (some ⟨n.heap.size,0,none⟩) 1 1 bobS (some ⟨r.heap.size,0,none⟩) 1 1).toArray 37 (0,0))):=hid (by simpa using Bq.out))
    |(refine zE yk 34 _ rfl 41 underlying34 (.agg (idV k9).toArray) 32 32 infoId rfl yj yj (idV x) D.out rfl ?_;obtain⟨r,AY⟩:=Xy (n.alloc (.cells (idV x).toArray 41));rw[AY];have Z:Hid (Below n.heap.size n r):=hid (by rw[←AY];exact(qB _ _).alloc (qR _) _);have a:Hid (r.heap[n.heap.size]?=some (.cells (idV x).toArray 41 (0,0))):=hid (by rw[←AY];exact heap_alloc_new _ _);have AI:Hid (r.rangeAt b2 0 (idV x)):=hid fun j u S=>by rw[qZ];exact(k6 ((Z.block b2 (qX R)).trans R) j).trans S
      clear AY;go_frame)
    |(refine zE yk 35 _ rfl 112 underlying35 (.agg (opV (0,ko,ko,noneS,0,noneS)).toArray) 70 128 infoOp15 rfl yj yj oV AH.out rfl ?_;obtain⟨W9,AZ⟩:=Xy (r.alloc (.cells oV.toArray 112));rw[AZ];have Ah:Hid (Below r.heap.size r W9):=hid (by rw[←AZ];exact(qB _ _).alloc (qR _) _);have b:Hid (W9.heap[r.heap.size]?=some (.cells oV.toArray 112 (0,0))):=hid (by rw[←AZ];exact heap_alloc_new _ _);clear AZ;go_frame))
  have AW:Below W9.heap.size W9 F:=Ad.trans (Ag.below (by have:=Af.out;omega) fun k hk e=>by have e2:k=W9.heap.size:=e;omega);have AX:Below r.heap.size r F:=Ah.trans (AW.mono Ah.size);have Aq:Below n.heap.size n F:=Z.trans (AX.mono Z.size);have As:Hid (Below w.heap.size w F):=hid (Xx J.out Aq);have f:=hid (Aa.keep Aq);have K:=hid ((AX.block n.heap.size (qX a)).trans a);have L:=hid ((AW.block r.heap.size (qX b)).trans b);have M:=hid (AE.next (Aq.mono (qR _)));have N:=hid (Ab.next (Aq.mono (qR _)))
  obtain⟨gd,Bj⟩:=Xy n.heap.size;obtain⟨go,Bk⟩:=Xy r.heap.size;obtain⟨b4,Bl⟩:=Xy W9.heap.size;have Bp:=hid (show gd<go∧go<b4∧b4<F.heap.size from by have:=qX a.out;have:=qX b.out;have:=qX C.out;omega);rw[Bj] at K C ⊢;rw[Bk] at L C ⊢;rw[Bl] at C ⊢;clear AW AX Aq Bj Bk Bl Z Ah Ad Ag a b Ac AI Ae Af R Aa J AE Ab;have B4:Hid (zB d15.2.1=idV x):=hid (by rw[←HX.out];exact ids15d);have B5:Hid (kf opV d15.2.2.2=oV):=hid (by rw[←AG.out];exact rows15d);have Ai:Hid (Sl F F.heap.size (some ⟨gd,0,none⟩) d15.2.1.length 32 (zB d15.2.1)):=hid (by
    rw[B4.out];exact⟨D,fun _=>⟨gd,0,rfl,qX K,fun j u S=>by rw[qZ];exact(k6 K j).trans S⟩⟩)
  have Aj:Hid (Sl F F.heap.size (some ⟨go,0,none⟩) d15.2.2.2.length 70 (kf opV d15.2.2.2)):=hid (by
    rw[B5.out];exact⟨AH,fun _=>⟨go,0,rfl,qX L,fun j u S=>by rw[qZ];exact(k6 L j).trans S⟩⟩)
  have AJ:=hid (objId_any (1,d15,kS) _ F (U6 (cd:=1) (co:=1) d15_ok d15_ops yj Ai.out Aj.out) yj yj yj yj M.out N.out (hid rfl));have h:=hid (show F.rangeAt b4 0 (chC 2 (some ⟨gd,0,none⟩) 1 1 bobS (some ⟨go,0,none⟩) 1 1) from fun j u S=>by rw[qZ];exact(k6 C j).trans S)
  go_upto_region 7 with (first
    |(with_reducible refine k8 ?_
      refine k7 yk (kg 37 _ rfl (p:=⟨b4,0,none⟩) rfl (qV _ b4 0 _ _ _ h underlying37 rfl yq)) ?_)
    |(with_reducible refine kL ?_
      refine k7 yk (kp 70 _ rfl (by simp only[xV,xX,Yy];exact ub _ _ _ _ _ _ _ _ _)) ?_)
    |(go_at_call 46;refine AJ.mono ?_;rintro e AQ ⟨rfl,Bb⟩;rw[id15d,HY.out,enc15d];have W:=hid Bb;clear Bb)
    |(with_reducible refine kF ?_
      refine kv yk 41 rfl (idV k9) yq ?_;intro BB Ak Al Am)
    |(with_reducible refine kD ?_
      refine kr yk 41 _ _ rfl AQ.heap.size 0 [] (idV k9) [] (idV y) 41 (.agg (idV y).toArray) rfl rfl rfl rfl (by simpa using Al.out) (by rw[U.out];rfl) (by rw[U.out];kernel_rfl) (kW _) ?_;intro z An Br Bx;have Ao:Hid (z.heap[AQ.heap.size]?=some (.cells (idV y).toArray 41 (0,0))):=hid (by simpa using Br.out)))
  have T:Below F.heap.size F z:=W.trans ((Ak.trans (An.below (B:=AQ.heap.size) (by have:=Am.out;omega) fun k hk e=>by have e2:k=AQ.heap.size:=e;omega)).mono W.size);obtain⟨b5,Bm⟩:=Xy AQ.heap.size;rw[Bm] at Ao ⊢;have O:Hid (Below w.heap.size w z):=hid (Xx As.out T);have P:=hid (f.keep T);have AK:=hid (show z.rangeAt b5 0 (idV y) from fun j u S=>by rw[qZ];exact(k6 Ao j).trans S);have h:=hid (show z.rangeAt b4 0 (chC 2 (some ⟨gd,0,none⟩) 1 1 bobS (some ⟨go,0,none⟩) 1 1) from fun j u S=>by rw[qZ];exact(k6 ((T.block b4 (qX C)).trans C) j).trans S);have AL:Hid (Calls prog 17 #[.pointer (some ⟨s,0,none⟩),.agg (idV y).toArray,.agg (chC 2 (some ⟨gd,0,none⟩) 1 1 bobS (some ⟨go,0,none⟩) 1 1).toArray] z fun e w'=>e=.returned (.int .i64 0)∧∃q',StateAt w' w.heap.size s t15 q'∧But (StX s s15 q1) z w'):=hid (by
    rw[←HY.out];exact add15_second w.heap.size s q1 (some ⟨gd,0,none⟩) (some ⟨go,0,none⟩) z P.out AR.out ((Ai.keep T).more T.size) ((Aj.keep T).more T.size) (M.next (T.mono (qR _))) (N.next (T.mono (qR _))))
  have AS:=hid (M.next (T.mono (qR _)));clear T Bm W Ak An Al Am AJ f Ai Aj N M
  go_upto_region 8 with (first
    |(with_reducible refine k8 ?_
      first
      |refine k7 yk (ldD B0 AK) ?_
      |refine k7 yk (kg 37 _ rfl (p:=⟨b4,0,none⟩) rfl (qV _ b4 0 _ _ _ h underlying37 rfl yq)) ?_)
    |(go_at_call 17;refine AL.mono ?_;rintro e Bc ⟨rfl,q2,t,Ar⟩;have i:=hid t;have l:Hid (Below w.heap.size w Bc):=hid (O.trans (Ar.below O.size fun k hk hx=>by have:=(P.lowX hx).1;omega));have AT:Hid (Glob Bc):=hid (Aw.next l);clear t Ar))
  clear AL h AK P O AS
  go_upto_region 9 with (first
    |(go_at_call 12;refine(sblame_any w.heap.size s t15 q2 aS Bc i claims15 csize15 AT key15 docs15).mono ?_;rintro e Bv ⟨Bd,v,rfl,hv⟩;rw[err15];rw[blame15] at hv;obtain⟨g,c,rfl,Bn,Bo,Be,Bf⟩:=blame15_at hv;have Ap:=hid Bd;have AM:=hid Bo;have B6:=hid Be;have B7:=hid Bf;have Bs:=hid Bn
      clear Bd Bo Be Bf Bn hv))
  have At:=hid (i.keep Ap);have m:=hid (Xx l.out Ap.out);have AU:=hid (Aw.next m)
  go_upto_region 10 with (first
    |(go_at_call 25;refine(stext_any w.heap.size s t15 q2 aS Bv At claims15 csize15 AU key15 fun k d h1 h2=>(docs15 k d h1 h2).1).mono ?_;rintro e BC ⟨Av,rfl⟩;rw[err15,text15];have Be:=(Av.cell (p:=⟨g,66,none⟩) AM).trans B6.out;have Bf:=(Av.cell (p:=⟨g,33,none⟩) AM).trans B7.out;have AV:=hid Av;clear Av))
  have Au:=hid (Xx m.out AV.out);go_wp2_with fail;go_ret;exact⟨rfl,Au⟩
abbrev ChM:=ks×(Option Addr×Nat×Option Addr×Nat)
def chV(x:ChM):List Value:=chC x.1.1 x.2.1 x.1.2.1.length x.2.2.1 x.1.2.2.1 x.2.2.2.1 x.1.2.2.2.length x.2.2.2.2
theorem Z0(x:ChM):(chV x).length=4:=rfl
structure ChMIn (w:World) (B:Nat) (x:ChM):Prop where
  ok:Zj x.1
  ops:∀y∈x.1.2.2.2,KR y
  author:x.1.2.2.1.size≤maxLen
  sd:Sl w B x.2.1 x.1.2.1.length 32 (zB x.1.2.1)
  so:Sl w B x.2.2.2.1 x.1.2.2.2.length 70 (kf opV x.1.2.2.2)
  ld:x.1.2.1.length≤maxLen
  lo:x.1.2.2.2.length≤maxLen
structure ChsIn (w:World) (B:Nat) (A:Option Addr) (l:List ChM):Prop where
  sl:Sl w B A l.length 4 (kf chV l)
  each:∀x∈l,ChMIn w B x
  len:l.length≤maxLen
theorem ChMIn.keep{w w':World}{B:Nat}{x:ChM}(h:ChMIn w B x)(hb:Below B w w'):ChMIn w' B x:=⟨h.ok,h.ops,h.author,h.sd.keep hb,h.so.keep hb,h.ld,h.lo⟩
theorem ChsIn.keep{w w':World}{B:Nat}{A:Option Addr}{l:List ChM}(h:ChsIn w B A l)(hb:Below B w w'):ChsIn w' B A l:=⟨h.sl.keep hb,fun x C=>(h.each x C).keep hb,h.len⟩
def uK(l:List OpD):Nat:=(l.map fun x=>1+x.2.2.2.1.size).sum
def JR(l:List ChM):Nat:=(l.map fun x=>uK x.1.2.2.2).sum
theorem szOps_snoc{l:List OpD}{j:Nat}(h:j<l.length):uK (l.take (j+1))=uK (l.take j)+(1+l[j].2.2.2.1.size):=by
  unfold uK;rw[xj h,List.map_append,List.sum_append];simp
theorem szChs_snoc{l:List ChM}{i:Nat}(h:i<l.length):JR (l.take (i+1))=JR (l.take i)+uK l[i].1.2.2.2:=by
  unfold JR;rw[xj h,List.map_append,List.sum_append];simp
theorem szOps_le(l:List OpD)(j:Nat):uK (l.take j)≤uK l:=by
  have h:uK l=uK (l.take j)+uK (l.drop j):=by
    unfold uK;rw[←List.sum_append,←List.map_append,List.take_append_drop]
  omega
theorem szChs_le(l:List ChM)(i:Nat):JR (l.take i)≤JR l:=by
  have h:JR l=JR (l.take i)+JR (l.drop i):=by
    unfold JR;rw[←List.sum_append,←List.map_append,List.take_append_drop]
  omega
theorem size15_any(l:List ChM)(A:Option Addr)(c:Nat)(w:World)(h:ChsIn w w.heap.size A l)(hs:∀x∈l,∀y∈x.1.2.2.2,y.2.2.2.1.size≤140737488355328):
    Calls prog 33 #[.slice A l.length c,.int .i64 200] w fun e w'=>w=w'∧∃n:Nat,e=.returned (.int .i64 (n:Int))∧(200<n↔200<JR l):=by
  have X:=h.len;unfold maxLen at X;have H:=hid h;have I:=hid hs
  clear h hs;go_enter func33,ntmps33;go_wp2_with fail
  go_loop [5,6] (fun t5 t6=>∃(n i:Nat),i≤l.length∧n≤1125899906842624∧t5=.int .i64 (n:Int)∧t6=.int .i64 (i:Int)∧Hid (n=JR (l.take i)∨(200<n∧200<JR l))) (fun _ t6=>l.length - (intOf t6).toNat)
  case atStart=>exact⟨0,0,YX _,by decide,rfl,rfl,hid (.inl rfl)⟩
  case round=>
    obtain⟨n,i,hi,o,rfl,rfl,C⟩:=hrel;by_cases hlt:i<l.length
    ·have i0:(0:Int)≤(i:Int):=yv;have p:(i:Int)<(l.length:Int):=yv;have r:decide ((i:Int)<(l.length:Int))=true:=dT p;have Y:decide (i<l.length)=true:=dT hlt;by_cases hle:n≤200
     ·have s:decide ((n:Int)≤200)=true:=dT yv;have Z:decide (n≤200)=true:=dT hle;obtain⟨b,a,rfl,A0,T⟩:=H.sl.2 yv;have S:=Sl.row (fun x _=>Z0 x) T hlt;have F:=hid (H.each _ (yQ hlt));have J:=hid (I _ (yQ hlt))
      have D:=hid (szChs_snoc hlt);have K:Hid (n=JR (l.take i)):=hid (C.elim id fun q=>absurd q.1 yv);have L:=hid (szChs_le l (i+1));generalize l[i]=x at *;have e3:w.cell? ⟨b,a+i*4+3,none⟩=some (.slice x.2.2.2.1 x.1.2.2.2.length x.2.2.2.2):=S 3 _ rfl;have d:=F.lo;unfold maxLen at d;have M:=hid F.so;have E:=hid F.ops;clear S T C;generalize x.2.2.2.1=Ao at *;generalize x.2.2.2.2=co at *;generalize x.1.2.2.2=os at *
      go_upto_region 6 with fail
      go_loop [5,7] (fun t5 t7=>∃(m j:Nat),j≤os.length∧m≤1125899906842624∧t5=.int .i64 (m:Int)∧t7=.int .i64 (j:Int)∧Hid (m=JR (l.take i)+uK (os.take j))) (fun _ t7=>os.length - (intOf t7).toNat)
      case atStart=>exact⟨n,0,YX _,o,rfl,rfl,hid (by rw[K.out];simp [uK])⟩
      case round=>
        obtain⟨m,j,hj,f,rfl,rfl,G⟩:=hrel;by_cases hlj:j<os.length
        ·have j0:(0:Int)≤(j:Int):=yv;have u:(j:Int)<(os.length:Int):=yv;have v:decide ((j:Int)<(os.length:Int))=true:=dT u;have g:decide (j<os.length)=true:=dT hlj;by_cases hlm:m≤200
         ·have z:decide ((m:Int)≤200)=true:=dT yv;have k:decide (m≤200)=true:=dT hlm;obtain⟨bo,oo,rfl,A1,U⟩:=M.2 yv;have V:=Sl.row (fun x hx=>kI (E x hx)) U hlj;have W:=hid (E _ (yQ hlj));have N:=hid (J _ (yQ hlj))
          have O:=hid (szOps_snoc hlj);generalize os[j]=y at *;have P:=hid (kB W);have A2:w.cell? ⟨bo,oo+j*70+(3+64),none⟩=some (.string y.2.2.2.1):=V 67 _ P.2.2.2.1;have A3:=N.out;generalize y.2.2.2.1=t at *;clear U V;go_wp2_with fail
          go_round
          case rel=>exact⟨m+(1+t.size),j+1,by omega,by omega,by go_num,by go_num,hid (by rw[O.out,G.out];omega)⟩
          case measure=>(simp [intOf])<;>omega
         ·have z:decide ((m:Int)≤200)=false:=dF yv;have k:decide (m≤200)=false:=dF hlm;have Q:Hid (200<m∧200<JR l):=hid ⟨by omega,by
            have h1:=L.out;have h2:=szOps_le os j;rw[D.out] at h1;have h3:=G.out;omega⟩
          go_wp2_with fail
          go_round
          case rel=>exact⟨m,i+1,by omega,f,by go_num,by go_num,hid (.inr Q)⟩
          case measure=>(simp [intOf])<;>omega
        ·have v:decide ((j:Int)<(os.length:Int))=false:=dF yv;have g:decide (j<os.length)=false:=dF hlj;have R:Hid (m=JR (l.take (i+1))):=hid (by rw[D.out,G.out,Yq (show os.length≤j by omega)]);go_wp2_with fail
         go_round
         case rel=>exact⟨m,i+1,by omega,f,by go_num,by go_num,hid (.inl R)⟩
         case measure=>(simp [intOf])<;>omega
     ·have s:decide ((n:Int)≤200)=false:=dF yv;have Z:decide (n≤200)=false:=dF hle;have B:Hid (200<n↔200<JR l):=hid ⟨fun _=>C.elim (fun q=>by have:=szChs_le l i;omega) (·.2),fun _=>by omega⟩;go_wp2_with fail;go_ret;exact⟨rfl,n,rfl,B⟩
    ·have r:decide ((i:Int)<(l.length:Int))=false:=dF yv;have Y:decide (i<l.length)=false:=dF hlt;have B:Hid (200<n↔200<JR l):=hid (C.elim (fun q=>by rw[q,Yq yv]) fun q=>⟨fun _=>q.2,fun _=>q.1⟩);go_wp2_with fail;go_ret;exact⟨rfl,n,rfl,B⟩
def Ub(x:ChM):Bool:=vh (0,x.1,kS)
def FewIs(P:Int→Prop)(l:List ChM)(most:Nat)(b:Bool):Prop:=(b=true→l.length≤most∧(∃n,P n∧n≤200)∧l.all Ub=true)∧(b=false→l.length≤most→l.all Ub=true→∃n,P n∧200<n)
def obC0(x:ChM):List Value:=.int .u8 0::(chV x++[.slice none 0 0,.slice none 0 0,.string noneS,.string noneS,.int .i64 0])
theorem obj0_built(x:ChM)(w:World):(Instr.build 70 #[(1,.agg (chV x).toArray)]).run prog w=.ok (.agg (obC0 x).toArray) w:=yq
theorem obj0_in{w:World}{B:Nat}{x:ChM}(h:ChMIn w B x):ObjIn w B (.agg (obC0 x).toArray) (0,x.1,kS):=
  ⟨⟨h.ok,(fun x A=>by cases A),(fun x A=>by cases A),(by decide:(Lit.int .i64 0).wf=true)⟩,h.ops,h.author,(by show (0:Nat)≤maxLen;omega),(by show (0:Nat)≤maxLen;omega),x.2.1,x.2.2.1,x.2.2.2.1,x.2.2.2.2,none,0,none,0,rfl,h.sd,h.so,Sl.nil,Sl.nil⟩
theorem few15_core(P:Int→Prop)(l:List ChM)(A:Option Addr)(c most:Nat)(w:World)(h:ChsIn w w.heap.size A l)(hm:most≤1000)
    (hs:Calls prog 33 #[.slice A l.length c,.int .i64 200] w fun e w'=>w=w'∧∃n,e=.returned (.int .i64 n)∧P n):
    Calls prog 9 #[.slice A l.length c,.int .i64 (most:Int)] w fun e w'=>Below w.heap.size w w'∧∃b,e=.returned (.bool b)∧FewIs P l most b:=by
  have W:=h.len;unfold maxLen at W;have H:=hid h;have J:=hid hs
  clear h hs;by_cases h0:most<l.length
  ·have a:decide ((most:Int)<(l.length:Int))=true:=dT yv;have X:decide (most<l.length)=true:=dT h0;go_enter func9,ntmps9;go_wp2_with fail;go_ret;exact⟨qB _ _,_,rfl,⟨(fun h=>by cases h),fun _ h=>absurd h yv⟩⟩
  ·have a:decide ((most:Int)<(l.length:Int))=false:=dF yv;have X:decide (most<l.length)=false:=dF h0;clear hm;go_enter func9,ntmps9;go_wp2_with fail;go_at_call 33;refine J.mono ?_;rintro e m ⟨rfl,n,rfl,Y⟩;have K:=hid Y;clear Y;by_cases h1:200<n
   ·have d:decide ((200:Int)<n)=true:=dT h1;go_wp2_with fail;go_ret;exact⟨qB _ _,_,rfl,⟨(fun h=>by cases h),fun _ _ _=>⟨n,K,h1⟩⟩⟩
   ·have d:decide ((200:Int)<n)=false:=dF h1;have U:Hid (n≤200):=hid yv;clear h1
    go_upto_region 4 with fail
    go_loopw [5] (fun t5 wr=>∃i:Nat,i≤l.length∧t5=.int .i64 (i:Int)∧Hid (Below w.heap.size w wr)∧Hid ((l.take i).all Ub=true)) (fun t5 _=>l.length - (intOf t5).toNat)
    case atStart=>exact⟨0,YX _,rfl,hid (qB _ _),hid rfl⟩
    case round=>
      obtain⟨i,o,rfl,B,E⟩:=hrel;by_cases hlt:i<l.length
      ·have q:(0:Int)≤(i:Int):=yv;have r:(i:Int)<(l.length:Int):=yv;have L:=hid (H.keep B);obtain⟨b,Z,rfl,k,T⟩:=L.sl.2 yv;have S:=Sl.row (fun x _=>Z0 x) T hlt;have V:=hid (L.each _ (yQ hlt));have M:=hid (all_next (p:=Ub) hlt);have N:=hid (fun h=>all_stop (p:=Ub) hlt h);generalize l[i]=x at *;have F:=hid (show wr.rangeAt b (Z+i*4) (chV x) from fun j u f=>S j u f);have G:=hid (light_any (0,x.1,kS) _ wr ((obj0_in V).more B.size));clear S T;cases hlx:Ub x
       ·have C:Hid (vh (0,x.1,kS)=false):=hid hlx;have O:Hid (l.all Ub=false):=hid (N hlx);clear hlx
        go_wp2_with (first
          |(with_reducible refine k8 ?_
            refine kZ rfl 37 _ rfl b _ rfl (chV x) _ F.out underlying37 rfl yq ?_)
          |(with_reducible refine kL ?_
            refine k7 yk (kp 70 _ rfl (by simp only[xV,xX,Yy];exact obj0_built x _)) ?_)
          |(go_at_call 34;refine G.mono ?_;rintro e g ⟨I,rfl⟩;rw[C.out];have D:=hid (Xx B.out I);clear I))
        go_ret;exact⟨D,_,rfl,⟨(fun h=>by cases h),fun _ _ h=>by rw[O.out] at h;cases h⟩⟩
       ·have C:Hid (vh (0,x.1,kS)=true):=hid hlx;have Q:=hid (show (l.take (i+1)).all Ub=true by rw[M.out,E.out,hlx];rfl);clear hlx
        go_wp2_with (first
          |(with_reducible refine k8 ?_
            refine kZ rfl 37 _ rfl b _ rfl (chV x) _ F.out underlying37 rfl yq ?_)
          |(with_reducible refine kL ?_
            refine k7 yk (kp 70 _ rfl (by simp only[xV,xX,Yy];exact obj0_built x _)) ?_)
          |(go_at_call 34;refine G.mono ?_;rintro e g ⟨I,rfl⟩;rw[C.out];have D:=hid (Xx B.out I);clear I))
        go_roundw
        case rel=>exact⟨i+1,by omega,by go_num,D,Q⟩
        case measure=>(simp [intOf])<;>omega
      ·have R:Hid (l.all Ub=true):=hid (by
         have h:=E.out;rw[Yq (show l.length≤i by omega)] at h;exact h)
       go_wp2_with fail;go_ret;exact⟨B,_,rfl,⟨(fun _=>⟨by omega,⟨n,K,U⟩,R.out⟩),fun h=>by cases h⟩⟩
end
section
open Go.RowKit
theorem madeB_lenN(x:OpD):(zT x).length≤1+zK x.2.2.2.1:=by
  unfold zT
  split
  ·simp
  ·split
   ·simp
   ·simp
theorem opsB_each{deps:List (List UInt8)}:∀{l:List OpD} {mk:List jL},Zh deps mk l=true→∀x∈l,∃mk',opB deps mk' x=true∧mk'.length≤mk.length+mkN l
  | [],mk,h,x,hx=>by cases hx
  |y::l,mk,h,x,hx=>by
   rw[Zh,xy] at h;rcases xK.1 hx with rfl|hx
   ·exact⟨mk,h.1,Nat.le_add_right _ _⟩
   ·obtain⟨mk',h1,h2⟩:=opsB_each h.2 x hx;refine⟨mk',h1,?_⟩;have:=madeB_lenN y;rw[yV] at h2;have e:mkN (y::l)=(1+zK y.2.2.2.1)+mkN l:=by unfold mkN;rw[xX,List.sum_cons]
    omega
theorem doc_ix{deps:List (List UInt8)}{mk:List jL}{r:zy}(h:vf deps mk r=true)(hm:mk.length≤1073741824):0≤r.2∧r.2≤1099511627776:=by
  unfold vf at h
  split at h
  ·unfold zC at h;simp only[xy,decide_eq_true_eq] at h;omega
  ·simp only[xy,decide_eq_true_eq] at h;omega
theorem elem_ix{deps:List (List UInt8)}{mk:List jL}{r d:zy}{n:Int}(h:jD deps mk r d n=true)(hn:1≤n)(hm:mk.length≤1073741824):0≤r.2∧r.2≤1099511627776:=by
  unfold jD at h
  split at h
  ·unfold zC at h;simp only[xy,decide_eq_true_eq] at h;omega
  ·simp only[xy,decide_eq_true_eq] at h;omega
theorem ue:KE noneS=true:=by decide+kernel
theorem opFine_of{S:kj}{deps:List (List UInt8)}{mk:List jL}{x:OpD}(h:opB deps mk x=true)(hin:KR x)(hm:mk.length≤1073741824)(hS:∀r,(ZC S r).length≤1099511627776):Ux S x:=by
  obtain⟨k,d,a,t,c,q⟩:=x;unfold opB jO at h;dsimp only at h;have z:(0:Int)≤ko.2∧ko.2≤1099511627776:=by decide
  have D:noneS.size≤1073741824:=by decide
  have B:∀(A:0≤d.2∧d.2≤1099511627776) (C:0≤a.2∧a.2≤1099511627776) (G:t.size≤1073741824) (H:KE t=true) (F:c≤1099511627776) (I:k=1∨k=3∨(k=4∨k=5)∨(k=2∧1≤c)),Ux S (k,d,a,t,c,q):=fun A C G H F I=>
    ⟨hin,⟨hin.1.1,A,hS _⟩,⟨hin.1.2.1,C,hS _⟩,G,H,F,I⟩
  have J:KY t=true→t.size≤1073741824∧KE t=true:=fun h=>by
    unfold KY at h;rw[xy,decide_eq_true_eq] at h;exact⟨by omega,h.2⟩
  by_cases k1:k=1
  ·subst k1;simp [kO] at h;obtain⟨⟨⟨F,_⟩,A⟩,⟨C,_⟩,K⟩:=h;have E:=doc_ix A hm;refine B E ?_ (J K).1 (J K).2 yv (.inl rfl);rcases C with rfl|C
   ·exact E
   ·exact elem_ix C yv hm
  by_cases k2:k=2
  ·subst k2;simp [kO] at h;obtain⟨⟨⟨rfl,_⟩,A⟩,⟨L,M⟩,C⟩:=h;exact B (doc_ix A hm) (elem_ix C L hm) D ue yv (.inr (.inr (.inr ⟨rfl,L⟩)))
  by_cases k3:k=3
  ·subst k3;simp [kO] at h;obtain⟨⟨⟨⟨rfl,rfl⟩,rfl⟩,rfl⟩,_⟩:=h;exact B z z D ue yv (.inr (.inl rfl))
  by_cases k4:k=4
  ·subst k4;simp [kO] at h;obtain⟨⟨⟨⟨rfl,rfl⟩,rfl⟩,A⟩,_⟩:=h;exact B (doc_ix A hm) z D ue yv (.inr (.inr (.inl (.inl rfl))))
  by_cases k5:k=5
  ·subst k5;simp [kO] at h;obtain⟨⟨⟨⟨rfl,rfl⟩,rfl⟩,_⟩,A⟩:=h;exact B (doc_ix A hm) z D ue yv (.inr (.inr (.inl (.inr rfl))))
  ·simp [k1,k2,k3,k4,k5] at h
def MadeLe(S:kj):Prop:=∀x∈S.2.2,x.2.2.length≤mkN x.2.1.2.2.2
theorem fits_made(S:kj)(i:List UInt8)(t:Int):∀(l:List OpD) (mk0 mk:List zD) (ns:List Nat),KG S i t mk0 l=some (mk,ns)→mk.length≤mk0.length+mkN l
  | [],mk0,mk,ns,h=>by
    unfold KG at h;cases h
    exact Nat.le_add_right _ _
  |x::l,mk0,mk,ns,h=>by
   unfold KG at h;cases hf:J7 S i t mk0 x with
   |none=>rw[hf] at h;cases h
   |some mk2=>
    rw[hf] at h;dsimp only at h;obtain⟨p,hp,e⟩:=Option.map_eq_some_iff.1 h;cases e
    have A:=fits_made S i t l mk2 p.1 p.2 hp;have B:=(fitAt_len hf).1;have e:mkN (x::l)=(1+zK x.2.2.2.1)+mkN l:=by unfold mkN;rw[xX,List.sum_cons]
    omega
theorem qH(i:List UInt8)(t:Int):∀(l:List OpD) (ns:List Nat) (place:Nat) (s:kj),(J8 i t place s l ns).2.2=s.2.2
  | [],ns,place,s=>by cases ns<;>rfl
  |x::l,[],place,s=>rfl
  |x::l,n::ns,place,s=>by
   show (J8 i t (place+1) (Jh s i t place n x) l ns).2.2=s.2.2;rw[qH i t l ns,uP]
theorem DocsIx.dos(i:List UInt8)(t:Int):∀(l:List OpD) (ns:List Nat) (place:Nat) {s:kj},DocsIx s→DocsIx (J8 i t place s l ns)
  | [],ns,place,s,h=>by cases ns<;>exact h
  |x::l,[],place,s,h=>h
  |x::l,n::ns,place,s,h=>DocsIx.dos i t l ns (place+1) (h.do i t place n x)
theorem addAt_keeps{S:kj}(h1:MadeLe S)(h2:DocsIx S)(is i:List UInt8)(c:ks):MadeLe (zX S is i c).2∧DocsIx (zX S is i c).2:=by
  unfold zX
  split
  ·exact⟨h1,h2⟩
  ·split
   ·exact⟨h1,h2⟩
   ·split
    ·exact⟨h1,h2⟩
    ·split
     ·exact⟨h1,h2⟩
     ·split
      ·exact⟨h1,h2⟩
      ·rename_i B C D;refine⟨fun x A=>?_,DocsIx.dos i c.1 c.2.2.2 C 0 (s:=(S.1,S.2.1,S.2.2++[(i,c,B)])) h2⟩;dsimp only at A;rw[qH] at A;rcases xJ.1 A with A|A
       ·exact h1 x A
       ·rw[xZ.1 A];have:=fits_made S i c.1 c.2.2.2 [] B C D
        simpa using this
structure FewL (L:List ks):Prop where
  len:L.length≤11
  each:∀c∈L,c.2.2.2.length≤60∧c.2.1.length≤100
  size:(L.map fun c=>(c.2.2.2.map fun x=>1+x.2.2.2.1.size).sum).sum≤200
structure StateFew (L:List ks) (S:kj):Prop where
  of:StateOf qt idC L S
  made:MadeLe S
  ix:DocsIx S
theorem StateFew.new(L:List ks):StateFew L KO:=⟨StateOf.new qt idC L,(fun x A=>by cases A),fun x A=>by cases A⟩
theorem StateFew.add{L:List ks}{S:kj}(h:StateFew L S){c:ks}(hc:c∈L)(i:List UInt8)(h0:qt c=0):StateFew L (zX S (idC c) i c).2:=by
  have A:=h.of.add hc i;unfold addF at A;rw[if_neg (by simpa using h0)] at A;obtain⟨B,C⟩:=addAt_keeps h.made h.ix (idC c) i c;exact⟨A,B,C⟩
theorem ka3(l:List OpD):mkN l≤(l.map fun x=>1+x.2.2.2.1.size).sum∧JX l≤(l.map fun x=>1+x.2.2.2.1.size).sum∧l.length≤(l.map fun x=>1+x.2.2.2.1.size).sum:=by
  induction l with
  |nil=>exact⟨xY _,xY _,xY _⟩
  |cons x l ih=>
   unfold mkN JX at *;simp only[xX,List.sum_cons,Yx];have:=uD x.2.2.2.1;omega
theorem sum_mono{α:Type}{f g:α→Nat}(l:List α)(h:∀x∈l,f x≤g x):(l.map f).sum≤(l.map g).sum:=by
  induction l with
  |nil=>exact xY _
  |cons x l ih=>
   simp only[xX,List.sum_cons];have B:=h x (List.mem_cons_self ..);have C:=ih fun y A=>h y (List.mem_cons_of_mem _ A)
   omega
theorem sum_one{α:Type}{f:α→Nat}{l:List α}{x:α}(hx:x∈l):f x≤(l.map f).sum:=by
  induction l with
  |nil=>cases hx
  |cons y l ih=>
   simp only[xX,List.sum_cons];rcases xK.1 hx with rfl|hx
   ·omega
   ·have:=ih hx;omega
theorem sum_ones{α:Type}(l:List α):(l.map fun _=>1).sum=l.length:=by
  induction l with
  |nil=>rfl
  |cons x l ih=>rw[xX,List.sum_cons,ih,Yx,Nat.add_comm]
theorem StateFew.bounds{L:List ks}{S:kj}(h:StateFew L S)(hL:FewL L):opsOf S≤200∧uY S≤200∧∀r,(ZC S r).length≤200:=by
  have A:=hL.size;have C:=h.of.bound fun c=>c.2.2.2.length
  have D:=h.of.bound fun c=>JX c.2.2.2
  have E:=sum_mono (f:=fun c:ks=>c.2.2.2.length) (g:=fun c=>(c.2.2.2.map fun x=>1+x.2.2.2.1.size).sum) L fun c _=>(ka3 c.2.2.2).2.2
  have F:=sum_mono (f:=fun c:ks=>JX c.2.2.2) (g:=fun c=>(c.2.2.2.map fun x=>1+x.2.2.2.1.size).sum) L fun c _=>(ka3 c.2.2.2).2.1
  refine⟨Nat.le_trans C (Nat.le_trans E A),Nat.le_trans D (Nat.le_trans F A),fun r=>?_⟩;unfold ZC;cases he:kC S r with
  |none=>exact YX _
  |some e=>
   unfold kC at he;obtain⟨x,G,rfl⟩:=Option.map_eq_some_iff.1 he;have B:=List.mem_of_find?_eq_some G;have I:=h.made x B;have H:=(h.of.told x B).1;have J:=sum_one (f:=fun c:ks=>(c.2.2.2.map fun x=>1+x.2.2.2.1.size).sum) H;have K:=(ka3 x.2.1.2.2.2).1;show x.2.2.length≤200;omega
theorem right_ops{c:ks}(h:qt c=0):Zh c.2.1 [] c.2.2.2=true:=by
  unfold qt vb at h;by_cases hr:zn (1,c,kS)=true
  ·unfold zn at hr;rw[if_pos rfl,xy] at hr;have A:=hr.2;unfold ja at A;rw[xy] at A;exact A.2
  ·rw[if_neg hr] at h;cases h
theorem StateFew.fine{L:List ks}{S:kj}(h:StateFew L S)(hL:FewL L){c:ks}(hc:c∈L)(hok:Zj c)(hop:∀x∈c.2.2.2,KR x)(hau:c.2.2.1.size≤maxLen){q:kV}(hnd:q.nd≤1000000):QT S q c:=by
  obtain⟨I,J⟩:=hL.each c hc;obtain⟨K,M,B⟩:=h.bounds hL;have N:=sum_one (f:=fun c:ks=>(c.2.2.2.map fun x=>1+x.2.2.2.1.size).sum) hc;obtain⟨O,P,Q⟩:=ka3 c.2.2.2;have H:=hL.size;have C:S.2.2.length≤200:=by
    have D:=h.of.bound fun _=>1
    rw[sum_ones,sum_ones] at D;have:=hL.len;omega
  refine⟨hok,hop,hau,by omega,by omega,fun E x A=>?_,by omega,by omega,by omega,h.ix,⟨opsOf S,uY S,h.of.le,by omega,by omega⟩⟩;obtain⟨R,F,G⟩:=opsB_each (right_ops E) x A;refine opFine_of F (hop x A) ?_ fun r=>Nat.le_trans (B r) yj
  rw[YJ,Nat.zero_add] at G;omega
theorem few15_few(l:List ChM)(A:Option Addr)(c most:Nat)(w:World)(h:ChsIn w w.heap.size A l)(hm:most≤11)(hs:∀x∈l,∀y∈x.1.2.2.2,y.2.2.2.1.size≤140737488355328):
    Calls prog 9 #[.slice A l.length c,.int .i64 (most:Int)] w fun e w'=>Below w.heap.size w w'∧∃b,e=.returned (.bool b)∧(b=true→l.length≤most∧FewL (l.map (·.1))):=
  (few15_core (fun n=>∃m:Nat,n=(m:Int)∧(200<m↔200<JR l)) l A c most w h yv ((size15_any l A c w h hs).mono fun e w' ⟨B,n,C,D⟩=>⟨B,_,C,n,rfl,D⟩)).mono fun e w' ⟨B,b,C,D⟩=>⟨B,b,C,fun E=>by
    obtain⟨F,⟨n,⟨m,M,G⟩,N⟩,H⟩:=D.1 E;refine⟨F,by rw[Yv];omega,fun c I=>?_,?_⟩
    ·obtain⟨x,J,rfl⟩:=List.mem_map.1 I;obtain⟨K,L,_,_⟩:=lightB_lens (List.all_eq_true.1 H x J);exact⟨K,L⟩
    ·rw[List.map_map];have O:¬200<JR l:=fun q=>by have:=G.2 q;omega
     have P:JR l=(l.map ((fun c:ks=>(c.2.2.2.map fun x=>1+x.2.2.2.1.size).sum)∘(·.1))).sum:=rfl;omega⟩
end
section
open Go.RowKit Go.Maps
open Lib (hid)
theorem refId_any(o:vB)(v:Value)(w:World)(h:ObjIn w w.heap.size v o)(hl1:o.2.1.2.1.length≤1099511627776)(hl2:o.2.1.2.2.2.length≤1099511627776)(hl3:o.2.2.1.length≤1099511627776)(hl4:o.2.2.2.1.length≤1099511627776)(hone:RowKit.Hid (o.1=1)):
    Calls prog 54 #[v] w fun e w'=>e=.returned (.tuple #[.agg (idV (idD o)).toArray,.int .i64 (vb o)])∧Below w.heap.size w w':=by
  obtain⟨t,rfl,m,n⟩:=h.ten;have N:=hid h;have G:=hid m;have A0:=hid n
  clear h m n;go_enter func54,ntmps54
  go_upto_region 1 with (first
    |(with_reducible refine kG ?_
      refine kz yk 70 _ rfl t (.agg (t).toArray) rfl rfl (by rw[G.out];kernel_rfl) ?_;intro W0 O P H)
    |(with_reducible refine kF ?_
      refine kv yk 41 rfl (List.replicate 32 (.int .u8 0)) yq ?_;intro c I Q R))
  obtain⟨x,d⟩:=Xy w.heap.size;obtain⟨F,f⟩:=Xy W0.heap.size;have A:=hid (Xx O.out I.out);have B:=hid (show w.heap.size<F∧F<c.heap.size by have:=H.out;have:=R.out;omega);have S:Hid (c.heap[x]?=some (.cells t.toArray 70 (0,0))):=hid (by rw[←d];exact(I.block _ (by have:=H.out;omega)).trans P.out);have T:Hid (c.heap[F]?=some (.cells (List.replicate 32 (.int .u8 0)).toArray 41 (0,0))):=hid (by rw[←f];exact Q.out);rw[d,f]
  try go_frame
  clear d f P Q O I H R;by_cases hok:zn o=true∧¬262144<(Jv o).length
  ·have s:=hid hok.1;have X:=hid hok.2
   have C:=hid (show vb o=0 by unfold vb;rw[if_pos hok.1,if_neg hok.2]);have y:(Jv o).length≤1099511627776:=by have:=hok.2;omega
   clear hok
   go_upto_region 4 with (first
     |(with_reducible refine k8 ?_
       refine k7 yk (kg 70 _ rfl (p:=⟨x,0,none⟩) rfl (vP S G)) ?_)
     |(go_at_call 103;refine(qC o _ c ((N.keep A).more A.size) hl1 hl2 hl3 hl4 hone).mono ?_;rintro e W2 ⟨L,M⟩;unfold Zn at M;rw[if_pos s.out,if_neg X.out] at M;obtain⟨A2,c2,rfl,q,r⟩:=M;have Y:=hid q;have A1:=hid r
       clear q r;have D:=hid (Xx A.out L);have E:=hid ((L.block F B.2).trans T);clear L))
   go_wp2_with (first
     |(go_at_call 104;refine(refSum_any (Jv o) A2 c2 W2 Y y).mono ?_;rintro e W5 ⟨rfl,g⟩;have Z:=hid ((g.block F (qX E)).trans E);have U:=hid (Xx D.out g);clear g)
     |(with_reducible refine kD ?_
       refine kr yk 41 _ _ rfl F 0 [] (List.replicate 32 (.int .u8 0)) [] (idV (vp (Jv o))) 41 (.agg (idV (vp (Jv o))).toArray) rfl rfl rfl rfl (by simpa using Z.out) (by rw[ZN,Jp];rfl) (by rw[ZN,Jp];kernel_rfl) (kW _) ?_;intro z J i A3;have K:Hid (z.heap[F]?=some (.cells (idV (vp (Jv o))).toArray 41 (0,0))):=hid (by simpa using i.out)))
   have V:=hid (show (idV (vp (Jv o))).length=32 by rw[ZN,Jp]);refine bodyPost_ret (Kt results54 _ _ rfl rfl (qV _ F 0 41 (idV (vp (Jv o))) _ (fun j u hj=>by rw[qZ];exact(k6 K j).trans hj) underlying41 rfl (by first|kernel_rfl|(rw[V.out];kernel_rfl)))) rfl ?_;exact⟨by unfold idD;rw[if_pos C.out,C.out];rfl,U.trans (J.below U.size fun kk hk e=>by have:=B.out;omega)⟩
  ·obtain⟨k,W⟩:∃k:Int,vb o=k:=⟨_,rfl⟩;have l:k≠0:=by
     rw[←W];unfold vb
     split
     ·split
      ·decide
      ·exact absurd ⟨‹_›,‹_›⟩ hok
     ·decide
   have C:=hid W;have e1:(k != 0)=true:=by rw[bne_iff_ne];exact l
   have a:Hid (∀(e:Ending) (w':World),Zn o e w'→e=.returned (.tuple #[.slice none 0 0,.int .i64 k])):=hid (fun e w' h=>by
     unfold Zn at h;rw[←W];unfold vb
     split at h
     ·rename_i M;rw[if_pos M]
      split at h
      ·rename_i h2;rw[if_pos h2];exact h
      ·rename_i h2;exact absurd ⟨M,h2⟩ hok
     ·rename_i M;rw[if_neg M];exact h)
   have b:=hid l;clear hok W l
   go_wp2_with (first
     |(with_reducible refine k8 ?_
       refine k7 yk (kg 70 _ rfl (p:=⟨x,0,none⟩) rfl (vP S G)) ?_)
     |(go_at_call 103;refine(qC o _ c ((N.keep A).more A.size) hl1 hl2 hl3 hl4 hone).mono ?_;rintro e W2 ⟨L,M⟩;obtain rfl:=a.out _ _ M;clear M;have D:=hid (Xx A.out L);have E:=hid ((L.block F B.2).trans T);clear L)
     |(with_reducible refine kL ?_
       refine k7 yk (kp 41 #[] rfl (id0_built _)) ?_)
     |(with_reducible refine kD ?_
       refine kr yk 41 _ _ rfl F 0 [] (List.replicate 32 (.int .u8 0)) [] (idV (List.replicate 32 0)) 41 (.agg (idV (List.replicate 32 0)).toArray) rfl rfl rfl rfl (by simpa using E.out) (by rw[ZN,List.length_replicate];rfl) (by rw[ZN,List.length_replicate];kernel_rfl) (kW _) ?_;intro z J i A3;have K:Hid (z.heap[F]?=some (.cells (idV (List.replicate 32 0)).toArray 41 (0,0))):=hid (by simpa using i.out)))
   refine bodyPost_ret (Kt results54 _ _ rfl rfl (qV _ F 0 41 (idV (List.replicate 32 0)) _ (fun j u hj=>by rw[qZ];exact(k6 K j).trans hj) underlying41 rfl (by first|kernel_rfl|(rw[V.out];kernel_rfl)))) rfl ?_;exact⟨by unfold idD;rw[C.out,if_neg b.out];rfl,D.trans (J.below D.size fun kk hk e=>by have:=B.out;omega)⟩
theorem told15_any(c:ks)(Ad:Option Addr)(cd:Nat)(Ao:Option Addr)(co:Nat)(w:World)(hok:Zj c)(hops:∀x∈c.2.2.2,KR x)(hau:c.2.2.1.size≤maxLen)(h1:Sl w w.heap.size Ad c.2.1.length 32 (zB c.2.1))(h2:Sl w w.heap.size Ao c.2.2.2.length 70 (kf opV c.2.2.2))(hl1:c.2.1.length≤1073741824)(hl2:c.2.2.2.length≤1073741824):
    Calls prog 18 #[.agg (chC c.1 Ad c.2.1.length cd c.2.2.1 Ao c.2.2.2.length co).toArray] w fun e w'=>Below w.heap.size w w'∧e=.returned (.agg (idV (idC c)).toArray):=by
  have n:=hid h1;have o:=hid h2;have P:=hid hok;have Q:=hid hops;have R:=hid hau
  clear h1 h2 hok hops hau;have a:(idV (idC c)).length=32:=by rw[kn];exact uH _
  have A:=hid a;clear a;go_enter func18,ntmps18
  go_upto_region 1 with (first
    |(with_reducible refine kG ?_
      refine kz yk 37 _ rfl (chC c.1 Ad c.2.1.length cd c.2.2.1 Ao c.2.2.2.length co) _ rfl rfl yq ?_;intro y I C J)
    |(with_reducible refine kF ?_
      refine kv yk 41 rfl (idV k9) yq ?_;intro b D E K))
  obtain⟨d,l⟩:=Xy w.heap.size;obtain⟨H,m⟩:=Xy y.heap.size;have B:Hid (Below w.heap.size w b):=hid (Xx I.out D.out);have F:=hid ((D.block w.heap.size (qX C)).trans C);rw[l] at F ⊢;rw[m] at E ⊢;have q:=hid (show w.heap.size≤d∧d<H∧H<b.heap.size from by have:=J.out;have:=K.out;omega);clear I D J K C l m;have S:=hid (show b.rangeAt d 0 (chC c.1 Ad c.2.1.length cd c.2.2.1 Ao c.2.2.2.length co) from fun j u f=>by rw[qZ];exact(k6 F j).trans f);have T:=hid (refId_any (1,c,kS) _ b (U6 (cd:=cd) (co:=co) P Q R ((n.keep B).more B.size) ((o.keep B).more B.size)) (by show c.2.1.length≤_;omega) (by show c.2.2.2.length≤_;omega) (by show (0:Nat)≤_;omega) (by show (0:Nat)≤_;omega) (hid rfl))
  go_wp2_with (first
    |(with_reducible refine k8 ?_
      first
      |refine k7 yk (kg 37 _ rfl (p:=⟨d,0,none⟩) rfl (qV _ d 0 _ _ _ S underlying37 rfl yq)) ?_
      |refine k7 yk (ldD (uH _) U) ?_)
    |(with_reducible refine kL ?_
      refine k7 yk (kp 70 _ rfl (by simp only[xV,xX,Yy];exact ub _ _ _ _ _ _ _ _ _)) ?_)
    |(go_at_call 54;refine T.mono ?_;rintro e i ⟨rfl,g⟩;have L:=hid g;have G:=hid ((g.block H (qX E)).trans E);clear g)
    |(with_reducible refine kF ?_
      refine kv yk 41 rfl (idV k9) yq ?_;intro W4 M V A0;have N:=hid ((M.block H (qX G)).trans G))
    |(with_reducible refine kD ?_
      first
      |(refine kr yk 41 _ _ rfl i.heap.size 0 [] (idV k9) [] (idV (idC c)) 41 (.agg (idV (idC c)).toArray) rfl rfl rfl rfl (by simpa using V.out) (by rw[A.out];rfl) (by rw[A.out];kernel_rfl) (kW _) ?_;intro r O s A1;have W:Hid (r.heap[i.heap.size]?=some (.cells (idV (idC c)).toArray 41 (0,0))):=hid (by simpa using s.out);have U:=hid (show r.rangeAt i.heap.size 0 (idV (idC c)) from fun j u f=>by rw[qZ];exact(k6 W j).trans f);have X:=hid ((O.block H (qX N) (by have:=qX G.out;omega)).trans N.out))
      |(refine kr yk 41 _ _ rfl H 0 [] (idV k9) [] (idV (idC c)) 41 (.agg (idV (idC c)).toArray) rfl rfl rfl rfl (by simpa using X.out) (by rw[A.out];rfl) (by rw[A.out];kernel_rfl) (kW _) ?_;intro t Y v A2;have Z:Hid (t.rangeAt H 0 (idV (idC c))):=hid fun j u f=>by rw[qZ];exact(k6 v j).trans (by simpa using f))))
  refine bodyPost_ret (jx results18 _ _ rfl (qV _ H 0 41 (idV (idC c)) _ Z underlying41 rfl (by rw[A.out];kernel_rfl))) rfl ?_;have z:But (fun k=>k=H) b t:=((But.of_below (Xx L.out M.out)).trans O fun k hk e=>by have e2:k=i.heap.size:=e;have:=L.size;omega).trans Y.out fun k _ e=>e
  exact⟨B.trans (z.below B.size fun k hk e=>by have:=q.out;omega)|> fun h=>h,rfl⟩
end
end Go.Proofs.YtdgbjhfkmembdaaGreatDoor