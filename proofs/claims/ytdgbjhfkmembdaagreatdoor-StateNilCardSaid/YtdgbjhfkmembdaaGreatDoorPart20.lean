/-
  Plain facts, and contracts of the functions that the claim's walk comes to, one behind the other. Conditions: as each says.
-/
import Derived.Test.YtdgbjhfkmembdaaGreatDoorPart4
import Derived.Test.YtdgbjhfkmembdaaGreatDoorPart15
import Derived.Test.YtdgbjhfkmembdaaGreatDoorPart5
import Derived.Test.YtdgbjhfkmembdaaGreatDoorShelfWr
import Derived.Test.YtdgbjhfkmembdaaGreatDoorPart17
import Derived.Test.YtdgbjhfkmembdaaGreatDoorPart18
import Derived.Test.YtdgbjhfkmembdaaGreatDoorPart7
import Derived.Test.YtdgbjhfkmembdaaGreatDoorPart6
import Derived.Test.YtdgbjhfkmembdaaGreatDoorPart9
import Derived.Test.YtdgbjhfkmembdaaGreatDoorPart16
set_option linter.unusedVariables false
set_option linter.unusedSimpArgs false
set_option maxHeartbeats 4000000
set_option maxRecDepth 100000
open Go.Proofs.Tryz
namespace Go.Proofs.YtdgbjhfkmembdaaGreatDoor
def encU(r:Nat):List UInt8:=
  if r<128 then [UInt8.ofNat r]
  else if r<2048 then [UInt8.ofNat (192+r / 64),UInt8.ofNat (128+r % 64)]
  else if r<65536 then [UInt8.ofNat (224+r / 4096),UInt8.ofNat (128+r / 64 % 64),UInt8.ofNat (128+r % 64)]
  else [UInt8.ofNat (240+r / 262144),UInt8.ofNat (128+r / 4096 % 64),UInt8.ofNat (128+r / 64 % 64),UInt8.ofNat (128+r % 64)]
def jm(l:List Nat):List UInt8:=l.flatMap encU
theorem encU_ne(r:Nat):encU r≠[]:=by
  unfold encU
  split
  ·simp
  ·split
   ·simp
   ·split<;>simp
theorem encU_len(r:Nat):(encU r).length≤4:=by
  unfold encU
  split
  ·simp
  ·split
   ·simp
   ·split<;>simp
theorem bytesU_ne{l:List Nat}(h:l≠[]):jm l≠[]:=by
  cases l with
  |nil=>exact absurd rfl h
  |cons r l=>
   intro e;unfold jm at e;rw[List.flatMap_cons,List.append_eq_nil_iff] at e;exact encU_ne r e.1
theorem Jz:∀l:List Nat,(jm l).length≤4*l.length
  | []=>by simp [jm]
  |r::l=>by
   have h1:=encU_len r;have A:=Jz l;unfold jm at A ⊢;rw[List.flatMap_cons,List.length_append,List.length_cons];omega
def ue(d:List kX):List UInt8:=d.flatMap fun r=>if r.2.2 then [] else jm r.2.1
abbrev jC:=kF×Nat×List UInt8
def KK(out:List jC)(k:kF):Bool:=match out.getLast? with
  |none=>false
  |some p=>decide (JM p.1 (p.2.1:Int)=k)
def UK(out:List jC)(n:Nat)(s:List UInt8):List jC:=match out.getLast? with
  |none=>out
  |some p=>out.dropLast++[(p.1,p.2.1+n,p.2.2++s)]
def Kz(st:List jC×Bool)(r:kX):List jC×Bool:=
  if r.2.2 then (st.1,true)
  else if !st.2 && KK st.1 r.1 then (UK st.1 r.2.1.length (jm r.2.1),false)
  else (st.1++[(r.1,r.2.1.length,jm r.2.1)],false)
def Ki(d:List kX):List jC:=(d.foldl Kz ([],true)).1
def KC(l:List jC):List UInt8:=l.flatMap fun p=>p.2.2
theorem JA{α:Type}{l:List α}{x:α}(h:l.getLast?=some x):l=l.dropLast++[x]:=by
  have A:l≠[]:=fun e=>by rw[e] at h;cases h
  rw[List.getLast?_eq_some_getLast A] at h;cases h
  exact(List.dropLast_concat_getLast A).symm
theorem textP_more{out:List jC}{k:kF}(h:KK out k=true)(n:Nat)(s:List UInt8):KC (UK out n s)=KC out++s:=by
  unfold KK at h;cases hl:out.getLast? with
  |none=>rw[hl] at h;cases h
  |some p=>
   unfold UK;rw[hl];have e:=JA hl
   conv=>rhs;rw[e]
   simp [KC]
theorem textP_step(st:List jC×Bool)(r:kX):KC (Kz st r).1=KC st.1++(if r.2.2 then [] else jm r.2.1):=by
  unfold Kz
  split
  ·simp
  ·split
   ·rename_i h;simp only[Bool.and_eq_true] at h;exact textP_more h.2 _ _
   ·simp [KC]
theorem textP_fold:∀(d:List kX) (st:List jC×Bool),KC (d.foldl Kz st).1=KC st.1++ue d
  | [],st=>by simp [ue]
  |r::d,st=>by
   rw[List.foldl_cons,textP_fold d (Kz st r),textP_step];simp [ue]
theorem textP_pieces(d:List kX):KC (Ki d)=ue d:=by
  unfold Ki;rw[textP_fold];rfl
def PiecesOf(p:List UInt8→Prop)(l:List jC):Prop:=∀x∈l,p x.1.2.1∧x.2.2≠[]
theorem pieces_of{p:List UInt8→Prop}:∀(d:List kX) (st:List jC×Bool),RunsOf (fun k=>p k.2.1) d→PiecesOf p st.1→PiecesOf p (d.foldl Kz st).1
  | [],st,_,h=>h
  |r::d,st,hd,h=>by
   rw[List.foldl_cons];refine pieces_of d (Kz st r) (fun q hq=>hd q (List.mem_cons_of_mem _ hq)) ?_;obtain⟨hr,hne⟩:=hd r yq;unfold Kz
   split
   ·exact h
   ·split
    ·rename_i B;simp only[Bool.and_eq_true] at B;obtain⟨_,B⟩:=B;unfold KK at B;cases hl:st.1.getLast? with
     |none=>rw[hl] at B;cases B
     |some y=>
      unfold UK;rw[hl];have e:=JA hl;intro x A;rcases List.mem_append.1 A with A|A
      ·exact h x (by rw[e];exact List.mem_append_left _ A)
      ·rw[List.mem_singleton] at A;subst A;have C:=h y (by rw[e];simp);exact⟨C.1,fun e=>C.2 (List.append_eq_nil_iff.1 e).1⟩
    ·intro x A;rcases List.mem_append.1 A with A|A
     ·exact h x A
     ·rw[List.mem_singleton] at A;subst A;exact⟨hr,bytesU_ne hne⟩
abbrev Kr:=List UInt8×ByteArray×List UInt8
def vj(author:List UInt8→ByteArray)(out:List Kr)(p:jC):List Kr:=match out.getLast? with
  |none=>out++[(p.1.2.1,author p.1.2.1,p.2.2)]
  |some y=>if y.1=p.1.2.1 then out.dropLast++[(y.1,y.2.1,y.2.2++p.2.2)] else out++[(p.1.2.1,author p.1.2.1,p.2.2)]
def blameR(author:List UInt8→ByteArray)(l:List jC):List Kr:=l.foldl (vj author) []
def JZ(l:List Kr):List UInt8:=l.flatMap fun x=>x.2.2
theorem textB_step(author:List UInt8→ByteArray)(out:List Kr)(q:jC):JZ (vj author out q)=JZ out++q.2.2:=by
  unfold vj;cases hl:out.getLast? with
  |none=>simp [JZ]
  |some y=>
   have e:=JA hl;dsimp only
   split
   ·conv=>rhs;rw[e]
    simp [JZ]
   ·simp [JZ]
section
open Go.RowKit Go.Maps
theorem uE(r:Nat)(h:r<128)(w:World):Calls prog 133 #[.int .i32 (r:Int)] w fun e w'=>Below w.heap.size w w'∧e=.returned (.tuple #[.string ⟨(encU r).toArray⟩,.int .i64 0]):=by
  have C:KA (r:Int)=true:=by unfold KA;simp;omega
  have H:(r:Int)<128:=by omega
  have G:∀(fn:Fn) (first cap:Array Value) (w:World),(Instr.makeFunc fn first cap).run prog w=.ok (.func fn first cap) w:=fun _ _ _ _=>rfl
  have I:IntKind.u8.wrap (r:Int)=(r:Int):=by
    unfold IntKind.wrap;simp [IntKind.bits,IntKind.signed];omega
  have A:((w.alloc (.cells #[.int .i32 (r:Int)] 21)).alloc (.cells #[.int .u8 (r:Int)] 5)).cell? ⟨w.heap.size+1,0,none⟩=some (.int .u8 (r:Int)):=by
    have:=heap_alloc_new (w.alloc (.cells #[.int .i32 (r:Int)] 21)) (.cells #[.int .u8 (r:Int)] 5);rw[World.size_alloc] at this;exact k4 (cs:=[.int .u8 (r:Int)]) this 0
  have B:(convert 169 9 (.slice (some ⟨w.heap.size+1,0,none⟩) 1 1)).run prog ((w.alloc (.cells #[.int .i32 (r:Int)] 21)).alloc (.cells #[.int .u8 (r:Int)] 5))=.ok (.string ⟨#[UInt8.ofNat r]⟩) ((w.alloc (.cells #[.int .i32 (r:Int)] 21)).alloc (.cells #[.int .u8 (r:Int)] 5)):=by
    have D:=Lib.run_convert_window (P:=prog) ((w.alloc (.cells #[.int .i32 (r:Int)] 21)).alloc (.cells #[.int .u8 (r:Int)] 5)) 169 5 9 underlying169 underlying5 underlying9 (w.heap.size+1) 0 ⟨#[UInt8.ofNat r]⟩ (fun i E=>by
      have F:i=0:=by
        have:i<1:=E;omega
      subst F;show World.cell? _ ⟨w.heap.size+1,0,none⟩=some (.int .u8 (((UInt8.ofNat r).toNat:Nat):Int));rw[A,UInt8.toNat_ofNat_of_lt' (by show r<256;omega)]) 0 1 1 (Nat.le_refl 1)
    exact D
  go_enter func133,ntmps133
  go_wp2_with (first
    |(go_at_call 180;refine(qs (r:Int) _ yz yz).mono ?_;rintro e J ⟨rfl,rfl⟩;rw[C]))
  go_ret2;refine⟨((qB _ _).alloc (qR _) _).alloc yq _,?_⟩;unfold encU;rw[if_pos h];rfl
end
section
open Go.RowKit Go.Maps
open Lib (hid)
def EncIs(r:Nat):Prop:=∀w:World,Calls prog 133 #[.int .i32 (r:Int)] w fun e w'=>Below w.heap.size w w'∧e=.returned (.tuple #[.string ⟨(encU r).toArray⟩,.int .i64 0])
theorem bytesU_snoc(l:List Nat){j:Nat}(hj:j<l.length):jm (l.take (j+1))=jm (l.take j)++encU l[j]:=by
  unfold jm;rw[List.take_succ_eq_append_getElem hj,List.flatMap_append];simp
theorem utext_any(l:List Nat)(g off cap:Nat)(w:World)(hs:RuneAt w (.slice (some ⟨g,off,none⟩) l.length cap) l)(hE:∀r∈l,EncIs r)(hl:l.length≤1099511627776):
    Calls prog 81 #[.slice (some ⟨g,off,none⟩) l.length cap] w fun e w'=>Below w.heap.size w w'∧e=.returned (.tuple #[.string ⟨(jm l).toArray⟩,.int .i64 0]):=by
  obtain⟨h,Z,a,d,i,b,k,m,X,E⟩:=hs;injection b with e1 _ e2;injection e1 with e1;injection e1 with e3 e4;subst e2 e3 e4;have G:=hid X;have H:=hid E;have T:=hid hE
  clear X E hE;go_enter func81,ntmps81
  go_upto_region 2 with fail
  have O:Below w.heap.size w (w.alloc (.cells #[.pointer none,.slice none 0 0] 171)):=(Below.refl _ _).alloc (Nat.le_refl _) _;have P:Lib.IsBuilderF 171 5 w.heap.size w.heap.size (Lib.byteCells []) (w.alloc (.cells #[.pointer none,.slice none 0 0] 171)):=Lib.IsBuilderF.of (Lib.fresh_isBuilder _ _ _);have I:=hid O;have D:=hid P
  clear O P;generalize w.alloc (.cells #[.pointer none,.slice none 0 0] 171)=w2 at *;obtain⟨z,W⟩:∃z,w.heap.size=z:=⟨_,rfl⟩;have F:=hid W;rw[W] at D ⊢;clear W
  go_upto_region 3 with fail
  go_loopw [11] (fun t wr=>∃j:Nat,j≤l.length∧t=.int .i64 (j:Int)∧Hid (Below w.heap.size w wr)∧Hid (Lib.IsBuilderF 171 5 z z (Lib.byteCells (jm (l.take j))) wr)) (fun t _=>l.length - (intOf t).toNat)
  case atStart=>exact⟨0,Nat.zero_le _,rfl,I,D⟩
  case round=>
    obtain⟨j,n,rfl,A,B⟩:=hrel;have Q:z≤wr.heap.size:=by have M:=A.size;have N:=F.out;omega
    by_cases hlt:j<l.length
    ·have o:(0:Int)≤(j:Int):=by omega
     have p:wr.cell? ⟨g,off+j,none⟩=some (.int .i32 (l[j]:Int)):=by
       have M:=(A.block g (qX G.out)).trans G.out;have N:=H.out j (.int .i32 (l[j]:Int)) (by unfold qy;rw[List.getElem?_map,List.getElem?_eq_getElem hlt];rfl);show World.cell? wr ⟨g,off+j,none⟩=_;unfold World.cell?;rw[M];exact N
     have J:Hid (EncIs l[j]):=hid (T.out _ (List.getElem_mem hlt));have K:=hid (bytesU_snoc l hlt);have f:=encU_len l[j];have Y:=Jz (l.take j);rw[List.length_take,Nat.min_eq_left yz] at Y;generalize l[j]=r at *
     go_wp2_with (first
       |(go_at_call 133;refine(J.out wr).mono ?_;rintro e c ⟨R,rfl⟩;have C:=hid R;clear R)
       |(go_at_call 82;refine(bwrite_any z z (jm (l.take j)) ⟨(encU r).toArray⟩ c (Qd B.out C.out) (by rw[Uh];omega) (qT Q C.size)).mono ?_;rintro e q ⟨rfl,M,N,_⟩;have U:=hid M;have V:=hid N
         clear M N))
     go_roundw
     case rel=>
       refine⟨j+1,by omega,by go_num,hid ?_,hid ?_⟩
       ·refine(A.trans (C.mono A.size)).trans ?_;rw[F.out];exact V.out
       ·rw[K.out];have:=U.out;rw[L_mk] at this;exact this
     case measure=>(simp [intOf])<;>omega
    ·have e:l.take j=l:=List.take_of_length_le yz;rw[e] at B
     go_wp2_with (first
       |(go_at_call 83;refine(Tryz.Builder_String_any_k z z _ wr B.out Q).mono ?_;rintro e s ⟨rfl,_,S,_⟩;have L:=hid S;clear S))
     go_ret2;refine⟨A.trans ?_,rfl⟩;rw[F.out];exact L.out
end
section
open Go.RowKit Go.Maps Go.Shelf
open Lib (hid)
def KpT(z:Nat)(W W':World):Prop:=Below z W W'∧(∀(k:Nat) (cur:Array Value) (t:TypeId) (fr:Nat×Nat),t≠5→k≠z→W.heap[k]?=some (.cells cur t fr)→W'.heap[k]?=some (.cells cur t fr))∧((∃cur fr,W.heap[z]?=some (.cells cur 171 fr))→∃cur fr,W'.heap[z]?=some (.cells cur 171 fr))
theorem KpT.trans{z:Nat}{A B C:World}(h:KpT z A B)(k:KpT z B C):KpT z A C:=⟨h.1.trans k.1,fun i D t E F G H=>k.2.1 i D t E F G (h.2.1 i D t E F G H),fun q=>k.2.2 (h.2.2 q)⟩
theorem KpT.book{z n:Nat}(hz:z≤n)(W:World)(l:Nat)(o o':Obj)(hl:n≤l)(h:W.heap[l]?=some o)(ho:o.isCells=false):KpT z W (W.putObj l o'):=by
  have D:=grownBy_putObj' W l o';have E:∀(k:Nat) (A:Array Value) (t:TypeId) (C:Nat×Nat),W.heap[k]?=some (.cells A t C)→(W.putObj l o').heap[k]?=some (.cells A t C):=fun k A t C B=>by
    refine(D.block k (qX B) fun e=>?_).trans B;cases e
    rw[h] at B;cases B
    cases ho
  exact⟨(Below.refl z W).grown D (by have:=(Array.getElem?_eq_some_iff.1 h).1;omega) (fun k e=>by cases e;omega),fun k A t C _ _ B=>E k A t C B,fun⟨A,C,B⟩=>⟨A,C,E _ _ _ _ B⟩⟩
section
variable {w w':World} {z B p:Nat} {v:Value} {rs:List zz}
theorem RunIn.keepT{r:zz}(h:RunIn w r)(hk:KpT z w w')(hz:∀A B,w.heap[z]?≠some (.cells A 21 B)):RunIn w' r:=by
  obtain⟨F,⟨g,C,D,A,B,G,H,I,E,J⟩,K⟩:=h;exact⟨F,⟨g,C,D,A,B,G,H,I,hk.2.1 g A _ B yv (fun e=>hz A B (e▸E)) E,J⟩,K⟩
theorem DocRows.keepT(h:DocRows w B p v rs)(hk:KpT z w w')(hz:∃A D,w.heap[z]?=some (.cells A 171 D)):DocRows w' B p v rs:=by
  obtain⟨K,L,C⟩:=hz;obtain⟨s,t,E⟩:=h.box;refine⟨⟨s,t,hk.2.1 p _ _ _ yv (jr E C yv) E⟩,h.low,fun r H=>(h.ins r H).keepT hk fun A D e=>?_,?_⟩
  ·rw[C] at e;injection e with e;injection e with _ e;exact absurd e yv
  ·refine⟨h.own.1,?_⟩;rcases h.own.2 with q|⟨g,F,A,I,J,G,r⟩
   ·exact .inl q
   ·exact .inr ⟨g,F,A,I,J,hk.2.1 g A _ _ yv (jr G C yv) G,r⟩
end
def vB(rs:List zz):List zz:=rs.filter fun r=> !r.2.2.2
theorem liveM_snoc{rs:List zz}{i:Nat}(hi:i<rs.length):vB (rs.take (i+1))=vB (rs.take i)++(if rs[i].2.2.2 then [] else [rs[i]]):=by
  unfold vB;rw[List.take_succ_eq_append_getElem hi,List.filter_append];cases h:rs[i].2.2.2<;>simp [h]
theorem liveM_len(rs:List zz)(i:Nat):(vB (rs.take i)).length≤i:=by
  have A:=List.length_filter_le (fun r:zz=> !r.2.2.2) (rs.take i);rw[List.length_take] at A;unfold vB;omega
theorem liveM_text(rs:List zz):(vB rs).flatMap (fun r=>jm r.2.2.1)=ue (rs.map kZ):=by
  unfold ue vB
  induction rs with
  |nil=>rfl
  |cons r rs ih=>
   rw[List.map_cons,List.flatMap_cons,←ih];have e:(kZ r).2.2=r.2.2.2:=rfl;have A:(kZ r).2.1=r.2.2.1:=rfl;rw[e,A];cases h:r.2.2.2<;>simp [h]
abbrev LiveS(rs:List zz):={x:Int×zz // x.2∈rs}
def liveA{rs:List zz}(x:LiveS rs):Array Value:=#[.int .i64 x.1.1,.agg (ja x.1.2).toArray]
def RunBox(W:World)(b:Nat)(r:zz):Prop:=W.heap[b]?=some (.cells (ja r).toArray 177 (0,0))
theorem run_info{r:zz}(h:(ja r).length=36):(prog.info? 177).map (·.size)=some (ja r).toArray.size:=by rw[List.size_toArray,h];exact zt
theorem livesIt_in(n:Nat)(hn:1≤n)(l B p z b:Nat)(v:Value)(rs:List zz)(N:Nat)(J Jx:List (LiveS rs)→World→Prop)
    (hY:∀pre x W,J pre W→pre.length<rs.length+1→YieldAt Fence.wide (n - 1) prog l (liveA x) W fun e W'=>(e=.returned (.bool true)∧J (pre++[x]) W'∧KpT z W W')∨(e=.returned (.bool false)∧Jx (pre++[x]) W'))
    (W:World) (hJ:AbidesFrom W.heap.size J) (hd:DocRows W B p v rs) (hb:W.heap[b]?=some (.cells [.pointer (some ⟨p,0,none⟩)].toArray 92 (0,0))) (hz:∃O a,W.heap[z]?=some (.cells O 171 a)) (hl:rs.length≤1099511627776) (h0:J [] W):
    CallsIn Fence.wide n prog 132 #[.func (.yield l) #[] #[],.pointer (some ⟨b,0,none⟩)] W fun e W'=>(∃v,e=.returned v)∧((∃G:List (LiveS rs),G.map (·.1.2)=vB rs∧J G W')∨(∃pre,True∧Jx pre W')):=by
  refine callsIn_of_wp func132 rfl trivial ?_ rfl;simp only[ntmps132,List.size_toArray,List.length_cons,List.length_nil,Nat.reduceAdd,Nat.reduceSub,Array.replicate_succ,Array.replicate_zero,List.push_toArray,List.append_toArray,List.nil_append,List.cons_append];have cb:W.cell? ⟨b,0,none⟩=some (.pointer (some ⟨p,0,none⟩)):=k4 hb 0;obtain⟨A,c,rfl⟩:=jd hd.own;have cp:W.cell? ⟨p,0,none⟩=some (.slice A rs.length c):=by
    obtain⟨s,t,A8⟩:=hd.box;exact k4 A8 0
  have HD:=hid hd;have HB:=hid hb;have HZ:=hid hz;have HJ:=hid hJ;have HY:=hid hY;have H0:=hid h0
  clear hd hb hz hJ hY h0
  gi_wp2
  gi_loopw [3,13] (fun t3 A0 wr=>∃(n0:Int) (i:Nat) (G:List (LiveS rs)),i≤rs.length∧t3=.int .i64 n0∧A0=.int .i64 (i:Int)∧Hid (G.map (·.1.2)=vB (rs.take i))∧Hid (DocRows wr B p (.slice A rs.length c) rs)∧Hid (∃O a,wr.heap[z]?=some (.cells O 171 a))∧Hid (J G wr))
    (fun _ A0 _=>rs.length - (intOf A0).toNat)
  case atStart=>exact⟨0,0,[],Nat.zero_le _,rfl,rfl,hid rfl,HD,HZ,H0⟩
  case round=>
    obtain⟨n0,i,G,hi,rfl,rfl,E,H,Q,R⟩:=hrel;by_cases hlt:i<rs.length
    ·have i0:(0:Int)≤(i:Int):=by omega
     have i1:(i:Int)<(rs.length:Int):=by omega
     obtain⟨g,c',A9,A1,Ah,Aa⟩:=H.row hlt;injection A9 with hA _ hc';subst hA hc';have F:=hid (H.ins _ (List.getElem_mem hlt));have I:=hid (List.getElem_mem hlt);have C:=hid (liveM_snoc hlt);have K:=hid A1;clear A1 Aa;have Ab:G.length<rs.length+1:=by
       have h1:=congrArg List.length E.out;rw[List.length_map] at h1;have:=liveM_len rs i;omega
     generalize rs[i]=r at *;have A2:=jD F.out;have L:=hid A2;obtain⟨gr,Ac,Ad,O,a,A4,Ai,Aj,_,_⟩:=F.2.1;obtain⟨_,_,_,p3,p4,_⟩:=J9 F.1;have P3:=hid (p3.trans (congrArg some A4));have P4:=hid p4
     clear p3 p4 A4;obtain⟨Y,g2,g3⟩:=Ut wr runZ.toArray (ja r).toArray 177;have A5:=fun (ρ:Operand→Value) (o:Oper) (x y:Operand) (ho:o.op=.store 177 x y) hx hy=>vA (P:=prog) (w:=wr.alloc (.cells runZ.toArray 177)) (ρ:=ρ) 177 x y ho wr.heap.size (ja r).toArray hx hy 177 runZ.toArray (heap_alloc_new _ _) (run_info A2) (by rw[List.size_toArray,List.size_toArray,A2];rfl) (by simpa using KX r F.2.1.one)
     generalize (wr.alloc (.cells runZ.toArray 177)).setRow wr.heap.size (ja r).toArray=w3 at *;have S:=hid A5;have G2:=hid g2
     have T:Hid (Below wr.heap.size wr w3):=hid ⟨Y.os,Y.tape,Y.output,Y.size,fun k hk=>Y.block k hk yq⟩;have U:=hid (HJ.out G wr w3 none R.out Y (fun r e=>by cases e));obtain⟨b5,A6⟩:∃x,wr.heap.size=x:=⟨_,rfl⟩;have d:=hid A6;have A7:w3.cell? ⟨wr.heap.size,35,none⟩=some (.bool r.2.2.2):=(k4 G2.out 35).trans P4.out;have f:=hid (show w3.rangeAt wr.heap.size 0 (ja r) from fun j u hj=>by rw[qZ];exact(k4 G2.out j).trans hj);have V:=hid (H.keep T.out);have M:Hid (∃O a,w3.heap[z]?=some (.cells O 171 a)):=hid (by
       obtain⟨cz,fz,Z⟩:=Q.out;exact⟨cz,fz,(T.block z (qX Z)).trans Z⟩)
     have m:=hid (show b5≠z from by
       obtain⟨cz,fz,Z⟩:=Q.out;have:=qX Z;omega)
     clear A5 Y g2 g3 A6;cases hdd:r.2.2.2
     ·rw[hdd] at A7;rw[hdd] at C;have D:Hid (vB (rs.take (i+1))=vB (rs.take i)++[r]):=hid C.out;clear hdd C;obtain⟨fn,Af,Ae,Ag,hy,hR⟩:=HY.out G ⟨(n0,r),I.out⟩ w3 U.out Ab;simp only[liveA] at hy
      gi_wp2_with (first
        |(refine Ja rfl (by intro c h;cases h) (by intro c h;cases h) (ldU L.out K.out) ?_)
        |(refine Jk rfl (by intro c h;cases h) (by intro c h;cases h) (S.out _ _ _ _ rfl rfl rfl) ?_)
        |(refine Ja rfl (by intro c h;cases h) (by intro c h;cases h) (ldU L.out f.out) ?_)
        |gi_in)
      refine hR.mono ?_;rintro e W4 (⟨rfl,hJ4,hk4⟩|⟨rfl,hJ4⟩)
      ·have A3:W4.heap[wr.heap.size]?=some (.cells (ja r).toArray 177 (0,0)):=hk4.2.1 _ _ _ _ yv (by rw[d.out];exact m.out) G2.out;have Ak:W4.cell? ⟨wr.heap.size,34,none⟩=some (.slice (some ⟨gr,Ac,none⟩) r.2.2.1.length Ad):=(k4 A3 34).trans P3.out;have X:=hid hk4;have q:=hid hJ4
       clear hk4 hJ4 A3
       gi_wp2
       go_roundw
       case rel=>
         refine⟨_,i+1,G++[⟨(n0,r),I.out⟩],by omega,rfl,by go_num,hid ?_,hid (V.keepT X.out M.out),hid (X.2.2 M.out),q⟩;rw[List.map_append,E.out,D.out];rfl
       case measure=>(simp [intOf])<;>omega
      ·gi_wp2
       refine bodyPost_ret (results_none rfl _ _ _) rfl ?_;exact⟨⟨_,rfl⟩,.inr ⟨_,trivial,hJ4⟩⟩
     ·rw[hdd] at A7;rw[hdd] at C;have D:Hid (vB (rs.take (i+1))=vB (rs.take i)++[]):=hid C.out;clear hdd C
      gi_wp2_with (first
        |(refine Ja rfl (by intro c h;cases h) (by intro c h;cases h) (ldU L.out K.out) ?_)
        |(refine Jk rfl (by intro c h;cases h) (by intro c h;cases h) (S.out _ _ _ _ rfl rfl rfl) ?_)
        |gi_in)
      go_roundw
      case rel=>
        refine⟨n0,i+1,G,by omega,rfl,by go_num,hid ?_,V,M,U⟩;rw[E.out,D.out,List.append_nil]
      case measure=>(simp [intOf])<;>omega
    ·gi_wp2
     go_end0
     exact⟨⟨_,rfl⟩,.inl ⟨G,by rw[E.out,List.take_of_length_le yz],R.out⟩⟩
attribute [local go_sem] Oper.semAt_some
theorem bld_own{rs:List zz}{z:Nat}(f:List (LiveS rs)→List UInt8):Own (fun (s:List (LiveS rs)) W=>Lib.IsBuilderF 171 5 z z (Lib.byteCells (f s)) W):=fun s X Y K G D E=>by
  have A:∀p,Lib.BuilderAtF 171 5 z z p (Lib.byteCells (f s)) X→Lib.BuilderAtF 171 5 z z p (Lib.byteCells (f s)) Y:=by
    rintro p ⟨a,v,c,d,g⟩;have H:=qX c;refine⟨a,v,(D.block z H fun e=>?_).trans c,d.kept D ?_,g⟩
    ·obtain⟨o,B,C⟩:=E z e.symm;rw[c] at B;cases B;cases C
    ·rcases d.2 with I|⟨J,L,M,N,rfl,O,F,_⟩
     ·exact .inl (by rw[I.1];rfl)
     ·refine .inr fun e=>?_
      obtain⟨o,B,C⟩:=E J (by simpa [Value.ownBlock] using e.symm);rw[F] at B;cases B;cases C
  rcases G with h|h
  ·exact .inl (A _ h)
  ·exact .inr (A _ h)
theorem texts_le{rs:List zz}(hs:∀r∈rs,r.2.2.1.length≤65536):∀pre:List (LiveS rs),(pre.flatMap fun x=>jm x.1.2.2.2.1).length≤pre.length*262144
  | []=>by simp
  |x::pre=>by
   have h1:=texts_le hs pre;have A:=Jz x.1.2.2.2.1;have B:=hs _ x.2;rw[List.flatMap_cons,List.length_append,List.length_cons];omega
theorem dtext_core(dp:Option Addr)(rs:List zz)(w:World)(hin:∀r∈rs,RunIn w r)(hE:∀r∈rs,∀u∈r.2.2.1,EncIs u)(hl:rs.length≤65536)(hs:∀r∈rs,r.2.2.1.length≤65536)
    (hq:∀(z bb:Nat) (W2:World),Below w.heap.size w W2→W2.heap[bb]?=some (.cells [.pointer dp].toArray 92 (0,0))→(∃G a,W2.heap[z]?=some (.cells G 171 a))→SeqStopsK Fence.wide 3 prog 132 #[.pointer (some ⟨bb,0,none⟩)] (liveA (rs:=rs)) (KpT z) (fun xs=>xs.map (·.1.2)=vB rs) (fun _=>True) (rs.length+1) W2):
    Calls prog 36 #[.pointer dp] w fun e w'=>Below w.heap.size w w'∧e=.returned (.string ⟨(ue (rs.map kZ)).toArray⟩):=by
  refine(callsIn_wide (n:=4)).1 ?_;refine callsIn_of_wp_marks func36 rfl trivial ?_ rfl;simp only[ntmps36,List.size_toArray,List.length_cons,List.length_nil,Nat.reduceAdd,Nat.reduceSub,Array.replicate_succ,Array.replicate_zero,List.push_toArray,List.append_toArray,List.nil_append,List.cons_append];have J:=hid hin;have HE:=hid hE;have HQ:=hid hq
  have A5:Below w.heap.size w (w.alloc (.cells #[.pointer none,.slice none 0 0] 171)):=(Below.refl _ _).alloc (Nat.le_refl _) _;have A6:Lib.IsBuilderF 171 5 w.heap.size w.heap.size (Lib.byteCells []) (w.alloc (.cells #[.pointer none,.slice none 0 0] 171)):=Lib.IsBuilderF.of (Lib.fresh_isBuilder _ _ _);have L:=hid A5;have M:=hid A6
  clear hin hE A5 A6 hq
  gi_wp2
  refine⟨trivial,(callsIn_wide.2 (lives_any dp _)).mono ?_⟩;rintro e W2 ⟨A7,A8,rfl⟩;have B:=hid A7;have N:=hid A8
  clear A7 A8
  gi_wp2
  obtain⟨w1,A0⟩:∃x,w.alloc (.cells #[.pointer none,.slice none 0 0] 171)=x:=⟨_,rfl⟩;have Ai:w1.heap.size=w.heap.size+1:=by rw[←A0];simp
  rw[A0] at B N L M;clear A0;obtain⟨z,hz⟩:∃z,w.heap.size=z:=⟨_,rfl⟩;obtain⟨bb,A9⟩:∃z,w1.heap.size=z:=⟨_,rfl⟩;have i:=hid hz;have C:Hid (Below w.heap.size w W2):=hid (L.trans (B.mono L.size));have V:Hid (Lib.IsBuilderF 171 5 z z (Lib.byteCells []) W2):=hid (by rw[←hz];exact Qd M.out B.out);have Aj:z<W2.heap.size:=by have:=B.size;omega
  rw[A9] at N;rw[show w.heap.size+1=bb by omega,hz];clear Ai hz A9 M;have T:∀{W:World} {l:List UInt8},Lib.IsBuilderF 171 5 z z (Lib.byteCells l) W→∃G a,W.heap[z]?=some (.cells G 171 a):=fun h=>by
    rcases h with⟨_,v,I,_⟩|⟨_,v,I,_⟩<;>exact⟨_,_,I⟩
  have Ak:=enE func132 rfl;have Ag:=HQ.out z bb W2 C.out N.out (T V.out);have Al:∀{X Y:World},z≤X.heap.size→X.grownBy Y none→KpT z X Y:=fun {X Y} hx hg=>⟨(qB z X).grown hg hx (fun k e=>by cases e),fun k G t a _ _ I=>(hg.block k (qX I) yq).trans I,fun⟨G,a,I⟩=>⟨G,a,(hg.block z (qX I) yq).trans I⟩⟩
  refine wpIn_rangeFunc_ownH rfl yv (gf:=132) (lb:=#[.pointer (some ⟨bb,0,none⟩)]) rfl trivial (fun Ah w=>Ak w Ah) Ag KpT.trans (fun W l o o' hl h U _=>KpT.book (n:=W2.heap.size) (Nat.le_of_lt Aj) W l o o' hl h U) (qB _ _) (fun _=>rfl)
    (fun H W=>Lib.IsBuilderF 171 5 z z (Lib.byteCells (H.flatMap fun x=>jm x.1.2.2.2.1)) W∧Below w.heap.size w W)
    (fun _ _ _=>False)
    (OwnFrom.and (Own.from (bld_own (rs:=rs) (z:=z) (fun H=>H.flatMap fun x=>jm x.1.2.2.2.1)) _) (ownFrom_below (Nat.le_refl _) C.size))
    (fun _ _ _ _ _ hs _ _=>hs)
    ⟨V.out,C.out⟩
    (fun x a' W=>∃Bx,z<Bx∧RunBox W Bx x.1.2∧a'={ tmps:=#[.pointer dp,undef,.string ⟨#[]⟩,.pointer (some ⟨z,0,none⟩),undef,.pointer (some ⟨Bx,0,none⟩),undef,undef,.pointer dp,.func (.func 132) #[] #[.pointer (some ⟨bb,0,none⟩)],.int .i64 x.1.1,.agg (ja x.1.2).toArray,undef,undef,undef,undef,undef,undef,undef,undef,undef],defers:=[]})
    (fun x a' _ X Y An hs hg hr=>by
      obtain⟨Bx,h1,f,h3⟩:=hs;refine⟨Bx,h1,(hg.block Bx (qX f) fun e=>?_).trans f,h3⟩;obtain⟨o,U,I⟩:=(hr Bx e.symm).2;rw[show X.heap[Bx]?=_ from f] at U;cases U;cases I)
    ?assign ?body ?done ?stop
  case assign=>
    rintro l H x W K ⟨E,b⟩ hK;have Aa:=jD (J.out _ x.2);obtain⟨g,g2,g3⟩:=Ut W runZ.toArray (ja x.1.2).toArray 177;have Ab:=fun (ρ:Operand→Value) (o:Oper) (p y:Operand) (U:o.op=.store 177 p y) hx hy=>vA (P:=prog) (w:=W.alloc (.cells runZ.toArray 177)) (ρ:=ρ) 177 p y U W.heap.size (ja x.1.2).toArray hx hy 177 runZ.toArray (heap_alloc_new _ _) (run_info Aa) (by rw[List.size_toArray,List.size_toArray,Aa];rfl) (by simpa using KX x.1.2 (J.out _ x.2).2.1.one)
    have m:=hid Ab;obtain⟨cz,d,F⟩:=T E;have R:=qX F;clear Ab F;generalize (W.alloc (.cells runZ.toArray 177)).setRow W.heap.size (ja x.1.2).toArray=W3 at *;simp only[liveA]
    gi_wp2_with (first
      |(refine Jk rfl (by intro c h;cases h) (by intro c h;cases h) (m.out _ _ _ _ rfl rfl rfl) ?_)
      |gi_in)
    have Ac:Below W.heap.size W W3:=⟨g.os,g.tape,g.output,g.size,fun k S=>g.block k S yq⟩;exact hK _ _ ((KeepsOthers.of_grownBy g (fun j o e=>by cases e)).from _) (Al (Nat.le_of_lt R) g) ⟨Qd E Ac,b.trans (Ac.mono b.size)⟩ ⟨W.heap.size,R,g2,rfl⟩
  case body=>
    rintro l H x a' W Ao ⟨rr,hr⟩ ⟨E,b⟩ ⟨Bx,Ap,bX,rfl⟩ Aq;have O:=hid ((J.out _ x.2).keep (KeepR.below b));have q:=hid (HE.out _ x.2);obtain⟨gr,A1,A2,G,a,A3,Ar,As,_,_⟩:=O.2.1;obtain⟨_,_,_,p3,_,_⟩:=J9 O.1;have At:W.cell? ⟨Bx,34,none⟩=some (.slice (some ⟨gr,A1,none⟩) x.1.2.2.2.1.length A2):=(k4 bX 34).trans (p3.trans (congrArg some A3));have s:Hid (RuneAt W (.slice (some ⟨gr,A1,none⟩) x.1.2.2.2.1.length A2) x.1.2.2.2.1):=hid (by rw[←A3];exact O.2.1);have Q:=hid E;have Z:=hid b
    obtain⟨cz,d,F⟩:=T E;have R:=qX F;have Au:=hs _ x.2;have Av:=texts_le hs H;clear p3 A3 E b F
    gi_wp2
    refine⟨trivial,(callsIn_wide.2 (utext_any _ gr A1 A2 W s.out q.out yz)).mono ?_⟩;rintro e W5 ⟨Ad,rfl⟩;have A:=hid Ad;clear Ad
    gi_wp2
    refine⟨trivial,(callsIn_wide.2 (bwrite_any z z (H.flatMap fun x=>jm x.1.2.2.2.1) ⟨(jm x.1.2.2.2.1).toArray⟩ W5 (Qd Q.out A.out) (by rw[Uh];have:=Jz x.1.2.2.2.1;omega) (by have:=A.size;omega))).mono ?_⟩;rintro e W6 ⟨rfl,h1,f,h3⟩
    gi_wp2
    rw[L_mk] at h1;have Ae:∀k o,W.heap[k]?=some o→k≠z→(∀c d,o≠ .cells c 5 d)→W6.heap[k]?=some o:=fun k o S A4 I=>h3 k o ((A.block k (qX S)).trans S) (fun e=>A4 (Option.some.inj e)) I
    refine⟨⟨Nat.le_trans A.size f.size,fun k o _ S U=>Ae k o S (fun e=>?_) fun c d e=>by subst e;cases U⟩,⟨(A.mono (Nat.le_of_lt R)).trans f,fun k G t a ht A4 S=>Ae k _ S A4 fun c d e=>by injection e with _ e;exact ht e,fun _=>T h1⟩,?_,?_⟩
    ·subst e;obtain⟨cz,d,F⟩:=T Q.out;rw[F] at S;cases S
     cases U
    ·rw[List.flatMap_append]
     simpa using h1
    ·rw[i.out] at Z ⊢;exact Z.trans ((A.mono (Nat.le_of_lt R)).trans f)
  case done=>
    rintro D zs W hD hS ⟨E,b⟩ hK;obtain⟨cz,d,F⟩:=T E;have R:=qX F
    gi_wp2
    refine⟨trivial,(callsIn_wide.2 (Tryz.Builder_String_any_k z z _ W E (Nat.le_of_lt R))).mono ?_⟩;rintro e W7 ⟨rfl,_,Am,h7⟩;have Af:=h7 D _ hK (fun e=>by
      have:=Option.some.inj e;omega) fun c d e=>by cases e
    gi_wp2
    refine⟨by simp,.inl ⟨_,_,rfl,run_takeDeferred Af,?_⟩⟩;have et:(zs.flatMap fun x=>jm x.1.2.2.2.1)=ue (rs.map kZ):=by
      rw[←liveM_text,←hS,List.flatMap_map]
    refine⟨_,results_tmp rfl _ _ _,?_,?_⟩
    ·refine(b.trans ?_).trans (belowK_b (w:=w) (Nat.le_refl _) W7 D _ _ (by have:=C.size;omega) Af rfl rfl);rw[i.out];exact Am
    ·rw[←et];rfl
  case stop=>
    rintro D c H W _ _ h _;exact h.elim
theorem dtext_run(rs:List zz)(B p:Nat)(v:Value)(w:World)(h:DocRows w B p v rs)(hE:∀r∈rs,∀u∈r.2.2.1,EncIs u)(hl:rs.length≤65536)(hs:∀r∈rs,r.2.2.1.length≤65536):
    Calls prog 36 #[.pointer (some ⟨p,0,none⟩)] w fun e w'=>Below w.heap.size w w'∧e=.returned (.string ⟨(ue (rs.map kZ)).toArray⟩):=
  dtext_core (some ⟨p,0,none⟩) rs w h.ins hE hl hs fun z D O E F G l J Jx W C H N I K=>by
    obtain⟨L,M,A⟩:=G;exact livesIt_in 3 yv l B p z D v rs 0 J Jx I W H (h.keep (E.trans (C.mono E.size))) ((C.block D (qX F)).trans F) ⟨L,M,(C.block z (qX A)).trans A⟩ yz K
theorem QC(w:World):Calls prog 36 #[.pointer none] w fun e w'=>Below w.heap.size w w'∧e=.returned (.string ⟨#[]⟩):=
  dtext_core none [] w (fun r A=>by cases A) (fun r A=>by cases A) yv (fun r A=>by cases A) fun z B I K C L l J Jx W D M H N E=>callsIn_wide.2 ((livesIt_nil B (.func (.yield l) #[] #[]) W ((D.block B (qX C)).trans C)).mono fun e w' ⟨F,G⟩=>⟨⟨_,G⟩,.inl ⟨[],rfl,by rw[F];exact E⟩⟩)
end
section
open Go.RowKit Go.Maps
theorem qa(sp:Value)(p:ByteArray)(kk:kF)(hkk:(k8 kk).length=34)(dp:Option Addr)(n:Int)(tx:ByteArray)(w:World)
    (hf:Calls prog 40 #[sp,.string p] w fun e w'=>Below w.heap.size w w'∧e=.returned (.tuple #[.agg (k8 kk).toArray,.pointer dp,.int .i64 n]))
    (ht:∀u,Below w.heap.size w u→Calls prog 36 #[.pointer dp] u fun e w'=>Below u.heap.size u w'∧e=.returned (.string tx)):
    Calls prog 25 #[sp,.string p] w fun e w'=>Below w.heap.size w w'∧e=.returned (.tuple #[.string tx,.int .i64 n]):=by
  have M:=Lib.hid hf;have N:=Lib.hid ht;have E:=Lib.hid hkk
  clear hf ht hkk;go_enter func25,ntmps25
  go_wp2_with (first
    |(go_at_call 40;refine M.mono ?_;rintro e O ⟨H,rfl⟩;have A:=Lib.hid H;clear H)
    |(go_at_call 36;refine(N.out _ C.out).mono ?_;rintro e S ⟨I,rfl⟩;have F:=Lib.hid (C.trans (I.mono C.size));clear I)
    |(with_reducible refine kA ?_
      refine ks yx 89 rfl (k8 (0,k7,0)) (zq _) ?_;intro T J K P;have D:=Lib.hid (A.trans (J.mono A.size));have G:=Lib.hid K
      clear J K P)
    |(with_reducible refine kw ?_
      refine ko yx 89 _ _ rfl O.heap.size 0 [] (k8 (0,k7,0)) [] (k8 kk) 89 (.agg (k8 kk).toArray) rfl rfl rfl rfl (by simpa using G.out) (by rw[E.out];rfl) (by rw[E.out];kernel_rfl) (j4 _) ?_;intro U L Q R;have C:=Lib.hid (D.trans (L.below (B:=w.heap.size) D.size (fun k V e=>by have W:k=O.heap.size:=e;have:=A.size;omega)));clear L Q R))
  go_ret2;exact⟨F.out,rfl⟩
def QD(d:List kX):Prop:=d.length≤65536∧∀r∈d,r.2.1.length≤65536∧∀u∈r.2.1,EncIs u
theorem DocAt.text{w:World}{B p:Nat}{v:Value}{d:List kX}(h:DocAt w B p v d)(hd:QD d):
    Calls prog 36 #[.pointer (some ⟨p,0,none⟩)] w fun e w'=>Below w.heap.size w w'∧e=.returned (.string ⟨(ue d).toArray⟩):=by
  obtain⟨D,C,F,G⟩:=h.rows;have E:∀r∈D,r.2.2.1.length≤65536∧∀u∈r.2.2.1,EncIs u:=fun r A=>hd.2 (kZ r) (by rw[←C];exact List.mem_map_of_mem A)
  have:=dtext_run D B p v w ⟨h.box,h.low,F,G⟩ (fun r A=>(E r A).2) (by have:=hd.1;rw[←C,List.length_map] at this;exact this) (fun r A=>(E r A).1);rw[C] at this;exact this
def textAt(S:kz)(p:ByteArray):List UInt8:=match Ks S.2.1 (L p) with
  |none=>[]
  |some k=>ue ((jR S k).getD [])
def errAt(S:kz)(p:ByteArray):Int:=match Ks S.2.1 (L p) with
  |none=>4
  |some k=>0
theorem stext_any(B s:Nat)(S:kz)(q:j5)(p:ByteArray)(w:World)(h:StateAt w B s S q)(hl:S.2.1.length≤90)(hsm:∀x∈S.2.1,x.2.2.2.size≤1073741824)(hg:Glob w)(hk:kN ((Ks S.2.1 (L p)).getD zO))(hd:∀k d,Ks S.2.1 (L p)=some k→jR S k=some d→QD d):
    Calls prog 25 #[.pointer (some ⟨s,0,none⟩),.string p] w fun e w'=>Below w.heap.size w w'∧e=.returned (.tuple #[.string ⟨(textAt S p).toArray⟩,.int .i64 (errAt S p)]):=by
  have C:=sfind_any B s S q p w h hl hsm hg hk;unfold FindRes at C;unfold textAt errAt;obtain⟨o,E⟩:∃o,Ks S.2.1 (L p)=o:=⟨_,rfl⟩;rw[E] at hk C ⊢;cases o with
  |none=>exact qa _ p (0,k7,0) rfl none 4 _ w C fun u F=>QC u
  |some k=>
   obtain⟨D,A⟩:∃o,jR S k=o:=⟨_,rfl⟩;have G:U1 S q k=.pointer (D.map fun _=>⟨q.ptr k,0,none⟩):=by unfold U1;rw[A];cases D<;>rfl
   dsimp only at C;rw[G] at C;refine qa _ p k (k9 hk) _ 0 _ w C fun u F=>?_
   dsimp only;rw[A];cases D with
   |none=>exact QC u
   |some d=>exact((h.docs k d A).2.keep F).text (hd k d E A)
theorem stext_nil(p:ByteArray)(w:World):Calls prog 25 #[.pointer none,.string p] w fun e w'=>Below w.heap.size w w'∧e=.returned (.tuple #[.string ⟨#[]⟩,.int .i64 1]):=
  qa (.pointer none) p (0,k7,0) rfl none 1 _ w (find_nil p w) fun u A=>QC u
end
section
open Go.RowKit Go.Maps
open Lib (hid)
def jo(p:jC):List Value:=k8 p.1++([.int .i64 (p.2.1:Int)]++[.string ⟨p.2.2.toArray⟩])
def Jo(p:jC):Prop:=kN p.1∧0≤p.1.2.2∧p.1.2.2+(p.2.1:Int)≤2147483648
theorem Jl{p:jC}(h:Jo p):(jo p).length=36:=by simp [jo,k9 h.1]
theorem qb(p:jC):∀u∈jo p,u.oneCell'=true:=by
  intro u A;unfold jo at A;simp only[List.mem_append,List.mem_singleton] at A;rcases A with A|rfl|rfl
  ·exact j4 _ u A
  ·rfl
  ·rfl
theorem Uv:(prog.info? 102).map (·.size)=some 36:=by kernel_rfl
def PcAt(w:World)(B b:Nat)(l:List jC):Prop:=∃v,w.heap[b]?=some (.cells [v].toArray 99 (0,0))∧w.ownsRow B 102 36 v l.length (ke jo l)
theorem PcAt.keep{w w':World}{B b:Nat}{l:List jC}(h:PcAt w B b l)(hb:Below w.heap.size w w'):PcAt w' B b l:=by
  obtain⟨v,A,C⟩:=h;exact⟨v,(hb.block b (qX A)).trans A,(But.of_below (X:=NoB) hb).own C fun _ _ q=>q⟩
theorem zW{α:Type}(enc:α→List Value)(l:List α)(x:α):ke enc (l++[x])=ke enc l++enc x:=by simp [ke]
theorem piece_last{w:World}{B:Nat}{l:List jC}{q:jC}{v:Value}(h:w.ownsRow B 102 36 v (l++[q]).length (ke jo (l++[q])))(hl:∀x∈l++[q],Jo x):
    ∃g c A,v=.slice (some ⟨g,0,none⟩) (l.length+1) c∧B≤g∧w.heap[g]?=some (.cells (ke jo l++(k8 q.1++([Value.int .i64 (q.2.1:Int)]++([Value.string ⟨q.2.2.toArray⟩]++A)))).toArray 102 (0,0))∧l.length+1≤c∧c≤maxLen∧A.length=(c - (l.length+1))*36∧(ke jo l).length=l.length*36∧(k8 q.1).length=34:=by
  obtain⟨g,c,A,C,F,G,D,H,E⟩:=KJ h yq;rw[List.length_append,List.length_singleton] at C D E;refine⟨g,c,A,C,F,?_,D,H,E,jc fun x I=>Jl (hl x (List.mem_append_left _ I)),k9 (hl q yq).1⟩;rw[G,zW];simp [jo]
theorem Qe{P:Program}{ρ:Operand→Value}{o:Oper}{w:World}(x y:Operand)(t':TypeId)(ho:o.op=.binOp .sub 3 x y t'){m n r:Int}(hx:ρ x=.int .i64 m)(hy:ρ y=.int .i64 n)(hr:IntKind.i64.wrap (m - n)=r):(execOp ρ o).run P w=.ok (.value (.int .i64 r)) w:=by
  subst hr;unfold execOp;simp only[ho,hx,hy];rfl
theorem follows_any(l:List jC)(k:kF)(B b:Nat)(w:World)(h:PcAt w B b l)(hk:kN k)(hl:∀x∈l,Jo x)(hn:l.length≤1099511627776):
    Calls prog 88 #[.agg (k8 k).toArray,.pointer (some ⟨b,0,none⟩)] w fun e w'=>Below w.heap.size w w'∧e=.returned (.bool (KK l k)):=by
  obtain⟨v,Y,f⟩:=h;have E:=hid Y;have N:=hid f;have S:=hid hk;have O:=hid hl
  have Z:=k9 hk;clear Y f hk hl;rcases List.eq_nil_or_concat l with rfl|⟨l,q,rfl⟩
  ·have hv:∃A c,v=.slice A 0 c:=jd N.out;obtain⟨A,c,rfl⟩:=hv;go_enter func88,ntmps88
   go_upto_region 1 with (first
     |(with_reducible refine kB ?_
       refine kr yx 89 _ rfl (k8 k) _ rfl rfl (by rw[Z];kernel_rfl) ?_;intro F M R W;have D:=hid M;clear M R W))
   have H:=hid (show ∀u:World,Below F.heap.size F u→u.cell? ⟨b,0,none⟩=some (.slice A 0 c) from fun u Q=>(Q.cell (p:=⟨b,0,none⟩) (qL (qX E.out) D.size)).trans ((D.cell (p:=⟨b,0,none⟩) (qX E.out)).trans (k4 E.out 0)));refine rN 23 (fun u=>Below F.heap.size F u) (qD _ _) fun G=>?_
   refine tl 0 (.slice A 0 c) rfl G (fun w' C=>l1 underlying99 (H.out w' C)) ?_;go_frame;refine tk 1 (.int .i64 0) rfl (fun w' C=>un 99 _ rfl rfl underlying99) ?_;go_frame;refine tk 2 (.bool false) rfl (fun w' C=>uu _ _ _ rfl rfl rfl yv) ?_;go_frame;refine tw 3 (.bool false) ?_;go_frame;refine tn 4 ?_;go_frame;refine tn 5 ?_;go_frame;refine tn 6 ?_;go_frame;refine tn 7 ?_;go_frame;refine tn 8 ?_;go_frame;refine tn 9 ?_;go_frame;refine tn 10 ?_;go_frame;refine tn 11 ?_;go_frame;refine tn 12 ?_;go_frame;refine tn 13 ?_;go_frame;refine tn 14 ?_;go_frame;refine tn 15 ?_;go_frame;refine tn 16 ?_;go_frame;refine tn 17 ?_;go_frame;refine tn 18 ?_;go_frame;refine tn 19 ?_;go_frame;refine tn 20 ?_;go_frame;refine tw 21 (.bool false) ?_;go_frame;refine tw 22 (.bool false) ?_;go_frame;refine ku yy ?_ _;go_wp2_with fail;go_ret;exact⟨D.trans ((qD F.heap.size F).mono D.size),rfl⟩
  ·rw[List.concat_eq_append] at N O hn ⊢;obtain⟨g,c,A0,rfl,hB,i,hc,hm,ht,A1,A2⟩:=piece_last N.out O.out;have P:=hid i;have I:=hid (O.out q yq);have m:=I.2.1;have o:=I.2.2;rw[List.length_append,List.length_singleton] at hn;have d:Hid (KK (l++[q]) k=decide (JM q.1 (q.2.1:Int)=k)):=hid (by unfold KK;rw[List.getLast?_concat]);have T:Hid (kN (JM q.1 (q.2.1:Int))):=hid (laterD_ok I.1 m o);have U:=hid (fun w=>later_any q.1 (q.2.1:Int) w I.1 (by unfold Ix;omega) (by unfold Ix;omega));have r:=enE func89 rfl;have s:IntKind.i64.wrap (((l.length+1:Nat):Int) - 1)=(l.length:Int):=by rw[IntWalk.i64_in _ yz];omega
   clear i ht hB;go_enter func88,ntmps88
   go_upto_region 1 with (first
     |(with_reducible refine kB ?_
       refine kr yx 89 _ rfl (k8 k) _ rfl rfl (by rw[Z];kernel_rfl) ?_;intro F M R W;have D:=hid M;have J:=hid R
       clear M R W))
   obtain⟨t,y⟩:∃x,w.heap.size=x:=⟨_,rfl⟩;rw[y] at J ⊢;have H:=hid (show ∀u:World,Below F.heap.size F u→u.cell? ⟨b,0,none⟩=some (.slice (some ⟨g,0,none⟩) (l.length+1) c) from fun u Q=>(Q.cell (p:=⟨b,0,none⟩) (qL (qX E.out) D.size)).trans ((D.cell (p:=⟨b,0,none⟩) (qX E.out)).trans (k4 E.out 0)));have K:=hid (show ∀u:World,Below F.heap.size F u→u.rangeAt g (0+l.length*36+0) (k8 q.1)∧u.cell? ⟨g,0+l.length*36+34,none⟩=some (.int .i64 (q.2.1:Int)) from fun u Q=>by
     have z:=(Q.block g (qL (qX P.out) D.size)).trans ((D.block g (qX P.out)).trans P.out);refine⟨fun j x X=>(k4 z _).trans ?_,(k4 z _).trans ?_⟩
     ·rw[List.getElem?_append_right yz,List.getElem?_append_left (by have:=(List.getElem?_eq_some_iff.1 X).1;omega)];rw[←X]
      congr 1
      omega
     ·rw[List.getElem?_append_right yz,List.getElem?_append_right yz];rw[show 0+l.length*36+34 - (ke jo l).length - (k8 q.1).length=0 by omega];rfl)
   have V:=hid (show ∀u:World,Below F.heap.size F u→u.rangeAt t 0 (k8 k) from fun u Q j x X=>by rw[qZ];exact(k4 ((Q.block t (qX J.out)).trans J.out) j).trans X);refine rN 23 (fun u=>Below F.heap.size F u) (qD _ _) fun G=>?_
   refine tl 0 (.slice (some ⟨g,0,none⟩) (l.length+1) c) rfl G (fun w' C=>l1 underlying99 (H.out w' C)) ?_;go_frame;refine tk 1 (.int .i64 ((l.length+1:Nat):Int)) rfl (fun w' C=>un 99 _ rfl rfl underlying99) ?_;go_frame;refine tk 2 (.bool true) rfl (fun w' C=>uu _ _ _ rfl rfl rfl (dT yz)) ?_;go_frame;refine tw 3 (.bool true) ?_;go_frame;refine tl 4 (.slice (some ⟨g,0,none⟩) (l.length+1) c) rfl G (fun w' C=>l1 underlying99 (H.out w' C)) ?_;go_frame;refine tl 5 (.slice (some ⟨g,0,none⟩) (l.length+1) c) rfl G (fun w' C=>l1 underlying99 (H.out w' C)) ?_;go_frame;refine tk 6 (.int .i64 ((l.length+1:Nat):Int)) rfl (fun w' C=>un 99 _ rfl rfl underlying99) ?_;go_frame;refine tk 7 (.int .i64 (l.length:Int)) rfl (fun w' C=>Qe _ _ _ rfl rfl rfl s) ?_;go_frame;refine tk 8 (.pointer (some ⟨g,0+l.length*36,none⟩)) rfl (fun w' C=>Kc 99 _ _ rfl (b:=g) (off:=0) (q:=l.length) (n:=l.length+1) (c:=c) rfl rfl yz underlying99 Uv) ?_;go_frame;refine tw 9 (.pointer (some ⟨g,0+l.length*36+0,none⟩)) ?_;go_frame;refine tl 10 (.agg (k8 q.1).toArray) rfl G (fun w' C=>ldK I.1 (K.out w' C).1) ?_;go_frame;refine tl 11 (.slice (some ⟨g,0,none⟩) (l.length+1) c) rfl G (fun w' C=>l1 underlying99 (H.out w' C)) ?_;go_frame;refine tl 12 (.slice (some ⟨g,0,none⟩) (l.length+1) c) rfl G (fun w' C=>l1 underlying99 (H.out w' C)) ?_;go_frame;refine tk 13 (.int .i64 ((l.length+1:Nat):Int)) rfl (fun w' C=>un 99 _ rfl rfl underlying99) ?_;go_frame;refine tk 14 (.int .i64 (l.length:Int)) rfl (fun w' C=>Qe _ _ _ rfl rfl rfl s) ?_;go_frame;refine tk 15 (.pointer (some ⟨g,0+l.length*36,none⟩)) rfl (fun w' C=>Kc 99 _ _ rfl (b:=g) (off:=0) (q:=l.length) (n:=l.length+1) (c:=c) rfl rfl yz underlying99 Uv) ?_;go_frame;refine tw 16 (.pointer (some ⟨g,0+l.length*36+34,none⟩)) ?_;go_frame;refine tl 17 (.int .i64 (q.2.1:Int)) rfl G (fun w' C=>l1 underlying3 (K.out w' C).2) ?_;go_frame;refine tl 19 (.agg (k8 k).toArray) rfl G (fun w' C=>ldK S.out (V.out w' C)) ?_;go_frame;refine ta 18 ?_;refine tc #[.agg (k8 q.1).toArray,.int .i64 (q.2.1:Int)] r rfl ?_;refine(U.out _).mono ?_;rintro e u3 ⟨a,rfl⟩;have L:=hid ((qD F.heap.size F).trans (a.mono (qD F.heap.size F).size));clear a;refine⟨_,rfl,fun _ _=>L.out,?_⟩;go_frame;refine tk 20 (.bool (decide (JM q.1 (q.2.1:Int)=k))) rfl (fun w' C=>zS 89 _ _ _ rfl rfl rfl eqKey.noGuard (Qk T.out S.out _)) ?_;go_frame;refine tw 21 (.bool (decide (JM q.1 (q.2.1:Int)=k))) ?_;go_frame;refine tw 22 (.bool (decide (JM q.1 (q.2.1:Int)=k))) ?_;go_frame;refine ku yy ?_ _;go_wp2_with fail;go_ret;exact⟨D.trans (L.mono D.size),by rw[d.out];rfl⟩
theorem textP_mem{l:List jC}{x:jC}(h:x∈l):x.2.2.length≤(KC l).length:=by
  unfold KC
  induction l with
  |nil=>cases h
  |cons y l ih=>
   rw[List.flatMap_cons,List.length_append];rcases List.mem_cons.1 h with rfl|h
   ·omega
   ·have:=ih h;omega
def PcOk(st:List jC×Bool)(i:Nat):Prop:=(∀x∈st.1,Jo x)∧st.1.length≤i∧(KC st.1).length≤i*262144
theorem PcOk.step{st:List jC×Bool}{i:Nat}{r:kX}(h:PcOk st i)(hk:kN r.1)(h1:0≤r.1.2.2)(h2:r.1.2.2+(r.2.1.length:Int)≤2147483648)(hl:r.2.1.length≤65536):PcOk (Kz st r) (i+1):=by
  obtain⟨C,K,G⟩:=h;have L:=Jz r.2.1;have H:(KC (Kz st r).1).length≤(i+1)*262144:=by
    rw[textP_step,List.length_append,Nat.succ_mul];have I:(if r.2.2 then [] else jm r.2.1).length≤(jm r.2.1).length:=by
      split
      ·exact Nat.zero_le _
      ·exact Nat.le_refl _
    have J:(jm r.2.1).length≤262144:=by omega
    exact Nat.add_le_add G (Nat.le_trans I J)
  refine⟨?_,?_,H⟩
  ·unfold Kz
   split
   ·exact C
   ·split
    ·rename_i E;simp only[Bool.and_eq_true] at E;have B:=E.2;unfold KK at B;unfold UK;cases hl2:st.1.getLast? with
     |none=>rw[hl2] at B;cases B
     |some p=>
      rw[hl2] at B;have e:=of_decide_eq_true B;have D:=JA hl2;have F:=C p (by rw[D];simp);intro x A;rcases List.mem_append.1 A with A|A
      ·exact C x (by rw[D];exact List.mem_append_left _ A)
      ·rw[List.mem_singleton] at A;subst A;have M:p.1.2.2+(p.2.1:Int)=r.1.2.2:=congrArg (fun k:kF=>k.2.2) e;refine⟨F.1,F.2.1,?_⟩;show p.1.2.2+((p.2.1+r.2.1.length:Nat):Int)≤2147483648;omega
    ·intro x A;rcases List.mem_append.1 A with A|A
     ·exact C x A
     ·rw[List.mem_singleton] at A;subst A;exact⟨hk,h1,h2⟩
  ·unfold Kz
   split
   ·show st.1.length≤i+1;omega
   ·split
    ·unfold UK;cases hl2:st.1.getLast? with
     |none=>show st.1.length≤i+1;omega
     |some p=>
      have D:=congrArg List.length (JA hl2);rw[List.length_append,List.length_singleton] at D;simp only[List.length_append,List.length_singleton];omega
    ·simp only[List.length_append,List.length_singleton];omega
def pcSt(rs:List zz)(i:Nat):List jC×Bool:=((rs.take i).map kZ).foldl Kz ([],true)
theorem pcSt_next{rs:List zz}{i:Nat}(hi:i<rs.length):pcSt rs (i+1)=Kz (pcSt rs i) (kZ rs[i]):=by
  unfold pcSt;rw[List.take_succ_eq_append_getElem hi,List.map_append,List.foldl_append];rfl
def pieceZ:List Value:=k8 (0,k7,0)++([Value.int .i64 0]++[Value.string kM])
theorem uf:(prog.info? 102).map (fun i=>(i.zero,i.size,i.bytes))=some (some (.agg pieceZ.toArray),36,72):=by kernel_rfl
theorem piece_built(k:kF)(hk:kN k)(n:Nat)(s:List UInt8)(w:World):(Instr.build 102 #[(0,.agg (k8 k).toArray),(1,.int .i64 (n:Int)),(2,.string ⟨s.toArray⟩)]).run prog w=.ok (.agg (jo (k,n,s)).toArray) w:=by
  obtain⟨j,B,C,_,_⟩:=info_parts uf;have h:=zl (P:=prog) B underlying102 C [k8 (0,k7,0),[.int .i64 0],[.string kM]] rfl (places:=[(0,34),(34,1),(35,1)]) yy yy [(0,.agg (k8 k).toArray),(1,.int .i64 (n:Int)),(2,.string ⟨s.toArray⟩)] (by
    intro q A;simp only[List.mem_cons,List.not_mem_nil,or_false] at A;rcases A with rfl|rfl|rfl
    ·exact⟨by show 0<3;omega,by show (k8 k).toArray.size=34;rw[List.size_toArray,k9 hk]⟩
    ·exact⟨by show 1<3;omega,rfl⟩
    ·exact⟨by show 2<3;omega,rfl⟩)
  have D:=run_build (P:=prog) w 102 #[(0,.agg (k8 k).toArray),(1,.int .i64 (n:Int)),(2,.string ⟨s.toArray⟩)] _ h;refine D.trans ?_;simp [jo,Value.cells]
theorem ex_addS{P:Program}{ρ:Operand→Value}{o:Oper}{w:World}(t t':TypeId)(x y:Operand)(ho:o.op=.binOp .add t x y t'){a b:ByteArray}(hx:ρ x=.string a)(hy:ρ y=.string b)(hz:a.size+b.size≤9223372036854775807):(execOp ρ o).run P w=.ok (.value (.string (a++b))) w:=by
  unfold execOp;simp [ho,hx,hy,binOp,Result.andThen,eqGuard,Op.stringOp,IntKind.max,IntKind.signed,IntKind.bits];rw[if_neg yz]
theorem ex_addI{P:Program}{ρ:Operand→Value}{o:Oper}{w:World}(x y:Operand)(t':TypeId)(ho:o.op=.binOp .add 3 x y t'){m n r:Int}(hx:ρ x=.int .i64 m)(hy:ρ y=.int .i64 n)(hr:IntKind.i64.wrap (m+n)=r):(execOp ρ o).run P w=.ok (.value (.int .i64 r)) w:=by
  subst hr;unfold execOp;simp only[ho,hx,hy];rfl
theorem str_app(a b:List UInt8):(⟨a.toArray⟩:ByteArray)++(⟨b.toArray⟩:ByteArray)=⟨(a++b).toArray⟩:=by
  apply ByteArray.ext;rw[ByteArray.data_append];simp
theorem pieces_run(rs:List zz)(B p:Nat)(v:Value)(w:World)(h:DocRows w B p v rs)(hix:RunIx (rs.map kZ))(hE:∀r∈rs,∀u∈r.2.2.1,EncIs u)(hl:rs.length≤65536)(hs:∀r∈rs,r.2.2.1.length≤65536):
    Calls prog 41 #[.pointer (some ⟨p,0,none⟩)] w fun e w'=>∃v',e=.returned v'∧w'.ownsRow w.heap.size 102 36 v' (Ki (rs.map kZ)).length (ke jo (Ki (rs.map kZ)))∧(∀x∈Ki (rs.map kZ),Jo x)∧Below w.heap.size w w':=by
  have BC:∀(fn:Fn) (first z:Array Value) (w:World),(Instr.makeFunc fn first z).run prog w=.ok (.func fn first z) w:=fun _ _ _ _=>rfl
  have HD:=hid h;have HE:=hid hE;have AI:=hid hix;have HS:=hid hs
  have Bo:=h.lt;obtain⟨A,c,rfl⟩:=jd h.own;have c0:w.cell? ⟨p,0,none⟩=some (.slice A rs.length c):=by
    obtain⟨s,t,hb⟩:=h.box;exact k4 hb 0
  clear h hE hix hs;go_enter func41,ntmps41
  go_upto_region 6 with fail
  obtain⟨H,AU⟩:∃x,w.heap.size=x:=⟨_,rfl⟩;have M:=hid AU;have AV:Below w.heap.size w (w.alloc (.cells #[.slice none 0 0] 99)):=(qB _ _).alloc (qR _) _;have Ab:PcAt (w.alloc (.cells #[.slice none 0 0] 99)) H H []:=⟨.slice none 0 0,by rw[←AU];exact heap_alloc_new _ _,World.ownsRow_nil _ _ _ _⟩;have c1:=(AV.cell (p:=⟨p,0,none⟩) Bo).trans c0;have AJ:=hid AV;have AK:=hid Ab
  clear AV Ab c0;rw[AU];generalize w.alloc (.cells #[.slice none 0 0] 99)=W1 at *
  go_upto_region 7 with fail
  go_loopw [5,19] (fun t5 t19 wr=>∃i:Nat,i≤rs.length∧t5=.bool (pcSt rs i).2∧t19=.int .i64 (i:Int)∧Hid (Below w.heap.size w wr)∧Hid (PcAt wr H H (pcSt rs i).1)∧Hid (PcOk (pcSt rs i) i)) (fun _ t19 _=>rs.length - (intOf t19).toNat)
  case atStart=>exact⟨0,Nat.zero_le _,rfl,rfl,AJ,AK,hid ⟨fun x hx=>(by cases hx),Nat.le_refl _,(by show (KC []).length≤_;simp [KC])⟩⟩
  case round=>
    obtain⟨i,hi,rfl,rfl,f,Au,I⟩:=hrel;by_cases hlt2:i<rs.length
    ·have BD:(i:Int)<(rs.length:Int):=by omega
     have i0:(0:Int)≤(i:Int):=by omega
     obtain⟨g,c',Bp,AW,Bq,Br⟩:=HD.row hlt2;injection Bp with hA _ hc';subst hA hc';have D:=hid (pcSt_next hlt2);have K:=hid (HD.ins _ (List.getElem_mem hlt2));have a:=hid (AI.out (kZ rs[i]) (List.mem_map_of_mem (List.getElem_mem hlt2)));have Ae:Hid (rs[i].2.2.1.length≤65536):=hid (HS.out _ (List.getElem_mem hlt2));have AL:=hid (HE.out _ (List.getElem_mem hlt2));have Af:=hid (show wr.rangeAt g (i*36) (ja rs[i]) from fun j u hj=>(f.cell (p:=⟨g,i*36+j,none⟩) Bq).trans (AW j u hj));clear AW Br;generalize rs[i]=r at *;have F:Hid (PcOk (Kz (pcSt rs i) (kZ r)) (i+1)):=hid (I.step K.1 a.1 a.2 Ae.out);generalize pcSt rs i=st at *;have B8:=jD K.out;have Ag:=hid B8;have AM:=hid (KX r K.2.1.one);have Av:=hid (K.keep (KeepR.below (f.mono (Nat.le_refl _))));obtain⟨gr,Am,z,BE,fr,AX,BF,BG,_,_⟩:=K.2.1;obtain⟨_,_,_,p3,p4,p5⟩:=J9 K.1;have P3:=hid (p3.trans (congrArg some AX));have P4:=hid p4;have P5:=hid p5
     have AN:=hid AX;clear p3 p4 p5 AX B8
     go_upto_region 9 with (first
       |(with_reducible refine k6 ?_
         refine j9 rfl 177 _ rfl g _ rfl (ja r) _ Af.out underlying177 rfl (by rw[Ag.out];exact zt) ?_)
       |(with_reducible refine kA ?_
         refine ks yx 177 rfl runZ (Zu _) ?_;intro W6 B9 Ba Bb;have Aw:=hid B9;have Ax:=hid Ba;have Ay:=hid Bb
         clear B9 Ba Bb)
       |(with_reducible refine kw ?_
         refine ko yx 177 _ _ rfl wr.heap.size 0 [] runZ [] (ja r) 177 _ rfl rfl rfl rfl (by simpa using Ax.out) (by rw[Ag.out];rfl) (by rw[Ag.out];exact zt) AM.out ?_;intro W7 Ar Bc Bs;have Az:=hid Ar;have b:Hid (W7.heap[wr.heap.size]?=some (.cells (ja r).toArray 177 (0,0))):=hid (by simpa using Bc);clear Ar Bc Bs))
     have A0:Hid (Below wr.heap.size wr W7):=hid (Aw.trans (Az.below (by have:=Ay.out;omega) (fun k hk e=>by omega)));obtain⟨b7,Ar⟩:∃x,wr.heap.size=x:=⟨_,rfl⟩;rw[Ar] at b ⊢;have Bl:=hid Ar;have A2:Hid (Below w.heap.size w W7):=hid (f.trans (A0.mono f.size));have A3:=hid (Au.keep A0.out);have AA:=hid (Av.keep (KeepR.below A0.out));have AY:W7.cell? ⟨b7,35,none⟩=some (.bool r.2.2.2):=(k4 b.out 35).trans P4.out;clear Aw Ax Ay Az Af Av Ar;cases hdd:r.2.2.2
     ·rw[hdd] at AY;have Ah:=hid hdd;have AZ:W7.cell? ⟨b7,34,none⟩=some (.slice (some ⟨gr,Am,none⟩) r.2.2.1.length z):=(k4 b.out 34).trans P3.out;have AB:Hid (RuneAt W7 (.slice (some ⟨gr,Am,none⟩) r.2.2.1.length z) r.2.2.1):=hid (by rw[←AN.out];exact AA.2.1);clear hdd
      go_upto_region 12 with (first
        |(go_at_call 81;refine(utext_any _ gr Am z W7 AB.out AL.out (by have:=Ae.out;omega)).mono ?_;rintro e W8 ⟨Bd,rfl⟩;have A5:=hid Bd;clear Bd))
      clear AZ AY;have O:Hid (Below w.heap.size w W8):=hid (A2.trans (A5.mono A2.size));have P:=hid (A3.keep A5.out);have R:=hid ((A5.block b7 (qX b.out)).trans b.out);have S:=hid (show W8.rangeAt b7 0 (k8 r.1) from fun j u hj=>(k4 R.out (0+j)).trans (P5.out j u hj));clear A3 b A5 AA AB;cases hbr:st.2
      ·have A6:=hid hbr;clear hbr;cases hfo:KK st.1 r.1
       ·have T:Hid (Kz st (kZ r)=(st.1++[(r.1,r.2.2.1.length,jm r.2.2.1)],false)):=hid (by
          unfold Kz;rw[if_neg (by show ¬r.2.2.2=true;rw[Ah.out];exact Bool.false_ne_true),if_neg (by show ¬(!st.2 && KK st.1 r.1)=true;rw[A6.out,hfo];exact Bool.false_ne_true)];rfl)
        have l:=hid hfo;clear hfo
        go_upto_region 15 with (first
          |(refine k5 yx (ldK K.1 S.out) ?_)
          |(go_at_call 88;refine(follows_any st.1 r.1 H H W8 P.out K.1 I.1 (by have:=I.2.1;omega)).mono ?_;rintro e G ⟨Ac,rfl⟩;rw[l.out];have U:=hid Ac;clear Ac))
        have L:Hid (Below w.heap.size w G):=hid (O.trans (U.mono O.size));have V:=hid (P.keep U.out);have Q:=hid ((U.block b7 (qX R.out)).trans R.out);have d:=hid (show G.rangeAt b7 0 (k8 r.1) from fun j u hj=>(k4 Q.out (0+j)).trans (P5.out j u hj));clear l;obtain⟨v9,W,Z⟩:=V.out;have C:=hid W;have J:=hid Z
        have B0:G.cell? ⟨H,0,none⟩=some v9:=k4 W 0;have AZ:G.cell? ⟨b7,34,none⟩=some (.slice (some ⟨gr,Am,none⟩) r.2.2.1.length z):=(k4 Q.out 34).trans P3.out;have Ai:Hid (Jo (r.1,r.2.2.1.length,jm r.2.2.1)):=hid ⟨K.1,a.1,a.2⟩;have AD:=Jl Ai.out;have Bt:=I.2.1;have N:=hid (show H≤G.heap.size by have:=L.size;have:=M.out;omega);have Aj:=hid (fun (u:World) (hu:Below G.heap.size G u)=>(But.of_below (X:=NoB) hu).own J.out fun _ _ q=>q);have Ak:=hid (show v9.ownBlock≠some H from fun e=>by
          obtain⟨cc,An⟩:=kE J.out e;exact jr An C.out yv rfl)
        obtain⟨A9,c9,B1⟩:=jd Z;clear W Z;subst B1
        go_wp2_with (first
          |(refine k5 yx (ldK K.1 d.out) ?_)
          |(with_reducible refine kJ ?_
            refine k5 yx (kj 102 _ rfl (by simp only[List.map_toArray,List.map_cons,List.map_nil];exact piece_built r.1 K.1 _ _ _)) ?_)
          |(refine jJ yx 99 _ rfl 102 underlying99 (.agg pieceZ.toArray) 36 72 uf rfl yv yv (jo (r.1,r.2.2.1.length,jm r.2.2.1)) AD rfl ?_)
          |(at_builtin;go_loud (refine KM yx _ _ 99 rfl H 102 (.agg pieceZ.toArray) 36 72 underlying99 uf rfl yv (.slice A9 st.1.length c9) st.1.length (ke jo st.1) rfl (Aj.out _ ((qB _ _).alloc (qR _) _)) ⟨G.heap.size,0,none⟩ 1 1 (jo (r.1,r.2.2.1.length,jm r.2.2.1)) rfl (by rw[AD]) (Km G _ _) (qb _) yk yz (by have:=N.out;simp;omega) ?_)
            intro v1 w1 Ao Ap B2;have m:=hid ((Ap.block H (by simpa using Nat.lt_succ_of_lt (qX C.out)) (fun e=>Ak.out e.symm)).trans ((heap_alloc_old G _ (qX C.out)).trans C.out));have n:=hid (((qB H G).alloc N.out _).grown Ap (by have:=N.out;simp;omega) fun k e=>(J.lt k e).1);have o:=hid Ao;obtain⟨A1,Aq,rfl⟩:=jd Ao;clear Ao Ap B2)
          |(with_reducible refine kw ?_
            refine ko yx 99 _ _ rfl H 0 [] [.slice A9 st.1.length c9] [] [.slice A1 (st.1.length+1) Aq] 99 (.slice A1 (st.1.length+1) Aq) rfl rfl rfl rfl m.out rfl yy (by intro u hu;rw[List.mem_singleton.1 hu];rfl) ?_;intro w2 AE AF Bu;have y:=hid AE;have Al:=hid AF
            clear AE AF))
        go_roundw
        case rel=>
          have B3:Below H w1 w2:=y.below (qT N.out n.size) (fun k hk e=>by omega);have Ab:PcAt w2 H H (st.1++[(r.1,r.2.2.1.length,jm r.2.2.1)]):=by
            refine⟨.slice A1 (st.1.length+1) Aq,by simpa using Al.out,?_⟩;rw[zW,List.length_append,List.length_singleton];refine y.own o.out fun k hk e=>?_
            obtain⟨cc,An⟩:=kE o.out hk;exact jr An m.out yv e
          rw[T.out] at D F;refine⟨i+1,by omega,by rw[D.out],by go_num,hid ?_,hid (by rw[D.out];exact Ab),hid (by rw[D.out];exact F.out)⟩;rw[M.out];have h9:=L.out;rw[M.out] at h9;exact h9.trans (n.trans B3)
        case measure=>(simp [intOf])<;>omega
       ·have T:Hid (Kz st (kZ r)=(UK st.1 r.2.2.1.length (jm r.2.2.1),false)):=hid (by
          unfold Kz;rw[if_neg (by show ¬r.2.2.2=true;rw[Ah.out];exact Bool.false_ne_true),if_pos (by show (!st.2 && KK st.1 r.1)=true;rw[A6.out,hfo];rfl)];rfl)
        have l:=hid hfo;clear hfo
        go_upto_region 13 with (first
          |(refine k5 yx (ldK K.1 S.out) ?_)
          |(go_at_call 88;refine(follows_any st.1 r.1 H H W8 P.out K.1 I.1 (by have:=I.2.1;omega)).mono ?_;rintro e G ⟨Ac,rfl⟩;rw[l.out];have U:=hid Ac;clear Ac))
        have L:Hid (Below w.heap.size w G):=hid (O.trans (U.mono O.size));have V:=hid (P.keep U.out);have Q:=hid ((U.block b7 (qX R.out)).trans R.out);have d:=hid (show G.rangeAt b7 0 (k8 r.1) from fun j u hj=>(k4 Q.out (0+j)).trans (P5.out j u hj));clear S;obtain⟨E,q,As⟩:∃E q,st.1=E++[q]:=by
          rcases List.eq_nil_or_concat st.1 with h0|⟨E,q,h0⟩
          ·have:=l.out;rw[h0] at this;cases this
          ·exact⟨E,q,by rw[h0,List.concat_eq_append]⟩
        have Bn:=hid As;have AO:Hid (UK st.1 r.2.2.1.length (jm r.2.2.1)=E++[(q.1,q.2.1+r.2.2.1.length,q.2.2++jm r.2.2.1)]):=hid (by
          unfold UK;rw[As,List.getLast?_concat,List.dropLast_concat])
        obtain⟨v9,W,Z⟩:=V.out;have Aa:=I.1;rw[As] at Z Aa;obtain⟨Y,c9,A8,rfl,Bv,Be,Bw,Bx,Bf,B4,B5⟩:=piece_last Z Aa;have C:=hid W;have A7:=hid Be;have A4:=hid Aa
        have AP:=hid Bf;have BH:=(Aa q yq).2.2;have BI:=(Aa q yq).2.1;have BJ:q.2.2.length≤i*262144:=Nat.le_trans (textP_mem (by rw[As];simp)) I.2.2;have BK:=Jz r.2.2.1;have BL:=Ae.out;have B0:G.cell? ⟨H,0,none⟩=some (.slice (some ⟨Y,0,none⟩) (E.length+1) c9):=k4 W 0;have BM:E.length≤65536:=by have:=I.2.1;rw[As,List.length_append,List.length_singleton] at this;omega
        have By:wrap64 ((E.length:Int)+1 - 1)=(E.length:Int):=by unfold wrap64;omega
        clear Z Aa Be Bf W As;have m0:(0:Int)≤(E.length:Int):=by omega
        have m1:(E.length:Int)<(E.length:Int)+1:=by omega
        go_upto_region 14 with fail
        clear B0 By;have AG:=hid (show ∀u:World,Below G.heap.size G u→u.cell? ⟨b7,34,none⟩=some (.slice (some ⟨gr,Am,none⟩) r.2.2.1.length z) from fun u hu=>(k4 ((hu.block b7 (qX Q.out)).trans Q.out) 34).trans P3.out);have AC:=hid (show ∀u:World,Below G.heap.size G u→u.cell? ⟨Y,E.length*36+34,none⟩=some (.int .i64 (q.2.1:Int))∧u.cell? ⟨Y,E.length*36+35,none⟩=some (.string ⟨q.2.2.toArray⟩) from fun u hu=>by
          have h2:=(hu.block Y (qX A7.out)).trans A7.out;refine⟨(k4 h2 _).trans ?_,(k4 h2 _).trans ?_⟩
          ·rw[List.getElem?_append_right yz,List.getElem?_append_right yz];rw[show E.length*36+34 - (ke jo E).length - (k8 q.1).length=0 by omega];rfl
          ·rw[List.getElem?_append_right yz,List.getElem?_append_right yz];rw[show E.length*36+35 - (ke jo E).length - (k8 q.1).length=1 by omega];rfl)
        have AH:Hid (G.heap[Y]?=some (.cells ((ke jo E++k8 q.1)++([Value.int .i64 (q.2.1:Int)]++([Value.string ⟨q.2.2.toArray⟩]++A8))).toArray 102 (0,0))):=hid (by rw[List.append_assoc];exact A7.out);have B6:(ke jo E++k8 q.1).length=E.length*36+34:=by rw[List.length_append,B4,B5]
        have Bm:IntKind.i64.wrap ((q.2.1:Int)+(r.2.2.1.length:Int))=((q.2.1+r.2.2.1.length:Nat):Int):=by rw[IntWalk.i64_in _ yz];omega
        refine rN 18 (fun u=>Below G.heap.size G u) (qD _ _) fun B7=>?_
        refine tw 0 (.pointer (some ⟨Y,E.length*36,none⟩)) ?_;go_frame;refine tw 1 (.pointer (some ⟨Y,E.length*36,none⟩)) ?_;go_frame;refine tw 2 (.pointer (some ⟨Y,E.length*36,none⟩)) ?_;go_frame;refine tw 3 (.pointer (some ⟨Y,E.length*36,none⟩)) ?_;go_frame;refine tw 4 (.pointer (some ⟨Y,E.length*36+34,none⟩)) ?_;go_frame;refine tl 5 (.int .i64 (q.2.1:Int)) rfl B7 (fun w' Ad=>l1 underlying3 (AC.out w' Ad).1) ?_;go_frame;refine tw 6 (.pointer (some ⟨b7,34,none⟩)) ?_;go_frame;refine tl 7 (.slice (some ⟨gr,Am,none⟩) r.2.2.1.length z) rfl B7 (fun w' Ad=>l1 underlying175 (AG.out w' Ad)) ?_;go_frame;refine tk 8 (.int .i64 (r.2.2.1.length:Int)) rfl (fun w' Ad=>un 175 _ rfl rfl underlying175) ?_;go_frame;refine tk 9 (.int .i64 ((q.2.1+r.2.2.1.length:Nat):Int)) rfl (fun w' Ad=>ex_addI _ _ _ rfl rfl rfl Bm) ?_;go_frame;refine tw 10 (.pointer (some ⟨Y,E.length*36,none⟩)) ?_;go_frame;refine tw 11 (.pointer (some ⟨Y,E.length*36,none⟩)) ?_;go_frame;refine tw 12 (.pointer (some ⟨Y,E.length*36+35,none⟩)) ?_;go_frame;refine tl 13 (.string ⟨q.2.2.toArray⟩) rfl B7 (fun w' Ad=>l1 underlying9 (AC.out w' Ad).2) ?_;go_frame;refine tw 14 (.string ⟨(jm r.2.2.1).toArray⟩) ?_;go_frame;refine tk 15 (.string ⟨(q.2.2++jm r.2.2.1).toArray⟩) rfl (fun w' Ad=>(ex_addS 9 _ _ _ rfl rfl rfl (by rw[Uh,Uh];omega)).trans (by rw[str_app])) ?_;go_frame;refine tw 16 (.pointer (some ⟨Y,E.length*36,none⟩)) ?_;go_frame;refine tw 17 (.pointer (some ⟨Y,E.length*36+34,none⟩)) ?_;go_frame;refine ta 18 ?_;refine kW _ rfl yy 3 _ _ rfl Y (E.length*36+34) (ke jo E++k8 q.1) [.int .i64 (q.2.1:Int)] ([Value.string ⟨q.2.2.toArray⟩]++A8) [.int .i64 ((q.2.1+r.2.2.1.length:Nat):Int)] 102 (.int .i64 ((q.2.1+r.2.2.1.length:Nat):Int)) rfl B6.symm rfl rfl AH.out rfl yy (by intro u hu;rw[List.mem_singleton.1 hu];rfl) ?_;intro WA Bg Bh Bz;have AQ:=hid Bg;have AR:Hid (WA.heap[Y]?=some (.cells ((ke jo E++k8 q.1++[Value.int .i64 ((q.2.1+r.2.2.1.length:Nat):Int)])++([Value.string ⟨q.2.2.toArray⟩]++A8)).toArray 102 (0,0))):=hid (by rw[Bh];simp);clear Bg Bh Bz;refine⟨fun h=>absurd h yv,?_⟩;go_frame;refine tw 19 (.pointer (some ⟨Y,E.length*36,none⟩)) ?_;go_frame;refine tw 20 (.pointer (some ⟨Y,E.length*36+35,none⟩)) ?_;go_frame;refine ta 21 ?_;refine kW _ rfl yy 9 _ _ rfl Y (E.length*36+35) (ke jo E++k8 q.1++[Value.int .i64 ((q.2.1+r.2.2.1.length:Nat):Int)]) [.string ⟨q.2.2.toArray⟩] A8 [.string ⟨(q.2.2++jm r.2.2.1).toArray⟩] 102 (.string ⟨(q.2.2++jm r.2.2.1).toArray⟩) rfl (by rw[List.length_append,B6];rfl) rfl rfl AR.out rfl yy (by intro u hu;rw[List.mem_singleton.1 hu];rfl) ?_;intro WC Bi Bj BA;have AS:=hid Bi;have AT:=hid Bj
        clear Bi Bj BA;refine⟨fun h=>absurd h yv,?_⟩;go_frame;refine ku yy ?_ _;go_wp2_with fail
        go_roundw
        case rel=>
          have Bk:But (fun k=>k=Y) G WC:=((But.refl _ G).drew.trans AQ.out fun k _ e=>e).trans AS.out fun k _ e=>e
          have BB:H≠Y:=jr C.out A7.out yv;have Ab:PcAt WC H H (E++[(q.1,q.2.1+r.2.2.1.length,q.2.2++jm r.2.2.1)]):=by
            refine⟨.slice (some ⟨Y,0,none⟩) (E.length+1) c9,(Bk.block H (qX C.out) BB).trans C.out,?_⟩;rw[List.length_append,List.length_singleton];refine qv (tail:=A8) ?_ Bv ?_ Bw Bx AP.out
            ·rw[zW,List.length_append,B4];simp [jo,B5];omega
            ·rw[AT.out,zW];simp [jo]
          rw[T.out] at D F;rw[AO.out] at D F;refine⟨i+1,by omega,by rw[D.out],by go_num,hid ?_,hid (by rw[D.out];exact Ab),hid (by rw[D.out];exact F.out)⟩;have h9:=L.out;rw[M.out] at h9 ⊢;exact h9.trans (Bk.below (by have:=h9.size;have:=M.out;omega) fun k hk e=>by
            subst e;omega)
        case measure=>(simp [intOf])<;>omega
      ·have A6:=hid hbr;have T:Hid (Kz st (kZ r)=(st.1++[(r.1,r.2.2.1.length,jm r.2.2.1)],false)):=hid (by
         unfold Kz;rw[if_neg (by show ¬r.2.2.2=true;rw[Ah.out];exact Bool.false_ne_true),if_neg (by show ¬(!st.2 && KK st.1 r.1)=true;rw[A6.out];exact Bool.false_ne_true)];rfl)
       clear hbr
       go_upto_region 15 with fail
       obtain⟨G,At⟩:∃x,W8=x:=⟨_,rfl⟩;have L:Hid (Below w.heap.size w G):=hid (by rw[←At];exact O.out);have V:Hid (PcAt G H H st.1):=hid (by rw[←At];exact P.out);have Q:Hid (G.heap[b7]?=some (.cells (ja r).toArray 177 (0,0))):=hid (by rw[←At];exact R.out);have d:Hid (G.rangeAt b7 0 (k8 r.1)):=hid (by rw[←At];exact S.out);rw[At];clear At S P O R;obtain⟨v9,W,Z⟩:=V.out;have C:=hid W;have J:=hid Z
       have B0:G.cell? ⟨H,0,none⟩=some v9:=k4 W 0;have AZ:G.cell? ⟨b7,34,none⟩=some (.slice (some ⟨gr,Am,none⟩) r.2.2.1.length z):=(k4 Q.out 34).trans P3.out;have Ai:Hid (Jo (r.1,r.2.2.1.length,jm r.2.2.1)):=hid ⟨K.1,a.1,a.2⟩;have AD:=Jl Ai.out;have Bt:=I.2.1;have N:=hid (show H≤G.heap.size by have:=L.size;have:=M.out;omega);have Aj:=hid (fun (u:World) (hu:Below G.heap.size G u)=>(But.of_below (X:=NoB) hu).own J.out fun _ _ q=>q);have Ak:=hid (show v9.ownBlock≠some H from fun e=>by
         obtain⟨cc,An⟩:=kE J.out e;exact jr An C.out yv rfl)
       obtain⟨A9,c9,B1⟩:=jd Z;clear W Z;subst B1
       go_wp2_with (first
         |(refine k5 yx (ldK K.1 d.out) ?_)
         |(with_reducible refine kJ ?_
           refine k5 yx (kj 102 _ rfl (by simp only[List.map_toArray,List.map_cons,List.map_nil];exact piece_built r.1 K.1 _ _ _)) ?_)
         |(refine jJ yx 99 _ rfl 102 underlying99 (.agg pieceZ.toArray) 36 72 uf rfl yv yv (jo (r.1,r.2.2.1.length,jm r.2.2.1)) AD rfl ?_)
         |(at_builtin;go_loud (refine KM yx _ _ 99 rfl H 102 (.agg pieceZ.toArray) 36 72 underlying99 uf rfl yv (.slice A9 st.1.length c9) st.1.length (ke jo st.1) rfl (Aj.out _ ((qB _ _).alloc (qR _) _)) ⟨G.heap.size,0,none⟩ 1 1 (jo (r.1,r.2.2.1.length,jm r.2.2.1)) rfl (by rw[AD]) (Km G _ _) (qb _) yk yz (by have:=N.out;simp;omega) ?_)
           intro v1 w1 Ao Ap B2;have m:=hid ((Ap.block H (by simpa using Nat.lt_succ_of_lt (qX C.out)) (fun e=>Ak.out e.symm)).trans ((heap_alloc_old G _ (qX C.out)).trans C.out));have n:=hid (((qB H G).alloc N.out _).grown Ap (by have:=N.out;simp;omega) fun k e=>(J.lt k e).1);have o:=hid Ao;obtain⟨A1,Aq,rfl⟩:=jd Ao;clear Ao Ap B2)
         |(with_reducible refine kw ?_
           refine ko yx 99 _ _ rfl H 0 [] [.slice A9 st.1.length c9] [] [.slice A1 (st.1.length+1) Aq] 99 (.slice A1 (st.1.length+1) Aq) rfl rfl rfl rfl m.out rfl yy (by intro u hu;rw[List.mem_singleton.1 hu];rfl) ?_;intro w2 AE AF Bu;have y:=hid AE;have Al:=hid AF
           clear AE AF))
       go_roundw
       case rel=>
         have B3:Below H w1 w2:=y.below (qT N.out n.size) (fun k hk e=>by omega);have Ab:PcAt w2 H H (st.1++[(r.1,r.2.2.1.length,jm r.2.2.1)]):=by
           refine⟨.slice A1 (st.1.length+1) Aq,by simpa using Al.out,?_⟩;rw[zW,List.length_append,List.length_singleton];refine y.own o.out fun k hk e=>?_
           obtain⟨cc,An⟩:=kE o.out hk;exact jr An m.out yv e
         rw[T.out] at D F;refine⟨i+1,by omega,by rw[D.out],by go_num,hid ?_,hid (by rw[D.out];exact Ab),hid (by rw[D.out];exact F.out)⟩;rw[M.out];have h9:=L.out;rw[M.out] at h9;exact h9.trans (n.trans B3)
       case measure=>(simp [intOf])<;>omega
     ·rw[hdd] at AY;have T:Hid (Kz st (kZ r)=(st.1,true)):=hid (by
        unfold Kz;rw[if_pos (by show r.2.2.2=true;exact hdd)])
      clear hdd;go_wp2_with fail
      go_roundw
      case rel=>
        rw[T.out] at D F;exact⟨i+1,by omega,by rw[D.out],by go_num,A2,hid (by rw[D.out];exact A3.out),hid (by rw[D.out];exact F.out)⟩
      case measure=>(simp [intOf])<;>omega
    ·have e:pcSt rs i=((rs.map kZ).foldl Kz ([],true)):=by unfold pcSt;rw[List.take_of_length_le yz]
     obtain⟨v9,Ac,Z⟩:=Au.out;have c9:wr.cell? ⟨H,0,none⟩=some v9:=k4 Ac 0;have J:=hid Z;have A4:=hid I.1;rw[e] at J A4;clear Ac Z;obtain⟨A9,BN,rfl⟩:=jd J.out;go_wp2_with fail;go_ret;exact⟨_,rfl,by rw[M.out];exact J.out,A4.out,f.out⟩
def zy(x:Kr):List Value:=idV x.1++([.string x.2.1]++[.string ⟨x.2.2.toArray⟩])
theorem vN{x:Kr}(h:jp x.1):(zy x).length=34:=by
  have:x.1.length=32:=h;simp [zy,kf,this]
theorem blameV_one(x:Kr):∀u∈zy x,u.oneCell'=true:=by
  intro u A;unfold zy at A;simp only[List.mem_append,List.mem_singleton] at A;rcases A with A|rfl|rfl
  ·exact kV _ u A
  ·rfl
  ·rfl
def blameZ:List Value:=idV k7++([.string kM]++[.string kM])
theorem Uw:(prog.info? 43).map (fun i=>(i.zero,i.size,i.bytes))=some (some (.agg blameZ.toArray),34,64):=by kernel_rfl
theorem Ux:(prog.info? 43).map (·.size)=some 34:=by kernel_rfl
theorem pieceZ_run(w:World):(zeroValue 102).run prog w=.ok (.agg pieceZ.toArray) w:=by kernel_rfl
theorem idZ_run15(w:World):(zeroValue 41).run prog w=.ok (.agg (idV k7).toArray) w:=by kernel_rfl
theorem blame_built(x:Kr)(hk:jp x.1)(w:World):(Instr.build 43 #[(0,.agg (idV x.1).toArray),(1,.string x.2.1),(2,.string ⟨x.2.2.toArray⟩)]).run prog w=.ok (.agg (zy x).toArray) w:=by
  obtain⟨j,B,C,_,_⟩:=info_parts Uw;have D:x.1.length=32:=hk;have h:=zl (P:=prog) B underlying43 C [idV k7,[.string kM],[.string kM]] rfl (places:=[(0,32),(32,1),(33,1)]) yy yy [(0,.agg (idV x.1).toArray),(1,.string x.2.1),(2,.string ⟨x.2.2.toArray⟩)] (by
    intro q A;simp only[List.mem_cons,List.not_mem_nil,or_false] at A;rcases A with rfl|rfl|rfl
    ·exact⟨by show 0<3;omega,by show (idV x.1).toArray.size=32;rw[List.size_toArray,kf,D]⟩
    ·exact⟨by show 1<3;omega,rfl⟩
    ·exact⟨by show 2<3;omega,rfl⟩)
  have E:=run_build (P:=prog) w 43 #[(0,.agg (idV x.1).toArray),(1,.string x.2.1),(2,.string ⟨x.2.2.toArray⟩)] _ h;refine E.trans ?_;simp [zy,Value.cells]
theorem blame_last{w:World}{B:Nat}{l:List Kr}{q:Kr}{v:Value}(h:w.ownsRow B 43 34 v (l++[q]).length (ke zy (l++[q])))(hl:∀x∈l++[q],jp x.1):
    ∃g c A,v=.slice (some ⟨g,0,none⟩) (l.length+1) c∧B≤g∧w.heap[g]?=some (.cells ((ke zy l++(idV q.1++[Value.string q.2.1]))++([Value.string ⟨q.2.2.toArray⟩]++A)).toArray 43 (0,0))∧l.length+1≤c∧c≤maxLen∧A.length=(c - (l.length+1))*34∧(ke zy l).length=l.length*34∧(idV q.1).length=32:=by
  obtain⟨g,c,A,C,F,G,D,H,E⟩:=KJ h yq;rw[List.length_append,List.length_singleton] at C D E;refine⟨g,c,A,C,F,?_,D,H,E,jc fun x I=>vN (hl x (List.mem_append_left _ I)),by rw[kf];exact hl q yq⟩;rw[G,zW];simp [zy]
def jh(S:kz)(i:List UInt8):ByteArray:=match kC S i with
  |some e=>e.1.2.2.1
  |none=>kM
theorem entryG_author{S:kz}(q:j5){i:List UInt8}(h:(kC S i).isSome=true):∃g0 g1 g3 g4,KZ S q i=[g0,g1,.string (jh S i),g3,g4]:=by
  unfold KZ jh;cases he:kC S i with
  |none=>rw[he] at h;cases h
  |some e=>exact⟨_,_,_,_,rfl⟩
def qc(S:kz)(ps:List jC)(i:Nat):List Kr:=(ps.take i).foldl (vj (jh S)) []
theorem blSt_next{S:kz}{ps:List jC}{i:Nat}(hi:i<ps.length):qc S ps (i+1)=vj (jh S) (qc S ps i) ps[i]:=by
  unfold qc;rw[List.take_succ_eq_append_getElem hi,List.foldl_append];rfl
theorem blSt_text(S:kz)(ps:List jC)(i:Nat):JZ (qc S ps i)=KC (ps.take i):=by
  unfold qc;have:∀(l:List jC) (A:List Kr),JZ (l.foldl (vj (jh S)) A)=JZ A++KC l:=by
    intro l
    induction l with
    |nil=>intro A;simp [KC]
    |cons x l ih=>
     intro A;rw[List.foldl_cons,ih,textB_step];simp [KC]
  rw[this];rfl
theorem textB_mem{l:List Kr}{x:Kr}(h:x∈l):x.2.2.length≤(JZ l).length:=by
  unfold JZ
  induction l with
  |nil=>cases h
  |cons y l ih=>
   rw[List.flatMap_cons,List.length_append];rcases List.mem_cons.1 h with rfl|h
   ·omega
   ·have:=ih h;omega
theorem textP_take(ps:List jC)(i:Nat):(KC (ps.take i)).length≤(KC ps).length:=by
  have h:KC ps=KC (ps.take i)++KC (ps.drop i):=by
    unfold KC;rw[←List.flatMap_append,List.take_append_drop]
  rw[h,List.length_append];omega
def BlOk(st:List Kr)(i:Nat):Prop:=(∀x∈st,jp x.1)∧st.length≤i
theorem BlOk.step{S:kz}{st:List Kr}{i:Nat}{x:jC}(h:BlOk st i)(hk:jp x.1.2.1):BlOk (vj (jh S) st x) (i+1):=by
  obtain⟨B,E⟩:=h;unfold vj;cases hl:st.getLast? with
  |none=>
   refine⟨fun y A=>?_,by simp;omega⟩;rcases List.mem_append.1 A with A|A
   ·exact B y A
   ·rw[List.mem_singleton] at A;subst A;exact hk
  |some z=>
   have e:=JA hl;have C:=B z (by rw[e];simp);dsimp only
   split
   ·refine⟨fun y A=>?_,?_⟩
    ·rcases List.mem_append.1 A with A|A
     ·exact B y (by rw[e];exact List.mem_append_left _ A)
     ·rw[List.mem_singleton] at A;subst A;exact C
    ·have D:=congrArg List.length e;rw[List.length_append,List.length_singleton] at D;simp only[List.length_append,List.length_singleton];omega
   ·refine⟨fun y A=>?_,by simp;omega⟩;rcases List.mem_append.1 A with A|A
    ·exact B y A
    ·rw[List.mem_singleton] at A;subst A;exact hk
theorem U2(B s:Nat)(S:kz)(q:j5)(p:ByteArray)(kk:kF)(hkk:(k8 kk).length=34)(dp:Option Addr)(n:Int)(ps:List jC)(w:World)(h:StateAt w B s S q)
    (hf:Calls prog 40 #[.pointer (some ⟨s,0,none⟩),.string p] w fun e w'=>Below w.heap.size w w'∧e=.returned (.tuple #[.agg (k8 kk).toArray,.pointer dp,.int .i64 n]))
    (hp:∀u,Below w.heap.size w u→Calls prog 41 #[.pointer dp] u fun e w'=>∃v',e=.returned v'∧w'.ownsRow u.heap.size 102 36 v' ps.length (ke jo ps)∧Below u.heap.size u w')
    (hok:∀x∈ps,Jo x) (hl:ps.length≤1099511627776) (ht:(KC ps).length≤1099511627776) (he:∀x∈ps,(kC S x.1.2.1).isSome=true):
    Calls prog 12 #[.pointer (some ⟨s,0,none⟩),.string p] w fun e w'=>Below w.heap.size w w'∧∃v,e=.returned (.tuple #[v,.int .i64 n])∧w'.ownsRow w.heap.size 43 34 v (blameR (jh S) ps).length (ke zy (blameR (jh S) ps)):=by
  have HS:=hid h;have HF:=hid hf;have HP:=hid hp;have Ag:=hid hok;have HE:=hid he;have Ah:=hid hkk;have HT:=hid ht
  clear h hf hp hok he hkk ht;go_enter func12,ntmps12
  go_wp2_with (first
    |(go_at_call 40;refine HF.mono ?_;rintro e W1 ⟨AR,rfl⟩;have O:=hid AR;clear AR)
    |(go_at_call 41;refine(HP.out _ a.out).mono ?_;rintro e W4 ⟨v4,rfl,AL,AS⟩;have AB:=hid (a.trans (AS.mono a.size));have AC:=hid (JE AL a.size);obtain⟨Ap,cp,rfl⟩:=jd AL;clear AS AL)
    |(with_reducible refine kA ?_
      refine ks yx 89 rfl (k8 (0,k7,0)) (zq _) ?_;intro W2 AT AU Bj;have Ai:=hid (O.trans (AT.mono O.size));have AD:=hid AU
      clear AT AU Bj)
    |(with_reducible refine kw ?_
      refine ko yx 89 _ _ rfl W1.heap.size 0 [] (k8 (0,k7,0)) [] (k8 kk) 89 (.agg (k8 kk).toArray) rfl rfl rfl rfl (by simpa using AD.out) (by rw[Ah.out];rfl) (by rw[Ah.out];kernel_rfl) (j4 _) ?_;intro W3 AV Bk Bl;have a:=hid (Ai.trans (AV.below (B:=w.heap.size) Ai.size (fun k hk e=>by have e2:k=W1.heap.size:=e;have:=O.size;omega)));clear AV Bk Bl))
  go_loopw [9,24] (fun t9 t24 wr=>∃(i:Nat) (A:Option Addr) (c:Nat),i≤ps.length∧t9=.slice A (qc S ps i).length c∧t24=.int .i64 (i:Int)∧Hid (Below w.heap.size w wr)∧Hid (wr.ownsRow w.heap.size 43 34 (.slice A (qc S ps i).length c) (qc S ps i).length (ke zy (qc S ps i)))∧Hid (wr.ownsRow w.heap.size 102 36 (.slice Ap ps.length cp) ps.length (ke jo ps))∧Hid (BlOk (qc S ps i) i)) (fun _ t24 _=>ps.length - (intOf t24).toNat)
  case atStart=>exact⟨0,none,0,Nat.zero_le _,rfl,rfl,AB,hid (World.ownsRow_nil _ _ _ _),AC,hid ⟨fun x hx=>(by cases hx),Nat.le_refl _⟩⟩
  case round=>
    obtain⟨i,A,c,hi,rfl,rfl,r,d,Aj,t⟩:=hrel;by_cases hlt:i<ps.length
    ·have i0:(0:Int)≤(i:Int):=by omega
     have i1:(i:Int)<(ps.length:Int):=by omega
     obtain⟨gp,cq,Bw,Bm,Bx,AW,By,Bz,Bn⟩:=KJ Aj.out yz;injection Bm with hvp1 _ hvp2;subst hvp1 hvp2;have G:=hid (blSt_next (S:=S) hlt);have A0:=hid (Ag.out _ (List.getElem_mem hlt));have AE:=hid (HE.out _ (List.getElem_mem hlt));have AF:Hid (ps[i].2.2.length≤1099511627776):=hid (Nat.le_trans (textP_mem (List.getElem_mem hlt)) HT.out);have Ax:=hid (show wr.rangeAt gp (i*36) (jo ps[i]) from fun j u o=>by
       have hr:=K9 (fun x hx=>Jl (Ag.out x hx)) i hlt j u o;rw[k4 AW,List.getElem?_append_left (List.getElem?_eq_some_iff.1 hr).1];exact hr)
     clear AW Bn;generalize ps[i]=x at *;have AG:Hid ((JZ (qc S ps i)).length≤1099511627776):=hid (by rw[blSt_text];exact Nat.le_trans (textP_take ps i) HT.out);have D:Hid (jp x.1.2.1):=hid A0.1.2.1;have M:Hid (BlOk (vj (jh S) (qc S ps i) x) (i+1)):=hid (t.step D.out);generalize qc S ps i=out at *;have AX:=Jl A0.out;have A2:=hid AX;have AM:(idV x.1.2.1).length=32:=by rw[kf];exact D.out
     have A3:=hid AM;clear AX AM;obtain⟨m,hm⟩:∃m,out.length=m:=⟨_,rfl⟩;rw[hm] at d ⊢;have Au:m≤i:=by rw[←hm];exact t.2
     have P:=hid Au;have BA:(m:Int)≤9223372036854775807:=by omega
     clear Au
     go_upto_region 8 with (first
       |(with_reducible refine k6 ?_
         first
         |refine j9 rfl 102 _ rfl gp _ rfl (jo x) _ Ax.out underlying102 rfl (by rw[A2.out];exact Uv) ?_
         |refine k5 yx (ldD D.out A4.out) ?_)
       |(with_reducible refine kA ?_
         first
         |(refine ks yx 102 rfl pieceZ (pieceZ_run _) ?_;intro W6 AY AZ B0;have Ak:=hid AY;have Al:=hid AZ;have Am:=hid B0
           clear AY AZ B0)
         |(refine ks yx 41 rfl (idV k7) (idZ_run15 _) ?_;intro W8 B1 B2 B3;have A5:=hid B1;have An:=hid B2;have A6:=hid B3
           clear B1 B2 B3))
       |(with_reducible refine kw ?_
         first
         |(refine ko yx 102 _ _ rfl wr.heap.size 0 [] pieceZ [] (jo x) 102 (.agg (jo x).toArray) rfl rfl rfl rfl (by simpa using Al.out) (by rw[A2.out];rfl) (by rw[A2.out];exact Uv) (qb _) ?_;intro W7 B4 B5 Bo;have W:Hid (Below wr.heap.size wr W7):=hid (Ak.trans (B4.below (B:=wr.heap.size) (by have:=Am.out;omega) (fun k hk e=>by have e2:k=wr.heap.size:=e;omega)));have f:Hid (W7.heap[wr.heap.size]?=some (.cells (jo x).toArray 102 (0,0))):=hid (by simpa using B5);have A4:Hid (W7.rangeAt wr.heap.size (0+1) (idV x.1.2.1)):=hid fun j u o=>(k4 f.out _).trans (by
               unfold jo k8;have Bp:=(List.getElem?_eq_some_iff.1 o).1;rw[List.getElem?_append_left (by simp only[List.length_cons,List.length_append,List.length_singleton];omega),show 0+1+j=j+1 by omega,List.getElem?_cons_succ,List.getElem?_append_left Bp];exact o)
           clear B4 B5 Bo)
         |(refine ko yx 41 _ _ rfl W7.heap.size 0 [] (idV k7) [] (idV x.1.2.1) 41 (.agg (idV x.1.2.1).toArray) rfl rfl rfl rfl (by simpa using An.out) (by rw[A3.out];rfl) (by rw[A3.out];kernel_rfl) (kV _) ?_;intro H AN B6 Bq;have Y:Hid (Below wr.heap.size wr H):=hid (W.trans ((A5.trans (AN.below (B:=W7.heap.size) (by have:=A6.out;omega) (fun k hk e=>by have e2:k=W7.heap.size:=e;omega))).mono W.size));have Ao:Hid (H.heap[W7.heap.size]?=some (.cells (idV x.1.2.1).toArray 41 (0,0))):=hid (by simpa using B6);have Aq:Hid (H.heap[wr.heap.size]?=some (.cells (jo x).toArray 102 (0,0))):=hid (((A5.trans (AN.below (B:=W7.heap.size) (by have:=A6.out;omega) (fun k hk e=>by have e2:k=W7.heap.size:=e;omega))).block wr.heap.size (qX f.out)).trans f.out);clear AN B6 Bq)))
     obtain⟨Af,Ay⟩:∃z,wr.heap.size=z:=⟨_,rfl⟩;obtain⟨AO,Az⟩:∃z,W7.heap.size=z:=⟨_,rfl⟩;have Ar:Hid (H.heap[AO]?=some (.cells (idV x.1.2.1).toArray 41 (0,0))):=hid (by rw[←Az];exact Ao.out);have As:Hid (H.heap[Af]?=some (.cells (jo x).toArray 102 (0,0))):=hid (by rw[←Ay];exact Aq.out);rw[Ay,Az];have E:Hid (Below w.heap.size w H):=hid (r.trans (Y.mono r.size));have AH:=hid (HS.keep ((E.out).mono (Nat.le_refl _)));have I:=hid ((But.of_below (X:=NoB) Y.out).own d.out fun _ _ q=>q);have N:=hid ((But.of_below (X:=NoB) Y.out).own Aj.out fun _ _ q=>q);have F:=hid (show ∀u:World,Below H.heap.size H u→u.cell? ⟨Af,35,none⟩=some (.string ⟨x.2.2.toArray⟩)∧u.rangeAt AO 0 (idV x.1.2.1)∧StateAt u B s S q from fun u hu=>⟨(k4 ((hu.block Af (qX As.out)).trans As.out) 35).trans (by
       unfold jo;have Br:=k9 A0.1;rw[List.getElem?_append_right yz,List.getElem?_append_right yj,Br];rfl),fun j y o=>by rw[qZ];exact(k4 ((hu.block AO (qX Ar.out)).trans Ar.out) j).trans o,AH.keep hu⟩)
     obtain⟨g0,g1,g3,g4,B7⟩:=entryG_author q AE.out;have At:=hid B7;obtain⟨B8,Au,B9,Ba,Bb⟩:=info_parts Uw;clear B7 Ak Al Am W f A4 A5 An A6 Ay Az Ao Aq;rcases List.eq_nil_or_concat out with h0|⟨L,y,V⟩
     ·have BB:m=0:=by rw[←hm,h0];rfl
      have Q:Hid (vj (jh S) out x=out++[(x.1.2.1,jh S x.1.2.1,x.2.2)]):=hid (by unfold vj;rw[h0];rfl);clear h0;refine rN 12 (fun u=>Below H.heap.size H u) (qD _ _) fun K=>?_
      refine tw 0 (.int .i64 (m:Int)) ?_;go_frame;refine tk 1 (.bool false) rfl (fun w' C=>uu _ _ _ rfl rfl rfl (decide_eq_false yz)) ?_;go_frame;refine tw 2 (.bool false) ?_;go_frame;refine tn 3 ?_;go_frame;refine tn 4 ?_;go_frame;refine tn 5 ?_;go_frame;refine tn 6 ?_;go_frame;refine tn 7 ?_;go_frame;refine tn 8 ?_;go_frame;refine tn 9 ?_;go_frame;refine tn 10 ?_;go_frame;refine tw 11 (.bool false) ?_;go_frame;refine ku yy ?_ _
      go_upto_region 10 with fail
      have A7:=hid (fun (u:World) (hu:Below H.heap.size H u)=>(But.of_below (X:=NoB) hu).own I.out fun _ _ q=>q);have Ab:=vN (x:=(x.1.2.1,jh S x.1.2.1,x.2.2)) D.out;have R:=hid Ab;clear Ab;refine rN 13 (fun u=>Below H.heap.size H u) ((qD _ _).trans (qD _ _)) fun K=>?_
      refine tw 0 (.slice A m c) ?_;go_frame;refine tl 1 (.agg (idV x.1.2.1).toArray) rfl K (fun w' C=>ldD D.out (F.out w' C).2.1) ?_;go_frame;refine tw 2 (.pointer (some ⟨s,0,none⟩)) ?_;go_frame;refine tw 3 (.pointer (some ⟨s,0,none⟩)) ?_;go_frame;refine tw 4 (.pointer (some ⟨s,2,none⟩)) ?_;go_frame;refine tl 5 (.map (some q.bc)) rfl K (fun w' C=>l1 underlying85 ((k4 (F.out w' C).2.2.box 2))) ?_;go_frame;refine tl 6 (.agg (idV x.1.2.1).toArray) rfl K (fun w' C=>ldD D.out (F.out w' C).2.1) ?_;go_frame;refine tl 7 (.agg [g0,g1,.string (jh S x.1.2.1),g3,g4].toArray) rfl K (fun w' C=>KF QM underlying85 (KY _) (F.out w' C).2.2.mapC D.out ((Z9 S q x.1.2.1).trans (by rw[At.out]))) ?_;go_frame;refine tw 8 (.agg [g0,g1,.string (jh S x.1.2.1),g3].toArray) ?_;go_frame;refine tw 9 (.string (jh S x.1.2.1)) ?_;go_frame;refine tw 10 (.pointer (some ⟨Af,35,none⟩)) ?_;go_frame;refine tl 11 (.string ⟨x.2.2.toArray⟩) rfl K (fun w' C=>l1 underlying9 (F.out w' C).1) ?_;go_frame;refine tk 12 (.agg (zy (x.1.2.1,jh S x.1.2.1,x.2.2)).toArray) rfl (fun w' C=>kj 43 _ rfl (by simp only[List.map_toArray,List.map_cons,List.map_nil];exact blame_built (x.1.2.1,jh S x.1.2.1,x.2.2) D.out _)) ?_;go_frame;refine ta 13 ?_;refine zB _ rfl yy (vh 28 _ rfl 43 underlying28 (.agg blameZ.toArray) 34 64 Uw rfl yv yv (zy (x.1.2.1,jh S x.1.2.1,x.2.2)) R.out rfl) ?_;refine⟨fun h=>absurd h yv,?_⟩;go_frame;obtain⟨WD,Ac⟩:∃z,H.drew.drew=z:=⟨_,rfl⟩;have T:Hid (Below H.heap.size H WD):=hid (by rw[←Ac];exact(qD _ _).trans (qD _ _));rw[Ac];clear Ac K;have J:Hid (Below H.heap.size H (WD.alloc (.cells (zy (x.1.2.1,jh S x.1.2.1,x.2.2)).toArray 43))):=hid (T.alloc T.size _);refine ta 14 ?_;refine J8 _ rfl yy (JQ _ _ 28 rfl w.heap.size 43 B8 (.agg blameZ.toArray) 34 64 underlying28 Au B9 Ba Bb rfl yv (.slice A m c) m (ke zy out) rfl (A7.out _ J.out) (some ⟨WD.heap.size,0,none⟩) 1 1 (WD.heap.size+1) (zy (x.1.2.1,jh S x.1.2.1,x.2.2)) rfl ⟨by rw[R.out],fun _=>⟨WD.heap.size,0,rfl,by omega,fun j u o=>by rw[Nat.zero_add];exact(k4 (heap_alloc_new _ _) j).trans o⟩⟩ (blameV_one _) (by have:=P.out;unfold maxLen;omega) (by have:=P.out;omega) (Nat.le_trans E.size J.size) ?_);intro v1 w1 Ad Ae;have A8:=hid Ad;have O:Hid (Below w.heap.size w w1):=hid (E.trans ((J.mono E.size).grown Ae (Nat.le_trans E.size J.size) fun k e=>(I.lt k e).1));have Z:Hid (w1.ownsRow w.heap.size 102 36 (.slice (some ⟨gp,0,none⟩) ps.length cp) ps.length (ke jo ps)):=hid (by
        refine((But.of_below (X:=NoB) J.out).own N.out fun _ _ q=>q).kept Ae (.inr fun e=>?_);obtain⟨c1,Av⟩:=kE N.out (rfl:_=some gp);obtain⟨c2,AP⟩:=kE I.out e.symm;exact jr Av AP yv rfl)
      obtain⟨A1,Aw,rfl⟩:=jd Ad;clear Ad Ae;refine⟨fun h=>absurd h yv,?_⟩;go_frame;refine tw 15 (.slice A1 (m+1) Aw) ?_;go_frame;refine ku yy ?_ _;go_wp2_with fail
      go_roundw
      case rel=>
        rw[Q.out] at G M;have U:(out++[((x.1.2.1,jh S x.1.2.1,x.2.2):Kr)]).length=m+1:=by rw[List.length_append,List.length_singleton,hm]
        refine⟨i+1,A1,Aw,by omega,by rw[G.out,U],by go_num,O,hid ?_,Z,hid (by rw[G.out];exact M.out)⟩;rw[G.out,U,zW];exact A8.out
      case measure=>(simp [intOf])<;>omega
     ·rw[List.concat_eq_append] at V;have Bc:m=L.length+1:=by rw[←hm,V,List.length_append,List.length_singleton]
      have AQ:=I.out;have AA:=t.1;have e0:m=(L++[y]).length:=by rw[←hm,V]
      rw[V] at AA;rw[V,e0] at AQ;obtain⟨g,c',tail,hv,hB,hg,hc,Bs,Bd,Bt,Bu⟩:=blame_last AQ AA;injection hv with hv1 _ hv2;subst hv1 hv2;have l:Hid (jp y.1):=hid (AA y yq);have HG:=hid hg;have AI:=hid Bd
      have A9:=hid (show ∀u:World,Below H.heap.size H u→u.rangeAt g (0+L.length*34+0) (idV y.1)∧u.cell? ⟨g,0+L.length*34+33,none⟩=some (.string ⟨y.2.2.toArray⟩) from fun u hu=>by
        have h2:=(hu.block g (qX HG.out)).trans HG.out;refine⟨fun j z o=>(k4 h2 _).trans ?_,(k4 h2 _).trans ?_⟩
        ·have:=(List.getElem?_eq_some_iff.1 o).1;rw[List.getElem?_append_left yj,List.getElem?_append_right yz,List.getElem?_append_left yz,←o]
         congr 1
         omega
        ·rw[List.getElem?_append_right yj];have:0+L.length*34+33 - (ke zy L++(idV y.1++[Value.string y.2.1])).length=0:=by simp;omega
         rw[this];rfl)
      have ew:IntKind.i64.wrap ((m:Int) - 1)=(L.length:Int):=by
        have:=P.out;rw[IntWalk.i64_in _ yz];omega
      have Be:decide ((m:Int) > 0)=true:=decide_eq_true yz;clear AQ AA hg Bd e0;by_cases hyx:y.1=x.1.2.1
      ·have Q:Hid (vj (jh S) out x=L++[(y.1,y.2.1,y.2.2++x.2.2)]):=hid (by
         unfold vj;rw[V,List.getLast?_concat,List.dropLast_concat];exact if_pos hyx)
       have Aa:Hid (decide (y.1=x.1.2.1)=true):=hid (decide_eq_true hyx);have BC:y.2.2.length≤1099511627776:=Nat.le_trans (textB_mem (by rw[V];simp)) AG.out;clear hyx V;refine rN 12 (fun u=>Below H.heap.size H u) (qD _ _) fun K=>?_
       refine tw 0 (.int .i64 (m:Int)) ?_;go_frame;refine tk 1 (.bool true) rfl (fun w' C=>uu _ _ _ rfl rfl rfl Be) ?_;go_frame;refine tw 2 (.bool true) ?_;go_frame;refine tw 3 (.slice (some ⟨g,0,none⟩) m c) ?_;go_frame;refine tw 4 (.int .i64 (m:Int)) ?_;go_frame;refine tk 5 (.int .i64 (L.length:Int)) rfl (fun w' C=>Qe _ _ _ rfl rfl rfl ew) ?_;go_frame;refine tk 6 (.pointer (some ⟨g,0+L.length*34,none⟩)) rfl (fun w' C=>Kc 28 _ _ rfl (b:=g) (off:=0) (q:=L.length) (n:=m) (c:=c) rfl rfl yz underlying28 Ux) ?_;go_frame;refine tw 7 (.pointer (some ⟨g,0+L.length*34+0,none⟩)) ?_;go_frame;refine tl 8 (.agg (idV y.1).toArray) rfl K (fun w' C=>ldD l.out (A9.out w' C).1) ?_;go_frame;refine tl 9 (.agg (idV x.1.2.1).toArray) rfl K (fun w' C=>ldD D.out (F.out w' C).2.1) ?_;go_frame;refine tk 10 (.bool true) rfl (fun w' C=>eqD l.out D.out Aa.out) ?_;go_frame;refine tw 11 (.bool true) ?_;go_frame;refine ku yy ?_ _
       go_upto_region 9 with fail
       have BD:=AF.out;have Bi:(ke zy L++(idV y.1++[Value.string y.2.1])).length=0+L.length*34+33:=by simp;omega
       refine rN 11 (fun u=>Below H.heap.size H u) ((qD _ _).trans (qD _ _)) fun K=>?_
       refine tw 0 (.slice (some ⟨g,0,none⟩) m c) ?_;go_frame;refine tw 1 (.int .i64 (m:Int)) ?_;go_frame;refine tk 2 (.int .i64 (L.length:Int)) rfl (fun w' C=>Qe _ _ _ rfl rfl rfl ew) ?_;go_frame;refine tk 3 (.pointer (some ⟨g,0+L.length*34,none⟩)) rfl (fun w' C=>Kc 28 _ _ rfl (b:=g) (off:=0) (q:=L.length) (n:=m) (c:=c) rfl rfl yz underlying28 Ux) ?_;go_frame;refine tw 4 (.pointer (some ⟨g,0+L.length*34+33,none⟩)) ?_;go_frame;refine tl 5 (.string ⟨y.2.2.toArray⟩) rfl K (fun w' C=>l1 underlying9 (A9.out w' C).2) ?_;go_frame;refine tw 6 (.pointer (some ⟨Af,35,none⟩)) ?_;go_frame;refine tl 7 (.string ⟨x.2.2.toArray⟩) rfl K (fun w' C=>l1 underlying9 (F.out w' C).1) ?_;go_frame;refine tk 8 (.string ⟨(y.2.2++x.2.2).toArray⟩) rfl (fun w' C=>(ex_addS 9 _ _ _ rfl rfl rfl (by rw[Uh,Uh];omega)).trans (by rw[str_app])) ?_;go_frame;refine tk 9 (.pointer (some ⟨g,0+L.length*34,none⟩)) rfl (fun w' C=>Kc 28 _ _ rfl (b:=g) (off:=0) (q:=L.length) (n:=m) (c:=c) rfl rfl yz underlying28 Ux) ?_;go_frame;refine tw 10 (.pointer (some ⟨g,0+L.length*34+33,none⟩)) ?_;go_frame;refine ta 11 ?_;refine kW _ rfl yy 9 _ _ rfl g (0+L.length*34+33) (ke zy L++(idV y.1++[Value.string y.2.1])) [.string ⟨y.2.2.toArray⟩] tail [.string ⟨(y.2.2++x.2.2).toArray⟩] 43 (.string ⟨(y.2.2++x.2.2).toArray⟩) rfl Bi.symm rfl rfl HG.out rfl yy (by intro u hu;rw[List.mem_singleton.1 hu];rfl) ?_;intro WC Bf Bg Bv;have AJ:=hid Bf;have AK:=hid Bg
       clear Bf Bg Bv;refine⟨fun h=>absurd h yv,?_⟩;go_frame;refine ku yy ?_ _;go_wp2_with fail
       go_roundw
       case rel=>
         have Bh:But (fun k=>k=g) H WC:=(But.refl _ H).drew.drew.trans AJ.out fun k _ e=>e
         have U:(L++[((y.1,y.2.1,y.2.2++x.2.2):Kr)]).length=m:=by rw[List.length_append,List.length_singleton,Bc]
         rw[Q.out] at G M;refine⟨i+1,some ⟨g,0,none⟩,c,by omega,by rw[G.out,U],by go_num,hid (E.trans (Bh.below E.size fun k hk e=>by subst e;omega)),hid ?_,hid (Bh.own N.out fun k hk e=>?_),hid (by rw[G.out];exact M.out)⟩
         ·rw[G.out,U];refine qv (tail:=tail) ?_ hB ?_ yz Bs (by rw[AI.out,Bc])
          ·rw[zW,List.length_append,Bt];simp [zy,Bu];omega
          ·rw[AK.out,zW];simp [zy]
         ·obtain⟨c1,Av⟩:=kE N.out hk;exact jr Av HG.out yv e
       case measure=>(simp [intOf])<;>omega
      ·have Q:Hid (vj (jh S) out x=out++[(x.1.2.1,jh S x.1.2.1,x.2.2)]):=hid (by
         unfold vj;rw[V,List.getLast?_concat];exact if_neg hyx)
       have Aa:Hid (decide (y.1=x.1.2.1)=false):=hid (decide_eq_false hyx);clear hyx V;refine rN 12 (fun u=>Below H.heap.size H u) (qD _ _) fun K=>?_
       refine tw 0 (.int .i64 (m:Int)) ?_;go_frame;refine tk 1 (.bool true) rfl (fun w' C=>uu _ _ _ rfl rfl rfl Be) ?_;go_frame;refine tw 2 (.bool true) ?_;go_frame;refine tw 3 (.slice (some ⟨g,0,none⟩) m c) ?_;go_frame;refine tw 4 (.int .i64 (m:Int)) ?_;go_frame;refine tk 5 (.int .i64 (L.length:Int)) rfl (fun w' C=>Qe _ _ _ rfl rfl rfl ew) ?_;go_frame;refine tk 6 (.pointer (some ⟨g,0+L.length*34,none⟩)) rfl (fun w' C=>Kc 28 _ _ rfl (b:=g) (off:=0) (q:=L.length) (n:=m) (c:=c) rfl rfl yz underlying28 Ux) ?_;go_frame;refine tw 7 (.pointer (some ⟨g,0+L.length*34+0,none⟩)) ?_;go_frame;refine tl 8 (.agg (idV y.1).toArray) rfl K (fun w' C=>ldD l.out (A9.out w' C).1) ?_;go_frame;refine tl 9 (.agg (idV x.1.2.1).toArray) rfl K (fun w' C=>ldD D.out (F.out w' C).2.1) ?_;go_frame;refine tk 10 (.bool false) rfl (fun w' C=>eqD l.out D.out Aa.out) ?_;go_frame;refine tw 11 (.bool false) ?_;go_frame;refine ku yy ?_ _;obtain⟨A,hA⟩:∃z,some (⟨g,0,none⟩:Addr)=z:=⟨_,rfl⟩;rw[hA] at I ⊢;clear hA
       go_upto_region 10 with fail
       have A7:=hid (fun (u:World) (hu:Below H.heap.size H u)=>(But.of_below (X:=NoB) hu).own I.out fun _ _ q=>q);have Ab:=vN (x:=(x.1.2.1,jh S x.1.2.1,x.2.2)) D.out;have R:=hid Ab;clear Ab;refine rN 13 (fun u=>Below H.heap.size H u) ((qD _ _).trans (qD _ _)) fun K=>?_
       refine tw 0 (.slice A m c) ?_;go_frame;refine tl 1 (.agg (idV x.1.2.1).toArray) rfl K (fun w' C=>ldD D.out (F.out w' C).2.1) ?_;go_frame;refine tw 2 (.pointer (some ⟨s,0,none⟩)) ?_;go_frame;refine tw 3 (.pointer (some ⟨s,0,none⟩)) ?_;go_frame;refine tw 4 (.pointer (some ⟨s,2,none⟩)) ?_;go_frame;refine tl 5 (.map (some q.bc)) rfl K (fun w' C=>l1 underlying85 ((k4 (F.out w' C).2.2.box 2))) ?_;go_frame;refine tl 6 (.agg (idV x.1.2.1).toArray) rfl K (fun w' C=>ldD D.out (F.out w' C).2.1) ?_;go_frame;refine tl 7 (.agg [g0,g1,.string (jh S x.1.2.1),g3,g4].toArray) rfl K (fun w' C=>KF QM underlying85 (KY _) (F.out w' C).2.2.mapC D.out ((Z9 S q x.1.2.1).trans (by rw[At.out]))) ?_;go_frame;refine tw 8 (.agg [g0,g1,.string (jh S x.1.2.1),g3].toArray) ?_;go_frame;refine tw 9 (.string (jh S x.1.2.1)) ?_;go_frame;refine tw 10 (.pointer (some ⟨Af,35,none⟩)) ?_;go_frame;refine tl 11 (.string ⟨x.2.2.toArray⟩) rfl K (fun w' C=>l1 underlying9 (F.out w' C).1) ?_;go_frame;refine tk 12 (.agg (zy (x.1.2.1,jh S x.1.2.1,x.2.2)).toArray) rfl (fun w' C=>kj 43 _ rfl (by simp only[List.map_toArray,List.map_cons,List.map_nil];exact blame_built (x.1.2.1,jh S x.1.2.1,x.2.2) D.out _)) ?_;go_frame;refine ta 13 ?_;refine zB _ rfl yy (vh 28 _ rfl 43 underlying28 (.agg blameZ.toArray) 34 64 Uw rfl yv yv (zy (x.1.2.1,jh S x.1.2.1,x.2.2)) R.out rfl) ?_;refine⟨fun h=>absurd h yv,?_⟩;go_frame;obtain⟨WD,Ac⟩:∃z,H.drew.drew=z:=⟨_,rfl⟩;have T:Hid (Below H.heap.size H WD):=hid (by rw[←Ac];exact(qD _ _).trans (qD _ _));rw[Ac];clear Ac K;have J:Hid (Below H.heap.size H (WD.alloc (.cells (zy (x.1.2.1,jh S x.1.2.1,x.2.2)).toArray 43))):=hid (T.alloc T.size _);refine ta 14 ?_;refine J8 _ rfl yy (JQ _ _ 28 rfl w.heap.size 43 B8 (.agg blameZ.toArray) 34 64 underlying28 Au B9 Ba Bb rfl yv (.slice A m c) m (ke zy out) rfl (A7.out _ J.out) (some ⟨WD.heap.size,0,none⟩) 1 1 (WD.heap.size+1) (zy (x.1.2.1,jh S x.1.2.1,x.2.2)) rfl ⟨by rw[R.out],fun _=>⟨WD.heap.size,0,rfl,by omega,fun j u o=>by rw[Nat.zero_add];exact(k4 (heap_alloc_new _ _) j).trans o⟩⟩ (blameV_one _) (by have:=P.out;unfold maxLen;omega) (by have:=P.out;omega) (Nat.le_trans E.size J.size) ?_);intro v1 w1 Ad Ae;have A8:=hid Ad;have O:Hid (Below w.heap.size w w1):=hid (E.trans ((J.mono E.size).grown Ae (Nat.le_trans E.size J.size) fun k e=>(I.lt k e).1));have Z:Hid (w1.ownsRow w.heap.size 102 36 (.slice (some ⟨gp,0,none⟩) ps.length cp) ps.length (ke jo ps)):=hid (by
         refine((But.of_below (X:=NoB) J.out).own N.out fun _ _ q=>q).kept Ae (.inr fun e=>?_);obtain⟨c1,Av⟩:=kE N.out (rfl:_=some gp);obtain⟨c2,AP⟩:=kE I.out e.symm;exact jr Av AP yv rfl)
       obtain⟨A1,Aw,rfl⟩:=jd Ad;clear Ad Ae;refine⟨fun h=>absurd h yv,?_⟩;go_frame;refine tw 15 (.slice A1 (m+1) Aw) ?_;go_frame;refine ku yy ?_ _;go_wp2_with fail
       go_roundw
       case rel=>
         rw[Q.out] at G M;have U:(out++[((x.1.2.1,jh S x.1.2.1,x.2.2):Kr)]).length=m+1:=by rw[List.length_append,List.length_singleton,hm]
         refine⟨i+1,A1,Aw,by omega,by rw[G.out,U],by go_num,O,hid ?_,Z,hid (by rw[G.out];exact M.out)⟩;rw[G.out,U,zW];exact A8.out
       case measure=>(simp [intOf])<;>omega
    ·have e:qc S ps i=blameR (jh S) ps:=by unfold qc blameR;rw[List.take_of_length_le yz]
     rw[e] at d ⊢;have BE:i=ps.length:=by omega
     clear e;go_wp2_with fail;go_ret2;exact⟨r.out,_,rfl,d.out⟩
end
section
open Go.RowKit Go.Maps
theorem textR_len{d:List kX}(h:∀r∈d,r.2.1.length≤65536):(ue d).length≤d.length*262144:=by
  unfold ue
  induction d with
  |nil=>simp
  |cons r d ih=>
   have B:=h r yq;have C:=Jz r.2.1;have D:=ih fun x A=>h x (List.mem_cons_of_mem _ A)
   have E:(if r.2.2 then [] else jm r.2.1).length≤262144:=by
      split
      ·simp
      ·omega
   rw[List.flatMap_cons,List.length_append,List.length_cons,Nat.succ_mul];omega
def Qf(S:kz)(p:ByteArray):List Kr:=match Ks S.2.1 (L p) with
  |none=>[]
  |some k=>blameR (jh S) (Ki ((jR S k).getD []))
theorem pieces_len(d:List kX):(Ki d).length≤d.length:=by
  unfold Ki;have:∀(l:List kX) (A:List jC×Bool),(l.foldl Kz A).1.length≤A.1.length+l.length:=by
    intro l
    induction l with
    |nil=>intro A;simp
    |cons r l ih=>
     intro A;rw[List.foldl_cons,List.length_cons];refine Nat.le_trans (ih _) ?_;have:(Kz A r).1.length≤A.1.length+1:=by
        unfold Kz
        split
        ·simp
        ·split
         ·unfold UK;cases hl:A.1.getLast? with
          |none=>simp
          |some p=>
           have B:=congrArg List.length (JA hl);rw[List.length_append,List.length_singleton] at B;simp only[List.length_append,List.length_singleton];omega
         ·simp
     omega
  have:=this d ([],true)
  simpa using this
theorem DocAt.pieces{w:World}{B p:Nat}{v:Value}{d:List kX}(h:DocAt w B p v d)(hd:QD d)(hix:RunIx d):
    Calls prog 41 #[.pointer (some ⟨p,0,none⟩)] w fun e w'=>∃v',e=.returned v'∧w'.ownsRow w.heap.size 102 36 v' (Ki d).length (ke jo (Ki d))∧(∀x∈Ki d,Jo x)∧Below w.heap.size w w':=by
  obtain⟨D,C,F,G⟩:=h.rows;have E:∀r∈D,r.2.2.1.length≤65536∧∀u∈r.2.2.1,EncIs u:=fun r A=>hd.2 (kZ r) (by rw[←C];exact List.mem_map_of_mem A)
  have:=pieces_run D B p v w ⟨h.box,h.low,F,G⟩ (by rw[C];exact hix) (fun r A=>(E r A).2) (by have:=hd.1;rw[←C,List.length_map] at this;exact this) (fun r A=>(E r A).1);rw[C] at this;exact this
theorem sblame_any(B s:Nat)(S:kz)(q:j5)(p:ByteArray)(w:World)(h:StateAt w B s S q)(hl:S.2.1.length≤90)(hsm:∀x∈S.2.1,x.2.2.2.size≤1073741824)(hg:Glob w)(hk:kN ((Ks S.2.1 (L p)).getD zO))
    (hd:∀k d,Ks S.2.1 (L p)=some k→jR S k=some d→QD d∧RunIx d∧RunsOf (fun k=>(kC S k.2.1).isSome=true) d∧∀x∈Ki d,Jo x):
    Calls prog 12 #[.pointer (some ⟨s,0,none⟩),.string p] w fun e w'=>Below w.heap.size w w'∧∃v,e=.returned (.tuple #[v,.int .i64 (errAt S p)])∧w'.ownsRow w.heap.size 43 34 v (Qf S p).length (ke zy (Qf S p)):=by
  have C:=sfind_any B s S q p w h hl hsm hg hk;unfold FindRes at C;unfold Qf errAt;obtain⟨o,M⟩:∃o,Ks S.2.1 (L p)=o:=⟨_,rfl⟩;rw[M] at hk C ⊢;have E:∀u:World,Calls prog 41 #[.pointer none] u fun e w'=>∃F,e=.returned F∧w'.ownsRow u.heap.size 102 36 F ([]:List jC).length (ke jo [])∧Below u.heap.size u w':=fun u=>(pieces_nil u).mono fun e w' ⟨G,H⟩=>⟨_,H,by rw[G];exact World.ownsRow_nil _ _ _ _,by rw[G];exact Below.refl _ _⟩
  cases o with
  |none=>exact U2 B s S q p (0,k7,0) rfl none 4 [] w h C (fun u I=>E u) (fun x A=>by cases A) yv yv (fun x A=>by cases A)
  |some k=>
   obtain⟨J,D⟩:∃o,jR S k=o:=⟨_,rfl⟩;have O:U1 S q k=.pointer (J.map fun _=>⟨q.ptr k,0,none⟩):=by unfold U1;rw[D];cases J<;>rfl
   dsimp only at C;rw[O] at C;dsimp only;rw[D];cases J with
   |none=>exact U2 B s S q p k (k9 hk) none 0 [] w h C (fun u I=>E u) (fun x A=>by cases A) yv yv (fun x A=>by cases A)
   |some d=>
    obtain⟨K,P,Q,R⟩:=hd k d M D;have V:=pieces_len d;have W:=textR_len fun r T=>(K.2 r T).1
    have N:PiecesOf (fun i=>(kC S i).isSome=true) (Ki d):=pieces_of d ([],true) Q fun x A=>by cases A
    have:=K.1;exact U2 B s S q p k (k9 hk) _ 0 (Ki d) w h C (fun u I=>(((h.docs k d D).2.keep I).pieces K P).mono fun e w' ⟨F,G,H,X,U⟩=>⟨F,G,H,U⟩) R yz (by rw[textP_pieces];omega) (fun x A=>(N x A).1)
theorem add_any(B s:Nat)(S:kz)(q:j5)(i:List UInt8)(c:kQ)(Ad:Option Addr)(cd:Nat)(Ao:Option Addr)(co:Nat)(w:World)(h:StateAt w B s S q)(hi:jp i)(h1:Sl w w.heap.size Ad c.2.1.length 32 (zf c.2.1))(h2:Sl w w.heap.size Ao c.2.2.2.length 70 (ke opV c.2.2.2))(hf:Q6 S q c)(hg:Glob w)(hsg:ShaG w):
    Calls prog 17 #[.pointer (some ⟨s,0,none⟩),.agg (idV i).toArray,.agg (chC c.1 Ad c.2.1.length cd c.2.2.1 Ao c.2.2.2.length co).toArray] w fun e w'=>(encC c≠0∧AddGives w B s S S q (encC c) c.2.2.2.length e w')∨(encC c=0∧AddGives w B s S (Kt S (idC c) i c).2 q (Kt S (idC c) i c).1 c.2.2.2.length e w'):=by
  by_cases he:encC c=0
  ·exact(add_good B s S q i c Ad cd Ao co w h hi h1 h2 hf hg hsg he).mono fun e w' A=>.inr ⟨he,A⟩
  ·exact(add_bad B s S q i c Ad cd Ao co w h hi h1 h2 hf hg hsg he).mono fun e w' A=>.inl ⟨he,A⟩
end
end Go.Proofs.YtdgbjhfkmembdaaGreatDoor