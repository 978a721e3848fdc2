/-
  Plain facts, and contracts of the functions that the claim's walk comes to, one behind the other. Conditions: as each says.
-/
import Derived.KernelRfl
import Derived.Test.YtdgbjhfkmembdaaGreatDoorProg
import Derived.Lib.Bytealg
import Derived.Laws.RangeAny
import Derived.Laws.BytesArg
import Derived.Lib.Strings
import Derived.Lib.RabinKarpLaws
import Derived.Lib.SmallJoins
import Derived.Lib.Split
import Derived.Lib.SplitLaws
import Derived.Lib.ItoaNum
import Derived.WalkKit
import Derived.WalkSmall
import Derived.Lib.Hide
import Derived.Laws.Tables
import Derived.Laws.Rows
import Derived.Laws.ResultCell
import Derived.OpenShut
import Derived.Deep.Slices
import Derived.Deep.Fields
import Derived.StillTailTactics
import Derived.BigQuiet
import Derived.DeepKeys4
import Derived.Maps.Own
import Derived.Laws.StructEq
import Derived.Deep.MidRow
set_option linter.unusedVariables false
set_option linter.unusedSimpArgs false
set_option maxHeartbeats 4000000
set_option maxRecDepth 100000
open Go.Proofs.Tryz
namespace Go.Proofs.YtdgbjhfkmembdaaGreatDoor
theorem yz{p:Prop}(h:p:=by omega):p:=h
theorem yy{p:Prop}(h:p:=by kernel_rfl):p:=h
theorem yx{p:Prop}(h:p:=by rfl):p:=h
theorem yv{p:Prop}(h:p:=by decide):p:=h
theorem yq{p:Prop}(h:p:=by simp):p:=h
theorem yk{p:Prop}(h:p:=by unfold maxLen;omega):p:=h
theorem yj{p:Prop}(h:p:=by simp;omega):p:=h
abbrev kF:=Int×List UInt8×Int
def uG(a b:Int):Int:=if a<b then -1 else if b<a then 1 else 0
def jK(a b:List UInt8):Int:=Lib.compareBytes a b
def zG(a b:kF):Int:=if uG a.1 b.1≠0 then uG a.1 b.1 else if jK a.2.1 b.2.1≠0 then jK a.2.1 b.2.1 else uG a.2.2 b.2.2
theorem vO{a b:Int}:uG a b=0↔a=b:=by unfold uG;split<;>(try split)<;>omega
theorem cmpI_neg{a b:Int}:uG a b<0↔a<b:=by unfold uG;split<;>(try split)<;>omega
theorem uH:jK [] []=0:=by unfold jK;unfold Lib.compareBytes;rfl
theorem Zg(b:UInt8)(bs:List UInt8):jK [] (b::bs)= -1:=by unfold jK;unfold Lib.compareBytes;rfl
theorem Jf(a:UInt8)(aS:List UInt8):jK (a::aS) []=1:=by unfold jK;unfold Lib.compareBytes;rfl
theorem JB(a b:UInt8)(aS bs:List UInt8):jK (a::aS) (b::bs)=if a<b then -1 else if b<a then 1 else jK aS bs:=by
  unfold jK;rw[Lib.compareBytes]
theorem ZN(a b:UInt8):a<b∨b<a∨a=b:=by
  rcases (by omega:a.toNat<b.toNat∨b.toNat<a.toNat∨a.toNat=b.toNat) with h|h|h
  ·exact .inl (UInt8.lt_iff_toNat_lt.2 h)
  ·exact .inr (.inl (UInt8.lt_iff_toNat_lt.2 h))
  ·exact .inr (.inr (UInt8.toNat_inj.1 h))
theorem Jp(a:UInt8):¬a<a:=by rw[UInt8.lt_iff_toNat_lt];omega
theorem ZO{a b:UInt8}(h:a<b):¬b<a:=by rw[UInt8.lt_iff_toNat_lt] at *;omega
theorem vP:∀a,jK a a=0
  | []=>uH
  |a::aS=>by rw[JB,if_neg (Jp a),if_neg (Jp a)];exact vP aS
theorem J1:∀{a b:List UInt8},jK a b=0↔a=b
  | [],[]=>by simp [uH]
  | [],_ :: _=>by simp [Zg]
  | _ :: _,[]=>by simp [Jf]
  |a::aS,b::bs=>by
   rw[JB];rcases ZN a b with h|h|h
   ·rw[if_pos h];refine⟨fun e=>by omega,fun e=>?_⟩;have:a=b:=by injection e
    subst this;exact absurd h (Jp a)
   ·rw[if_neg (ZO h),if_pos h];refine⟨fun e=>by omega,fun e=>?_⟩;have:a=b:=by injection e
    subst this;exact absurd h (Jp a)
   ·subst h;rw[if_neg (Jp a),if_neg (Jp a),J1 (a:=aS) (b:=bs)];simp
theorem U4:∀(a b:List UInt8),jK b a= - jK a b
  | [],[]=>by rw[uH];rfl
  | [],_ :: _=>by rw[Zg,Jf];rfl
  | _ :: _,[]=>by rw[Zg,Jf]
  |a::aS,b::bs=>by
   rw[JB,JB];rcases ZN a b with h|h|h
   ·rw[if_neg (ZO h),if_pos h,if_pos h];rfl
   ·rw[if_pos h,if_neg (ZO h),if_pos h]
   ·subst h;simp only[Jp,if_false];exact U4 aS bs
theorem Jq:∀{a b c:List UInt8},jK a b<0→jK b c<0→jK a c<0
  | [],[],_,h,_=>by rw[uH] at h;omega
  | _ :: _,[],_,h,_=>by rw[Jf] at h;omega
  | _,_ :: _,[],_,h=>by rw[Jf] at h;omega
  | [],_ :: _,c::cs,_,_=>by rw[Zg];omega
  |a::aS,b::bs,c::cs,h1,h2=>by
   rw[JB] at h1 h2 ⊢;rcases ZN a b with h|h|h
   ·rcases ZN b c with g|g|g
    ·rw[if_pos (by rw[UInt8.lt_iff_toNat_lt] at *;omega)];omega
    ·rw[if_neg (ZO g),if_pos g] at h2;omega
    ·subst g;rw[if_pos h];omega
   ·rw[if_neg (ZO h),if_pos h] at h1;omega
   ·subst h;rw[if_neg (Jp a),if_neg (Jp a)] at h1;rcases ZN a c with g|g|g
    ·rw[if_pos g];omega
    ·rw[if_neg (ZO g),if_pos g] at h2;omega
    ·subst g;rw[if_neg (Jp a),if_neg (Jp a)] at h2 ⊢;exact Jq h1 h2
theorem cmpK_zero{a b:kF}:zG a b=0↔a=b:=by
  unfold zG;by_cases h1:uG a.1 b.1=0
  ·rw[if_neg (by simpa using h1)];by_cases h2:jK a.2.1 b.2.1=0
   ·rw[if_neg (by simpa using h2),vO];constructor
    ·intro h;exact Prod.ext (vO.1 h1) (Prod.ext (J1.1 h2) h)
    ·rintro rfl;rfl
   ·rw[if_pos h2];refine⟨fun h=>absurd h h2,?_⟩;rintro rfl;exact absurd (vP _) h2
  ·rw[if_pos h1];refine⟨fun h=>absurd h h1,?_⟩;rintro rfl;exact absurd (vO.2 rfl) h1
theorem J2(a:kF):zG a a=0:=cmpK_zero.2 rfl
theorem cmpI_swap(a b:Int):uG b a= - uG a b:=by unfold uG;split<;>split<;>(try split)<;>omega
theorem cmpK_swap(a b:kF):zG b a= - zG a b:=by
  unfold zG;rw[cmpI_swap a.1 b.1,U4 a.2.1 b.2.1,cmpI_swap a.2.2 b.2.2];generalize uG a.1 b.1=x;generalize jK a.2.1 b.2.1=y;by_cases h1:x=0<;>by_cases h2:y=0<;>simp [h1,h2]
theorem cmpK_neg{a b:kF}:zG a b<0↔a.1<b.1∨(a.1=b.1∧(jK a.2.1 b.2.1<0∨(a.2.1=b.2.1∧a.2.2<b.2.2))):=by
  unfold zG;by_cases h1:uG a.1 b.1=0
  ·have A:=vO.1 h1;rw[if_neg (by simpa using h1)];by_cases h2:jK a.2.1 b.2.1=0
   ·have B:=J1.1 h2;rw[if_neg (by simpa using h2),cmpI_neg];constructor
    ·intro h;exact .inr ⟨A,.inr ⟨B,h⟩⟩
    ·rintro (h|⟨_,h|⟨_,h⟩⟩)
     ·omega
     ·omega
     ·exact h
   ·rw[if_pos h2];constructor
    ·intro h;exact .inr ⟨A,.inl h⟩
    ·rintro (h|⟨_,h|⟨h,_⟩⟩)
     ·omega
     ·exact h
     ·exact absurd (J1.2 h) h2
  ·rw[if_pos h1,cmpI_neg];constructor
   ·exact .inl
   ·rintro (h|⟨h,_⟩)
    ·exact h
    ·exact absurd (vO.2 h) h1
theorem Jr{a b c:kF}(h1:zG a b<0)(h2:zG b c<0):zG a c<0:=by
  rw[cmpK_neg] at *;rcases h1 with h1|⟨D,h1⟩
  ·rcases h2 with h2|⟨C,h2⟩
   ·exact .inl yz
   ·exact .inl yz
  ·rcases h2 with h2|⟨C,h2⟩
   ·exact .inl yz
   ·refine .inr ⟨by omega,?_⟩;rcases h1 with h1|⟨B,h1⟩
    ·rcases h2 with h2|⟨A,h2⟩
     ·exact .inl (Jq h1 h2)
     ·rw[A] at h1;exact .inl h1
    ·rcases h2 with h2|⟨A,h2⟩
     ·rw[←B] at h2;exact .inl h2
     ·exact .inr ⟨B.trans A,by omega⟩
theorem qf{a b:kF}:0<zG a b↔zG b a<0:=by rw[cmpK_swap a b];omega
theorem Z1(a b:kF):zG a b<0∨a=b∨zG b a<0:=by
  rcases (by omega:zG a b<0∨zG a b=0∨0<zG a b) with h|h|h
  ·exact .inl h
  ·exact .inr (.inl (cmpK_zero.1 h))
  ·exact .inr (.inr (qf.1 h))
def Rising(l:List kF):Prop:=l.Pairwise fun a b=>zG a b<0
theorem Rising.ext:∀{a b:List kF},Rising a→Rising b→(∀k,k∈a↔k∈b)→a=b
  | [],[],_,_,_=>rfl
  | [],y::b,_,_,h=>absurd ((h y).2 yq) yq
  |x::a,[],_,_,h=>absurd ((h x).1 yq) yq
  |x::a,y::b,ha,hb,h=>by
   unfold Rising at ha hb;rw[List.pairwise_cons] at ha hb;have hxy:x=y:=by
      rcases List.mem_cons.1 ((h x).1 yq) with e|e
      ·exact e
      ·have C:=hb.1 x e;rcases List.mem_cons.1 ((h y).2 yq) with B|B
       ·exact B.symm
       ·have D:=ha.1 y B;have:=Jr C D;rw[J2] at this;omega
   subst hxy
   congr 1
   refine Rising.ext ha.2 hb.2 fun k=>?_
   constructor
   ·intro A;rcases List.mem_cons.1 ((h k).1 (by simp [A])) with e|e
    ·subst e;have:=ha.1 k A;rw[J2] at this;omega
    ·exact e
   ·intro A;rcases List.mem_cons.1 ((h k).2 (by simp [A])) with e|e
    ·subst e;have:=hb.1 k A;rw[J2] at this;omega
    ·exact e
def Qh(k:kF):List kF→List kF
  | []=>[k]
  |x::l=>if zG k x<0 then k::x::l else if k=x then x::l else x::Qh k l
theorem mem_insK{k y:kF}:∀{l:List kF},y∈Qh k l↔y=k∨y∈l
  | []=>by simp [Qh]
  |x::l=>by
   unfold Qh
   split
   ·simp
   ·split
    ·rename_i h;subst h;simp
    ·simp only[List.mem_cons,mem_insK (l:=l)];constructor
     ·rintro (h|h|h)
      ·exact .inr (.inl h)
      ·exact .inl h
      ·exact .inr (.inr h)
     ·rintro (h|h|h)
      ·exact .inr (.inl h)
      ·exact .inl h
      ·exact .inr (.inr h)
theorem Rising.ins{k:kF}:∀{l:List kF},Rising l→Rising (Qh k l)
  | [],_=>by simp [Qh,Rising]
  |x::l,h=>by
   unfold Rising at h;rw[List.pairwise_cons] at h;unfold Qh
   split
   ·rename_i hk;unfold Rising;rw[List.pairwise_cons];refine⟨fun y hy=>?_,List.pairwise_cons.2 h⟩;rcases List.mem_cons.1 hy with rfl|hy
    ·exact hk
    ·exact Jr hk (h.1 y hy)
   ·split
    ·exact List.pairwise_cons.2 h
    ·rename_i h1 h2;unfold Rising;rw[List.pairwise_cons];refine⟨fun y hy=>?_,Rising.ins h.2⟩;rcases mem_insK.1 hy with rfl|hy
     ·rcases Z1 y x with c|c|c
      ·exact absurd c h1
      ·exact absurd c h2
      ·exact c
     ·exact h.1 y hy
def UC(l:List kF):List kF:=l.foldr Qh []
theorem Qi{y:kF}:∀{l:List kF},y∈UC l↔y∈l
  | []=>by simp [UC]
  |x::l=>by
   have:UC (x::l)=Qh x (UC l):=rfl;rw[this,mem_insK,Qi (l:=l)];simp
theorem qg:∀(l:List kF),Rising (UC l)
  | []=>List.Pairwise.nil
  | _ ::l=>(qg l).ins
abbrev kX:=kF×List Nat×Bool
def JM(k:kF)(n:Int):kF:=(k.1,k.2.1,k.2.2+n)
def KS(a b:kF):Bool:=decide (a.1=b.1) && decide (a.2.1=b.2.1)
def KD(r:kX)(k:kF):Bool:=KS r.1 k && (decide (r.1.2.2≤k.2.2) && decide (k.2.2<r.1.2.2+(r.2.1.length:Int)))
def z7(r:kX)(k:kF)(n:Int):Bool:=KS r.1 k && (decide (r.1.2.2<k.2.2+n) && decide (k.2.2<r.1.2.2+(r.2.1.length:Int)))
def uF:List kX→kF→Option (Nat×Nat)
  | [],_=>none
  |r::d,k=>if KD r k then some (0,(k.2.2 - r.1.2.2).toNat) else (uF d k).map fun x=>(x.1+1,x.2)
def qh(d:List kX)(i:Nat)(r:kX):List kX:=d.take i++r::d.drop i
def uI(r:kX)(n:Nat):kX:=(r.1,r.2.1.take n,r.2.2)
def zP(r:kX)(n:Nat):kX:=(JM r.1 (n:Int),r.2.1.drop n,r.2.2)
def Zo(d:List kX)(i n:Nat):List kX:=match d[i]? with
  |none=>d
  |some r=>if 0<n∧n<r.2.1.length then d.take i++uI r n::zP r n::d.drop (i+1) else d
def ug(d:List kX)(k:kF)(n:Int):Bool:=d.all fun r=> !z7 r k n
def aheadR(d:List kX)(k:kF):Nat:=match d with
  | []=>0
  |r::d=>if 0<zG r.1 k then aheadR d k+1 else 0
def vC(d:List kX)(k:kF)(i:Nat):Nat:=i+aheadR (d.drop i) k
def jw(d:List kX)(key at':kF)(first:Bool)(rs:List Nat):List kX×Nat:=
  if rs=[]∨key.2.2<0∨2147483648 - (rs.length:Int)<key.2.2 then (d,1)
  else if first then (if ug d key rs.length then (qh d (vC d key 0) (key,rs,false),0) else (d,11))
  else match uF d at' with
    |none=>(d,12)
    |some (i,k)=>
     if 0≤zG at' key then (d,21)
     else if ug d key rs.length then (qh (Zo d i (k+1)) (vC (Zo d i (k+1)) key (i+1)) (key,rs,false),0) else (d,11)
def overR(r:kX)(k:kF)(n:Int):Int:=min (k.2.2+n) (r.1.2.2+(r.2.1.length:Int)) - max k.2.2 r.1.2.2
def countR(d:List kX)(k:kF)(n:Int):Int:=(d.map fun r=>if n≤2147483647∧0≤k.2.2∧z7 r k n=true then overR r k n else 0).sum
def JN(r:kX)(k:kF)(n:Int):List kX:=
  if z7 r k n then
    let a:=(k.2.2 - r.1.2.2).toNat
    let q:=if r.1.2.2<k.2.2 then zP r a else r
    let b:=(k.2.2+n - q.1.2.2).toNat
    (if r.1.2.2<k.2.2 then [uI r a] else [])++(if b<q.2.1.length then [(q.1,q.2.1.take b,true),zP q b] else [(q.1,q.2.1,true)])
  else [r]
def vo(d:List kX)(k:kF)(n:Int):List kX×Nat:=
  if n<1 then (d,1) else if countR d k n≠n then (d,12) else (d.flatMap fun r=>JN r k n,0)
def Kd(d:List kX):Nat:=(d.map fun r=>r.2.1.length).sum
theorem findR_hit{k:kF}:∀{d:List kX} {i:Nat} (hi:i<d.length),(∀j (hj:j<d.length),j<i→KD d[j] k=false)→KD d[i] k=true→uF d k=some (i,(k.2.2 - d[i].1.2.2).toNat)
  |r::d,0,hi,_,hh=>by
   have hh':KD r k=true:=hh;unfold uF;rw[if_pos hh'];rfl
  |r::d,i+1,hi,h,hh=>by
   have A:KD r k=false:=h 0 yq yz;have B:=findR_hit (d:=d) (i:=i) (k:=k) (by simpa using hi) (fun j hj C=>h (j+1) (by simpa using hj) yz) hh;unfold uF;rw[if_neg (by rw[A];exact Bool.false_ne_true),B];rfl
theorem findR_none{k:kF}:∀{d:List kX},(∀j (hj:j<d.length),KD d[j] k=false)→uF d k=none
  | [],_=>rfl
  |r::d,h=>by
   have h0:KD r k=false:=h 0 yq;unfold uF;rw[if_neg (by rw[h0];exact Bool.false_ne_true),findR_none (d:=d) fun j hj=>h (j+1) (by simpa using hj)];rfl
theorem findR_lt{k:kF}:∀{d:List kX} {i n:Nat},uF d k=some (i,n)→∃h:i<d.length,KD d[i] k=true∧n=(k.2.2 - d[i].1.2.2).toNat
  | [],_,_,h=>by cases h
  |r::d,i,n,h=>by
   unfold uF at h
   split at h
   ·rename_i hh;cases h
    exact⟨by simp,hh,rfl⟩
   ·obtain⟨x,hx,e⟩:=Option.map_eq_some_iff.1 h;cases e
    obtain⟨A,B,C⟩:=findR_lt (d:=d) hx;exact⟨by simpa using A,B,C⟩
theorem aheadR_is{k:kF}:∀{d:List kX} {n:Nat},n≤d.length→(∀j (hj:j<d.length),j<n→0<zG d[j].1 k)→(∀hn:n<d.length,¬0<zG d[n].1 k)→aheadR d k=n
  | [],n,hn,_,_=>by simp at hn;subst hn;rfl
  |r::d,0,_,_,h2=>by
   unfold aheadR;have:¬0<zG r.1 k:=h2 yq;rw[if_neg this]
  |r::d,n+1,hn,h1,h2=>by
   unfold aheadR;have B:0<zG r.1 k:=h1 0 yq yz;rw[if_pos B,aheadR_is (d:=d) (n:=n) (by simpa using hn) (fun j hj C=>h1 (j+1) (by simpa using hj) yz) (fun A=>h2 (by simpa using A))]
theorem placeR_is{d:List kX}{k:kF}{i p:Nat}(hip:i≤p)(hp:p≤d.length)(h1:∀j (hj:j<d.length),i≤j→j<p→0<zG d[j].1 k)(h2:∀A:p<d.length,¬0<zG d[p].1 k):vC d k i=p:=by
  unfold vC;rw[aheadR_is (n:=p - i) (by rw[List.length_drop];omega) (fun j hj B=>?_) (fun A=>?_)]
  ·omega
  ·rw[List.getElem_drop];exact h1 _ _ yz yz
  ·rw[List.getElem_drop];have:=h2 (by rw[List.length_drop] at A;omega)
   simpa [show i+(p - i)=p by omega] using this
theorem Z4{r:kX}{k:kF}{n:Int}(h:z7 r k n=false):JN r k n=[r]:=by
  unfold JN;rw[if_neg (by rw[h];exact Bool.false_ne_true)]
theorem QE{r:kX}{k:kF}{n:Int}(h:z7 r k n=true):KS r.1 k=true∧r.1.2.2<k.2.2+n∧k.2.2<r.1.2.2+(r.2.1.length:Int):=by
  simpa only[z7,Bool.and_eq_true,decide_eq_true_eq] using h
theorem kill_cut1{r:kX}{k:kF}{n:Int}(h:z7 r k n=true)(hn:1≤n)(hlt:r.1.2.2<k.2.2):
    JN r k n=uI r (k.2.2 - r.1.2.2).toNat::JN (zP r (k.2.2 - r.1.2.2).toNat) k n∧0<(k.2.2 - r.1.2.2).toNat∧(k.2.2 - r.1.2.2).toNat<r.2.1.length:=by
  obtain⟨B,G,H⟩:=QE h;have C:0<(k.2.2 - r.1.2.2).toNat∧(k.2.2 - r.1.2.2).toNat<r.2.1.length:=by omega
  refine⟨?_,C⟩;have e:(zP r (k.2.2 - r.1.2.2).toNat).1.2.2=k.2.2:=by show r.1.2.2+((k.2.2 - r.1.2.2).toNat:Int)=k.2.2;omega
  have D:z7 (zP r (k.2.2 - r.1.2.2).toNat) k n=true:=by
    have E:KS (zP r (k.2.2 - r.1.2.2).toNat).1 k=true:=B;have F:(zP r (k.2.2 - r.1.2.2).toNat).2.1.length=r.2.1.length - (k.2.2 - r.1.2.2).toNat:=by simp [zP]
    unfold z7;rw[E,e,F,decide_eq_true yz,decide_eq_true yz];rfl
  have A:¬(zP r (k.2.2 - r.1.2.2).toNat).1.2.2<k.2.2:=by rw[e];omega
  conv=>lhs;unfold JN
  conv=>rhs;rhs;unfold JN
  rw[if_pos h,if_pos D];simp only[if_pos hlt,if_neg A,List.nil_append,List.singleton_append]
theorem kill_cut2{r:kX}{k:kF}{n:Int}(h:z7 r k n=true)(hlt:¬r.1.2.2<k.2.2)(hb:(k.2.2+n - r.1.2.2).toNat<r.2.1.length):
    JN r k n=(r.1,r.2.1.take (k.2.2+n - r.1.2.2).toNat,true)::JN (zP r (k.2.2+n - r.1.2.2).toNat) k n∧0<(k.2.2+n - r.1.2.2).toNat:=by
  obtain⟨C,D,E⟩:=QE h;have A:0<(k.2.2+n - r.1.2.2).toNat:=by omega
  refine⟨?_,A⟩;have B:z7 (zP r (k.2.2+n - r.1.2.2).toNat) k n=false:=by
    have e:(zP r (k.2.2+n - r.1.2.2).toNat).1.2.2=k.2.2+n:=by show r.1.2.2+((k.2.2+n - r.1.2.2).toNat:Int)=k.2.2+n;omega
    unfold z7;rw[e,decide_eq_false (show ¬k.2.2+n<k.2.2+n by omega)];simp
  rw[Z4 B];unfold JN;rw[if_pos h];simp only[if_neg hlt,List.nil_append,if_pos hb]
theorem kill_all{r:kX}{k:kF}{n:Int}(h:z7 r k n=true)(hlt:¬r.1.2.2<k.2.2)(hb:¬(k.2.2+n - r.1.2.2).toNat<r.2.1.length):JN r k n=[(r.1,r.2.1,true)]:=by
  unfold JN;rw[if_pos h];simp only[if_neg hlt,List.nil_append,if_neg hb]
def RunsOf(p:kF→Prop)(d:List kX):Prop:=∀r∈d,p r.1∧r.2.1≠[]
section
variable {p:kF→Prop} {d:List kX}
theorem RunsOf.put(h:RunsOf p d){i:Nat}{r:kX}(h1:p r.1)(h2:r.2.1≠[]):RunsOf p (qh d i r):=fun q A=>by
  unfold qh at A;rcases List.mem_append.1 A with A|A
  ·exact h q (List.mem_of_mem_take A)
  ·rcases List.mem_cons.1 A with rfl|A
   ·exact⟨h1,h2⟩
   ·exact h q (List.mem_of_mem_drop A)
theorem RunsOf.cut(hp:∀k n,p k→p (JM k n))(h:RunsOf p d)(i n:Nat):RunsOf p (Zo d i n):=by
  unfold Zo
  split
  ·exact h
  ·rename_i r C;have B:r∈d:=List.mem_of_getElem? C
   split
   ·rename_i D;intro q A;rcases List.mem_append.1 A with A|A
    ·exact h q (List.mem_of_mem_take A)
    ·rcases List.mem_cons.1 A with rfl|A
     ·refine⟨(h r B).1,fun e=>?_⟩;have:=congrArg List.length e;simp only[uI,List.length_take,List.length_nil] at this;omega
     ·rcases List.mem_cons.1 A with rfl|A
      ·refine⟨hp _ _ (h r B).1,fun e=>?_⟩;have:=congrArg List.length e;simp only[zP,List.length_drop,List.length_nil] at this;omega
      ·exact h q (List.mem_of_mem_drop A)
   ·exact h
theorem RunsOf.insert(hp:∀k n,p k→p (JM k n))(h:RunsOf p d){key at':kF}{first:Bool}{rs:List Nat}(hk:p key):RunsOf p (jw d key at' first rs).1:=by
  unfold jw
  split
  ·exact h
  ·rename_i B;have A:rs≠[]:=fun e=>B (.inl e)
   split
   ·split
    ·exact h.put hk A
    ·exact h
   ·split
    ·exact h
    ·split
     ·exact h
     ·split
      ·exact(h.cut hp _ _).put hk A
      ·exact h
theorem RunsOf.kill(hp:∀k n,p k→p (JM k n)){r:kX}(h1:p r.1)(h2:r.2.1≠[])(k:kF)(n:Int)(hn:1≤n):RunsOf p (JN r k n):=by
  have I:0<r.2.1.length:=List.length_pos_iff.2 h2;unfold JN
  split
  ·rename_i C;simp only[z7,Bool.and_eq_true,decide_eq_true_eq] at C;obtain⟨-,E,F⟩:=C;intro q A;dsimp only at A;by_cases hlt:r.1.2.2<k.2.2
   ·simp only[if_pos hlt] at A;rcases List.mem_append.1 A with A|A
    ·rw[List.mem_singleton] at A;subst A;refine⟨h1,fun e=>?_⟩;have:=congrArg List.length e;simp only[uI,List.length_take,List.length_nil] at this;omega
    ·have B:p (zP r (k.2.2 - r.1.2.2).toNat).1:=hp _ _ h1;have G:(zP r (k.2.2 - r.1.2.2).toNat).2.1.length=r.2.1.length - (k.2.2 - r.1.2.2).toNat:=by simp [zP]
     have H:(zP r (k.2.2 - r.1.2.2).toNat).1.2.2=r.1.2.2+((k.2.2 - r.1.2.2).toNat:Int):=rfl;generalize zP r (k.2.2 - r.1.2.2).toNat=t at *
     split at A
     ·rename_i D;rcases List.mem_cons.1 A with rfl|A
      ·refine⟨B,fun e=>?_⟩;have:=congrArg List.length e;simp only[List.length_take,List.length_nil] at this;omega
      ·rw[List.mem_singleton] at A;subst A;refine⟨hp _ _ B,fun e=>?_⟩;have:=congrArg List.length e;simp only[zP,List.length_drop,List.length_nil] at this;omega
     ·rw[List.mem_singleton] at A;subst A;refine⟨B,fun e=>?_⟩;have:=congrArg List.length e;simp only[List.length_nil] at this;omega
   ·simp only[if_neg hlt,List.nil_append] at A
    split at A
    ·rename_i D;rcases List.mem_cons.1 A with rfl|A
     ·refine⟨h1,fun e=>?_⟩;have:=congrArg List.length e;simp only[List.length_take,List.length_nil] at this;omega
     ·rw[List.mem_singleton] at A;subst A;refine⟨hp _ _ h1,fun e=>?_⟩;have:=congrArg List.length e;simp only[zP,List.length_drop,List.length_nil] at this;omega
    ·rw[List.mem_singleton] at A;subst A;exact⟨h1,h2⟩
  ·intro q A;rw[List.mem_singleton] at A;subst A;exact⟨h1,h2⟩
theorem RunsOf.delete(hp:∀k n,p k→p (JM k n))(h:RunsOf p d)(k:kF)(n:Int):RunsOf p (vo d k n).1:=by
  unfold vo
  split
  ·exact h
  ·rename_i C
   split
   ·exact h
   ·intro q A;obtain⟨r,B,A⟩:=List.mem_flatMap.1 A;exact RunsOf.kill hp (h r B).1 (h r B).2 k n yz q A
end
def B(s:ByteArray)(k:Nat):Nat:=(s.get! k).toNat
theorem getB(s:ByteArray):∀(n:Nat) (h:n<s.size),((s[n]'h).toNat:Int)=(B s n:Int):=by
  intro n h;unfold B;have:=get_at s n h;simp at this;rw[this]
theorem Js(s:ByteArray)(k:Nat):B s k<256:=by unfold B;exact(s.get! k).toNat_lt
def KH(s:ByteArray)(pos:Nat):Bool:= !((Utf8.decode s pos) == (0xFFFD,1))
def Ke(s:ByteArray)(k:Nat):Bool:=decide (k<s.size) && (B s k / 64 == 2)
theorem ZP(s:ByteArray)(i:Nat):Utf8.decode s i=
    if B s i<0x80 then (B s i,1)
    else if (B s i / 32 == 6 && Ke s (i+1))=true then
      (if (B s i % 32)*64+B s (i+1) % 64≥0x80 then ((B s i % 32)*64+B s (i+1) % 64,2) else (0xFFFD,1))
    else if (B s i / 16 == 14 && Ke s (i+1) && Ke s (i+2))=true then
      (if ((B s i % 16)*4096+(B s (i+1) % 64)*64+B s (i+2) % 64≥0x800 && Utf8.valid ((B s i % 16)*4096+(B s (i+1) % 64)*64+B s (i+2) % 64:Nat))=true
        then ((B s i % 16)*4096+(B s (i+1) % 64)*64+B s (i+2) % 64,3) else (0xFFFD,1))
    else if (B s i / 8 == 30 && Ke s (i+1) && Ke s (i+2) && Ke s (i+3))=true then
      (if ((B s i % 8)*262144+(B s (i+1) % 64)*4096+(B s (i+2) % 64)*64+B s (i+3) % 64≥0x10000 && Utf8.valid ((B s i % 8)*262144+(B s (i+1) % 64)*4096+(B s (i+2) % 64)*64+B s (i+3) % 64:Nat))=true
        then ((B s i % 8)*262144+(B s (i+1) % 64)*4096+(B s (i+2) % 64)*64+B s (i+3) % 64,4) else (0xFFFD,1))
    else (0xFFFD,1):=by
  rfl
def KA(r:Int):Bool:=decide (0≤r) && decide (r≤1114111) && (decide (r<55296) || decide (57343<r))
theorem U5(r:Int):Utf8.valid r=KA r:=by
  unfold Utf8.valid KA;rw[Bool.eq_iff_iff];simp only[Bool.or_eq_true,Bool.and_eq_true,decide_eq_true_eq];omega
def v2(s:ByteArray)(i:Nat):Nat:=(B s i % 32)*64+B s (i+1) % 64
def v3(s:ByteArray)(i:Nat):Nat:=(B s i % 16)*4096+(B s (i+1) % 64)*64+B s (i+2) % 64
def v4(s:ByteArray)(i:Nat):Nat:=(B s i % 8)*262144+(B s (i+1) % 64)*4096+(B s (i+2) % 64)*64+B s (i+3) % 64
theorem ok_of{s:ByteArray}{i r n:Nat}(e:Utf8.decode s i=(r,n))(h:¬(r=0xFFFD∧n=1)):KH s i=true:=by
  simp [KH,e];omega
theorem UL{s:ByteArray}{i:Nat}(e:Utf8.decode s i=(0xFFFD,1)):KH s i=false:=by
  simp [KH,e]
theorem Jm{s:ByteArray}{k:Nat}(h:k<s.size)(b:B s k / 64=2):Ke s k=true:=by simp [Ke,h,b]
theorem JO{s:ByteArray}{k:Nat}(h:s.size≤k∨B s k / 64≠2):Ke s k=false:=by
  simp [Ke];omega
theorem dec1{s:ByteArray}{i:Nat}(h:B s i<128):Utf8.decode s i=(B s i,1)∧KH s i=true:=by
  have e:Utf8.decode s i=(B s i,1):=by rw[ZP,if_pos h]
  exact⟨e,ok_of e yz⟩
theorem dec_lone{s:ByteArray}{i:Nat}(h:128≤B s i∧B s i<192∨248≤B s i):KH s i=false:=by
  have:=Js s i;refine UL ?_;rw[ZP,if_neg yz,if_neg yj,if_neg yj,if_neg yj]
theorem dec2_no{s:ByteArray}{i:Nat}(h:192≤B s i∧B s i<224)(g:Ke s (i+1)=false):KH s i=false:=by
  refine UL ?_;rw[ZP,if_neg yz,if_neg (by simp [g]),if_neg yj,if_neg yj]
theorem dec2{s:ByteArray}{i:Nat}(h:192≤B s i∧B s i<224)(g:Ke s (i+1)=true):
    (128≤v2 s i∧Utf8.decode s i=(v2 s i,2)∧KH s i=true)∨(v2 s i<128∧KH s i=false):=by
  by_cases v:128≤v2 s i
  ·have e:Utf8.decode s i=(v2 s i,2):=by
      rw[ZP,if_neg yz,if_pos (by simp [g];omega),if_pos (by unfold v2 at v;omega)];rfl
   exact .inl ⟨v,e,ok_of e yz⟩
  ·refine .inr ⟨by omega,UL ?_⟩;rw[ZP,if_neg yz,if_pos (by simp [g];omega),if_neg (by unfold v2 at v;omega)]
theorem uh{s:ByteArray}{i:Nat}(h:224≤B s i∧B s i<240)(g:Ke s (i+1)=false∨Ke s (i+2)=false):KH s i=false:=by
  refine UL ?_;rw[ZP,if_neg yz,if_neg yj,if_neg (by rcases g with g|g<;>simp [g]),if_neg yj]
theorem dec3{s:ByteArray}{i:Nat}(h:224≤B s i∧B s i<240)(g:Ke s (i+1)=true)(g2:Ke s (i+2)=true):
    (2048≤v3 s i∧KA (v3 s i)=true∧Utf8.decode s i=(v3 s i,3)∧KH s i=true)∨((v3 s i<2048∨KA (v3 s i)=false)∧KH s i=false):=by
  by_cases v:2048≤v3 s i∧KA (v3 s i)=true
  ·have e:Utf8.decode s i=(v3 s i,3):=by
     rw[ZP,if_neg yz,if_neg yj,if_pos (by simp [g,g2];omega),if_pos]
     ·rfl
     ·rw[U5];show (decide (v3 s i≥2048) && KA (v3 s i))=true;simp [v]
   exact .inl ⟨v.1,v.2,e,ok_of e yz⟩
  ·refine .inr ⟨?_,UL ?_⟩
   ·rcases Nat.lt_or_ge (v3 s i) 2048 with a|a
    ·exact .inl a
    ·right;simpa [a] using v
   ·rw[ZP,if_neg yz,if_neg yj,if_pos (by simp [g,g2];omega),if_neg];rw[U5];show ¬(decide (v3 s i≥2048) && KA (v3 s i))=true
    simpa using v
theorem Zh{s:ByteArray}{i:Nat}(h:240≤B s i∧B s i<248)(g:Ke s (i+1)=false∨Ke s (i+2)=false∨Ke s (i+3)=false):KH s i=false:=by
  refine UL ?_;rw[ZP,if_neg yz,if_neg yj,if_neg yj,if_neg (by rcases g with g|g|g<;>simp [g])]
theorem dec4{s:ByteArray}{i:Nat}(h:240≤B s i∧B s i<248)(g:Ke s (i+1)=true)(g2:Ke s (i+2)=true)(g3:Ke s (i+3)=true):
    (65536≤v4 s i∧KA (v4 s i)=true∧Utf8.decode s i=(v4 s i,4)∧KH s i=true)∨((v4 s i<65536∨KA (v4 s i)=false)∧KH s i=false):=by
  by_cases v:65536≤v4 s i∧KA (v4 s i)=true
  ·have e:Utf8.decode s i=(v4 s i,4):=by
     rw[ZP,if_neg yz,if_neg yj,if_neg yj,if_pos (by simp [g,g2,g3];omega),if_pos]
     ·rfl
     ·rw[U5];show (decide (v4 s i≥65536) && KA (v4 s i))=true;simp [v]
   exact .inl ⟨v.1,v.2,e,ok_of e yz⟩
  ·refine .inr ⟨?_,UL ?_⟩
   ·rcases Nat.lt_or_ge (v4 s i) 65536 with a|a
    ·exact .inl a
    ·right;simpa [a] using v
   ·rw[ZP,if_neg yz,if_neg yj,if_neg yj,if_pos (by simp [g,g2,g3];omega),if_neg];rw[U5];show ¬(decide (v4 s i≥65536) && KA (v4 s i))=true
    simpa using v
theorem ZA{s:ByteArray}{i:Nat}(hi:i<s.size):i+(Utf8.decode s i).2≤s.size∧1≤(Utf8.decode s i).2∧(Utf8.decode s i).2≤4:=by
  have C:∀{r n:Nat},Utf8.decode s i=(r,n)→i+n≤s.size→1≤n→n≤4→i+(Utf8.decode s i).2≤s.size∧1≤(Utf8.decode s i).2∧(Utf8.decode s i).2≤4:=by
    intro r n e E F G;rw[e];exact⟨E,F,G⟩
  have A:KH s i=false→Utf8.decode s i=(0xFFFD,1):=by intro h;simpa [KH] using h
  have H:=Js s i;have D:∀{k},Ke s k=true→k<s.size:=by intro k h;simp [Ke] at h;exact h.1
  rcases (by omega:B s i<128∨(128≤B s i∧B s i<192∨248≤B s i)∨(192≤B s i∧B s i<224)∨(224≤B s i∧B s i<240)∨(240≤B s i∧B s i<248)) with h|h|h|h|h
  ·exact C (dec1 h).1 yz yz yz
  ·exact C (A (dec_lone h)) yz yz yz
  ·cases g:Ke s (i+1)
   ·exact C (A (dec2_no h g)) yz yz yz
   ·have:=D g;rcases dec2 h g with⟨_,e,_⟩|⟨_,e⟩
    ·exact C e yz yz yz
    ·exact C (A e) yz yz yz
  ·cases g:Ke s (i+1)
   ·exact C (A (uh h (.inl g))) yz yz yz
   ·cases g2:Ke s (i+2)
    ·exact C (A (uh h (.inr g2))) yz yz yz
    ·have:=D g2;rcases dec3 h g g2 with⟨_,_,e,_⟩|⟨_,e⟩
     ·exact C e yz yz yz
     ·exact C (A e) yz yz yz
  ·cases g:Ke s (i+1)
   ·exact C (A (Zh h (.inl g))) yz yz yz
   ·cases g2:Ke s (i+2)
    ·exact C (A (Zh h (.inr (.inl g2)))) yz yz yz
    ·cases g3:Ke s (i+3)
     ·exact C (A (Zh h (.inr (.inr g3)))) yz yz yz
     ·have:=D g3;rcases dec4 h g g2 g3 with⟨_,_,e,_⟩|⟨_,e⟩
      ·exact C e yz yz yz
      ·exact C (A e) yz yz yz
def Jn(s:ByteArray):Nat→Nat→Option (List Nat)
  | 0,_=>some []
  |f+1,pos=>if pos<s.size then (if KH s pos then (Jn s f (pos+(Utf8.decode s pos).2)).map ((Utf8.decode s pos).1:: ·) else none) else some []
def jx(s:ByteArray):Option (List Nat):=Jn s s.size 0
def KO(s:ByteArray):Bool:=(jx s).isSome
theorem qi(s:ByteArray):∀(f g pos:Nat),s.size≤pos+f→f≤g→Jn s g pos=Jn s f pos
  | 0,0,_,_,_=>rfl
  | 0,g+1,pos,h,_=>by simp [Jn];omega
  |f+1,0,_,_,h=>by omega
  |f+1,g+1,pos,h,hg=>by
   unfold Jn;by_cases hp:pos<s.size
   ·rw[if_pos hp,if_pos hp];by_cases ho:KH s pos=true
    ·rw[if_pos ho,if_pos ho,qi s f g _ (by have:=(ZA hp).2.1;omega) yz]
    ·rw[if_neg ho,if_neg ho]
   ·rw[if_neg hp,if_neg hp]
def jA(s:ByteArray)(pos:Nat):Option (List Nat):=Jn s (s.size - pos) pos
theorem ZQ(s:ByteArray):jx s=jA s 0:=rfl
theorem KB{s:ByteArray}{pos:Nat}(h:s.size≤pos):jA s pos=some []:=by
  unfold jA;rw[show s.size - pos=0 by omega];rfl
theorem vp{s:ByteArray}{pos:Nat}(h:pos<s.size)(k:KH s pos=false):jA s pos=none:=by
  unfold jA;obtain⟨f,A⟩:∃f,s.size - pos=f+1:=⟨s.size - pos - 1,by omega⟩;rw[A,Jn,if_pos h,k];rfl
theorem KE{s:ByteArray}{pos:Nat}(h:pos<s.size)(k:KH s pos=true):
    jA s pos=(jA s (pos+(Utf8.decode s pos).2)).map ((Utf8.decode s pos).1:: ·):=by
  unfold jA;obtain⟨f,A⟩:∃f,s.size - pos=f+1:=⟨s.size - pos - 1,by omega⟩;rw[A,Jn,if_pos h,k,if_pos rfl,qi s (s.size - (pos+(Utf8.decode s pos).2)) f _ yz (by have:=(ZA h).2.1;omega)]
def vl(r:Int):List Int:=
  if r<128 then [r] else if r<2048 then [192+r / 64,128+r % 64] else if r<65536 then [224+r / 4096,128+r / 64 % 64,128+r % 64]
  else [240+r / 262144,128+r / 4096 % 64,128+r / 64 % 64,128+r % 64]
theorem encB1{r:Int}(h:r<128):vl r=[r]:=by unfold vl;rw[if_pos h]
theorem encB2{r:Int}(h:128≤r)(h':r<2048):vl r=[192+r / 64,128+r % 64]:=by
  unfold vl;rw[if_neg yz,if_pos h']
theorem encB3{r:Int}(h:2048≤r)(h':r<65536):vl r=[224+r / 4096,128+r / 64 % 64,128+r % 64]:=by
  unfold vl;rw[if_neg yz,if_neg yz,if_pos h']
theorem encB4{r:Int}(h:65536≤r):vl r=[240+r / 262144,128+r / 4096 % 64,128+r / 64 % 64,128+r % 64]:=by
  unfold vl;rw[if_neg yz,if_neg yz,if_neg yz]
def vOf(s:ByteArray)(i k:Nat):Int:=
  if k=1 then B s i else if k=2 then ((B s i:Int) - 192)*64+B s (i+1) - 128
  else if k=3 then ((B s i:Int) - 224)*4096+((B s (i+1):Int) - 128)*64+B s (i+2) - 128
  else ((B s i:Int) - 240)*262144+((B s (i+1):Int) - 128)*4096+((B s (i+2):Int) - 128)*64+B s (i+3) - 128
def zF(s:ByteArray)(i k:Nat):List Int:=
  if k=1 then [(B s i:Int)] else if k=2 then [(B s i:Int),B s (i+1)] else if k=3 then [(B s i:Int),B s (i+1),B s (i+2)]
  else [(B s i:Int),B s (i+1),B s (i+2),B s (i+3)]
def hit(s:ByteArray)(i k:Nat):Prop:=KH s i=true∧(Utf8.decode s i).2=k
theorem U6{s:ByteArray}{k:Nat}(h:Ke s k=true):k<s.size∧B s k / 64=2:=by simpa [Ke] using h
theorem vOf_hit{s:ByteArray}{i k:Nat}(h:hit s i k):vOf s i k=(Utf8.decode s i).1∧KA (Utf8.decode s i).1=true∧vl (Utf8.decode s i).1=zF s i k∧1≤k∧k≤4:=by
  obtain⟨A,D⟩:=h;have J:=Js s i;have G:=Js s (i+1);have H:=Js s (i+2);have I:=Js s (i+3);rcases (by omega:B s i<128∨(128≤B s i∧B s i<192∨248≤B s i)∨(192≤B s i∧B s i<224)∨(224≤B s i∧B s i<240)∨(240≤B s i∧B s i<248)) with h|h|h|h|h
  ·obtain⟨e,_⟩:=dec1 h;rw[e] at D ⊢;subst D;refine⟨rfl,by simp [KA];omega,?_,by omega,by omega⟩;rw[encB1 yj];rfl
  ·rw[dec_lone h] at A;cases A
  ·cases g:Ke s (i+1)
   ·rw[dec2_no h g] at A;cases A
   ·have:=U6 g;rcases dec2 h g with⟨F,e,_⟩|⟨_,e⟩
    ·rw[e] at D ⊢;subst D;have C:(v2 s i:Int)=((B s i:Int) - 192)*64+B s (i+1) - 128:=by unfold v2;omega
     refine⟨C.symm,by simp [KA];omega,?_,by omega,by omega⟩;rw[encB2 yz (by simp only[C];omega)];simp only[C,zF];simp;omega
    ·rw[e] at A;cases A
  ·cases g:Ke s (i+1)
   ·rw[uh h (.inl g)] at A;cases A
   ·cases g2:Ke s (i+2)
    ·rw[uh h (.inr g2)] at A;cases A
    ·have:=U6 g;have:=U6 g2;rcases dec3 h g g2 with⟨F,E,e,_⟩|⟨_,e⟩
     ·rw[e] at D ⊢;subst D;have C:(v3 s i:Int)=((B s i:Int) - 224)*4096+((B s (i+1):Int) - 128)*64+B s (i+2) - 128:=by unfold v3;omega
      refine⟨C.symm,E,?_,by omega,by omega⟩;rw[encB3 yz (by simp only[C];omega)];simp only[C,zF];simp;omega
     ·rw[e] at A;cases A
  ·cases g:Ke s (i+1)
   ·rw[Zh h (.inl g)] at A;cases A
   ·cases g2:Ke s (i+2)
    ·rw[Zh h (.inr (.inl g2))] at A;cases A
    ·cases g3:Ke s (i+3)
     ·rw[Zh h (.inr (.inr g3))] at A;cases A
     ·have:=U6 g;have:=U6 g2;have:=U6 g3;rcases dec4 h g g2 g3 with⟨F,E,e,_⟩|⟨_,e⟩
      ·rw[e] at D ⊢;subst D;have C:(v4 s i:Int)=((B s i:Int) - 240)*262144+((B s (i+1):Int) - 128)*4096+((B s (i+2):Int) - 128)*64+B s (i+3) - 128:=by unfold v4;omega
       refine⟨C.symm,E,?_,by omega,by omega⟩;rw[encB4 yz];simp only[C,zF];simp;omega
      ·rw[e] at A;cases A
theorem may_range{r:Int}(h:KA r=true):0≤r∧r≤1114111∧(r<55296∨57343<r):=by
  simp [KA] at h;omega
theorem vOf_miss{s:ByteArray}{i k:Nat}(h1:1≤k)(h4:k≤4)(hin:i+k≤s.size)(hm:KA (vOf s i k)=true)(he:vl (vOf s i k)=zF s i k):hit s i k:=by
  have C:=may_range hm;have O:=Js s i;have L:=Js s (i+1);have M:=Js s (i+2);have N:=Js s (i+3);have D:∀{r n:Nat},Utf8.decode s i=(r,n)→KH s i=true→n=k→hit s i k:=by
    intro r n e A I;exact⟨A,by rw[e];exact I⟩
  rcases (by omega:k=1∨k=2∨k=3∨k=4) with rfl|rfl|rfl|rfl
  ·rw[show vOf s i 1=(B s i:Int) from rfl] at he C;rcases (by omega:(B s i:Int)<128∨128≤(B s i:Int)) with a|a
   ·obtain⟨e,A⟩:=dec1 (s:=s) (i:=i) yz;exact D e A rfl
   ·rw[encB2 a yz] at he;simp [zF] at he
  ·rw[show vOf s i 2=((B s i:Int) - 192)*64+B s (i+1) - 128 from rfl] at he C;generalize hv:((B s i:Int) - 192)*64+B s (i+1) - 128=v at he C;rcases (by omega:v<128∨(128≤v∧v<2048)∨(2048≤v∧v<65536)∨65536≤v) with a|⟨a,b⟩|⟨a,b⟩|a
   ·rw[encB1 a] at he;simp [zF] at he
   ·rw[encB2 a b] at he;simp [zF] at he;obtain⟨G,H⟩:=he;have h:192≤B s i∧B s i<224:=by omega
    have g:Ke s (i+1)=true:=Jm yz yz;rcases dec2 h g with⟨_,e,A⟩|⟨c,_⟩
    ·exact D e A rfl
    ·unfold v2 at c;omega
   ·rw[encB3 a b] at he;simp [zF] at he
   ·rw[encB4 a] at he;simp [zF] at he
  ·rw[show vOf s i 3=((B s i:Int) - 224)*4096+((B s (i+1):Int) - 128)*64+B s (i+2) - 128 from rfl] at he C hm;generalize hv:((B s i:Int) - 224)*4096+((B s (i+1):Int) - 128)*64+B s (i+2) - 128=v at he C hm;rcases (by omega:v<128∨(128≤v∧v<2048)∨(2048≤v∧v<65536)∨65536≤v) with a|⟨a,b⟩|⟨a,b⟩|a
   ·rw[encB1 a] at he;simp [zF] at he
   ·rw[encB2 a b] at he;simp [zF] at he
   ·rw[encB3 a b] at he;simp [zF] at he;obtain⟨G,H,J⟩:=he;have h:224≤B s i∧B s i<240:=by omega
    have g:Ke s (i+1)=true:=Jm yz yz;have E:Ke s (i+2)=true:=Jm yz yz;have F:(v3 s i:Int)=v:=by unfold v3;omega
    rcases dec3 h g E with⟨_,_,e,A⟩|⟨c,_⟩
    ·exact D e A rfl
    ·rcases c with c|c
     ·omega
     ·rw[F,hm] at c;cases c
   ·rw[encB4 a] at he;simp [zF] at he
  ·rw[show vOf s i 4=((B s i:Int) - 240)*262144+((B s (i+1):Int) - 128)*4096+((B s (i+2):Int) - 128)*64+B s (i+3) - 128 from rfl] at he C hm;generalize hv:((B s i:Int) - 240)*262144+((B s (i+1):Int) - 128)*4096+((B s (i+2):Int) - 128)*64+B s (i+3) - 128=v at he C hm;rcases (by omega:v<128∨(128≤v∧v<2048)∨(2048≤v∧v<65536)∨65536≤v) with a|⟨a,b⟩|⟨a,b⟩|a
   ·rw[encB1 a] at he;simp [zF] at he
   ·rw[encB2 a b] at he;simp [zF] at he
   ·rw[encB3 a b] at he;simp [zF] at he
   ·rw[encB4 a] at he;simp [zF] at he;obtain⟨G,H,J,P⟩:=he;have h:240≤B s i∧B s i<248:=by omega
    have g:Ke s (i+1)=true:=Jm yz yz;have E:Ke s (i+2)=true:=Jm yz yz;have K:Ke s (i+3)=true:=Jm yz yz;have F:(v4 s i:Int)=v:=by unfold v4;omega
    rcases dec4 h g E K with⟨_,_,e,A⟩|⟨c,_⟩
    ·exact D e A rfl
    ·rcases c with c|c
     ·omega
     ·rw[F,hm] at c;cases c
theorem vOf_range(s:ByteArray)(i k:Nat): -100000000≤vOf s i k∧vOf s i k≤100000000:=by
  have D:=Js s i;have A:=Js s (i+1);have B:=Js s (i+2);have C:=Js s (i+3);unfold vOf
  split
  ·omega
  ·split
   ·omega
   ·split<;>omega
abbrev L(s:ByteArray):List UInt8:=s.data.toList
theorem ji(s:ByteArray):(L s).length=s.size:=by simp [L]
theorem ZR(s:ByteArray):s.toList=L s:=by
  have h:=Lib.extract_toList s 0 s.size;have A:=Lib.extract_data s 0 s.size;have e:s.extract 0 s.size=s:=by
    apply ByteArray.ext;apply Array.toList_inj.1;rw[A,List.drop_zero,List.take_of_length_le (by rw[←ji];exact Nat.le_refl _)]
  rw[e] at h;rw[h,List.drop_zero,List.take_of_length_le (by rw[←ji];exact Nat.le_refl _)]
theorem L_inj{a b:ByteArray}(h:L a=L b):a=b:=by
  apply ByteArray.ext;exact Array.toList_inj.1 h
theorem str_beq(a b:ByteArray):(a.toList == b.toList)=decide (L a=L b):=by
  rw[ZR,ZR,Bool.eq_iff_iff];simp
theorem B_L(s:ByteArray)(k:Nat)(h:k<s.size):(L s)[k]?=some (s[k]'h):=Go.Proofs.byte_at s k h
theorem B_of(s:ByteArray)(k:Nat)(h:k<s.size):B s k=(s[k]'h).toNat:=by
  have:=getB s k h;omega
def num(l:List UInt8):List Int:=l.map fun c=>(c.toNat:Int)
theorem num_inj{a b:List UInt8}(h:num a=num b):a=b:=by
  induction a generalizing b with
  |nil=>cases b with
   |nil=>rfl
   |cons _ _=>simp [num] at h
  |cons x a ih=>cases b with
   |nil=>simp [num] at h
   |cons y b=>
    simp only[num,List.map_cons,List.cons.injEq] at h;have:=ih h.2;subst this;have A:x=y:=UInt8.toNat_inj.1 yz;rw[A]
theorem num_strOf{xs:List Int}(h:∀x∈xs,0≤x∧x<256):num (L (strOfNums xs))=xs:=by
  rw[L,strOfNums_data,num,List.map_map]
  conv=>rhs;rw[←List.map_id xs]
  apply List.map_congr_left;intro x A;have:=h x A;simp;omega
theorem encB_range{r:Int}(h0:0≤r)(h1:r≤1114111):∀x∈vl r,0≤x∧x<256:=by
  rcases (by omega:r<128∨(128≤r∧r<2048)∨(2048≤r∧r<65536)∨65536≤r) with a|⟨a,b⟩|⟨a,b⟩|a
  ·rw[encB1 a];simp;omega
  ·rw[encB2 a b];simp;omega
  ·rw[encB3 a b];simp;omega
  ·rw[encB4 a];simp;omega
theorem zg(s:ByteArray)(i:Nat)(h:i<s.size)(k:Nat):num (((L s).drop i).take (k+1))=(B s i:Int)::num (((L s).drop (i+1)).take k):=by
  have A:i<(L s).length:=by rw[ji];exact h
  rw[List.drop_eq_getElem_cons A,List.take_succ_cons];have e:(L s)[i]=s[i]'h:=Go.Proofs.byte_at' s i h A;rw[e,B_of s i h];rfl
theorem num_extract{s:ByteArray}{i k:Nat}(h1:1≤k)(h4:k≤4)(hin:i+k≤s.size):num (L (s.extract i (i+k)))=zF s i k:=by
  rw[L,Lib.extract_data,show i+k - i=k by omega];rcases (by omega:k=1∨k=2∨k=3∨k=4) with rfl|rfl|rfl|rfl
  ·rw[zg s i yz];rfl
  ·rw[zg s i yz,zg s (i+1) yz];rfl
  ·rw[zg s i yz,zg s (i+1) yz,zg s (i+1+1) yz];rfl
  ·rw[zg s i yz,zg s (i+1) yz,zg s (i+1+1) yz,zg s (i+1+1+1) yz];rfl
theorem enc_beq{s:ByteArray}{i k:Nat}{v:Int}(h1:1≤k)(h4:k≤4)(hin:i+k≤s.size)(h0:0≤v)(hv:v≤1114111):
    ((strOfNums (vl v)).toList == (s.extract i (i+k)).toList)=decide (vl v=zF s i k):=by
  rw[str_beq,Bool.eq_iff_iff,decide_eq_true_eq,decide_eq_true_eq,←num_extract h1 h4 hin];constructor
  ·intro h;rw[←h,num_strOf (encB_range h0 hv)]
  ·intro h;apply num_inj;rw[num_strOf (encB_range h0 hv),h]
def jI(r:Nat):Bool:=decide (32≤r) && !(r == 127)
def K7(s:ByteArray)(p:Nat→Bool):Bool:=match jx s with
  |some l=>l.all p
  |none=>false
def zK(s:ByteArray):Bool:=decide (1≤s.size) && decide (s.size≤32) && K7 s jI
def noteB(s:ByteArray):Bool:=decide (s.size≤256) && KO s
def pieces:List UInt8→List (List UInt8)
  | []=>[[]]
  |c::l=>if c=47 then []::pieces l else match pieces l with
   |p::ps=>(c::p)::ps
   | []=>[[c]]
def Jd(p:List UInt8):Bool:= !decide (p=[]) && !decide (p=[46]) && !decide (p=[46,46])
def jZ(s:ByteArray):Bool:=decide (1≤s.size) && decide (s.size≤64) && K7 s jI && (pieces (L s)).all Jd
def uJ(a b:List UInt8):Bool:=(a++[47]).isPrefixOf b
def ZC(a b:List UInt8):Bool:=decide (a=b) || uJ a b || uJ b a
theorem QF{l:List UInt8}(h:(47:UInt8)∉l):pieces l=[l]:=by
  induction l with
  |nil=>rfl
  |cons c l ih=>
   simp only[List.mem_cons,not_or] at h;rw[pieces,if_neg (fun e=>h.1 e.symm),ih h.2]
theorem pieces_cut{a b:List UInt8}(h:(47:UInt8)∉a):pieces (a++47::b)=a::pieces b:=by
  induction a with
  |nil=>simp [pieces]
  |cons c a ih=>
   simp only[List.mem_cons,not_or] at h;rw[List.cons_append,pieces,if_neg (fun e=>h.1 e.symm),ih h.2]
theorem index_slash{a b:List UInt8}(h:(47:UInt8)∉a):Lib.index (a++47::b) [47]=a.length:=by
  induction a with
  |nil=>simp [Lib.index]
  |cons c a ih=>
   simp only[List.mem_cons,not_or] at h;have A:¬((47:UInt8) == c)=true:=by simpa using h.1
   rw[List.cons_append,Lib.index,ih h.2];simp only[List.isPrefixOf,A,Bool.false_and];simp
theorem uK(l:List UInt8):(47:UInt8)∉l∨∃a b,l=a++47::b∧(47:UInt8)∉a:=by
  induction l with
  |nil=>exact .inl yq
  |cons c l A=>
   by_cases hc:c=47
   ·exact .inr ⟨[],l,by simp [hc],by simp⟩
   ·rcases A with A|⟨a,b,rfl,B⟩
    ·exact .inl (by simp [A];exact fun e=>hc e.symm)
    ·exact .inr ⟨c::a,b,rfl,by simp [B];exact fun e=>hc e.symm⟩
theorem split_pieces:∀(n:Nat) (l:List UInt8),l.length≤n→Lib.splitK [47] 0 (l.count 47) l=pieces l:=by
  intro n
  induction n with
  |zero=>
   intro l B;have:l=[]:=List.length_eq_zero_iff.1 yz;subst this;rfl
  |succ n ih=>
   intro l B;rcases uK l with h|⟨a,b,rfl,A⟩
   ·rw[QF h,List.count_eq_zero.2 h];rfl
   ·rw[pieces_cut A,List.count_append,List.count_eq_zero.2 A,List.count_cons_self,Nat.zero_add,Lib.splitK,index_slash A];have C:(a++47::b).length=a.length+b.length+1:=by simp;omega
    have D:((a.length:Int)).toNat=a.length:=by omega
    rw[if_neg yq,D,Nat.add_zero,List.take_left,show ([47]:List UInt8).length=1 from rfl];have E:(a++47::b).drop (a.length+1)=b:=by rw[List.drop_append];simp
    rw[E,ih b yz]
def Kv:ByteArray:=⟨#[47]⟩
theorem UD(s:ByteArray):(Lib.splitB Kv 0 (Lib.countB s Kv) s).map L=pieces (L s):=by
  have h:=Lib.splitB_data Kv 0 (Lib.countB s Kv) s;have A:Lib.countB s Kv=(L s).count 47:=Lib.count_one 47 (L s);have e:(Lib.splitB Kv 0 (Lib.countB s Kv) s).map L=(Lib.splitB Kv 0 (Lib.countB s Kv) s).map (·.data.toList):=rfl;rw[e,h,A];exact split_pieces _ (L s) (Nat.le_refl _)
theorem plainB_text{s:ByteArray}{p:Nat→Bool}(h:KO s=false):K7 s p=false:=by
  unfold K7;unfold KO at h;cases hr:jx s
  ·rfl
  ·rw[hr] at h;cases h
theorem drop_split{s:ByteArray}{f k:Nat}(hfk:f≤k):(L s).drop f=L (s.extract f k)++(L s).drop k:=by
  rw[show L (s.extract f k)=((L s).drop f).take (k - f) from Lib.extract_data s f k];have:((L s).drop f).drop (k - f)=(L s).drop k:=by rw[List.drop_drop];congr 1;omega
  rw[←this,List.take_append_drop]
theorem no_slash{s:ByteArray}{f k:Nat}(hk:k≤s.size)(h:∀j,f≤j→j<k→B s j≠47):(47:UInt8)∉L (s.extract f k):=by
  intro D;obtain⟨j,A⟩:=List.getElem?_of_mem D;rw[L,Lib.extract_data,List.getElem?_take] at A
  split at A
  ·rename_i E;rw[List.getElem?_drop] at A;have C:=B_L s (f+j) yz;rw[L] at C;rw[C] at A;have:=B_of s (f+j) yz;have e:s[f+j]'(by omega)=47:=Option.some.inj A;rw[e] at this;exact h (f+j) yz yz this
  ·cases A
theorem drop_cons{s:ByteArray}{k:Nat}(hk:k<s.size)(h:B s k=47):(L s).drop k=47::(L s).drop (k+1):=by
  have A:k<(L s).length:=by rw[ji];exact hk
  rw[List.drop_eq_getElem_cons A];have e:(L s)[k]=s[k]'hk:=Go.Proofs.byte_at' s k hk A;have:=B_of s k hk;rw[e,show s[k]'hk=47 from UInt8.toNat_inj.1 (by rw[←this,h];rfl)]
theorem pieces_at{s:ByteArray}{f k:Nat}(hfk:f≤k)(hk:k<s.size)(h47:B s k=47)(h:∀j,f≤j→j<k→B s j≠47):
    pieces ((L s).drop f)=L (s.extract f k)::pieces ((L s).drop (k+1)):=by
  rw[drop_split hfk,drop_cons hk h47,pieces_cut (no_slash yz h)]
theorem pieces_end{s:ByteArray}{f:Nat}(hf:f≤s.size)(h:∀j,f≤j→j<s.size→B s j≠47):pieces ((L s).drop f)=[L (s.extract f s.size)]:=by
  rw[drop_split hf,List.drop_eq_nil_of_le (by rw[ji];exact Nat.le_refl _),List.append_nil,QF (no_slash (Nat.le_refl _) h)]
def valOf(l:List UInt8):Nat:=l.foldl (fun a c=>10*a+(c.toNat - 48)) 0
theorem valOf_snoc(l:List UInt8)(c:UInt8):valOf (l++[c])=10*valOf l+(c.toNat - 48):=by simp [valOf]
theorem vq{d:Nat}(h:d<10):(UInt8.ofNat (48+d)).toNat=48+d:=by
  simp;omega
theorem uL{u:Nat}(h:¬u<10):Lib.decDigits u=Lib.decDigits (u / 10)++[UInt8.ofNat (48+u % 10)]:=by
  rw[Lib.decDigits,dif_neg h]
theorem qk:∀(n u:Nat),u≤n→valOf (Lib.decDigits u)=u:=by
  intro n
  induction n with
  |zero=>intro u A;rw[show u=0 by omega,Lib.decDigits_one yz];decide
  |succ n ih=>
   intro u A;by_cases h:u<10
   ·rw[Lib.decDigits_one h];have:=valOf_snoc [] (UInt8.ofNat (48+u));rw[List.nil_append] at this;rw[this,vq h];simp [valOf]
   ·rw[uL h,valOf_snoc,ih (u / 10) yz,vq yz];omega
theorem decDigits_inj{a b:Nat}(h:Lib.decDigits a=Lib.decDigits b):a=b:=by
  have A:=qk a a (Nat.le_refl _);have B:=qk b b (Nat.le_refl _);rw[h] at A;omega
theorem decDigits_mem:∀(n u:Nat),u≤n→∀c∈Lib.decDigits u,48≤c.toNat∧c.toNat≤57:=by
  intro n
  induction n with
  |zero=>intro u B;rw[show u=0 by omega,Lib.decDigits_one yz];decide
  |succ n ih=>
   intro u B c A;by_cases h:u<10
   ·rw[Lib.decDigits_one h] at A;simp only[List.mem_singleton] at A;subst A;rw[vq h];omega
   ·rw[uL h] at A;rcases List.mem_append.1 A with A|A
    ·exact ih (u / 10) yz c A
    ·simp only[List.mem_singleton] at A;subst A;rw[vq yz];omega
def jP(l:List UInt8):List UInt8:=l.takeWhile (· != 47)
def restc(l:List UInt8):List UInt8:=l.dropWhile (· != 47)
theorem Kj(l:List UInt8):jP l++restc l=l:=List.takeWhile_append_dropWhile
theorem firstc_no(l:List UInt8):(47:UInt8)∉jP l:=by
  induction l with
  |nil=>simp [jP]
  |cons c l ih=>
   unfold jP at ih ⊢;rw[List.takeWhile_cons]
   split
   ·rename_i A;simp only[List.mem_cons,not_or];exact⟨fun e=>by rw[←e] at A;simp at A,ih⟩
   ·simp
theorem ZS{a:List UInt8}(ha:(47:UInt8)∉a)(b:List UInt8):jP (a++47::b)=a:=by
  unfold jP;rw[List.takeWhile_append_of_pos]
  ·simp
  ·intro x A;simp only[bne_iff_ne];intro e;exact ha (e▸A)
theorem Zp{a:List UInt8}(ha:(47:UInt8)∉a):jP a=a:=by
  have:=List.takeWhile_append_of_pos (p:=(· != (47:UInt8))) (l₁:=a) (l₂:=[]) (by
    intro x A;simp only[bne_iff_ne];intro e;exact ha (e▸A))
  simpa [jP] using this
theorem restc_form(l:List UInt8):restc l=[]∨∃b,restc l=47::b:=by
  rcases uK l with h|⟨a,b,rfl,A⟩
  ·left
   have:=Kj l;rw[Zp h] at this;have:=congrArg List.length this;simp at this;exact this
  ·right
   have:=Kj (a++47::b);rw[ZS A] at this;exact⟨b,List.append_cancel_left this⟩
theorem QG{a b:List UInt8}(h:uJ a b=true):jP a=jP b:=by
  unfold uJ at h;rw[List.isPrefixOf_iff_prefix] at h;obtain⟨t,rfl⟩:=h;rw[List.append_assoc];rcases uK a with A|⟨x,y,rfl,B⟩
  ·rw[Zp A];exact(ZS A _).symm
  ·rw[ZS B,List.append_assoc];exact(ZS B _).symm
theorem clash_first{a b:List UInt8}(h:ZC a b=true):jP a=jP b:=by
  unfold ZC at h;simp only[Bool.or_eq_true,decide_eq_true_eq] at h;rcases h with (h|h)|h
  ·rw[h]
  ·exact QG h
  ·exact(QG h).symm
def Zq(l:List UInt8)(n:Nat):List UInt8:=jP l++[126]++Lib.decDigits n++restc l
theorem cand_first(l:List UInt8)(n:Nat):jP (Zq l n)=jP l++[126]++Lib.decDigits n:=by
  have A:(47:UInt8)∉jP l++[126]++Lib.decDigits n:=by
    intro h;rcases List.mem_append.1 h with h|h
    ·rcases List.mem_append.1 h with h|h
     ·exact firstc_no l h
     ·simp at h
    ·have:=decDigits_mem n n (Nat.le_refl _) _ h;simp at this
  unfold Zq;rcases restc_form l with h|⟨b,h⟩
  ·rw[h,List.append_nil,Zp A]
  ·rw[h,ZS A]
theorem cand_inj{l:List UInt8}{a b:Nat}(h:jP (Zq l a)=jP (Zq l b)):a=b:=by
  rw[cand_first,cand_first] at h;exact decDigits_inj (List.append_cancel_left h)
def KI(t:List UInt8)(taken:List (List UInt8)):Bool:=taken.any (ZC t)
theorem pigeon{α:Type}[DecidableEq α](f:Nat→α)(hf:∀a b,f a=f b→a=b):∀(T:List α) (J:List Nat),J.Nodup→(∀j∈J,f j∈T)→J.length≤T.length:=by
  intro T
  induction T with
  |nil=>
   intro J _ h;cases J with
   |nil=>simp
   |cons j J=>exact absurd (h j yq) yq
  |cons t T ih=>
   intro J B h;by_cases he:∃j∈J,f j=t
   ·obtain⟨C,D,E⟩:=he;have F:=ih (J.erase C) (B.erase C) (by
       intro j A;have G:=(List.Nodup.mem_erase_iff B).1 A;rcases List.mem_cons.1 (h j G.2) with e|e
       ·exact absurd (hf _ _ (e.trans E.symm)) G.1
       ·exact e)
    rw[List.length_erase_of_mem D] at F;simp only[List.length_cons];omega
   ·have F:=ih J B (by
       intro j A;rcases List.mem_cons.1 (h j A) with e|e
       ·exact absurd ⟨j,A,e⟩ he
       ·exact e)
    simp only[List.length_cons];omega
theorem cand_few{l:List UInt8}{taken:List (List UInt8)}{m:Nat}(h:∀j,1≤j→j≤m→KI (Zq l j) taken=true):m≤taken.length:=by
  have:=pigeon (fun j=>jP (Zq l (j+1))) (fun a b e=>by have:=cand_inj e;omega) (taken.map jP) (List.range m) List.nodup_range (by
    intro j C;have E:j<m:=by simpa using C
    have A:=h (j+1) yz yz;unfold KI at A;rw[List.any_eq_true] at A;obtain⟨o,D,B⟩:=A;rw[show jP (Zq l (j+1))=jP o from clash_first B];exact List.mem_map_of_mem D)
  simpa using this
def vr(l:List UInt8)(taken:List (List UInt8)):Nat→Nat→List UInt8→List UInt8
  | 0,_,t=>t
  |f+1,n,t=>if KI t taken then vr l taken f (n+1) (Zq l n) else t
def vD(l:List UInt8)(taken:List (List UInt8)):List UInt8:=vr l taken (taken.length+2) 1 l
abbrev kS:=kF×kF×Nat×ByteArray
def vt(k:Nat)(p:ByteArray):Bool:=if k=3∨k=4 then jZ p else if k=5 then decide (p.size=0) else false
def UM(l:List kS):Prop:=(∀c∈l,vt c.2.2.1 c.2.2.2=true)∧(l.map (·.1)).Nodup
instance (l:List kS):Decidable (UM l):=by unfold UM;infer_instance
def UN(l:List kS):Bool:=decide (UM l)
def later(d:kF)(a:Option kS)(c:kS):Option kS:=
  if c.2.1=d then (match a with|none=>some c|some w=>if 0<zG c.1 w.1 then some c else some w) else a
def Kk(l:List kS)(d:kF):Option kS:=l.foldl (later d) none
theorem uM(l:List kS)(c:kS)(d:kF):Kk (l++[c]) d=later d (Kk l d) c:=by simp [Kk]
theorem lastOf_ne{d:kF}{x:kS}{l:List kS}(h1:x∈l)(h2:x.2.1=d):Kk l d≠none:=by
  suffices h:∀(l:List kS) (a:Option kS),(a≠none∨(x∈l∧x.2.1=d))→l.foldl (later d) a≠none from h l none (.inr ⟨h1,h2⟩)
  intro l
  induction l with
  |nil=>exact fun a h=>h.elim id (fun h=>absurd h.1 yq)
  |cons y l ih=>
   intro a h;rw[List.foldl_cons];apply ih;rcases h with h|⟨h,A⟩
   ·left
    unfold later
    split
    ·split
     ·simp
     ·split<;>simp
    ·exact h
   ·rcases List.mem_cons.1 h with rfl|h
    ·left
     unfold later;rw[if_pos A]
     split
     ·simp
     ·split<;>simp
    ·exact .inr ⟨h,A⟩
theorem U7{l:List kS}{d:kF}{c:kS}(h0:Kk l d=some c):c∈l∧c.2.1=d∧∀x∈l,x.2.1=d→zG x.1 c.1≤0:=by
  suffices h:∀(n:Nat) (l:List kS),l.length≤n→∀c,Kk l d=some c→c∈l∧c.2.1=d∧∀x∈l,x.2.1=d→zG x.1 c.1≤0 from h _ l (Nat.le_refl _) c h0
  intro n
  induction n with
  |zero=>
   intro l J c h;rw[List.length_eq_zero_iff.1 (by omega:l.length=0)] at h;cases h
  |succ n ih=>
   intro l J c h;rcases List.eq_nil_or_concat l with e|⟨C,y,e⟩
   ·rw[e] at h;cases h
   ·rw[List.concat_eq_append] at e;subst e;have F:C.length≤n:=by simp at J;omega
    rw[uM] at h;unfold later at h
    split at h
    ·rename_i D
     split at h
     ·rename_i K;cases h
      refine⟨by simp,D,fun x A B=>?_⟩;rcases List.mem_append.1 A with A|A
      ·have:Kk C d≠none:=lastOf_ne A B;exact absurd K this
      ·simp at A;subst A;rw[J2];exact Int.le_refl _
     ·rename_i w L;obtain⟨G,H,E⟩:=ih C F w L
      split at h
      ·rename_i I;cases h
       refine⟨by simp,D,fun x A B=>?_⟩;rcases List.mem_append.1 A with A|A
       ·have M:=E x A B;rcases Z1 x.1 w.1 with e|e|e
        ·have:=Jr e (qf.1 I);omega
        ·rw[e];have:=qf.1 I;omega
        ·have:=qf.2 e;omega
       ·simp at A;subst A;rw[J2];exact Int.le_refl _
      ·rename_i I;cases h
       refine⟨by simp [G],H,fun x A B=>?_⟩;rcases List.mem_append.1 A with A|A
       ·exact E x A B
       ·simp at A;subst A;omega
    ·rename_i D;obtain⟨G,H,E⟩:=ih C F c h;refine⟨by simp [G],H,fun x A B=>?_⟩;rcases List.mem_append.1 A with A|A
     ·exact E x A B
     ·simp at A;subst A;exact absurd B D
theorem QH{l:List kS}{d:kF}{x:kS}(h:x∈l)(hd:x.2.1=d):∃c,Kk l d=some c:=by
  rcases e:Kk l d with _ |c
  ·exact absurd e (lastOf_ne h hd)
  ·exact⟨c,rfl⟩
def docsS(l:List kS):List kF:=UC (l.map (·.2.1))
def KT(f:kF→Option kS):List kF→List (List UInt8)→List (kF×List UInt8)
  | [],_=>[]
  |d::r,taken=>match f d with
   |some c=>if c.2.2.1=5 then KT f r taken else (d,vD (L c.2.2.2) taken)::KT f r (taken++[vD (L c.2.2.2) taken])
   |none=>KT f r taken
def uN(l:List kS):List (kF×List UInt8):=if UN l then KT (Kk l) (docsS l) [] else []
def Ks(l:List kS)(p:List UInt8):Option kF:=((uN l).find? fun n=>n.2 == p).map (·.1)
theorem UO{l:List kS}:UN l=true↔UM l:=by simp [UN]
def jq(n:Nat):List UInt8:=if h:n<128 then [UInt8.ofNat n] else UInt8.ofNat (n % 128+128)::jq (n / 128)
termination_by n
decreasing_by omega
theorem UQ{n:Nat}(h:n<128):jq n=[UInt8.ofNat n]:=by rw[jq,dif_pos h]
theorem numB_big{n:Nat}(h:¬n<128):jq n=UInt8.ofNat (n % 128+128)::jq (n / 128):=by rw[jq,dif_neg h]
def getGo(i:Nat):List UInt8→Option (Nat×Nat)
  | []=>none
  |c::r=>if 128≤c.toNat then (if 8≤i then none else match getGo (i+1) r with|some (n,k)=>some (c.toNat - 128+128*n,k+1)|none=>none)
   else if c.toNat=0∧0<i then none else some (c.toNat,1)
def getS(l:List UInt8):Option (Nat×Nat):=getGo 0 l
theorem u8_of{n:Nat}(h:n<256):(UInt8.ofNat n).toNat=n:=by simp;omega
theorem numB_ne(n:Nat):jq n≠[]:=by
  unfold jq
  split<;>simp
theorem ql(n:Nat):1≤(jq n).length:=by
  have:=List.length_pos_iff.2 (numB_ne n);exact this
theorem numB_len:∀(k n:Nat),1≤k→n<128 ^ k→(jq n).length≤k
  | 0,_,h,_=>by omega
  |k+1,n,_,h=>by
   by_cases hn:n<128
   ·rw[UQ hn];simp
   ·rw[numB_big hn];rcases Nat.eq_zero_or_pos k with e|e
    ·subst e;simp at h;omega
    ·have:=numB_len k (n / 128) e (by rw[Nat.pow_succ] at h;omega);simp;omega
def jH(l:List UInt8):List UInt8:=jq l.length++l
def getTextS(l:List UInt8)(most:Nat):Option (List UInt8×Nat):=
  match getS l with
  |some (n,k)=>if most<n then none else if l.length - k<n then none else some ((l.drop k).take n,k+n)
  |none=>none
section
open Go.RowKit
def Sl(w:World)(B:Nat)(A:Option Addr)(n sz:Nat)(xs:List Value):Prop:=
  xs.length=n*sz∧(0<n→∃b off,A=some ⟨b,off,none⟩∧b<B∧∀j u,xs[j]?=some u→w.cell? ⟨b,off+j,none⟩=some u)
section
variable {w w':World} {B B' n sz:Nat} {A:Option Addr} {xs:List Value}
theorem Sl.nil:Sl w B A 0 sz []:=⟨by simp,fun h=>absurd h yz⟩
theorem Sl.keep(h:Sl w B A n sz xs)(hb:Below B w w'):Sl w' B A n sz xs:=by
  refine⟨h.1,fun E=>?_⟩;obtain⟨b,C,e,D,F⟩:=h.2 E;exact⟨b,C,e,D,fun j u G=>(hb.cell (p:=⟨b,C+j,none⟩) D).trans (F j u G)⟩
theorem Sl.more(h:Sl w B A n sz xs)(hB:B≤B'):Sl w B' A n sz xs:=by
  refine⟨h.1,fun D=>?_⟩;obtain⟨b,C,e,F,E⟩:=h.2 D;exact⟨b,C,e,by omega,E⟩
theorem Sl.of_own{base:Nat}{e:TypeId}{c:Nat}(h:w.ownsRow base e sz (.slice A n c) n xs):Sl w w.heap.size A n sz xs:=by
  refine⟨h.1,fun J=>?_⟩;rcases h.2 with⟨_,K⟩|⟨g,E,F,C,G,L,H,M,I,N⟩
  ·omega
  ·injection C with hA;subst hA;have B:=(h.lt g (by simp [Value.ownBlock])).2;refine⟨g,0,rfl,B,fun j u D=>?_⟩;have:=h.cells (g:=g) (by simp [Value.ownBlock]) j u D;have e:(⟨g,0,none⟩:Addr).add j=⟨g,0+j,none⟩:=by unfold Addr.add;split<;>simp_all
   rw[←e];exact this
theorem Sl.lt(h:Sl w B A n sz xs)(hn:0<n)(hs:0<sz):∃b C,A=some ⟨b,C,none⟩∧b<w.heap.size∧b<B:=by
  obtain⟨b,C,e,D,E⟩:=h.2 hn;have F:0<xs.length:=by rw[h.1];exact Nat.mul_pos hn hs
  have:=E 0 _ (List.getElem?_eq_getElem F);refine⟨b,C,e,?_,D⟩;rcases Nat.lt_or_ge b w.heap.size with a|a
  ·exact a
  ·unfold World.cell? at this;rw[Array.getElem?_eq_none a] at this;cases this
end
theorem J3{P:Program}{ops:Array Oper}{rest:List Oper}{o:Oper}{a:Act}{Q:Exit→Act→World→Prop}{w:World}(hgd:o.guard=none)(s x:Operand)(t:TypeId)
    (ho:o.op=.call { callee:=.builtin .append,args:=#[s,x],argTypes:=#[t,t]})
    (base:Nat) (e:TypeId) (z:Value) (bytes:Nat) (ht:P.underlying t=some (.slice e)) (hinf:(P.info? e).map (fun i=>(i.zero,i.size,i.bytes))=some (some z,1,bytes))
    (hz1:z.cells.size=1) (v:Value) (n:Nat) (xs:List Value) (hs:a.eval s=v) (hown:w.ownsRow base e 1 v n xs)
    (u:Value) (et:TypeId) (hx:a.eval x=.slice (some ⟨w.heap.size,0,none⟩) 1 1) (hu:u.oneCell'=true)
    (hn:n+1≤maxLen) (hb:(n+1)*bytes≤140737488355328) (hbase:base≤w.heap.size)
    (h:∀A w',w'.ownsRow base e 1 A (n+1) (xs++[u])→(∀B a,B≤base→Below B a w→Below B a w')→wpList P ops Q rest (a.put o.dst A) w'):
    wpList P ops Q (o::rest) a (w.alloc (.cells #[u] et)):=by
  obtain⟨K,L,G,H,I⟩:=info_parts hinf;refine wpList_append_own _ hgd s x t ho base e K z 1 bytes ht L G H I hz1 yv v n xs hs (hown.alloc _) ⟨w.heap.size,0,none⟩ 1 1 [u] hx rfl ?_ ?_ hn hb yj ?_
  ·intro j M C
   match j,C with
   | 0,C=>simp at C;subst C;simp [Addr.add]
  ·intro M F;simp at F;subst F;exact hu
  ·intro A w' D E _;refine h A w' D fun B a O J=>?_
   refine(J.alloc yz _).grown E yj fun k N=>?_
   have:=(hown.lt k N).1;omega
theorem wp_appN{P:Program}{ops:Array Oper}{rest:List Oper}{o:Oper}{a:Act}{Q:Exit→Act→World→Prop}{w:World}(hgd:o.guard=none)(s x:Operand)(t:TypeId)
    (ho:o.op=.call { callee:=.builtin .append,args:=#[s,x],argTypes:=#[t,t]})
    (base:Nat) (e:TypeId) (z:Value) (size bytes:Nat) (ht:P.underlying t=some (.slice e)) (hinf:(P.info? e).map (fun i=>(i.zero,i.size,i.bytes))=some (some z,size,bytes))
    (hz1:z.cells.size=size) (hsz:0<size) (v:Value) (n:Nat) (xs:List Value) (hs:a.eval s=v) (hown:w.ownsRow base e size v n xs)
    (us:List Value) (et:TypeId) (hl:us.length=size) (hx:a.eval x=.slice (some ⟨w.heap.size,0,none⟩) 1 1) (hu:∀u∈us,u.oneCell'=true)
    (hn:n+1≤maxLen) (hb:(n+1)*bytes≤140737488355328) (hbase:base≤w.heap.size)
    (h:∀A w',w'.ownsRow base e size A (n+1) (xs++us)→(∀B a,B≤base→Below B a w→Below B a w')→wpList P ops Q rest (a.put o.dst A) w'):
    wpList P ops Q (o::rest) a (w.alloc (.cells us.toArray et)):=by
  obtain⟨I,J,E,F,G⟩:=info_parts hinf;refine wpList_append_own _ hgd s x t ho base e I z size bytes ht J E F G hz1 hsz v n xs hs (hown.alloc _) ⟨w.heap.size,0,none⟩ 1 1 us hx (by simp [hl]) ?_ hu hn hb yj ?_
  ·intro j M K;have e:(⟨w.heap.size,0,none⟩:Addr).add j=⟨w.heap.size,j,none⟩:=by unfold Addr.add;split<;>simp_all
   rw[e,World.cell?_alloc_new]
   simpa using K
  ·intro A w' C D _;refine h A w' C fun B a N H=>?_
   refine(H.alloc yz _).grown D yj fun k L=>?_
   have:=(hown.lt k L).1;omega
theorem below_setRow'{B g:Nat}{w0 w:World}(hb:Below B w0 w)(hBg:B≤g)(cs:Array Value):Below B w0 (w.setRow g cs):=
  hb.trans ⟨rfl,rfl,rfl,by simp,fun k A=>setRow_other w g k cs yz⟩
theorem Kw{P:Program}{ops:Array Oper}{rest:List Oper}{o:Oper}{a:Act}{w:World}{Q:Exit→Act→World→Prop}(hgd:o.guard=none)(ty:TypeId)(x y:Operand)(ho:o.op=.store ty x y)
    (g:Nat) (cells:Array Value) (hx:a.eval x=.pointer (some ⟨g,0,none⟩)) (hy:a.eval y=.agg cells)
    (t:TypeId) (old:Array Value) (hg:w.heap[g]?=some (.cells old t (0,0))) (hi:(P.info? ty).map (·.size)=some cells.size)
    (hold:old.size=cells.size) (h1:cells.all (·.oneCell')=true) {B:Nat} {w0:World} (hb:Below B w0 w) (hB:B≤g)
    (h:∀W:World,Below B w0 W→W.heap[g]?=some (.cells cells t (0,0))→(∀k,k≠g→W.heap[k]?=w.heap[k]?)→wpList P ops Q rest (a.put o.dst undef) W):wpList P ops Q (o::rest) a w:=
  wpList_store_row hgd ty x y ho g cells hx hy t old hg hi hold h1 (h _ (below_setRow' hb hB _) (setRow_heap _ _ _ _ _ _ hg) (fun k A=>setRow_other _ _ _ _ A))
theorem K8{P:Program}{fn:Func}{p u:Tmp}{ty:TypeId}(h:fn.results=#[.cell p ty,.tmp u])(tmps:Array Value)(w:World){a:Addr}{v x:Value}
    (hp:tmps.getD p undef=.pointer (some a)) (hu:tmps.getD u undef=x) (hl:(loadVar ty a).run P w=.ok v w):(results fn tmps).run P w=.ok (.tuple #[v,x]) w:=by
  rw[results_cell_tmp h,hp,hu];show ((Sem.pure a).run P w).andThen _=_;simp [Sem.run,Result.andThen,hl]
def idV(l:List UInt8):List Value:=l.map fun b=>Value.int .u8 (b.toNat:Int)
def k8(k:kF):List Value:=.int .i64 k.1::(idV k.2.1++[.int .i64 k.2.2])
def jp(l:List UInt8):Prop:=l.length=32
def kN(k:kF):Prop:=(Lit.int .i64 k.1).wf=true∧jp k.2.1∧(Lit.int .i64 k.2.2).wf=true
theorem kf(l:List UInt8):(idV l).length=l.length:=by simp [idV]
theorem k9{k:kF}(h:kN k):(k8 k).length=34:=by
  have:=h.2.1;unfold jp at this;simp [k8,idV,this]
theorem kV(l:List UInt8):∀u∈idV l,u.oneCell'=true:=by
  intro u A;obtain⟨b,_,rfl⟩:=List.mem_map.1 A;rfl
theorem j4(k:kF):∀u∈k8 k,u.oneCell'=true:=by
  intro u A;unfold k8 at A;rcases List.mem_cons.1 A with rfl|A
  ·rfl
  ·rcases List.mem_append.1 A with A|A
   ·exact kV _ u A
   ·simp at A;subst A;rfl
theorem idV_inj{a b:List UInt8}(h:idV a=idV b):a=b:=by
  induction a generalizing b with
  |nil=>cases b with
   |nil=>rfl
   |cons _ _=>simp [idV] at h
  |cons x a ih=>cases b with
   |nil=>simp [idV] at h
   |cons y b=>
    simp only[idV,List.map_cons,List.cons.injEq,Value.int.injEq,true_and] at h;rw[ih h.2,UInt8.toNat_inj.1 (by omega:x.toNat=y.toNat)]
theorem keyV_inj{a b:kF}(h:k8 a=k8 b):a=b:=by
  unfold k8 at h;simp only[List.cons.injEq,Value.int.injEq,true_and] at h;obtain⟨C,A⟩:=h;have D:=congrArg List.length A;simp only[List.length_append,List.length_singleton] at D;obtain⟨E,B⟩:=List.append_inj A yz;simp only[List.cons.injEq,Value.int.injEq,true_and,and_true] at B;exact Prod.ext C (Prod.ext (idV_inj E) B)
section
variable {H:Type} {enc:TypeId×Value→H} {P:Program} {w:World} {base:Nat} {spare:Nat→Bool} {held:Bool} {fuel:Nat} {cs:List Value} {x:DataW H×List MemPlace}
theorem trod_id{t u:TypeId}(ht:P.underlying t=some (.array 32 u))(hu:P.underlying u=some (.int .u8))(hc:P.cellsOf u=1)(hct:P.cellsOf t=32)
    (h:DataW.trod enc P w base spare held fuel t cs=some x):∃l:List UInt8,jp l∧cs=idV l:=by
  obtain⟨H,m,_,_,B,J,C⟩:=DataW.trod_array ht h;rw[hct] at B;have D:∀i,i<32→∃b:UInt8,cs[i]?=some (.int .u8 (b.toNat:Int)):=by
    intro i A;have E:=C i A;rw[hc,List.getElem?_eq_getElem (by omega:i<H.length)] at E;obtain⟨n,F,_,G⟩:=DataW.trod_int hu E;have K:0≤n∧n≤255:=by
      simp only[Lit.wf,IntKind.min,IntKind.max,IntKind.signed,IntKind.bits,Bool.and_eq_true] at G;simp at G;omega
    rw[Nat.mul_one,List.drop_eq_getElem_cons yz,List.take_succ_cons] at F;have I:cs[i]'(by omega)=.int .u8 n:=(List.cons.inj F).1;refine⟨UInt8.ofNat n.toNat,?_⟩;rw[List.getElem?_eq_getElem yz,I]
    congr 2
    simp;omega
  obtain⟨f,C⟩:=Go.Deep.choose_lt D;refine⟨(List.range 32).map f,by simp [jp],?_⟩;apply List.ext_getElem?;intro i;by_cases A:i<32
  ·rw[C i A];simp [idV,A]
  ·rw[List.getElem?_eq_none yz,List.getElem?_eq_none (by simp [idV];omega)]
end
theorem run_loadN{P:Program}(w:World)(b off:Nat)(ty:TypeId)(cs:List Value)(d:TypeDesc)(hc:∀j u,cs[j]?=some u→w.cell? ⟨b,off+j,none⟩=some u)
    (hu:P.underlying ty=some d) (hd:(match d with| .struct _ | .array _ _=>true| _=>false)=true) (hi:(P.info? ty).map (·.size)=some cs.length):
    (loadVar ty ⟨b,off,none⟩).run P w=.ok (.agg cs.toArray) w:=by
  have C:(loadCells ⟨b,off,none⟩ cs.length).run P w=.ok cs.toArray w:=
    run_loadCells_list (P:=P) w ⟨b,off,none⟩ cs (fun j v D=>by
      have A:(⟨b,off,none⟩:Addr).add j=⟨b,off+j,none⟩:=by unfold Addr.add;split<;>simp_all
      rw[A];exact hc j v D)
  cases hq:P.info? ty with
  |none=>simp [hq] at hi
  |some i=>
   have E:i.size=cs.length:=by simpa [hq] using hi
   have B:(isAgg ty).run P w=.ok true w:=by
      unfold isAgg;rw[Sem.run_bind,run_underlying hu w];cases d<;>simp_all
   simp [loadVar,Sem.run_bind,B,sizeOf,typeInfo,hq,E,C]
theorem j9{P:Program}{ops:Array Oper}{rest:List Oper}{o:Oper}{a:Act}{w:World}{Q:Exit→Act→World→Prop}(hgd:o.guard=none)(ty:TypeId)(x:Operand)(ho:o.op=.load ty x)
    (b off:Nat) (hx:a.eval x=.pointer (some ⟨b,off,none⟩)) (cs:List Value) (d:TypeDesc) (hc:∀j u,cs[j]?=some u→w.cell? ⟨b,off+j,none⟩=some u)
    (hu:P.underlying ty=some d) (hd:(match d with| .struct _ | .array _ _=>true| _=>false)=true) (hi:(P.info? ty).map (·.size)=some cs.length)
    (h:wpList P ops Q rest (a.put o.dst (.agg cs.toArray)) w):wpList P ops Q (o::rest) a w:=
  wpList_plain hgd fun K A=>by
    have:=A _ _ h;unfold Oper.wp execOp;simp only[ho,hx,Instr.loadAt,Instr.sureAddr,Sem.run_bind,Sem.run_pure,Result.andThen_ok,run_loadN w b off ty cs d hc hu hd hi];exact this
def zf(l:List (List UInt8)):List Value:=l.flatMap idV
def IdsOk(l:List (List UInt8)):Prop:=∀i∈l,jp i
theorem IdsOk.tail{a:List UInt8}{l:List (List UInt8)}(h:IdsOk (a::l)):IdsOk l:=fun i A=>h i (by simp [A])
theorem IdsOk.sub{a b:List (List UInt8)}(h:IdsOk b)(hs:∀i∈a,i∈b):IdsOk a:=fun i A=>h i (hs i A)
theorem IdsOk.app{a b:List (List UInt8)}(ha:IdsOk a)(hb:IdsOk b):IdsOk (a++b):=fun i A=>(List.mem_append.1 A).elim (ha i) (hb i)
theorem idsV_one(l:List (List UInt8)):∀u∈zf l,u.oneCell'=true:=by
  intro u A;obtain⟨a,_,B⟩:=List.mem_flatMap.1 A;exact kV a u B
theorem idsV_get:∀{l:List (List UInt8)},IdsOk l→∀(i:Nat) (h:i<l.length) (j:Nat) (u:Value),(idV l[i])[j]?=some u→(zf l)[i*32+j]?=some u
  | [],_,_,h,_,_,_=>by cases h
  |a::l,ho,0,_,j,u,hj=>by
   have A:(idV a).length=32:=by rw[kf];exact ho a yq
   have B:=(List.getElem?_eq_some_iff.1 hj).1;simp only[zf,List.flatMap_cons,Nat.zero_mul,Nat.zero_add];rw[List.getElem?_append_left (by simpa using B)];exact hj
  |a::l,ho,i+1,h,j,u,hj=>by
   have A:(idV a).length=32:=by rw[kf];exact ho a yq
   have:=idsV_get ho.tail i (by simpa using h) j u (by simpa using hj);simp only[zf,List.flatMap_cons] at this ⊢;rw[List.getElem?_append_right yz,A,show (i+1)*32+j - 32=i*32+j by omega];exact this
theorem Sl.id{w:World}{B b off:Nat}{l:List (List UInt8)}(ho:IdsOk l)(h:∀j u,(zf l)[j]?=some u→w.cell? ⟨b,off+j,none⟩=some u){i:Nat}(hi:i<l.length):∀j u,(idV l[i])[j]?=some u→w.cell? ⟨b,off+i*32+j,none⟩=some u:=by
  intro j u A;rw[Nat.add_assoc];exact h _ _ (idsV_get ho i hi j u A)
def je:List (List UInt8)→Bool
  |a::b::r=>decide (jK a b<0) && je (b::r)
  | _=>true
theorem Z5:∀{l:List (List UInt8)},je l=true↔∀i (h:i+1<l.length),jK (l[i]'(by omega)) l[i+1]<0
  | []=>by simp [je]
  | [a]=>by simp [je]
  |a::b::r=>by
   rw[je,Bool.and_eq_true,decide_eq_true_eq,Z5 (l:=b::r)];constructor
   ·rintro⟨h1,h2⟩ i hi;cases i with
    |zero=>exact h1
    |succ i=>exact h2 i (by simpa using hi)
   ·intro h;exact⟨h 0 yq,fun i hi=>h (i+1) (by simpa using hi)⟩
theorem vu{l:List (List UInt8)}(h:je l=true):l.Pairwise fun a b=>jK a b<0:=by
  induction l with
  |nil=>exact List.Pairwise.nil
  |cons a l ih=>
   rw[List.pairwise_cons];have B:je l=true:=by
      cases l with
      |nil=>rfl
      |cons b r=>rw[je,Bool.and_eq_true] at h;exact h.2
   refine⟨?_,ih B⟩;intro x A;cases l with
   |nil=>cases A
   |cons b r=>
    rw[je,Bool.and_eq_true,decide_eq_true_eq] at h;rcases List.mem_cons.1 A with rfl|A
    ·exact h.1
    ·exact Jq h.1 ((List.pairwise_cons.1 (ih B)).1 x A)
theorem isSetB_of_pair{l:List (List UInt8)}(h:l.Pairwise fun a b=>jK a b<0):je l=true:=by
  rw[Z5];intro i A;exact(List.pairwise_iff_getElem.1 h) i (i+1) yz A yz
theorem KL{P:Program}{ops:Array Oper}{rest:List Oper}{o:Oper}{a:Act}{w:World}{Q:Act→Prop}(hw:Region.wanted o (yielded ops a.tmps)=true)(ty:TypeId)(x:Operand)(ho:o.op=.load ty x)
    (b off:Nat) (hx:a.eval x=.pointer (some ⟨b,off,none⟩)) (cs:List Value) (d:TypeDesc) (hc:∀j u,cs[j]?=some u→w.cell? ⟨b,off+j,none⟩=some u)
    (hu:P.underlying ty=some d) (hd:(match d with| .struct _ | .array _ _=>true| _=>false)=true) (hi:(P.info? ty).map (·.size)=some cs.length)
    (h:wpStill P ops w Q rest (a.put o.dst (.agg cs.toArray))):wpStill P ops w Q (o::rest) a:=by
  unfold wpStill;rw[if_pos hw];unfold Oper.still execOp;simp only[ho,hx,Instr.loadAt,Instr.sureAddr,Sem.run_bind,Sem.run_pure,Result.andThen_ok,run_loadN w b off ty cs d hc hu hd hi];exact⟨rfl,h⟩
theorem Qj{α β:Type}{f:α→Option β}:∀{l:List α},(∀x∈l,∃y,f x=some y)→∃A,l.mapM f=some A
  | [],_=>⟨[],rfl⟩
  |x::l,h=>by
   obtain⟨y,hy⟩:=h x yq;obtain⟨A,B⟩:=Qj (l:=l) fun z C=>h z (by simp [C])
   exact⟨y::A,by simp [List.mapM_cons,hy,B]⟩
def Kb(P:Program)(n:Nat)(t:TypeId)(cs:List Value):Prop:=∀d,n≤d→∃l,P.keyLits d t cs=some l
section
variable {P:Program} {t e:TypeId} {m n:Nat} {cs:List Value}
theorem kb_int{k:IntKind}{z:Int}(hu:P.underlying t=some (.int k))(hw:(Lit.int k z).wf=true):Kb P 1 t [.int k z]:=by
  intro d A;cases d with
  |zero=>omega
  |succ d=>exact⟨_,by simp [Program.keyLits,hu,hw];rfl⟩
theorem kb_arr(hu:P.underlying t=some (.array n e))(hl:cs.length=P.cellsOf t)(h:∀i,i<n→Kb P m e ((cs.drop (i*P.cellsOf e)).take (P.cellsOf e))):Kb P (m+1) t cs:=by
  intro d C;cases d with
  |zero=>omega
  |succ d=>
   obtain⟨D,A⟩:=Qj (l:=List.range n) (f:=fun i=>P.keyLits d e ((cs.drop (i*P.cellsOf e)).take (P.cellsOf e))) fun i B=>h i (by simpa using B) d yz
   exact⟨_,by simp only[Program.keyLits,hu,hl,if_true,A];rfl⟩
theorem kb_struct{fs : Array Field}(hu : P.underlying t = some (.struct fs))(hl : cs.length = P.cellsOf t)(hn : fs.all (·.name != "_") = true)(h : ∀ f ∈ fs.toList, Kb P m f.type ((cs.drop f.offset).take (P.cellsOf f.type))): Kb P (m + 1) t cs := by
  intro d hd;cases d with
  |zero=>omega
  |succ d=>
   obtain⟨ys,hys⟩:=Qj (l:=fs.toList) (f:=fun f=>P.keyLits d f.type ((cs.drop f.offset).take (P.cellsOf f.type))) fun f hf=>h f hf d yz
   exact⟨_,by simp only[Program.keyLits,hu,hl,hn,and_self,if_true,hys];rfl⟩
structure EqT (P:Program) (t:TypeId) (m:Nat):Prop where
  laid:laidOutB P=true
  few:P.types.size+2≤10000
  row:t<P.types.size
  key:P.keyType t=true
  wide:(match P.underlying t with|some (.array _ _)|some (.struct _)=>true| _=>false)=true
  deep:m≤P.types.size+1
  noGuard:P.eqGuardType P.depth t=false
theorem EqT.keyed(E:EqT P t m):Maps.Keyed P t:=Maps.Keyed.of_law (deep_law_laid E.laid (m:=P.types.size+1) E.few E.row E.key E.wide)
theorem EqT.is(E:EqT P t m)(hl:cs.length=P.cellsOf t)(h:Kb P m t cs):∃l,keyOf P t (.agg cs.toArray)=some l:=by
  obtain⟨l,C⟩:=h (P.types.size+1) E.deep;have A:=E.wide;have D:(Value.agg cs.toArray).formed P t=true:=by
    unfold Value.formed
    split at A<;>simp_all
  have F:(P.keyLits (P.types.size+1) t (Value.agg cs.toArray).cells.toList).map (fun G=>Lit.string (keyBytes G))=some (.string (keyBytes l)):=by
    rw[show (Value.agg cs.toArray).cells.toList=cs from rfl,C];rfl
  refine⟨.string (keyBytes l),?_⟩;unfold keyOf
  split at A
  ·rename_i B;simp only[B,E.key,D,Bool.and_self,if_true];exact F
  ·rename_i B;simp only[B,E.key,D,Bool.and_self,if_true];exact F
  ·cases A
theorem EqT.run(E:EqT P t m){α:Type}[DecidableEq α](enc:α→List Value)(hinj:∀a b,enc a=enc b→a=b){a b:α}(la:(enc a).length=P.cellsOf t)(lb:(enc b).length=P.cellsOf t)(ha:Kb P m t (enc a))(hb:Kb P m t (enc b))(w:World):
    (Op.equalIn 10000 t (.agg (enc a).toArray) (.agg (enc b).toArray)).run P w=.ok (decide (a=b)) w:=by
  obtain⟨D,ha⟩:=E.is la ha;obtain⟨F,hb⟩:=E.is lb hb;obtain⟨r,B,A⟩:=run_equal_deep w (m:=P.types.size+1) (by have:=E.few;omega) E.key E.wide ha hb;have C:(Op.equalIn 10000 t (.agg (enc a).toArray) (.agg (enc b).toArray)).run P w=.ok r w:=B;rw[C]
  congr 1
  rw[Bool.eq_iff_iff,A,decide_eq_true_eq];constructor
  ·intro h;have:=E.keyed.inj ha (by rw[h];exact hb);injection this with this;exact hinj _ _ (by have:=congrArg Array.toList this;simpa using this)
  ·rintro rfl;rw[ha] at hb;exact Option.some.inj hb
end
section
variable {P:Program} {ρ:Operand→Value} {o:Oper} {w:World}
theorem kc(ty:TypeId)(x:Operand)(ho:o.op=.load ty x){p:Addr}(hx:ρ x=.pointer (some p)){v:Value}(h:(loadVar ty p).run P w=.ok v w):(execOp ρ o).run P w=.ok (.value v) w:=by
  unfold execOp;simp only[ho,hx,Instr.loadAt,Instr.sureAddr,Sem.run_bind,Sem.run_pure,Result.andThen_ok,h]
theorem zS(t t':TypeId)(x y:Operand)(ho:o.op=.binOp .eql t x y t'){xs ys:Array Value}(hx:ρ x=.agg xs)(hy:ρ y=.agg ys){r:Bool}(hg:P.eqGuardType P.depth t=false)
    (h:(Op.equalIn 10000 t (.agg xs) (.agg ys)).run P w=.ok r w):(execOp ρ o).run P w=.ok (.value (.bool r)) w:=by
  unfold execOp;simp only[ho,hx,hy,Sem.run_bind,run_eqGuard_agg w _ _ _ _ _ _ hg,Result.andThen_ok,run_eql_struct,h,Sem.run_pure]
theorem jb(t t':TypeId)(x y:Operand)(ho:o.op=.binOp .neq t x y t'){xs ys:Array Value}(hx:ρ x=.agg xs)(hy:ρ y=.agg ys){r:Bool}(hg:P.eqGuardType P.depth t=false)
    (h:(Op.equalIn 10000 t (.agg xs) (.agg ys)).run P w=.ok r w):(execOp ρ o).run P w=.ok (.value (.bool (!r))) w:=by
  unfold execOp;simp only[ho,hx,hy,Sem.run_bind,run_eqGuard_agg w _ _ _ _ _ _ hg,Result.andThen_ok,run_neq_struct,h,Sem.run_pure]
theorem kj(t:TypeId)(ps:Array (Nat×Operand))(ho:o.op=.build t ps){v:Value}(h:(Instr.build t (ps.map fun (i,x)=>(i,ρ x))).run P w=.ok v w):(execOp ρ o).run P w=.ok (.value v) w:=by
  unfold execOp;simp only[ho,Sem.run_bind,h,Result.andThen_ok,Sem.run_pure]
end
section
variable {P:Program} {o:Oper} {a:Act} {v:Value}
theorem kR{C:World→Prop}{K:Act→Prop}(h:∀w,C w→(execOp a.eval o).run P w=.ok (.value v) w)(hk:K (a.put o.dst v)):o.quiet P a C K:=
  ⟨v,fun w A=>by unfold Oper.quietAt;rw[h w A];exact⟨rfl,rfl⟩,hk⟩
theorem k5{ops:Array Oper}{rest:List Oper}{w:World}{Q:Exit→Act→World→Prop}(hw:Region.wanted o (yielded ops a.tmps)=true)(h:(execOp a.eval o).run P w=.ok (.value v) w)(hk:wpList P ops Q rest (a.put o.dst v) w):wpList P ops Q (o::rest) a w:=
  BigFrame.wpList_want hw fun K A=>by
    have:=A _ _ hk;unfold Oper.wp;rw[h];exact this
end
def Wd(base:Nat)(w:World):Type:={ w':World // Below base w w'}
instance (base:Nat) (w:World):Nonempty (Wd base w):=⟨⟨w,Below.refl _ _⟩⟩
theorem Wd.cell{base:Nat}{w:World}{b o:Nat}{v:Value}(hc:w.cell? ⟨b,o,none⟩=some v)(hb:b<base):∀n:Wd base w,n.val.cell? ⟨b,o,none⟩=some v:=fun n=>(n.2.cell (p:=⟨b,o,none⟩) hb).trans hc
theorem Wd.row{base:Nat}{w:World}{b o:Nat}{cs:List Value}(hc:∀j u,cs[j]?=some u→w.cell? ⟨b,o+j,none⟩=some u)(hb:b<base):∀w',(∃n:Wd base w,w'=n.val)→∀j u,cs[j]?=some u→w'.cell? ⟨b,o+j,none⟩=some u:=by
  rintro w' ⟨n,rfl⟩ j u A;exact Wd.cell (hc j u A) hb n
theorem Wd.call{base:Nat}{w:World}{P:Program}{f:FuncId}{args:Array Value}{v:Value}(h:∀w',Below base w w'→Calls P f args w' fun e A=>Below w'.heap.size w' A∧e=.returned v)(hbs:base≤w.heap.size)(n:Wd base w):
    Calls P f args n.val fun e A=>e=.returned v∧∃m:Wd base w,A=m.val:=
  (h n.val n.2).mono fun e A ⟨B,C⟩=>⟨C,⟨A,n.2.trans (B.mono (Nat.le_trans hbs n.2.size))⟩,rfl⟩
theorem zj{P:Program}{id:Nat}{Q:Exit→Act→World→Prop}{a:Act}{w:World}{l:List Oper}{base:Nat}(w0:World)(hb:Below base w0 w)(hm:P.follows .mixedOrders=true)(hB:Region.lexB .any l.toArray=true)
    (h:wpQuiet P l.toArray (fun w'=>∃n:Wd base w0,w'=n.val) (fun a'=>∀w',(∃n:Wd base w0,w'=n.val)→Q .normal a' w') l a):(Code.region id l.toArray true).wp P Q a w:=
  wp_region_quiet (C:=fun w'=>∃n:Wd base w0,w'=n.val) hm hB ⟨⟨_,hb.drew⟩,rfl⟩ (by simpa using h)
theorem cut_mid{α:Type}{a b c:List α}{n m:Nat}(ha:a.length=n)(hb:b.length=m):((a++(b++c)).drop n).take m=b:=by
  subst ha;subst hb;simp
theorem cut_end{α:Type}{a b:List α}{n m:Nat}(ha:a.length=n)(hb:b.length=m):((a++b).drop n).take m=b:=by
  subst ha;subst hb;simp
def k7:List UInt8:=List.replicate 32 0
theorem jL:jp k7:=by simp [jp,k7]
section
variable {P:Program} {t u i a:TypeId}
theorem kb_id(ht:P.underlying t=some (.array 32 u))(hu:P.underlying u=some (.int .u8))(hc:P.cellsOf u=1)(hct:P.cellsOf t=32){l:List UInt8}(hl:jp l):Kb P 2 t (idV l):=by
  have B:(idV l).length=32:=by rw[kf];exact hl
  refine kb_arr ht (by rw[hct,B]) fun j C=>?_
  rw[hc,Nat.mul_one,List.drop_eq_getElem_cons yz,List.take_succ_cons,List.take_zero];have A:j<l.length:=by rw[hl];exact C
  rw[show (idV l)[j]'(by omega)=.int .u8 ((l[j]'A).toNat:Int) by simp [idV]];refine kb_int hu ?_;simp only[Lit.wf,IntKind.min,IntKind.max,IntKind.signed,IntKind.bits,Bool.and_eq_true];have:=(l[j]'A).toNat_lt;simp;omega
end
abbrev zC:=List UInt8×Int
def kn(r:zC):List Value:=idV r.1++[.int .i64 r.2]
def za(r:zC):Prop:=jp r.1∧(Lit.int .i64 r.2).wf=true
theorem kq{r:zC}(h:za r):(kn r).length=33:=by
  have:=h.1;unfold jp at this;simp [kn,idV,this]
theorem refV_inj{a b:zC}(h:kn a=kn b):a=b:=by
  unfold kn at h;have B:=congrArg List.length h;simp only[List.length_append,List.length_singleton] at B;obtain⟨C,A⟩:=List.append_inj h yz;simp only[List.cons.injEq,Value.int.injEq,true_and,and_true] at A;exact Prod.ext (idV_inj C) A
theorem qm(r:zC):∀u∈kn r,u.oneCell'=true:=by
  intro u A;rcases List.mem_append.1 A with A|A
  ·exact kV _ u A
  ·simp at A;subst A;rfl
theorem ZG:prog.cellsOf 41=32:=by kernel_rfl
theorem qn:prog.cellsOf 89=34:=by kernel_rfl
theorem cellsU8:prog.cellsOf 5=1:=by kernel_rfl
theorem vQ:prog.cellsOf 3=1:=by kernel_rfl
theorem cellsStr:prog.cellsOf 9=1:=by kernel_rfl
theorem kbId{l:List UInt8}(hl:jp l):Kb prog 2 41 (idV l):=kb_id underlying41 underlying5 cellsU8 ZG hl
theorem eqId:EqT prog 41 2:=⟨by kernel_rfl,of_decide_eq_true yy,of_decide_eq_true yy,by kernel_rfl,by kernel_rfl,of_decide_eq_true yy,by kernel_rfl⟩
theorem eqKey:EqT prog 89 3:=⟨by kernel_rfl,of_decide_eq_true yy,of_decide_eq_true yy,by kernel_rfl,by kernel_rfl,of_decide_eq_true yy,by kernel_rfl⟩
theorem kbKey{k:kF}(hk:kN k):Kb prog 3 89 (k8 k):=by
  have B:=k9 hk;have A:(idV k.2.1).length=32:=by rw[kf];exact hk.2.1
  refine kb_struct underlying89 (by rw[B,qn]) yy fun f C=>?_
  simp only[List.mem_cons,List.not_mem_nil,or_false] at C;rcases C with rfl|rfl|rfl
  ·simp only[vQ,List.drop_zero];exact fun d D=>kb_int underlying3 hk.1 d yz
  ·simp only[ZG];rw[show ((k8 k).drop 1).take 32=idV k.2.1 from cut_mid (a:=[.int .i64 k.1]) rfl A];exact kbId hk.2.1
  ·simp only[vQ];rw[show ((k8 k).drop 33).take 1=[.int .i64 k.2.2] from by
     show ((.int .i64 k.1::(idV k.2.1++[.int .i64 k.2.2])).drop 33).take 1=_;rw[show (.int .i64 k.1::(idV k.2.1++[Value.int .i64 k.2.2]):List Value)=(.int .i64 k.1::idV k.2.1)++[.int .i64 k.2.2] from rfl];exact cut_end (by simp [A]) rfl]
   exact fun d D=>kb_int underlying3 hk.2.2 d yz
theorem zY{a b:List UInt8}(ha:jp a)(hb:jp b)(w:World):(Op.equalIn 10000 41 (.agg (idV a).toArray) (.agg (idV b).toArray)).run prog w=.ok (decide (a=b)) w:=
  eqId.run idV (fun _ _=>idV_inj) (by rw[kf,ZG];exact ha) (by rw[kf,ZG];exact hb) (kbId ha) (kbId hb) w
theorem Qk{a b:kF}(ha:kN a)(hb:kN b)(w:World):(Op.equalIn 10000 89 (.agg (k8 a).toArray) (.agg (k8 b).toArray)).run prog w=.ok (decide (a=b)) w:=
  eqKey.run k8 (fun _ _=>keyV_inj) (by rw[k9 ha,qn]) (by rw[k9 hb,qn]) (kbKey ha) (kbKey hb) w
theorem keyedKey:Go.Maps.Keyed prog 89:=eqKey.keyed
end
abbrev OpD:=UInt8×zC×zC×ByteArray×Int×ByteArray
abbrev jQ:=Bool×zC
abbrev kQ:=Int×List (List UInt8)×ByteArray×List OpD
abbrev Zi:=List (List UInt8)×List (List UInt8)×ByteArray×ByteArray×Int
abbrev ZT:=UInt8×kQ×Zi
abbrev qo:=Bool×Bool×Bool×Bool×Bool
def kg:zC:=(k7,0)
def kM:ByteArray:=⟨#[]⟩
def kK:Zi:=([],[],kM,kM,0)
def kD(k:UInt8):Option qo:=
  if k=1 then some (true,true,true,false,false) else if k=2 then some (true,true,false,true,false) else if k=3 then some (false,false,false,false,true)
  else if k=4 then some (true,false,false,false,true) else if k=5 then some (true,false,false,false,false) else none
def kv(x:OpD)(p:qo):Bool:=(p.1 || decide (x.2.1=kg)) && (p.2.1 || decide (x.2.2.1=kg)) && (p.2.2.1 || decide (x.2.2.2.1=kM)) && (p.2.2.2.1 || decide (x.2.2.2.2.1=0)) && (p.2.2.2.2 || decide (x.2.2.2.2.2=kM))
def ZU(l:List (List UInt8))(most:Nat):Bool:=decide (l.length≤most) && je l && (decide (l=[]) || !decide (l.headD []=k7))
def zH(deps:List (List UInt8))(r:zC):Bool:=je deps && decide (r.1∈deps) && decide (0≤r.2) && decide (r.2≤2147483647)
def JJ(deps:List (List UInt8))(mk:List jQ)(r:zC):Bool:=
  if r.1≠k7 then zH deps r else decide (0≤r.2) && decide (r.2<mk.length) && (mk.getD r.2.toNat (false,kg)).1
def jE(deps:List (List UInt8))(mk:List jQ)(r d:zC)(n:Int):Bool:=
  if r.1≠k7 then zH deps r
  else decide (0≤r.2) && decide (n≤mk.length) && decide (r.2≤mk.length - n) && ((mk.drop r.2.toNat).take n.toNat).all fun m=> !m.1 && decide (m.2=d)
def KW(s:ByteArray):Bool:=decide (s.size≤4096) && KO s
def jV(s:ByteArray):Nat:=match jx s with
  |some l=>l.length
  |none=>0
def opB(deps:List (List UInt8))(mk:List jQ)(x:OpD):Bool:=match kD x.1 with
  |none=>false
  |some p=>kv x p && (!p.1 || JJ deps mk x.2.1) && (!p.2.2.2.2 || jZ x.2.2.2.2.2) &&
   (!decide (x.1=2) || (decide (1≤x.2.2.2.2.1) && decide (x.2.2.2.2.1≤4096) && jE deps mk x.2.2.1 x.2.1 x.2.2.2.2.1)) &&
   (!decide (x.1=1) || ((decide (x.2.2.1=x.2.1) || jE deps mk x.2.2.1 x.2.1 1) && !decide (x.2.2.2.1=kM) && KW x.2.2.2.1))
def zL(x:OpD):List jQ:=if x.1=3 then [(true,kg)] else if x.1=1 then List.replicate (jV x.2.2.2.1) (false,x.2.1) else []
def Zr(deps:List (List UInt8)):List jQ→List OpD→Bool
  | _,[]=>true
  |mk,x::t=>opB deps mk x && Zr deps (mk++zL x) t
def j6(c:kQ):Bool:=decide (1≤c.1) && decide (c.1≤1099511627776) && ZU c.2.1 4096 && zK c.2.2.1 && decide (1≤c.2.2.2.length) && decide (c.2.2.2.length≤4096) && Zr c.2.1 [] c.2.2.2
def commitB(c:Zi):Bool:=ZU c.1 2 && ZU c.2.1 4096 && zK c.2.2.1 && noteB c.2.2.2.1 && decide (0≤c.2.2.2.2) && decide (c.2.2.2.2≤1099511627776)
def noChangeB(c:kQ):Bool:=decide (c.1=0) && decide (c.2.1=[]) && decide (c.2.2.1=kM) && decide (c.2.2.2=[])
def jz(c:Zi):Bool:=decide (c.1=[]) && decide (c.2.1=[]) && decide (c.2.2.1=kM) && decide (c.2.2.2.1=kM) && decide (c.2.2.2.2=0)
def zk(o:ZT):Bool:=if o.1=1 then jz o.2.2 && j6 o.2.1 else if o.1=2 then noChangeB o.2.1 && commitB o.2.2 else false
def UR(n:Int):List UInt8:=if n<0 then [] else jq n.toNat
def Zs(l:List (List UInt8)):List UInt8:=UR (l.length:Int)++l.flatten
def jT(deps:List (List UInt8))(r:zC):List UInt8:=UR (if r.1≠k7 then (deps.idxOf r.1:Int)+1 else 0)++UR r.2
def ifE(b:Bool)(l:List UInt8):List UInt8:=if b then l else []
def opE(deps:List (List UInt8))(x:OpD):List UInt8:=
  let p:=(kD x.1).getD (false,false,false,false,false)
  x.1::(ifE p.1 (jT deps x.2.1)++(ifE p.2.1 (jT deps x.2.2.1)++(ifE p.2.2.1 (jH (L x.2.2.2.1))++(ifE p.2.2.2.1 (UR x.2.2.2.2.1)++ifE p.2.2.2.2 (jH (L x.2.2.2.2.2))))))
def Uy(deps:List (List UInt8))(l:List OpD):List UInt8:=(l.map (opE deps)).flatten
def J4(c:kQ):List UInt8:=67::(UR c.1++(Zs c.2.1++(jH (L c.2.2.1)++(UR (c.2.2.2.length:Int)++Uy c.2.1 c.2.2.2))))
def commitE(c:Zi):List UInt8:=75::(Zs c.1++(Zs c.2.1++(jH (L c.2.2.1)++(jH (L c.2.2.2.1)++UR c.2.2.2.2))))
def J5(o:ZT):List UInt8:=if o.1=1 then J4 o.2.1 else commitE o.2.2
abbrev Ps(α:Type):=List UInt8→Option (α×List UInt8)
def QI{α β:Type}(d:Ps α)(f:α→Ps β):Ps β:=fun l=>match d l with
  |some (a,r)=>f a r
  |none=>none
def pRet{α:Type}(a:α):Ps α:=fun l=>some (a,l)
def QJ{α:Type}(d:Ps α):Nat→Ps (List α)
  | 0=>pRet []
  |n+1=>QI d fun a=>QI (QJ d n) fun t=>pRet (a::t)
section
variable {α β:Type} {d:Ps α} {f:α→Ps β}
theorem pBind_at{l s:List UInt8}{a:α}(h:d l=some (a,s)):QI d f l=f a s:=by unfold QI;rw[h]
end
abbrev zE:=Bool×kF
abbrev vE:=kQ×List zE
abbrev kz:=List (kF×List kX)×List kS×List (List UInt8×vE)
def jR(s:kz)(k:kF):Option (List kX):=(s.1.find? fun x=>decide (x.1=k)).map (·.2)
def kC(s:kz)(i:List UInt8):Option vE:=(s.2.2.find? fun x=>decide (x.1=i)).map (·.2)
def jM(s:kz)(i:List UInt8):Int:=((kC s i).map (·.1.1)).getD 0
def jy(s:kz)(i:List UInt8)(t:Int)(r:zC):kF:=if r.1=k7 then (t,i,r.2) else (jM s r.1,r.1,r.2)
def ZH(s:kz)(mk:List zE)(r:zC):List zE:=if r.1=k7 then mk else ((kC s r.1).map (·.2)).getD []
def KP(s:kz)(mk:List zE)(r:zC)(more:Nat):Option zE:=
  if r.2<((ZH s mk r).length:Int) - (more:Int) then (ZH s mk r)[r.2.toNat+more]? else none
def ZD(s:kz)(i:List UInt8)(t:Int)(mk:List zE)(x:OpD)(more:Nat):Bool:=match KP s mk x.2.2.1 more with
  |some m=> !m.1 && decide (m.2=jy s i t x.2.1)
  |none=>false
def KU(s:kz)(i:List UInt8)(t:Int)(mk:List zE)(x:OpD):Option (List zE):=
  if x.1=3 then some (mk++[(true,(0,k7,0))])
  else match KP s mk x.2.1 0 with
    |none=>none
    |some m=>
     if m.1=false then none
     else if x.1=2 then (if (List.range x.2.2.2.2.1.toNat).all (ZD s i t mk x) then some mk else none)
     else if x.1=1 then (if x.2.2.1=x.2.1∨ZD s i t mk x 0=true then some (mk++List.replicate (jV x.2.2.2.1) (false,jy s i t x.2.1)) else none)
     else some mk
def KQ(s:kz)(i:List UInt8)(t:Int):List zE→List OpD→Option (List zE×List Nat)
  |mk,[]=>some (mk,[])
  |mk,x::l=>match KU s i t mk x with
   |none=>none
   |some mk2=>(KQ s i t mk2 l).map fun q=>(q.1,mk.length::q.2)
def zN(l:List (kF×List kX))(k:kF)(d:List kX):List (kF×List kX):=
  if l.any fun x=>decide (x.1=k) then l.map fun x=>if x.1=k then (k,d) else x else l++[(k,d)]
def JP(s:kz)(i:List UInt8)(t:Int)(place next:Nat)(x:OpD):kz:=
  if x.1=3 then (zN s.1 (t,i,(next:Int)) [],s.2.1++[((t,i,(place:Int)),(t,i,(next:Int)),3,x.2.2.2.2.2)],s.2.2)
  else if x.1=4∨x.1=5 then (s.1,s.2.1++[((t,i,(place:Int)),jy s i t x.2.1,x.1.toNat,x.2.2.2.2.2)],s.2.2)
  else match jR s (jy s i t x.2.1) with
    |none=>s
    |some d=>
     if x.1=1 then (zN s.1 (jy s i t x.2.1) (jw d (t,i,(next:Int)) (jy s i t x.2.2.1) (decide (x.2.2.1=x.2.1)) ((jx x.2.2.2.1).getD [])).1,s.2)
     else if x.1=2 then (zN s.1 (jy s i t x.2.1) (vo d (jy s i t x.2.2.1) x.2.2.2.2.1).1,s.2)
     else s
def Jg(i:List UInt8)(t:Int):Nat→kz→List OpD→List Nat→kz
  |place,s,x::l,n::ns=>Jg i t (place+1) (JP s i t place n x) l ns
  | _,s,_,_=>s
def Kt(s:kz)(is i:List UInt8)(c:kQ):Int×kz:=
  if is≠i then (18,s)
  else if (kC s i).isSome then (11,s)
  else if c.2.1.all (fun d=>(kC s d).isSome)=false then (12,s)
  else if c.2.1.all (fun d=>decide (jM s d<c.1))=false then (21,s)
  else match KQ s i c.1 [] c.2.2.2 with
    |none=>(22,s)
    |some (mk,ns)=>(0,Jg i c.1 0 (s.1,s.2.1,s.2.2++[(i,c,mk)]) c.2.2.2 ns)
def Jh:kz:=([],[],[])
structure StateOk (s:kz):Prop where
  ids:(s.2.2.map (·.1)).Nodup
  docs:(s.1.map (·.1)).Nodup
  of:∀x∈s.1,(kC s x.1.2.1).isSome=true
  runs:∀x∈s.1,RunsOf (fun k=>(kC s k.2.1).isSome=true) x.2
theorem newState_ok:StateOk Jh:=⟨List.nodup_nil,List.nodup_nil,(fun x A=>by cases A),fun x A=>by cases A⟩
theorem Z6{l:List (kF×List kX)}{k:kF}{d:List kX}{x:kF×List kX}(h:x∈zN l k d):x∈l∨x=(k,d):=by
  unfold zN at h
  split at h
  ·obtain⟨y,A,e⟩:=List.mem_map.1 h
   split at e
   ·exact .inr e.symm
   ·subst e;exact .inl A
  ·rcases List.mem_append.1 h with h|h
   ·exact .inl h
   ·exact .inr (List.mem_singleton.1 h)
theorem setDoc_keys(l:List (kF×List kX))(k:kF)(d:List kX):(zN l k d).map (·.1)=l.map (·.1)∨(k∉l.map (·.1)∧(zN l k d).map (·.1)=l.map (·.1)++[k]):=by
  unfold zN
  split
  ·left
   rw[List.map_map];apply List.map_congr_left;intro x _;simp only[Function.comp]
   split
   ·rename_i e;exact e.symm
   ·rfl
  ·rename_i h
   right
   refine⟨fun A=>h ?_,by simp⟩;obtain⟨x,B,e⟩:=List.mem_map.1 A;exact List.any_eq_true.2 ⟨x,B,decide_eq_true e⟩
theorem setDoc_nodup{l:List (kF×List kX)}(h:(l.map (·.1)).Nodup)(k:kF)(d:List kX):((zN l k d).map (·.1)).Nodup:=by
  rcases setDoc_keys l k d with e|⟨C,e⟩
  ·rw[e];exact h
  ·rw[e];exact List.nodup_append.2 ⟨h,by simp,fun a D b A B=>C (by rw[List.mem_singleton] at A;rw[←A,←B];exact D)⟩
theorem vR{s:kz}{k:kF}{d:List kX}(h:jR s k=some d):(k,d)∈s.1:=by
  unfold jR at h;obtain⟨x,A,rfl⟩:=Option.map_eq_some_iff.1 h;have C:=List.mem_of_find?_eq_some A;have B:=List.find?_some A;rw[decide_eq_true_eq] at B;subst B;exact C
theorem find_set(k k':kF)(d:List kX):∀l:List (kF×List kX),l.any (fun x=>decide (x.1=k))=true→
    ((l.map fun x=>if x.1=k then (k,d) else x).find? fun x=>decide (x.1=k')).map (·.2)=if k'=k then some d else (l.find? fun x=>decide (x.1=k')).map (·.2)
  | [],h=>by cases h
  |x::l,h=>by
   rw[List.map_cons,List.find?_cons,List.find?_cons];by_cases hx:x.1=k
   ·rw[if_pos hx];by_cases hk:k'=k
    ·subst hk;simp
    ·rw[if_neg hk];have e1:decide (((k,d):kF×List kX).1=k')=false:=decide_eq_false fun e=>hk e.symm
     have B:decide (x.1=k')=false:=decide_eq_false fun e=>hk (e.symm.trans hx)
     rw[e1,B];by_cases A:l.any (fun x=>decide (x.1=k))=true
     ·have:=find_set k k' d l A;rw[if_neg hk] at this;exact this
     ·have:(l.map fun x=>if x.1=k then (k,d) else x)=l:=by
         rw[List.map_congr_left (g:=id)]
         ·simp
         ·intro y C;have:y.1≠k:=fun e=>A (List.any_eq_true.2 ⟨y,C,decide_eq_true e⟩)
          rw[if_neg this];rfl
      simp only[this]
   ·rw[if_neg hx];have A:l.any (fun x=>decide (x.1=k))=true:=by
       rw[List.any_cons,decide_eq_false hx,Bool.false_or] at h;exact h
    by_cases hk:x.1=k'
    ·have:k'≠k:=fun e=>hx (hk.trans e)
     rw[if_neg this,decide_eq_true hk]
    ·rw[decide_eq_false hk];exact find_set k k' d l A
theorem U8(s:kz)(k:kF)(d:List kX)(r:List kS×List (List UInt8×vE))(k':kF):jR (zN s.1 k d,r) k'=if k'=k then some d else jR s k':=by
  unfold jR zN;by_cases ha:s.1.any (fun x=>decide (x.1=k))=true
  ·rw[if_pos ha];exact find_set k k' d s.1 ha
  ·rw[if_neg ha];have B:∀x∈s.1,x.1≠k:=fun x A e=>ha (List.any_eq_true.2 ⟨x,A,decide_eq_true e⟩)
   show (List.find? _ (s.1++[(k,d)])).map _=_;rw[List.find?_append];by_cases hk:k'=k
   ·subst hk;rw[if_pos rfl,List.find?_eq_none.2 (fun x A=>by simpa using B x A)];simp
   ·rw[if_neg hk];have:decide (k=k')=false:=decide_eq_false fun e=>hk e.symm
    simp [List.find?_cons,this]
theorem StateOk.set{s:kz}(h:StateOk s){k:kF}{d:List kX}(hk:(kC s k.2.1).isSome=true)(hd:RunsOf (fun k=>(kC s k.2.1).isSome=true) d)(cl:List kS):StateOk (zN s.1 k d,cl,s.2.2):=
  ⟨h.ids,setDoc_nodup h.docs k d,fun x A=>by
    rcases Z6 A with A|rfl
    ·exact h.of x A
    ·exact hk,fun x A=>by
    rcases Z6 A with A|rfl
    ·exact h.runs x A
    ·exact hd⟩
theorem StateOk.do{s:kz}(h:StateOk s){i:List UInt8}(hi:(kC s i).isSome=true)(t:Int)(place next:Nat)(x:OpD):StateOk (JP s i t place next x):=by
  unfold JP
  split
  ·exact h.set (k:=(t,i,(next:Int))) (d:=[]) hi (fun r C=>by cases C) _
  ·split
   ·exact⟨h.ids,h.docs,h.of,h.runs⟩
   ·split
    ·exact h
    ·rename_i d D;have A:=vR D
     split
     ·exact h.set (h.of _ A) ((h.runs _ A).insert (fun _ _ B=>B) (by exact hi)) _
     ·split
      ·exact h.set (h.of _ A) ((h.runs _ A).delete (fun _ _ B=>B) _ _) _
      ·exact h
theorem qq(s:kz)(i:List UInt8)(t:Int)(place next:Nat)(x:OpD):(JP s i t place next x).2.2=s.2.2:=by
  unfold JP
  split
  ·rfl
  ·split
   ·rfl
   ·split
    ·rfl
    ·split
     ·rfl
     ·split<;>rfl
theorem StateOk.dos{i:List UInt8}(t:Int):∀(l:List OpD) (ns:List Nat) (place:Nat) {s:kz},StateOk s→(kC s i).isSome=true→StateOk (Jg i t place s l ns)∧(Jg i t place s l ns).2.2=s.2.2
  | [],ns,place,s,h,hi=>by cases ns<;>exact⟨h,rfl⟩
  |x::l,[],place,s,h,hi=>⟨h,rfl⟩
  |x::l,n::ns,place,s,h,hi=>by
   have e:=qq s i t place n x;have A:(kC (JP s i t place n x) i).isSome=true:=by
      unfold kC;rw[e];exact hi
   obtain⟨B,C⟩:=StateOk.dos t l ns (place+1) (h.do hi t place n x) A;exact⟨B,C.trans e⟩
theorem entryAt_none{s:kz}{i:List UInt8}(h:(kC s i).isSome=false):i∉s.2.2.map (·.1):=fun A=>by
  obtain⟨x,B,e⟩:=List.mem_map.1 A;unfold kC at h;rw[Option.isSome_map] at h;have:(s.2.2.find? fun x=>decide (x.1=i)).isSome=true:=List.find?_isSome.2 ⟨x,B,decide_eq_true e⟩;rw[this] at h;cases h
theorem qr{s:kz}{i:List UInt8}{d:List (kF×List kX)}{cl:List kS}{j:List UInt8}{e:vE}(h:(kC s j).isSome=true):(kC (d,cl,s.2.2++[(i,e)]) j)=kC s j:=by
  unfold kC at h ⊢;rw[Option.isSome_map] at h;rw[List.find?_append];obtain⟨x,A⟩:=Option.isSome_iff_exists.1 h;rw[A];rfl
theorem StateOk.add{s:kz}(h:StateOk s)(is i:List UInt8)(c:kQ):StateOk (Kt s is i c).2∧((Kt s is i c).1≠0→(Kt s is i c).2=s)∧
    ((Kt s is i c).1=0→is=i∧(kC s i).isSome=false∧∃A,(Kt s is i c).2.2.2=s.2.2++[(i,c,A)]):=by
  unfold Kt
  split
  ·exact⟨h,fun _=>rfl,fun e=>by cases e⟩
  ·rename_i H
   split
   ·exact⟨h,fun _=>rfl,fun e=>by cases e⟩
   ·rename_i O
    split
    ·exact⟨h,fun _=>rfl,fun e=>by cases e⟩
    ·split
     ·exact⟨h,fun _=>rfl,fun e=>by cases e⟩
     ·split
      ·exact⟨h,fun _=>rfl,fun e=>by cases e⟩
      ·rename_i A I P;have D:(kC s i).isSome=false:=by cases hq:(kC s i).isSome<;>simp_all
       have J:=entryAt_none D;have K:StateOk (s.1,s.2.1,s.2.2++[(i,c,A)]):=by
         refine⟨?_,h.docs,fun x B=>?_,fun x B r L=>?_⟩
         ·rw[List.map_append];exact List.nodup_append.2 ⟨h.ids,by simp,fun a M b F G=>J (by simp at F;rw[←F,←G];exact M)⟩
         ·rw[qr (h.of x B)];exact h.of x B
         ·obtain⟨C,E⟩:=h.runs x B r L;exact⟨by show (kC _ r.1.2.1).isSome=true;rw[qr C];exact C,E⟩
       have N:(kC (s.1,s.2.1,s.2.2++[(i,c,A)]) i).isSome=true:=by
         unfold kC;rw[Option.isSome_map];exact List.find?_isSome.2 ⟨(i,c,A),by simp,by simp⟩
       obtain⟨C,E⟩:=StateOk.dos c.1 c.2.2.2 I 0 K N;exact⟨C,fun e=>absurd rfl e,fun _=>⟨by simpa using H,D,A,E⟩⟩
section
open Go.RowKit
theorem qX{α:Type}{xs:Array α}{i:Nat}{a:α}(h:xs[i]?=some a):i<xs.size:=(Array.getElem?_eq_some_iff.1 h).1
theorem dT{p:Prop}[Decidable p](h:p):decide p=true:=decide_eq_true h
theorem dF{p:Prop}[Decidable p](h:¬p):decide p=false:=decide_eq_false h
theorem qR(n:Nat):n≤n:=Nat.le_refl n
theorem qT{a b c:Nat}(h:a≤b)(g:b≤c):a≤c:=Nat.le_trans h g
theorem qL{a b c:Nat}(h:a<b)(g:b≤c):a<c:=Nat.lt_of_lt_of_le h g
theorem qZ(n:Nat):0+n=n:=Nat.zero_add n
theorem qD(b:Nat)(w:World):Below b w w.drew:=(Below.refl b w).drew
theorem qB(b:Nat)(w:World):Below b w w:=Below.refl b w
abbrev qV:=@run_loadVar_mid
end
end Go.Proofs.YtdgbjhfkmembdaaGreatDoor