/-
  Facts and contracts that the walk needs. Conditions: as each says.
-/
import Derived.KernelRfl
import Derived.Below
import Derived.Test.YtdgbjhfkmembdaaGreatDoorProg
import Derived.Lib.Bytealg
import Derived.Laws.RangeAny
import Derived.Laws.BytesArg
import Derived.Lib.Strings
import Derived.Lib.RabinKarpLaws
import Derived.Lib.SmallJoins
import Derived.Lib.Split
import Derived.Lib.SplitLaws
import Derived.Lib.ItoaNum
import Derived.WalkKit
import Derived.WalkSmall
import Derived.Lib.Hide
import Derived.Laws.Tables
import Derived.Laws.Rows
import Derived.Laws.ResultCell
import Derived.OpenShut
import Derived.Deep.Slices
import Derived.Deep.Fields
import Derived.StillTailTactics
import Derived.BigQuiet
import Derived.DeepKeys4
import Derived.Maps.Own
import Derived.Laws.StructEq
import Derived.Deep.MidRow
import Derived.Handy
import Derived.PlainAid
import Derived.Deep.RegionWith
import Derived.Deep.DeepCutAuto
import Derived.Deep.CutBlock
import Derived.Deep.LoopGhost
import Derived.Deep.QuietTactic
import Derived.WalkSpells
import Derived.WalkLawsBesides
import Derived.Test.YtdgbjhfkmembdaaGreatDoorShelf
import Derived.Lib.OthersKept
import Derived.Test.YtdgbjhfkmembdaaGreatDoorCards
import Derived.Test.YtdgbjhfkmembdaaGreatDoorTie
import Derived.ProofKit
import Derived.ShutString
import Derived.SliceStrings
import Derived.Carry
import Derived.Deep.DeepHandedRow
import Derived.Lay
import Derived.MakeChecks
import Derived.Shelf.Vars
import Derived.SevenTiedAt
import Derived.Deep.SlicePairs
import Derived.Laws.CopyOwn
import Derived.Sort.Grow
import Derived.Deep.Draws
set_option linter.unusedVariables false
set_option linter.unusedSimpArgs false
set_option maxHeartbeats 4000000
set_option maxRecDepth 1000000
open Go.Proofs.Tryz
namespace Go.Proofs.YtdgbjhfkmembdaaGreatDoor
theorem yv{p:Prop}(h:p:=by omega):p:=h
theorem yq{p:Prop}(h:p:=by kernel_rfl):p:=h
theorem yk{p:Prop}(h:p:=by rfl):p:=h
theorem yj{p:Prop}(h:p:=by decide):p:=h
theorem yZ{p:Prop}(h:p:=by simp):p:=h
theorem yY{p:Prop}(h:p:=by unfold maxLen;omega):p:=h
theorem yX{p:Prop}(h:p:=by simp;omega):p:=h
theorem yV{α:Type _}{a b:List α}:(a++b).length=a.length+b.length:=List.length_append
theorem yQ{α:Type _}{l:List α}{n:Nat}(h:n<l.length):l[n]∈l:=List.getElem_mem h
theorem yK{α:Type _}{l:List α}{i:Nat}(h:i<l.length):l[i]?=some l[i]:=List.getElem?_eq_getElem h
theorem yJ{α:Type _}{a:α}{i:Nat}{l:List α}:l[i]?=some a↔∃h:i<l.length,l[i]=a:=List.getElem?_eq_some_iff
theorem xz{α:Type _}{l:List α}:l.toArray.size=l.length:=List.size_toArray
theorem xy(a b:Bool):((a&&b)=true)=(a=true∧b=true):=Bool.and_eq_true ..
theorem xx{α:Type _}{a b:List α}{n:Nat}(h:a.length≤n):(a++b)[n]?=b[n-a.length]?:=List.getElem?_append_right h
theorem xv{α:Type _}{a b:List α}{n:Nat}(h:n<a.length):(a++b)[n]?=a[n]?:=List.getElem?_append_left h
theorem xj{α:Type _}{i:Nat}{l:List α}(h:i<l.length):l.take (i+1)=l.take i++[l[i]]:=List.take_succ_eq_append_getElem h
theorem xZ{α:Type _}{a b:α}:a∈[b]↔a=b:=List.mem_singleton
theorem xY(n:Nat):n≤n:=Nat.le_refl ..
theorem xX{α β:Type _}{f:α→β}{a:α}{l:List α}:(a::l).map f=f a::l.map f:=List.map_cons
theorem xV{α β:Type _}{l:List α}{f:α→β}:l.toArray.map f=(l.map f).toArray:=List.map_toArray
theorem xQ{α:Type _}{a:α}:[a].length=1:=List.length_singleton
theorem xK{α:Type _}{a b:α}{l:List α}:a∈b::l↔a=b∨a∈l:=List.mem_cons
theorem xJ{α:Type _}{a:α}{s t:List α}:a∈s++t↔a∈s∨a∈t:=List.mem_append
theorem Yz{α:Type _}(a b c:List α):a++b++c=a++(b++c):=List.append_assoc ..
theorem Yy{α β:Type _}{f:α→β}:[].map f=[]:=List.map_nil
theorem Yx{α:Type _}{a:α}{l:List α}:(a::l).length=l.length+1:=List.length_cons
theorem Yv{α β:Type _}{l:List α}(f:α→β):(l.map f).length=l.length:=List.length_map ..
theorem Yq{α:Type _}{i:Nat}{l:List α}(h:l.length≤i):l.take i=l:=List.take_of_length_le h
theorem Yk(b:Bool):b=true∨b=false:=Bool.eq_false_or_eq_true ..
theorem Yj{α:Type _}{i:Nat}{l:List α}:(l.take i).length=min i l.length:=List.length_take
theorem YZ{α:Type _}(l:List α):[]++l=l:=List.nil_append ..
theorem YY{α:Type _}{a:α}:¬a∈[]:=List.not_mem_nil
theorem YX(n:Nat):0≤n:=Nat.zero_le ..
theorem YV{a b:Nat}(h:a<b):a≤b:=Nat.le_of_lt h
theorem YQ{α:Type _}{a:α}{n:Nat}{l:List α}(h:a∈l.take n):a∈l:=List.mem_of_mem_take h
theorem YK{α:Type _}{a:α}{s t:List α}:a::s++t=a::(s++t):=List.cons_append
theorem YJ{α:Type _}:([]:List α).length=0:=List.length_nil
theorem yz{p:Prop}(h:p:=by exact fun _ _ _ h=>jl yj h):p:=h
theorem yy{p:Prop}(h:p:=by intro u hu;rw[List.mem_singleton.1 hu];rfl):p:=h
theorem yx{p:Prop}(h:p:=by intro c h;cases h):p:=h
theorem Xz{p:Prop}(h:p:=by simp[RowKit.intOf]<;>omega):p:=h
theorem Xy{α:Type _}(a:α):∃x,a=x:=⟨_,rfl⟩
theorem Xv{α:Type _}(a:α):∃x,x=a:=⟨_,rfl⟩
theorem Xx{w a b:World}(h:RowKit.Below w.heap.size w a)(k:RowKit.Below a.heap.size a b):RowKit.Below w.heap.size w b:=h.trans (k.mono h.size)
abbrev kE:=Int×List UInt8×Int
def Uf(a b:Int):Int:=if a<b then -1 else if b<a then 1 else 0
def jJ(a b:List UInt8):Int:=Lib.compareBytes a b
def Kh(a b:kE):Int:=if Uf a.1 b.1≠0 then Uf a.1 b.1 else if jJ a.2.1 b.2.1≠0 then jJ a.2.1 b.2.1 else Uf a.2.2 b.2.2
theorem un{a b:Int}:Uf a b=0↔a=b:=by unfold Uf;split<;>(try split)<;>omega
theorem cmpI_neg{a b:Int}:Uf a b<0↔a<b:=by unfold Uf;split<;>(try split)<;>omega
theorem vx:jJ [] []=0:=by unfold jJ;unfold Lib.compareBytes;rfl
theorem Ja(b:UInt8)(bs:List UInt8):jJ [] (b::bs)= -1:=by unfold jJ;unfold Lib.compareBytes;rfl
theorem KC(a:UInt8)(al:List UInt8):jJ (a::al) []=1:=by unfold jJ;unfold Lib.compareBytes;rfl
theorem Jb(a b:UInt8)(al bs:List UInt8):jJ (a::al) (b::bs)=if a<b then -1 else if b<a then 1 else jJ al bs:=by
  unfold jJ;rw[Lib.compareBytes]
theorem ZQ(a b:UInt8):a<b∨b<a∨a=b:=by
  rcases (by omega:a.toNat<b.toNat∨b.toNat<a.toNat∨a.toNat=b.toNat) with h|h|h
  ·exact .inl (UInt8.lt_iff_toNat_lt.2 h)
  ·exact .inr (.inl (UInt8.lt_iff_toNat_lt.2 h))
  ·exact .inr (.inr (UInt8.toNat_inj.1 h))
theorem KZ(a:UInt8):¬a<a:=by rw[UInt8.lt_iff_toNat_lt];omega
theorem Zf{a b:UInt8}(h:a<b):¬b<a:=by rw[UInt8.lt_iff_toNat_lt] at *;omega
theorem Zx:∀(a b:List UInt8),jJ a b= -1∨jJ a b=0∨jJ a b=1
  | [],[]=>.inr (.inl vx)
  | [],_ :: _=>.inl (Ja _ _)
  | _ :: _,[]=>.inr (.inr (KC _ _))
  |a::al,b::bs=>by
   rw[Jb]
   split
   ·simp
   ·split
    ·simp
    ·exact Zx al bs
theorem vt:∀a,jJ a a=0
  | []=>vx
  |a::al=>by rw[Jb,if_neg (KZ a),if_neg (KZ a)];exact vt al
theorem Kl:∀{a b:List UInt8},jJ a b=0↔a=b
  | [],[]=>by simp [vx]
  | [],_ :: _=>by simp [Ja]
  | _ :: _,[]=>by simp [KC]
  |a::al,b::bs=>by
   rw[Jb];rcases ZQ a b with h|h|h
   ·rw[if_pos h];refine⟨fun e=>by omega,fun e=>?_⟩;have:a=b:=by injection e
    subst this;exact absurd h (KZ a)
   ·rw[if_neg (Zf h),if_pos h];refine⟨fun e=>by omega,fun e=>?_⟩;have:a=b:=by injection e
    subst this;exact absurd h (KZ a)
   ·subst h;rw[if_neg (KZ a),if_neg (KZ a),Kl (a:=al) (b:=bs)];simp
theorem Jr:∀(a b:List UInt8),jJ b a= - jJ a b
  | [],[]=>by rw[vx];rfl
  | [],_ :: _=>by rw[Ja,KC];rfl
  | _ :: _,[]=>by rw[Ja,KC]
  |a::al,b::bs=>by
   rw[Jb,Jb];rcases ZQ a b with h|h|h
   ·rw[if_neg (Zf h),if_pos h,if_pos h];rfl
   ·rw[if_pos h,if_neg (Zf h),if_pos h]
   ·subst h;simp only[KZ,if_false];exact Jr al bs
theorem KD:∀{a b c:List UInt8},jJ a b<0→jJ b c<0→jJ a c<0
  | [],[],_,h,_=>by rw[vx] at h;omega
  | _ :: _,[],_,h,_=>by rw[KC] at h;omega
  | _,_ :: _,[],_,h=>by rw[KC] at h;omega
  | [],_ :: _,c::cs,_,_=>by rw[Ja];omega
  |a::al,b::bs,c::cs,h1,h2=>by
   rw[Jb] at h1 h2 ⊢;rcases ZQ a b with h|h|h
   ·rcases ZQ b c with g|g|g
    ·rw[if_pos (by rw[UInt8.lt_iff_toNat_lt] at *;omega)];omega
    ·rw[if_neg (Zf g),if_pos g] at h2;omega
    ·subst g;rw[if_pos h];omega
   ·rw[if_neg (Zf h),if_pos h] at h1;omega
   ·subst h;rw[if_neg (KZ a),if_neg (KZ a)] at h1;rcases ZQ a c with g|g|g
    ·rw[if_pos g];omega
    ·rw[if_neg (Zf g),if_pos g] at h2;omega
    ·subst g;rw[if_neg (KZ a),if_neg (KZ a)] at h2 ⊢;exact KD h1 h2
theorem cmpK_zero{a b:kE}:Kh a b=0↔a=b:=by
  unfold Kh;by_cases h1:Uf a.1 b.1=0
  ·rw[if_neg (by simpa using h1)];by_cases h2:jJ a.2.1 b.2.1=0
   ·rw[if_neg (by simpa using h2),un];constructor
    ·intro h;exact Prod.ext (un.1 h1) (Prod.ext (Kl.1 h2) h)
    ·rintro rfl;rfl
   ·rw[if_pos h2];refine⟨fun h=>absurd h h2,?_⟩;rintro rfl;exact absurd (vt _) h2
  ·rw[if_pos h1];refine⟨fun h=>absurd h h1,?_⟩;rintro rfl;exact absurd (un.2 rfl) h1
theorem Js(a:kE):Kh a a=0:=cmpK_zero.2 rfl
theorem cmpI_swap(a b:Int):Uf b a= - Uf a b:=by unfold Uf;split<;>split<;>(try split)<;>omega
theorem cmpK_swap(a b:kE):Kh b a= - Kh a b:=by
  unfold Kh;rw[cmpI_swap a.1 b.1,Jr a.2.1 b.2.1,cmpI_swap a.2.2 b.2.2];generalize Uf a.1 b.1=x;generalize jJ a.2.1 b.2.1=y;by_cases h1:x=0<;>by_cases h2:y=0<;>simp [h1,h2]
theorem cmpK_neg{a b:kE}:Kh a b<0↔a.1<b.1∨(a.1=b.1∧(jJ a.2.1 b.2.1<0∨(a.2.1=b.2.1∧a.2.2<b.2.2))):=by
  unfold Kh;by_cases h1:Uf a.1 b.1=0
  ·have A:=un.1 h1;rw[if_neg (by simpa using h1)];by_cases h2:jJ a.2.1 b.2.1=0
   ·have B:=Kl.1 h2;rw[if_neg (by simpa using h2),cmpI_neg];constructor
    ·intro h;exact .inr ⟨A,.inr ⟨B,h⟩⟩
    ·rintro (h|⟨_,h|⟨_,h⟩⟩)
     ·omega
     ·omega
     ·exact h
   ·rw[if_pos h2];constructor
    ·intro h;exact .inr ⟨A,.inl h⟩
    ·rintro (h|⟨_,h|⟨h,_⟩⟩)
     ·omega
     ·exact h
     ·exact absurd (Kl.2 h) h2
  ·rw[if_pos h1,cmpI_neg];constructor
   ·exact .inl
   ·rintro (h|⟨h,_⟩)
    ·exact h
    ·exact absurd (un.2 h) h1
theorem JU{a b c:kE}(h1:Kh a b<0)(h2:Kh b c<0):Kh a c<0:=by
  rw[cmpK_neg] at *;rcases h1 with h1|⟨D,h1⟩
  ·rcases h2 with h2|⟨C,h2⟩
   ·exact .inl yv
   ·exact .inl yv
  ·rcases h2 with h2|⟨C,h2⟩
   ·exact .inl yv
   ·refine .inr ⟨by omega,?_⟩;rcases h1 with h1|⟨B,h1⟩
    ·rcases h2 with h2|⟨A,h2⟩
     ·exact .inl (KD h1 h2)
     ·rw[A] at h1;exact .inl h1
    ·rcases h2 with h2|⟨A,h2⟩
     ·rw[←B] at h2;exact .inl h2
     ·exact .inr ⟨B.trans A,by omega⟩
theorem Qg{a b:kE}:0<Kh a b↔Kh b a<0:=by rw[cmpK_swap a b];omega
theorem Zy(a b:kE):Kh a b<0∨a=b∨Kh b a<0:=by
  rcases (by omega:Kh a b<0∨Kh a b=0∨0<Kh a b) with h|h|h
  ·exact .inl h
  ·exact .inr (.inl (cmpK_zero.1 h))
  ·exact .inr (.inr (Qg.1 h))
def Rising(l:List kE):Prop:=l.Pairwise fun a b=>Kh a b<0
theorem Rising.ext:∀{a b:List kE},Rising a→Rising b→(∀k,k∈a↔k∈b)→a=b
  | [],[],_,_,_=>rfl
  | [],y::b,_,_,h=>absurd ((h y).2 yZ) yZ
  |x::a,[],_,_,h=>absurd ((h x).1 yZ) yZ
  |x::a,y::b,ha,hb,h=>by
   unfold Rising at ha hb;rw[List.pairwise_cons] at ha hb;have hxy:x=y:=by
      rcases xK.1 ((h x).1 yZ) with e|e
      ·exact e
      ·have C:=hb.1 x e;rcases xK.1 ((h y).2 yZ) with B|B
       ·exact B.symm
       ·have D:=ha.1 y B;have:=JU C D;rw[Js] at this;omega
   subst hxy
   congr 1
   refine Rising.ext ha.2 hb.2 fun k=>?_
   constructor
   ·intro A;rcases xK.1 ((h k).1 (by simp [A])) with e|e
    ·subst e;have:=ha.1 k A;rw[Js] at this;omega
    ·exact e
   ·intro A;rcases xK.1 ((h k).2 (by simp [A])) with e|e
    ·subst e;have:=hb.1 k A;rw[Js] at this;omega
    ·exact e
def insK(k:kE):List kE→List kE
  | []=>[k]
  |x::l=>if Kh k x<0 then k::x::l else if k=x then x::l else x::insK k l
theorem mem_insK{k y:kE}:∀{l:List kE},y∈insK k l↔y=k∨y∈l
  | []=>by simp [insK]
  |x::l=>by
   unfold insK
   split
   ·simp
   ·split
    ·rename_i h;subst h;simp
    ·simp only[xK,mem_insK (l:=l)];constructor
     ·rintro (h|h|h)
      ·exact .inr (.inl h)
      ·exact .inl h
      ·exact .inr (.inr h)
     ·rintro (h|h|h)
      ·exact .inr (.inl h)
      ·exact .inl h
      ·exact .inr (.inr h)
theorem Rising.ins{k:kE}:∀{l:List kE},Rising l→Rising (insK k l)
  | [],_=>by simp [insK,Rising]
  |x::l,h=>by
   unfold Rising at h;rw[List.pairwise_cons] at h;unfold insK
   split
   ·rename_i hk;unfold Rising;rw[List.pairwise_cons];refine⟨fun y hy=>?_,List.pairwise_cons.2 h⟩;rcases xK.1 hy with rfl|hy
    ·exact hk
    ·exact JU hk (h.1 y hy)
   ·split
    ·exact List.pairwise_cons.2 h
    ·rename_i h1 h2;unfold Rising;rw[List.pairwise_cons];refine⟨fun y hy=>?_,Rising.ins h.2⟩;rcases mem_insK.1 hy with rfl|hy
     ·rcases Zy y x with c|c|c
      ·exact absurd c h1
      ·exact absurd c h2
      ·exact c
     ·exact h.1 y hy
def qu(l:List kE):List kE:=l.foldr insK []
theorem UJ{y:kE}:∀{l:List kE},y∈qu l↔y∈l
  | []=>by simp [qu]
  |x::l=>by
   have:qu (x::l)=insK x (qu l):=rfl;rw[this,mem_insK,UJ (l:=l)];simp
theorem Qh:∀(l:List kE),Rising (qu l)
  | []=>List.Pairwise.nil
  | _ ::l=>(Qh l).ins
abbrev kQ:=kE×List Nat×Bool
def vy(k:kE)(n:Int):kE:=(k.1,k.2.1,k.2.2+n)
def Jj(a b:kE):Bool:=decide (a.1=b.1) && decide (a.2.1=b.2.1)
def J0(r:kQ)(k:kE):Bool:=Jj r.1 k && (decide (r.1.2.2≤k.2.2) && decide (k.2.2<r.1.2.2+(r.2.1.length:Int)))
def jz(r:kQ)(k:kE)(n:Int):Bool:=Jj r.1 k && (decide (r.1.2.2<k.2.2+n) && decide (k.2.2<r.1.2.2+(r.2.1.length:Int)))
def Ud:List kQ→kE→Option (Nat×Nat)
  | [],_=>none
  |r::d,k=>if J0 r k then some (0,(k.2.2 - r.1.2.2).toNat) else (Ud d k).map fun x=>(x.1+1,x.2)
def Ug(d:List kQ)(i:Nat)(r:kQ):List kQ:=d.take i++r::d.drop i
def vT(r:kQ)(n:Nat):kQ:=(r.1,r.2.1.take n,r.2.2)
def zN(r:kQ)(n:Nat):kQ:=(vy r.1 (n:Int),r.2.1.drop n,r.2.2)
def zg(d:List kQ)(i n:Nat):List kQ:=match d[i]? with
  |none=>d
  |some r=>if 0<n∧n<r.2.1.length then d.take i++vT r n::zN r n::d.drop (i+1) else d
def uL(d:List kQ)(k:kE)(n:Int):Bool:=d.all fun r=> !jz r k n
def aheadR(d:List kQ)(k:kE):Nat:=match d with
  | []=>0
  |r::d=>if 0<Kh r.1 k then aheadR d k+1 else 0
def uf(d:List kQ)(k:kE)(i:Nat):Nat:=i+aheadR (d.drop i) k
def jG(d:List kQ)(key at':kE)(first:Bool)(rs:List Nat):List kQ×Nat:=
  if rs=[]∨key.2.2<0∨2147483648 - (rs.length:Int)<key.2.2 then (d,1)
  else if first then (if uL d key rs.length then (Ug d (uf d key 0) (key,rs,false),0) else (d,11))
  else match Ud d at' with
    |none=>(d,12)
    |some (i,k)=>
     if 0≤Kh at' key then (d,21)
     else if uL d key rs.length then (Ug (zg d i (k+1)) (uf (zg d i (k+1)) key (i+1)) (key,rs,false),0) else (d,11)
def uo(r:kQ)(k:kE)(n:Int):Int:=min (k.2.2+n) (r.1.2.2+(r.2.1.length:Int)) - max k.2.2 r.1.2.2
def vd(d:List kQ)(k:kE)(n:Int):Int:=(d.map fun r=>if n≤2147483647∧0≤k.2.2∧jz r k n=true then uo r k n else 0).sum
def jP(r:kQ)(k:kE)(n:Int):List kQ:=
  if jz r k n then
    let a:=(k.2.2 - r.1.2.2).toNat
    let q:=if r.1.2.2<k.2.2 then zN r a else r
    let b:=(k.2.2+n - q.1.2.2).toNat
    (if r.1.2.2<k.2.2 then [vT r a] else [])++(if b<q.2.1.length then [(q.1,q.2.1.take b,true),zN q b] else [(q.1,q.2.1,true)])
  else [r]
def K7(d:List kQ)(k:kE)(n:Int):List kQ×Nat:=
  if n<1 then (d,1) else if vd d k n≠n then (d,12) else (d.flatMap fun r=>jP r k n,0)
def Kq(d:List kQ):Nat:=(d.map fun r=>r.2.1.length).sum
theorem findR_hit{k:kE}:∀{d:List kQ} {i:Nat} (hi:i<d.length),(∀j (hj:j<d.length),j<i→J0 d[j] k=false)→J0 d[i] k=true→Ud d k=some (i,(k.2.2 - d[i].1.2.2).toNat)
  |r::d,0,hi,_,hh=>by
   have hh':J0 r k=true:=hh;unfold Ud;rw[if_pos hh'];rfl
  |r::d,i+1,hi,h,hh=>by
   have A:J0 r k=false:=h 0 yZ yv;have B:=findR_hit (d:=d) (i:=i) (k:=k) (by simpa using hi) (fun j hj C=>h (j+1) (by simpa using hj) yv) hh;unfold Ud;rw[if_neg (by rw[A];exact Bool.false_ne_true),B];rfl
theorem findR_none{k:kE}:∀{d:List kQ},(∀j (hj:j<d.length),J0 d[j] k=false)→Ud d k=none
  | [],_=>rfl
  |r::d,h=>by
   have h0:J0 r k=false:=h 0 yZ;unfold Ud;rw[if_neg (by rw[h0];exact Bool.false_ne_true),findR_none (d:=d) fun j hj=>h (j+1) (by simpa using hj)];rfl
theorem findR_lt{k:kE}:∀{d:List kQ} {i n:Nat},Ud d k=some (i,n)→∃h:i<d.length,J0 d[i] k=true∧n=(k.2.2 - d[i].1.2.2).toNat
  | [],_,_,h=>by cases h
  |r::d,i,n,h=>by
   unfold Ud at h
   split at h
   ·rename_i hh;cases h
    exact⟨by simp,hh,rfl⟩
   ·obtain⟨x,hx,e⟩:=Option.map_eq_some_iff.1 h;cases e
    obtain⟨A,B,C⟩:=findR_lt (d:=d) hx;exact⟨by simpa using A,B,C⟩
theorem aheadR_is{k:kE}:∀{d:List kQ} {n:Nat},n≤d.length→(∀j (hj:j<d.length),j<n→0<Kh d[j].1 k)→(∀hn:n<d.length,¬0<Kh d[n].1 k)→aheadR d k=n
  | [],n,hn,_,_=>by simp at hn;subst hn;rfl
  |r::d,0,_,_,h2=>by
   unfold aheadR;have:¬0<Kh r.1 k:=h2 yZ;rw[if_neg this]
  |r::d,n+1,hn,h1,h2=>by
   unfold aheadR;have B:0<Kh r.1 k:=h1 0 yZ yv;rw[if_pos B,aheadR_is (d:=d) (n:=n) (by simpa using hn) (fun j hj C=>h1 (j+1) (by simpa using hj) yv) (fun A=>h2 (by simpa using A))]
theorem placeR_is{d:List kQ}{k:kE}{i p:Nat}(hip:i≤p)(hp:p≤d.length)(h1:∀j (hj:j<d.length),i≤j→j<p→0<Kh d[j].1 k)(h2:∀A:p<d.length,¬0<Kh d[p].1 k):uf d k i=p:=by
  unfold uf;rw[aheadR_is (n:=p - i) (by rw[List.length_drop];omega) (fun j hj B=>?_) (fun A=>?_)]
  ·omega
  ·rw[List.getElem_drop];exact h1 _ _ yv yv
  ·rw[List.getElem_drop];have:=h2 (by rw[List.length_drop] at A;omega)
   simpa [show i+(p - i)=p by omega] using this
theorem countR_next{d:List kQ}{k:kE}{n:Int}{i:Nat}(hi:i<d.length):vd (d.take (i+1)) k n=vd (d.take i) k n+(if n≤2147483647∧0≤k.2.2∧jz d[i] k n=true then uo d[i] k n else 0):=by
  unfold vd;rw[xj hi,List.map_append,List.sum_append];simp
theorem Z1{r:kQ}{k:kE}{n:Int}(h:jz r k n=false):jP r k n=[r]:=by
  unfold jP;rw[if_neg (by rw[h];exact Bool.false_ne_true)]
theorem ZR{r:kQ}{k:kE}{n:Int}(h:jz r k n=true):Jj r.1 k=true∧r.1.2.2<k.2.2+n∧k.2.2<r.1.2.2+(r.2.1.length:Int):=by
  simpa only[jz,xy,decide_eq_true_eq] using h
theorem kill_cut1{r:kQ}{k:kE}{n:Int}(h:jz r k n=true)(hn:1≤n)(hlt:r.1.2.2<k.2.2):
    jP r k n=vT r (k.2.2 - r.1.2.2).toNat::jP (zN r (k.2.2 - r.1.2.2).toNat) k n∧0<(k.2.2 - r.1.2.2).toNat∧(k.2.2 - r.1.2.2).toNat<r.2.1.length:=by
  obtain⟨B,G,H⟩:=ZR h;have C:0<(k.2.2 - r.1.2.2).toNat∧(k.2.2 - r.1.2.2).toNat<r.2.1.length:=yv;refine⟨?_,C⟩;have e:(zN r (k.2.2 - r.1.2.2).toNat).1.2.2=k.2.2:=by show r.1.2.2+((k.2.2 - r.1.2.2).toNat:Int)=k.2.2;omega
  have D:jz (zN r (k.2.2 - r.1.2.2).toNat) k n=true:=by
    have E:Jj (zN r (k.2.2 - r.1.2.2).toNat).1 k=true:=B;have F:(zN r (k.2.2 - r.1.2.2).toNat).2.1.length=r.2.1.length - (k.2.2 - r.1.2.2).toNat:=by simp [zN]
    unfold jz;rw[E,e,F,decide_eq_true yv,decide_eq_true yv];rfl
  have A:¬(zN r (k.2.2 - r.1.2.2).toNat).1.2.2<k.2.2:=by rw[e];omega
  conv=>lhs;unfold jP
  conv=>rhs;rhs;unfold jP
  rw[if_pos h,if_pos D];simp only[if_pos hlt,if_neg A,YZ,List.singleton_append]
theorem kill_cut2{r:kQ}{k:kE}{n:Int}(h:jz r k n=true)(hlt:¬r.1.2.2<k.2.2)(hb:(k.2.2+n - r.1.2.2).toNat<r.2.1.length):
    jP r k n=(r.1,r.2.1.take (k.2.2+n - r.1.2.2).toNat,true)::jP (zN r (k.2.2+n - r.1.2.2).toNat) k n∧0<(k.2.2+n - r.1.2.2).toNat:=by
  obtain⟨C,D,E⟩:=ZR h;have A:0<(k.2.2+n - r.1.2.2).toNat:=yv;refine⟨?_,A⟩;have B:jz (zN r (k.2.2+n - r.1.2.2).toNat) k n=false:=by
    have e:(zN r (k.2.2+n - r.1.2.2).toNat).1.2.2=k.2.2+n:=by show r.1.2.2+((k.2.2+n - r.1.2.2).toNat:Int)=k.2.2+n;omega
    unfold jz;rw[e,decide_eq_false (show ¬k.2.2+n<k.2.2+n by omega)];simp
  rw[Z1 B];unfold jP;rw[if_pos h];simp only[if_neg hlt,YZ,if_pos hb]
theorem kill_all{r:kQ}{k:kE}{n:Int}(h:jz r k n=true)(hlt:¬r.1.2.2<k.2.2)(hb:¬(k.2.2+n - r.1.2.2).toNat<r.2.1.length):jP r k n=[(r.1,r.2.1,true)]:=by
  unfold jP;rw[if_pos h];simp only[if_neg hlt,YZ,if_neg hb]
def RunsOf(p:kE→Prop)(d:List kQ):Prop:=∀r∈d,p r.1∧r.2.1≠[]
section
variable {p:kE→Prop} {d:List kQ}
theorem RunsOf.put(h:RunsOf p d){i:Nat}{r:kQ}(h1:p r.1)(h2:r.2.1≠[]):RunsOf p (Ug d i r):=fun q A=>by
  unfold Ug at A;rcases xJ.1 A with A|A
  ·exact h q (YQ A)
  ·rcases xK.1 A with rfl|A
   ·exact⟨h1,h2⟩
   ·exact h q (List.mem_of_mem_drop A)
theorem RunsOf.cut(hp:∀k n,p k→p (vy k n))(h:RunsOf p d)(i n:Nat):RunsOf p (zg d i n):=by
  unfold zg
  split
  ·exact h
  ·rename_i r C;have B:r∈d:=List.mem_of_getElem? C
   split
   ·rename_i D;intro q A;rcases xJ.1 A with A|A
    ·exact h q (YQ A)
    ·rcases xK.1 A with rfl|A
     ·refine⟨(h r B).1,fun e=>?_⟩;have:=congrArg List.length e;simp only[vT,Yj,YJ] at this;omega
     ·rcases xK.1 A with rfl|A
      ·refine⟨hp _ _ (h r B).1,fun e=>?_⟩;have:=congrArg List.length e;simp only[zN,List.length_drop,YJ] at this;omega
      ·exact h q (List.mem_of_mem_drop A)
   ·exact h
theorem RunsOf.insert(hp:∀k n,p k→p (vy k n))(h:RunsOf p d){key at':kE}{first:Bool}{rs:List Nat}(hk:p key):RunsOf p (jG d key at' first rs).1:=by
  unfold jG
  split
  ·exact h
  ·rename_i B;have A:rs≠[]:=fun e=>B (.inl e)
   split
   ·split
    ·exact h.put hk A
    ·exact h
   ·split
    ·exact h
    ·split
     ·exact h
     ·split
      ·exact(h.cut hp _ _).put hk A
      ·exact h
theorem RunsOf.kill(hp:∀k n,p k→p (vy k n)){r:kQ}(h1:p r.1)(h2:r.2.1≠[])(k:kE)(n:Int)(hn:1≤n):RunsOf p (jP r k n):=by
  have I:0<r.2.1.length:=List.length_pos_iff.2 h2;unfold jP
  split
  ·rename_i C;simp only[jz,xy,decide_eq_true_eq] at C;obtain⟨-,E,F⟩:=C;intro q A;dsimp only at A;by_cases hlt:r.1.2.2<k.2.2
   ·simp only[if_pos hlt] at A;rcases xJ.1 A with A|A
    ·rw[xZ] at A;subst A;refine⟨h1,fun e=>?_⟩;have:=congrArg List.length e;simp only[vT,Yj,YJ] at this;omega
    ·have B:p (zN r (k.2.2 - r.1.2.2).toNat).1:=hp _ _ h1;have G:(zN r (k.2.2 - r.1.2.2).toNat).2.1.length=r.2.1.length - (k.2.2 - r.1.2.2).toNat:=by simp [zN]
     have H:(zN r (k.2.2 - r.1.2.2).toNat).1.2.2=r.1.2.2+((k.2.2 - r.1.2.2).toNat:Int):=rfl;generalize zN r (k.2.2 - r.1.2.2).toNat=t at *
     split at A
     ·rename_i D;rcases xK.1 A with rfl|A
      ·refine⟨B,fun e=>?_⟩;have:=congrArg List.length e;simp only[Yj,YJ] at this;omega
      ·rw[xZ] at A;subst A;refine⟨hp _ _ B,fun e=>?_⟩;have:=congrArg List.length e;simp only[zN,List.length_drop,YJ] at this;omega
     ·rw[xZ] at A;subst A;refine⟨B,fun e=>?_⟩;have:=congrArg List.length e;simp only[YJ] at this;omega
   ·simp only[if_neg hlt,YZ] at A
    split at A
    ·rename_i D;rcases xK.1 A with rfl|A
     ·refine⟨h1,fun e=>?_⟩;have:=congrArg List.length e;simp only[Yj,YJ] at this;omega
     ·rw[xZ] at A;subst A;refine⟨hp _ _ h1,fun e=>?_⟩;have:=congrArg List.length e;simp only[zN,List.length_drop,YJ] at this;omega
    ·rw[xZ] at A;subst A;exact⟨h1,h2⟩
  ·intro q A;rw[xZ] at A;subst A;exact⟨h1,h2⟩
theorem RunsOf.delete(hp:∀k n,p k→p (vy k n))(h:RunsOf p d)(k:kE)(n:Int):RunsOf p (K7 d k n).1:=by
  unfold K7
  split
  ·exact h
  ·rename_i C
   split
   ·exact h
   ·intro q A;obtain⟨r,B,A⟩:=List.mem_flatMap.1 A;exact RunsOf.kill hp (h r B).1 (h r B).2 k n yv q A
end
def B(s:ByteArray)(k:Nat):Nat:=(s.get! k).toNat
theorem getB(s:ByteArray):∀(n:Nat) (h:n<s.size),((s[n]'h).toNat:Int)=(B s n:Int):=by
  intro n h;unfold B;have:=get_at s n h;simp at this;rw[this]
theorem JE(s:ByteArray)(k:Nat):B s k<256:=by unfold B;exact(s.get! k).toNat_lt
def J6(s:ByteArray)(pos:Nat):Bool:= !((Utf8.decode s pos) == (0xFFFD,1))
def Kw(s:ByteArray)(k:Nat):Bool:=decide (k<s.size) && (B s k / 64 == 2)
theorem ve(s:ByteArray)(i:Nat):Utf8.decode s i=
    if B s i<0x80 then (B s i,1)
    else if (B s i / 32 == 6 && Kw s (i+1))=true then
      (if (B s i % 32)*64+B s (i+1) % 64≥0x80 then ((B s i % 32)*64+B s (i+1) % 64,2) else (0xFFFD,1))
    else if (B s i / 16 == 14 && Kw s (i+1) && Kw s (i+2))=true then
      (if ((B s i % 16)*4096+(B s (i+1) % 64)*64+B s (i+2) % 64≥0x800 && Utf8.valid ((B s i % 16)*4096+(B s (i+1) % 64)*64+B s (i+2) % 64:Nat))=true
        then ((B s i % 16)*4096+(B s (i+1) % 64)*64+B s (i+2) % 64,3) else (0xFFFD,1))
    else if (B s i / 8 == 30 && Kw s (i+1) && Kw s (i+2) && Kw s (i+3))=true then
      (if ((B s i % 8)*262144+(B s (i+1) % 64)*4096+(B s (i+2) % 64)*64+B s (i+3) % 64≥0x10000 && Utf8.valid ((B s i % 8)*262144+(B s (i+1) % 64)*4096+(B s (i+2) % 64)*64+B s (i+3) % 64:Nat))=true
        then ((B s i % 8)*262144+(B s (i+1) % 64)*4096+(B s (i+2) % 64)*64+B s (i+3) % 64,4) else (0xFFFD,1))
    else (0xFFFD,1):=by
  rfl
def Kp(r:Int):Bool:=decide (0≤r) && decide (r≤1114111) && (decide (r<55296) || decide (57343<r))
theorem uq(r:Int):Utf8.valid r=Kp r:=by
  unfold Utf8.valid Kp;rw[Bool.eq_iff_iff];simp only[Bool.or_eq_true,xy,decide_eq_true_eq];omega
def v2(s:ByteArray)(i:Nat):Nat:=(B s i % 32)*64+B s (i+1) % 64
def v3(s:ByteArray)(i:Nat):Nat:=(B s i % 16)*4096+(B s (i+1) % 64)*64+B s (i+2) % 64
def v4(s:ByteArray)(i:Nat):Nat:=(B s i % 8)*262144+(B s (i+1) % 64)*4096+(B s (i+2) % 64)*64+B s (i+3) % 64
theorem ok_of{s:ByteArray}{i r n:Nat}(e:Utf8.decode s i=(r,n))(h:¬(r=0xFFFD∧n=1)):J6 s i=true:=by
  simp [J6,e];omega
theorem qI{s:ByteArray}{i:Nat}(e:Utf8.decode s i=(0xFFFD,1)):J6 s i=false:=by
  simp [J6,e]
theorem JS{s:ByteArray}{k:Nat}(h:k<s.size)(b:B s k / 64=2):Kw s k=true:=by simp [Kw,h,b]
theorem Zg{s:ByteArray}{k:Nat}(h:s.size≤k∨B s k / 64≠2):Kw s k=false:=by
  simp [Kw];omega
theorem dec1{s:ByteArray}{i:Nat}(h:B s i<128):Utf8.decode s i=(B s i,1)∧J6 s i=true:=by
  have e:Utf8.decode s i=(B s i,1):=by rw[ve,if_pos h]
  exact⟨e,ok_of e yv⟩
theorem dec_lone{s:ByteArray}{i:Nat}(h:128≤B s i∧B s i<192∨248≤B s i):J6 s i=false:=by
  have:=JE s i;refine qI ?_;rw[ve,if_neg yv,if_neg yX,if_neg yX,if_neg yX]
theorem dec2_no{s:ByteArray}{i:Nat}(h:192≤B s i∧B s i<224)(g:Kw s (i+1)=false):J6 s i=false:=by
  refine qI ?_;rw[ve,if_neg yv,if_neg (by simp [g]),if_neg yX,if_neg yX]
theorem dec2{s:ByteArray}{i:Nat}(h:192≤B s i∧B s i<224)(g:Kw s (i+1)=true):
    (128≤v2 s i∧Utf8.decode s i=(v2 s i,2)∧J6 s i=true)∨(v2 s i<128∧J6 s i=false):=by
  by_cases v:128≤v2 s i
  ·have e:Utf8.decode s i=(v2 s i,2):=by
      rw[ve,if_neg yv,if_pos (by simp [g];omega),if_pos (by unfold v2 at v;omega)];rfl
   exact .inl ⟨v,e,ok_of e yv⟩
  ·refine .inr ⟨by omega,qI ?_⟩;rw[ve,if_neg yv,if_pos (by simp [g];omega),if_neg (by unfold v2 at v;omega)]
theorem uM{s:ByteArray}{i:Nat}(h:224≤B s i∧B s i<240)(g:Kw s (i+1)=false∨Kw s (i+2)=false):J6 s i=false:=by
  refine qI ?_;rw[ve,if_neg yv,if_neg yX,if_neg (by rcases g with g|g<;>simp [g]),if_neg yX]
theorem dec3{s:ByteArray}{i:Nat}(h:224≤B s i∧B s i<240)(g:Kw s (i+1)=true)(g2:Kw s (i+2)=true):
    (2048≤v3 s i∧Kp (v3 s i)=true∧Utf8.decode s i=(v3 s i,3)∧J6 s i=true)∨((v3 s i<2048∨Kp (v3 s i)=false)∧J6 s i=false):=by
  by_cases v:2048≤v3 s i∧Kp (v3 s i)=true
  ·have e:Utf8.decode s i=(v3 s i,3):=by
     rw[ve,if_neg yv,if_neg yX,if_pos (by simp [g,g2];omega),if_pos]
     ·rfl
     ·rw[uq];show (decide (v3 s i≥2048) && Kp (v3 s i))=true;simp [v]
   exact .inl ⟨v.1,v.2,e,ok_of e yv⟩
  ·refine .inr ⟨?_,qI ?_⟩
   ·rcases Nat.lt_or_ge (v3 s i) 2048 with a|a
    ·exact .inl a
    ·right;simpa [a] using v
   ·rw[ve,if_neg yv,if_neg yX,if_pos (by simp [g,g2];omega),if_neg];rw[uq];show ¬(decide (v3 s i≥2048) && Kp (v3 s i))=true
    simpa using v
theorem ZI{s:ByteArray}{i:Nat}(h:240≤B s i∧B s i<248)(g:Kw s (i+1)=false∨Kw s (i+2)=false∨Kw s (i+3)=false):J6 s i=false:=by
  refine qI ?_;rw[ve,if_neg yv,if_neg yX,if_neg yX,if_neg (by rcases g with g|g|g<;>simp [g])]
theorem dec4{s:ByteArray}{i:Nat}(h:240≤B s i∧B s i<248)(g:Kw s (i+1)=true)(g2:Kw s (i+2)=true)(g3:Kw s (i+3)=true):
    (65536≤v4 s i∧Kp (v4 s i)=true∧Utf8.decode s i=(v4 s i,4)∧J6 s i=true)∨((v4 s i<65536∨Kp (v4 s i)=false)∧J6 s i=false):=by
  by_cases v:65536≤v4 s i∧Kp (v4 s i)=true
  ·have e:Utf8.decode s i=(v4 s i,4):=by
     rw[ve,if_neg yv,if_neg yX,if_neg yX,if_pos (by simp [g,g2,g3];omega),if_pos]
     ·rfl
     ·rw[uq];show (decide (v4 s i≥65536) && Kp (v4 s i))=true;simp [v]
   exact .inl ⟨v.1,v.2,e,ok_of e yv⟩
  ·refine .inr ⟨?_,qI ?_⟩
   ·rcases Nat.lt_or_ge (v4 s i) 65536 with a|a
    ·exact .inl a
    ·right;simpa [a] using v
   ·rw[ve,if_neg yv,if_neg yX,if_neg yX,if_pos (by simp [g,g2,g3];omega),if_neg];rw[uq];show ¬(decide (v4 s i≥65536) && Kp (v4 s i))=true
    simpa using v
theorem vz{s:ByteArray}{i:Nat}(hi:i<s.size):i+(Utf8.decode s i).2≤s.size∧1≤(Utf8.decode s i).2∧(Utf8.decode s i).2≤4:=by
  have C:∀{r n:Nat},Utf8.decode s i=(r,n)→i+n≤s.size→1≤n→n≤4→i+(Utf8.decode s i).2≤s.size∧1≤(Utf8.decode s i).2∧(Utf8.decode s i).2≤4:=by
    intro r n e E F G;rw[e];exact⟨E,F,G⟩
  have A:J6 s i=false→Utf8.decode s i=(0xFFFD,1):=by intro h;simpa [J6] using h
  have H:=JE s i;have D:∀{k},Kw s k=true→k<s.size:=by intro k h;simp [Kw] at h;exact h.1
  rcases (by omega:B s i<128∨(128≤B s i∧B s i<192∨248≤B s i)∨(192≤B s i∧B s i<224)∨(224≤B s i∧B s i<240)∨(240≤B s i∧B s i<248)) with h|h|h|h|h
  ·exact C (dec1 h).1 yv yv yv
  ·exact C (A (dec_lone h)) yv yv yv
  ·cases g:Kw s (i+1)
   ·exact C (A (dec2_no h g)) yv yv yv
   ·have:=D g;rcases dec2 h g with⟨_,e,_⟩|⟨_,e⟩
    ·exact C e yv yv yv
    ·exact C (A e) yv yv yv
  ·cases g:Kw s (i+1)
   ·exact C (A (uM h (.inl g))) yv yv yv
   ·cases g2:Kw s (i+2)
    ·exact C (A (uM h (.inr g2))) yv yv yv
    ·have:=D g2;rcases dec3 h g g2 with⟨_,_,e,_⟩|⟨_,e⟩
     ·exact C e yv yv yv
     ·exact C (A e) yv yv yv
  ·cases g:Kw s (i+1)
   ·exact C (A (ZI h (.inl g))) yv yv yv
   ·cases g2:Kw s (i+2)
    ·exact C (A (ZI h (.inr (.inl g2)))) yv yv yv
    ·cases g3:Kw s (i+3)
     ·exact C (A (ZI h (.inr (.inr g3)))) yv yv yv
     ·have:=D g3;rcases dec4 h g g2 g3 with⟨_,_,e,_⟩|⟨_,e⟩
      ·exact C e yv yv yv
      ·exact C (A e) yv yv yv
def Jk(s:ByteArray):Nat→Nat→Option (List Nat)
  | 0,_=>some []
  |f+1,pos=>if pos<s.size then (if J6 s pos then (Jk s f (pos+(Utf8.decode s pos).2)).map ((Utf8.decode s pos).1:: ·) else none) else some []
def jH(s:ByteArray):Option (List Nat):=Jk s s.size 0
def KE(s:ByteArray):Bool:=(jH s).isSome
theorem Qi(s:ByteArray):∀(f g pos:Nat),s.size≤pos+f→f≤g→Jk s g pos=Jk s f pos
  | 0,0,_,_,_=>rfl
  | 0,g+1,pos,h,_=>by simp [Jk];omega
  |f+1,0,_,_,h=>by omega
  |f+1,g+1,pos,h,hg=>by
   unfold Jk;by_cases hp:pos<s.size
   ·rw[if_pos hp,if_pos hp];by_cases ho:J6 s pos=true
    ·rw[if_pos ho,if_pos ho,Qi s f g _ (by have:=(vz hp).2.1;omega) yv]
    ·rw[if_neg ho,if_neg ho]
   ·rw[if_neg hp,if_neg hp]
def jM(s:ByteArray)(pos:Nat):Option (List Nat):=Jk s (s.size - pos) pos
theorem uN(s:ByteArray):jH s=jM s 0:=rfl
theorem Jn{s:ByteArray}{pos:Nat}(h:s.size≤pos):jM s pos=some []:=by
  unfold jM;rw[show s.size - pos=0 by omega];rfl
theorem vU{s:ByteArray}{pos:Nat}(h:pos<s.size)(k:J6 s pos=false):jM s pos=none:=by
  unfold jM;obtain⟨f,A⟩:∃f,s.size - pos=f+1:=⟨s.size - pos - 1,by omega⟩;rw[A,Jk,if_pos h,k];rfl
theorem Jo{s:ByteArray}{pos:Nat}(h:pos<s.size)(k:J6 s pos=true):
    jM s pos=(jM s (pos+(Utf8.decode s pos).2)).map ((Utf8.decode s pos).1:: ·):=by
  unfold jM;obtain⟨f,A⟩:∃f,s.size - pos=f+1:=⟨s.size - pos - 1,by omega⟩;rw[A,Jk,if_pos h,k,if_pos rfl,Qi s (s.size - (pos+(Utf8.decode s pos).2)) f _ yv (by have:=(vz h).2.1;omega)]
def vR(r:Int):List Int:=
  if r<128 then [r] else if r<2048 then [192+r / 64,128+r % 64] else if r<65536 then [224+r / 4096,128+r / 64 % 64,128+r % 64]
  else [240+r / 262144,128+r / 4096 % 64,128+r / 64 % 64,128+r % 64]
theorem encB1{r:Int}(h:r<128):vR r=[r]:=by unfold vR;rw[if_pos h]
theorem encB2{r:Int}(h:128≤r)(h':r<2048):vR r=[192+r / 64,128+r % 64]:=by
  unfold vR;rw[if_neg yv,if_pos h']
theorem encB3{r:Int}(h:2048≤r)(h':r<65536):vR r=[224+r / 4096,128+r / 64 % 64,128+r % 64]:=by
  unfold vR;rw[if_neg yv,if_neg yv,if_pos h']
theorem encB4{r:Int}(h:65536≤r):vR r=[240+r / 262144,128+r / 4096 % 64,128+r / 64 % 64,128+r % 64]:=by
  unfold vR;rw[if_neg yv,if_neg yv,if_neg yv]
def vOf(s:ByteArray)(i k:Nat):Int:=
  if k=1 then B s i else if k=2 then ((B s i:Int) - 192)*64+B s (i+1) - 128
  else if k=3 then ((B s i:Int) - 224)*4096+((B s (i+1):Int) - 128)*64+B s (i+2) - 128
  else ((B s i:Int) - 240)*262144+((B s (i+1):Int) - 128)*4096+((B s (i+2):Int) - 128)*64+B s (i+3) - 128
def zU(s:ByteArray)(i k:Nat):List Int:=
  if k=1 then [(B s i:Int)] else if k=2 then [(B s i:Int),B s (i+1)] else if k=3 then [(B s i:Int),B s (i+1),B s (i+2)]
  else [(B s i:Int),B s (i+1),B s (i+2),B s (i+3)]
def hit(s:ByteArray)(i k:Nat):Prop:=J6 s i=true∧(Utf8.decode s i).2=k
theorem UK{s:ByteArray}{k:Nat}(h:Kw s k=true):k<s.size∧B s k / 64=2:=by simpa [Kw] using h
theorem vOf_hit{s:ByteArray}{i k:Nat}(h:hit s i k):vOf s i k=(Utf8.decode s i).1∧Kp (Utf8.decode s i).1=true∧vR (Utf8.decode s i).1=zU s i k∧1≤k∧k≤4:=by
  obtain⟨A,D⟩:=h;have J:=JE s i;have G:=JE s (i+1);have H:=JE s (i+2);have I:=JE s (i+3);rcases (by omega:B s i<128∨(128≤B s i∧B s i<192∨248≤B s i)∨(192≤B s i∧B s i<224)∨(224≤B s i∧B s i<240)∨(240≤B s i∧B s i<248)) with h|h|h|h|h
  ·obtain⟨e,_⟩:=dec1 h;rw[e] at D ⊢;subst D;refine⟨rfl,by simp [Kp];omega,?_,by omega,by omega⟩;rw[encB1 yX];rfl
  ·rw[dec_lone h] at A;cases A
  ·cases g:Kw s (i+1)
   ·rw[dec2_no h g] at A;cases A
   ·have:=UK g;rcases dec2 h g with⟨F,e,_⟩|⟨_,e⟩
    ·rw[e] at D ⊢;subst D;have C:(v2 s i:Int)=((B s i:Int) - 192)*64+B s (i+1) - 128:=by unfold v2;omega
     refine⟨C.symm,by simp [Kp];omega,?_,by omega,by omega⟩;rw[encB2 yv (by simp only[C];omega)];simp only[C,zU];simp;omega
    ·rw[e] at A;cases A
  ·cases g:Kw s (i+1)
   ·rw[uM h (.inl g)] at A;cases A
   ·cases g2:Kw s (i+2)
    ·rw[uM h (.inr g2)] at A;cases A
    ·have:=UK g;have:=UK g2;rcases dec3 h g g2 with⟨F,E,e,_⟩|⟨_,e⟩
     ·rw[e] at D ⊢;subst D;have C:(v3 s i:Int)=((B s i:Int) - 224)*4096+((B s (i+1):Int) - 128)*64+B s (i+2) - 128:=by unfold v3;omega
      refine⟨C.symm,E,?_,by omega,by omega⟩;rw[encB3 yv (by simp only[C];omega)];simp only[C,zU];simp;omega
     ·rw[e] at A;cases A
  ·cases g:Kw s (i+1)
   ·rw[ZI h (.inl g)] at A;cases A
   ·cases g2:Kw s (i+2)
    ·rw[ZI h (.inr (.inl g2))] at A;cases A
    ·cases g3:Kw s (i+3)
     ·rw[ZI h (.inr (.inr g3))] at A;cases A
     ·have:=UK g;have:=UK g2;have:=UK g3;rcases dec4 h g g2 g3 with⟨F,E,e,_⟩|⟨_,e⟩
      ·rw[e] at D ⊢;subst D;have C:(v4 s i:Int)=((B s i:Int) - 240)*262144+((B s (i+1):Int) - 128)*4096+((B s (i+2):Int) - 128)*64+B s (i+3) - 128:=by unfold v4;omega
       refine⟨C.symm,E,?_,by omega,by omega⟩;rw[encB4 yv];simp only[C,zU];simp;omega
      ·rw[e] at A;cases A
theorem may_range{r:Int}(h:Kp r=true):0≤r∧r≤1114111∧(r<55296∨57343<r):=by
  simp [Kp] at h;omega
theorem vOf_miss{s:ByteArray}{i k:Nat}(h1:1≤k)(h4:k≤4)(hin:i+k≤s.size)(hm:Kp (vOf s i k)=true)(he:vR (vOf s i k)=zU s i k):hit s i k:=by
  have C:=may_range hm;have O:=JE s i;have L:=JE s (i+1);have M:=JE s (i+2);have N:=JE s (i+3);have D:∀{r n:Nat},Utf8.decode s i=(r,n)→J6 s i=true→n=k→hit s i k:=by
    intro r n e A I;exact⟨A,by rw[e];exact I⟩
  rcases (by omega:k=1∨k=2∨k=3∨k=4) with rfl|rfl|rfl|rfl
  ·rw[show vOf s i 1=(B s i:Int) from rfl] at he C;rcases (by omega:(B s i:Int)<128∨128≤(B s i:Int)) with a|a
   ·obtain⟨e,A⟩:=dec1 (s:=s) (i:=i) yv;exact D e A rfl
   ·rw[encB2 a yv] at he;simp [zU] at he
  ·rw[show vOf s i 2=((B s i:Int) - 192)*64+B s (i+1) - 128 from rfl] at he C;generalize hv:((B s i:Int) - 192)*64+B s (i+1) - 128=v at he C;rcases (by omega:v<128∨(128≤v∧v<2048)∨(2048≤v∧v<65536)∨65536≤v) with a|⟨a,b⟩|⟨a,b⟩|a
   ·rw[encB1 a] at he;simp [zU] at he
   ·rw[encB2 a b] at he;simp [zU] at he;obtain⟨G,H⟩:=he;have h:192≤B s i∧B s i<224:=yv;have g:Kw s (i+1)=true:=JS yv yv;rcases dec2 h g with⟨_,e,A⟩|⟨c,_⟩
    ·exact D e A rfl
    ·unfold v2 at c;omega
   ·rw[encB3 a b] at he;simp [zU] at he
   ·rw[encB4 a] at he;simp [zU] at he
  ·rw[show vOf s i 3=((B s i:Int) - 224)*4096+((B s (i+1):Int) - 128)*64+B s (i+2) - 128 from rfl] at he C hm;generalize hv:((B s i:Int) - 224)*4096+((B s (i+1):Int) - 128)*64+B s (i+2) - 128=v at he C hm;rcases (by omega:v<128∨(128≤v∧v<2048)∨(2048≤v∧v<65536)∨65536≤v) with a|⟨a,b⟩|⟨a,b⟩|a
   ·rw[encB1 a] at he;simp [zU] at he
   ·rw[encB2 a b] at he;simp [zU] at he
   ·rw[encB3 a b] at he;simp [zU] at he;obtain⟨G,H,J⟩:=he;have h:224≤B s i∧B s i<240:=yv;have g:Kw s (i+1)=true:=JS yv yv;have E:Kw s (i+2)=true:=JS yv yv;have F:(v3 s i:Int)=v:=by unfold v3;omega
    rcases dec3 h g E with⟨_,_,e,A⟩|⟨c,_⟩
    ·exact D e A rfl
    ·rcases c with c|c
     ·omega
     ·rw[F,hm] at c;cases c
   ·rw[encB4 a] at he;simp [zU] at he
  ·rw[show vOf s i 4=((B s i:Int) - 240)*262144+((B s (i+1):Int) - 128)*4096+((B s (i+2):Int) - 128)*64+B s (i+3) - 128 from rfl] at he C hm;generalize hv:((B s i:Int) - 240)*262144+((B s (i+1):Int) - 128)*4096+((B s (i+2):Int) - 128)*64+B s (i+3) - 128=v at he C hm;rcases (by omega:v<128∨(128≤v∧v<2048)∨(2048≤v∧v<65536)∨65536≤v) with a|⟨a,b⟩|⟨a,b⟩|a
   ·rw[encB1 a] at he;simp [zU] at he
   ·rw[encB2 a b] at he;simp [zU] at he
   ·rw[encB3 a b] at he;simp [zU] at he
   ·rw[encB4 a] at he;simp [zU] at he;obtain⟨G,H,J,P⟩:=he;have h:240≤B s i∧B s i<248:=yv;have g:Kw s (i+1)=true:=JS yv yv;have E:Kw s (i+2)=true:=JS yv yv;have K:Kw s (i+3)=true:=JS yv yv;have F:(v4 s i:Int)=v:=by unfold v4;omega
    rcases dec4 h g E K with⟨_,_,e,A⟩|⟨c,_⟩
    ·exact D e A rfl
    ·rcases c with c|c
     ·omega
     ·rw[F,hm] at c;cases c
theorem vOf_range(s:ByteArray)(i k:Nat): -100000000≤vOf s i k∧vOf s i k≤100000000:=by
  have D:=JE s i;have A:=JE s (i+1);have B:=JE s (i+2);have C:=JE s (i+3);unfold vOf
  split
  ·omega
  ·split
   ·omega
   ·split<;>omega
abbrev L(s:ByteArray):List UInt8:=s.data.toList
theorem jf(s:ByteArray):(L s).length=s.size:=by simp [L]
theorem JJ(s:ByteArray):s.toList=L s:=by
  have h:=Lib.extract_toList s 0 s.size;have A:=Lib.extract_data s 0 s.size;have e:s.extract 0 s.size=s:=by
    apply ByteArray.ext;apply Array.toList_inj.1;rw[A,List.drop_zero,Yq (by rw[←jf];exact xY _)]
  rw[e] at h;rw[h,List.drop_zero,Yq (by rw[←jf];exact xY _)]
theorem L_inj{a b:ByteArray}(h:L a=L b):a=b:=by
  apply ByteArray.ext;exact Array.toList_inj.1 h
theorem str_beq(a b:ByteArray):(a.toList == b.toList)=decide (L a=L b):=by
  rw[JJ,JJ,Bool.eq_iff_iff];simp
theorem B_L(s:ByteArray)(k:Nat)(h:k<s.size):(L s)[k]?=some (s[k]'h):=Go.Proofs.byte_at s k h
theorem B_of(s:ByteArray)(k:Nat)(h:k<s.size):B s k=(s[k]'h).toNat:=by
  have:=getB s k h;omega
def num(l:List UInt8):List Int:=l.map fun c=>(c.toNat:Int)
theorem num_inj{a b:List UInt8}(h:num a=num b):a=b:=by
  induction a generalizing b with
  |nil=>cases b with
   |nil=>rfl
   |cons _ _=>simp [num] at h
  |cons x a ih=>cases b with
   |nil=>simp [num] at h
   |cons y b=>
    simp only[num,xX,List.cons.injEq] at h;have:=ih h.2;subst this;have A:x=y:=UInt8.toNat_inj.1 yv;rw[A]
theorem num_strOf{xs:List Int}(h:∀x∈xs,0≤x∧x<256):num (L (strOfNums xs))=xs:=by
  rw[L,strOfNums_data,num,List.map_map]
  conv=>rhs;rw[←List.map_id xs]
  apply List.map_congr_left;intro x A;have:=h x A;simp;omega
theorem encB_range{r:Int}(h0:0≤r)(h1:r≤1114111):∀x∈vR r,0≤x∧x<256:=by
  rcases (by omega:r<128∨(128≤r∧r<2048)∨(2048≤r∧r<65536)∨65536≤r) with a|⟨a,b⟩|⟨a,b⟩|a
  ·rw[encB1 a];simp;omega
  ·rw[encB2 a b];simp;omega
  ·rw[encB3 a b];simp;omega
  ·rw[encB4 a];simp;omega
theorem zA(s:ByteArray)(i:Nat)(h:i<s.size)(k:Nat):num (((L s).drop i).take (k+1))=(B s i:Int)::num (((L s).drop (i+1)).take k):=by
  have A:i<(L s).length:=by rw[jf];exact h
  rw[List.drop_eq_getElem_cons A,List.take_succ_cons];have e:(L s)[i]=s[i]'h:=Go.Proofs.byte_at' s i h A;rw[e,B_of s i h];rfl
theorem num_extract{s:ByteArray}{i k:Nat}(h1:1≤k)(h4:k≤4)(hin:i+k≤s.size):num (L (s.extract i (i+k)))=zU s i k:=by
  rw[L,Lib.extract_data,show i+k - i=k by omega];rcases (by omega:k=1∨k=2∨k=3∨k=4) with rfl|rfl|rfl|rfl
  ·rw[zA s i yv];rfl
  ·rw[zA s i yv,zA s (i+1) yv];rfl
  ·rw[zA s i yv,zA s (i+1) yv,zA s (i+1+1) yv];rfl
  ·rw[zA s i yv,zA s (i+1) yv,zA s (i+1+1) yv,zA s (i+1+1+1) yv];rfl
theorem enc_beq{s:ByteArray}{i k:Nat}{v:Int}(h1:1≤k)(h4:k≤4)(hin:i+k≤s.size)(h0:0≤v)(hv:v≤1114111):
    ((strOfNums (vR v)).toList == (s.extract i (i+k)).toList)=decide (vR v=zU s i k):=by
  rw[str_beq,Bool.eq_iff_iff,decide_eq_true_eq,decide_eq_true_eq,←num_extract h1 h4 hin];constructor
  ·intro h;rw[←h,num_strOf (encB_range h0 hv)]
  ·intro h;apply num_inj;rw[num_strOf (encB_range h0 hv),h]
def jQ(r:Nat):Bool:=decide (32≤r) && !(r == 127)
def Kr(s:ByteArray)(p:Nat→Bool):Bool:=match jH s with
  |some l=>l.all p
  |none=>false
def K8(s:ByteArray):Bool:=decide (1≤s.size) && decide (s.size≤32) && Kr s jQ
def noteB(s:ByteArray):Bool:=decide (s.size≤256) && KE s
def pieces:List UInt8→List (List UInt8)
  | []=>[[]]
  |c::l=>if c=47 then []::pieces l else match pieces l with
   |p::ps=>(c::p)::ps
   | []=>[[c]]
def JF(p:List UInt8):Bool:= !decide (p=[]) && !decide (p=[46]) && !decide (p=[46,46])
def jZ(s:ByteArray):Bool:=decide (1≤s.size) && decide (s.size≤64) && Kr s jQ && (pieces (L s)).all JF
def uO(a b:List UInt8):Bool:=(a++[47]).isPrefixOf b
def Ki(a b:List UInt8):Bool:=decide (a=b) || uO a b || uO b a
theorem pieces_lone{l:List UInt8}(h:(47:UInt8)∉l):pieces l=[l]:=by
  induction l with
  |nil=>rfl
  |cons c l ih=>
   simp only[xK,not_or] at h;rw[pieces,if_neg (fun e=>h.1 e.symm),ih h.2]
theorem pieces_cut{a b:List UInt8}(h:(47:UInt8)∉a):pieces (a++47::b)=a::pieces b:=by
  induction a with
  |nil=>simp [pieces]
  |cons c a ih=>
   simp only[xK,not_or] at h;rw[YK,pieces,if_neg (fun e=>h.1 e.symm),ih h.2]
theorem index_slash{a b:List UInt8}(h:(47:UInt8)∉a):Lib.index (a++47::b) [47]=a.length:=by
  induction a with
  |nil=>simp [Lib.index]
  |cons c a ih=>
   simp only[xK,not_or] at h;have A:¬((47:UInt8) == c)=true:=by simpa using h.1
   rw[YK,Lib.index,ih h.2];simp only[List.isPrefixOf,A,Bool.false_and];simp
theorem Uh(l:List UInt8):(47:UInt8)∉l∨∃a b,l=a++47::b∧(47:UInt8)∉a:=by
  induction l with
  |nil=>exact .inl yZ
  |cons c l A=>
   by_cases hc:c=47
   ·exact .inr ⟨[],l,by simp [hc],by simp⟩
   ·rcases A with A|⟨a,b,rfl,B⟩
    ·exact .inl (by simp [A];exact fun e=>hc e.symm)
    ·exact .inr ⟨c::a,b,rfl,by simp [B];exact fun e=>hc e.symm⟩
theorem split_pieces:∀(n:Nat) (l:List UInt8),l.length≤n→Lib.splitK [47] 0 (l.count 47) l=pieces l:=by
  intro n
  induction n with
  |zero=>
   intro l B;have:l=[]:=List.length_eq_zero_iff.1 yv;subst this;rfl
  |succ n ih=>
   intro l B;rcases Uh l with h|⟨a,b,rfl,A⟩
   ·rw[pieces_lone h,List.count_eq_zero.2 h];rfl
   ·rw[pieces_cut A,List.count_append,List.count_eq_zero.2 A,List.count_cons_self,Nat.zero_add,Lib.splitK,index_slash A];have C:(a++47::b).length=a.length+b.length+1:=by simp;omega
    have D:((a.length:Int)).toNat=a.length:=yv;rw[if_neg yZ,D,Nat.add_zero,List.take_left,show ([47]:List UInt8).length=1 from rfl];have E:(a++47::b).drop (a.length+1)=b:=by rw[List.drop_append];simp
    rw[E,ih b yv]
def KN:ByteArray:=⟨#[47]⟩
theorem qv(s:ByteArray):(Lib.splitB KN 0 (Lib.countB s KN) s).map L=pieces (L s):=by
  have h:=Lib.splitB_data KN 0 (Lib.countB s KN) s;have A:Lib.countB s KN=(L s).count 47:=Lib.count_one 47 (L s);have e:(Lib.splitB KN 0 (Lib.countB s KN) s).map L=(Lib.splitB KN 0 (Lib.countB s KN) s).map (·.data.toList):=rfl;rw[e,h,A];exact split_pieces _ (L s) (xY _)
theorem plainB_text{s:ByteArray}{p:Nat→Bool}(h:KE s=false):Kr s p=false:=by
  unfold Kr;unfold KE at h;cases hr:jH s
  ·rfl
  ·rw[hr] at h;cases h
theorem drop_split{s:ByteArray}{f k:Nat}(hfk:f≤k):(L s).drop f=L (s.extract f k)++(L s).drop k:=by
  rw[show L (s.extract f k)=((L s).drop f).take (k - f) from Lib.extract_data s f k];have:((L s).drop f).drop (k - f)=(L s).drop k:=by rw[List.drop_drop];congr 1;omega
  rw[←this,List.take_append_drop]
theorem no_slash{s:ByteArray}{f k:Nat}(hk:k≤s.size)(h:∀j,f≤j→j<k→B s j≠47):(47:UInt8)∉L (s.extract f k):=by
  intro D;obtain⟨j,A⟩:=List.getElem?_of_mem D;rw[L,Lib.extract_data,List.getElem?_take] at A
  split at A
  ·rename_i E;rw[List.getElem?_drop] at A;have C:=B_L s (f+j) yv;rw[L] at C;rw[C] at A;have:=B_of s (f+j) yv;have e:s[f+j]'(by omega)=47:=Option.some.inj A;rw[e] at this;exact h (f+j) yv yv this
  ·cases A
theorem drop_cons{s:ByteArray}{k:Nat}(hk:k<s.size)(h:B s k=47):(L s).drop k=47::(L s).drop (k+1):=by
  have A:k<(L s).length:=by rw[jf];exact hk
  rw[List.drop_eq_getElem_cons A];have e:(L s)[k]=s[k]'hk:=Go.Proofs.byte_at' s k hk A;have:=B_of s k hk;rw[e,show s[k]'hk=47 from UInt8.toNat_inj.1 (by rw[←this,h];rfl)]
theorem pieces_at{s:ByteArray}{f k:Nat}(hfk:f≤k)(hk:k<s.size)(h47:B s k=47)(h:∀j,f≤j→j<k→B s j≠47):
    pieces ((L s).drop f)=L (s.extract f k)::pieces ((L s).drop (k+1)):=by
  rw[drop_split hfk,drop_cons hk h47,pieces_cut (no_slash yv h)]
theorem pieces_end{s:ByteArray}{f:Nat}(hf:f≤s.size)(h:∀j,f≤j→j<s.size→B s j≠47):pieces ((L s).drop f)=[L (s.extract f s.size)]:=by
  rw[drop_split hf,List.drop_eq_nil_of_le (by rw[jf];exact xY _),List.append_nil,pieces_lone (no_slash (xY _) h)]
def valOf(l:List UInt8):Nat:=l.foldl (fun a c=>10*a+(c.toNat - 48)) 0
theorem valOf_snoc(l:List UInt8)(c:UInt8):valOf (l++[c])=10*valOf l+(c.toNat - 48):=by simp [valOf]
theorem vV{d:Nat}(h:d<10):(UInt8.ofNat (48+d)).toNat=48+d:=by
  simp;omega
theorem Ui{u:Nat}(h:¬u<10):Lib.decDigits u=Lib.decDigits (u / 10)++[UInt8.ofNat (48+u % 10)]:=by
  rw[Lib.decDigits,dif_neg h]
theorem Qj:∀(n u:Nat),u≤n→valOf (Lib.decDigits u)=u:=by
  intro n
  induction n with
  |zero=>intro u A;rw[show u=0 by omega,Lib.decDigits_one yv];decide
  |succ n ih=>
   intro u A;by_cases h:u<10
   ·rw[Lib.decDigits_one h];have:=valOf_snoc [] (UInt8.ofNat (48+u));rw[YZ] at this;rw[this,vV h];simp [valOf]
   ·rw[Ui h,valOf_snoc,ih (u / 10) yv,vV yv];omega
theorem decDigits_inj{a b:Nat}(h:Lib.decDigits a=Lib.decDigits b):a=b:=by
  have A:=Qj a a (xY _);have B:=Qj b b (xY _);rw[h] at A;omega
theorem decDigits_mem:∀(n u:Nat),u≤n→∀c∈Lib.decDigits u,48≤c.toNat∧c.toNat≤57:=by
  intro n
  induction n with
  |zero=>intro u B;rw[show u=0 by omega,Lib.decDigits_one yv];decide
  |succ n ih=>
   intro u B c A;by_cases h:u<10
   ·rw[Lib.decDigits_one h] at A;simp only[xZ] at A;subst A;rw[vV h];omega
   ·rw[Ui h] at A;rcases xJ.1 A with A|A
    ·exact ih (u / 10) yv c A
    ·simp only[xZ] at A;subst A;rw[vV yv];omega
def z7(l:List UInt8):List UInt8:=l.takeWhile (· != 47)
def restc(l:List UInt8):List UInt8:=l.dropWhile (· != 47)
theorem KF(l:List UInt8):z7 l++restc l=l:=List.takeWhile_append_dropWhile
theorem firstc_no(l:List UInt8):(47:UInt8)∉z7 l:=by
  induction l with
  |nil=>simp [z7]
  |cons c l ih=>
   unfold z7 at ih ⊢;rw[List.takeWhile_cons]
   split
   ·rename_i A;simp only[xK,not_or];exact⟨fun e=>by rw[←e] at A;simp at A,ih⟩
   ·simp
theorem vA{a:List UInt8}(ha:(47:UInt8)∉a)(b:List UInt8):z7 (a++47::b)=a:=by
  unfold z7;rw[List.takeWhile_append_of_pos]
  ·simp
  ·intro x A;simp only[bne_iff_ne];intro e;exact ha (e▸A)
theorem ZS{a:List UInt8}(ha:(47:UInt8)∉a):z7 a=a:=by
  have:=List.takeWhile_append_of_pos (p:=(· != (47:UInt8))) (l₁:=a) (l₂:=[]) (by
    intro x A;simp only[bne_iff_ne];intro e;exact ha (e▸A))
  simpa [z7] using this
theorem restc_form(l:List UInt8):restc l=[]∨∃b,restc l=47::b:=by
  rcases Uh l with h|⟨a,b,rfl,A⟩
  ·left
   have:=KF l;rw[ZS h] at this;have:=congrArg List.length this;simp at this;exact this
  ·right
   have:=KF (a++47::b);rw[vA A] at this;exact⟨b,List.append_cancel_left this⟩
theorem under_first{a b:List UInt8}(h:uO a b=true):z7 a=z7 b:=by
  unfold uO at h;rw[List.isPrefixOf_iff_prefix] at h;obtain⟨t,rfl⟩:=h;rw[Yz];rcases Uh a with A|⟨x,y,rfl,B⟩
  ·rw[ZS A];exact(vA A _).symm
  ·rw[vA B,Yz];exact(vA B _).symm
theorem clash_first{a b:List UInt8}(h:Ki a b=true):z7 a=z7 b:=by
  unfold Ki at h;simp only[Bool.or_eq_true,decide_eq_true_eq] at h;rcases h with (h|h)|h
  ·rw[h]
  ·exact under_first h
  ·exact(under_first h).symm
def Z4(l:List UInt8)(n:Nat):List UInt8:=z7 l++[126]++Lib.decDigits n++restc l
theorem cand_first(l:List UInt8)(n:Nat):z7 (Z4 l n)=z7 l++[126]++Lib.decDigits n:=by
  have A:(47:UInt8)∉z7 l++[126]++Lib.decDigits n:=by
    intro h;rcases xJ.1 h with h|h
    ·rcases xJ.1 h with h|h
     ·exact firstc_no l h
     ·simp at h
    ·have:=decDigits_mem n n (xY _) _ h;simp at this
  unfold Z4;rcases restc_form l with h|⟨b,h⟩
  ·rw[h,List.append_nil,ZS A]
  ·rw[h,vA A]
theorem cand_inj{l:List UInt8}{a b:Nat}(h:z7 (Z4 l a)=z7 (Z4 l b)):a=b:=by
  rw[cand_first,cand_first] at h;exact decDigits_inj (List.append_cancel_left h)
def zu(t:List UInt8)(taken:List (List UInt8)):Bool:=taken.any (Ki t)
theorem pigeon{α:Type}[DecidableEq α](f:Nat→α)(hf:∀a b,f a=f b→a=b):∀(T:List α) (J:List Nat),J.Nodup→(∀j∈J,f j∈T)→J.length≤T.length:=by
  intro T
  induction T with
  |nil=>
   intro J _ h;cases J with
   |nil=>simp
   |cons j J=>exact absurd (h j yZ) yZ
  |cons t T ih=>
   intro J B h;by_cases he:∃j∈J,f j=t
   ·obtain⟨C,D,E⟩:=he;have F:=ih (J.erase C) (B.erase C) (by
       intro j A;have G:=(List.Nodup.mem_erase_iff B).1 A;rcases xK.1 (h j G.2) with e|e
       ·exact absurd (hf _ _ (e.trans E.symm)) G.1
       ·exact e)
    rw[List.length_erase_of_mem D] at F;simp only[Yx];omega
   ·have F:=ih J B (by
       intro j A;rcases xK.1 (h j A) with e|e
       ·exact absurd ⟨j,A,e⟩ he
       ·exact e)
    simp only[Yx];omega
theorem cand_few{l:List UInt8}{taken:List (List UInt8)}{m:Nat}(h:∀j,1≤j→j≤m→zu (Z4 l j) taken=true):m≤taken.length:=by
  have:=pigeon (fun j=>z7 (Z4 l (j+1))) (fun a b e=>by have:=cand_inj e;omega) (taken.map z7) (List.range m) List.nodup_range (by
    intro j C;have E:j<m:=by simpa using C
    have A:=h (j+1) yv yv;unfold zu at A;rw[List.any_eq_true] at A;obtain⟨o,D,B⟩:=A;rw[show z7 (Z4 l (j+1))=z7 o from clash_first B];exact List.mem_map_of_mem D)
  simpa using this
def JT(l:List UInt8)(taken:List (List UInt8)):Nat→Nat→List UInt8→List UInt8
  | 0,_,t=>t
  |f+1,n,t=>if zu t taken then JT l taken f (n+1) (Z4 l n) else t
def JG(l:List UInt8)(taken:List (List UInt8)):List UInt8:=JT l taken (taken.length+2) 1 l
theorem freshGo_clear{l:List UInt8}{taken:List (List UInt8)}:∀(f n:Nat),n+f=taken.length+3→2≤n→(∀j,1≤j→j+1<n→zu (Z4 l j) taken=true)→
    zu (JT l taken f n (Z4 l (n - 1))) taken=false:=by
  intro f
  induction f with
  |zero=>
   intro n D E B;cases A:zu (Z4 l (n - 1)) taken
   ·simpa [JT] using A
   ·have:=cand_few (l:=l) (taken:=taken) (m:=n - 1) (by
       intro j C F;rcases (by omega:j+1<n∨j=n - 1) with a|a
       ·exact B j C a
       ·rw[a];exact A)
    omega
  |succ f ih=>
   intro n D E B;unfold JT
   split
   ·rename_i A;have:=ih (n+1) yv yv (by
       intro j C F;rcases (by omega:j+1<n∨j=n - 1) with a|a
       ·exact B j C a
       ·rw[a];exact A)
    rwa [Nat.add_sub_cancel] at this
   ·rename_i A
    simpa using A
theorem fresh_clear(l:List UInt8)(taken:List (List UInt8)):zu (JG l taken) taken=false:=by
  unfold JG;rw[JT]
  split
  ·have:=freshGo_clear (l:=l) (taken:=taken) (taken.length+1) 2 yv yv (by intro j A B;omega)
   simpa using this
  ·rename_i h
   simpa using h
abbrev kN:=kE×kE×Nat×ByteArray
def vW(k:Nat)(p:ByteArray):Bool:=if k=3∨k=4 then jZ p else if k=5 then decide (p.size=0) else false
def qJ(l:List kN):Prop:=(∀c∈l,vW c.2.2.1 c.2.2.2=true)∧(l.map (·.1)).Nodup
instance (l:List kN):Decidable (qJ l):=by unfold qJ;infer_instance
def qK(l:List kN):Bool:=decide (qJ l)
def later(d:kE)(a:Option kN)(c:kN):Option kN:=
  if c.2.1=d then (match a with|none=>some c|some w=>if 0<Kh c.1 w.1 then some c else some w) else a
def Kn(l:List kN)(d:kE):Option kN:=l.foldl (later d) none
theorem Uj(l:List kN)(c:kN)(d:kE):Kn (l++[c]) d=later d (Kn l d) c:=by simp [Kn]
theorem lastOf_ne{d:kE}{x:kN}{l:List kN}(h1:x∈l)(h2:x.2.1=d):Kn l d≠none:=by
  suffices h:∀(l:List kN) (a:Option kN),(a≠none∨(x∈l∧x.2.1=d))→l.foldl (later d) a≠none from h l none (.inr ⟨h1,h2⟩)
  intro l
  induction l with
  |nil=>exact fun a h=>h.elim id (fun h=>absurd h.1 yZ)
  |cons y l ih=>
   intro a h;rw[List.foldl_cons];apply ih;rcases h with h|⟨h,A⟩
   ·left
    unfold later
    split
    ·split
     ·simp
     ·split<;>simp
    ·exact h
   ·rcases xK.1 h with rfl|h
    ·left
     unfold later;rw[if_pos A]
     split
     ·simp
     ·split<;>simp
    ·exact .inr ⟨h,A⟩
theorem ur{l:List kN}{d:kE}{c:kN}(h0:Kn l d=some c):c∈l∧c.2.1=d∧∀x∈l,x.2.1=d→Kh x.1 c.1≤0:=by
  suffices h:∀(n:Nat) (l:List kN),l.length≤n→∀c,Kn l d=some c→c∈l∧c.2.1=d∧∀x∈l,x.2.1=d→Kh x.1 c.1≤0 from h _ l (xY _) c h0
  intro n
  induction n with
  |zero=>
   intro l J c h;rw[List.length_eq_zero_iff.1 (by omega:l.length=0)] at h;cases h
  |succ n ih=>
   intro l J c h;rcases List.eq_nil_or_concat l with e|⟨C,y,e⟩
   ·rw[e] at h;cases h
   ·rw[List.concat_eq_append] at e;subst e;have F:C.length≤n:=by simp at J;omega
    rw[Uj] at h;unfold later at h
    split at h
    ·rename_i D
     split at h
     ·rename_i K;cases h
      refine⟨by simp,D,fun x A B=>?_⟩;rcases xJ.1 A with A|A
      ·have:Kn C d≠none:=lastOf_ne A B;exact absurd K this
      ·simp at A;subst A;rw[Js];exact Int.le_refl _
     ·rename_i w L;obtain⟨G,H,E⟩:=ih C F w L
      split at h
      ·rename_i I;cases h
       refine⟨by simp,D,fun x A B=>?_⟩;rcases xJ.1 A with A|A
       ·have M:=E x A B;rcases Zy x.1 w.1 with e|e|e
        ·have:=JU e (Qg.1 I);omega
        ·rw[e];have:=Qg.1 I;omega
        ·have:=Qg.2 e;omega
       ·simp at A;subst A;rw[Js];exact Int.le_refl _
      ·rename_i I;cases h
       refine⟨by simp [G],H,fun x A B=>?_⟩;rcases xJ.1 A with A|A
       ·exact E x A B
       ·simp at A;subst A;omega
    ·rename_i D;obtain⟨G,H,E⟩:=ih C F c h;refine⟨by simp [G],H,fun x A B=>?_⟩;rcases xJ.1 A with A|A
     ·exact E x A B
     ·simp at A;subst A;exact absurd B D
theorem lastOf_some{l:List kN}{d:kE}{x:kN}(h:x∈l)(hd:x.2.1=d):∃c,Kn l d=some c:=by
  rcases e:Kn l d with _ |c
  ·exact absurd e (lastOf_ne h hd)
  ·exact⟨c,rfl⟩
def Uk(l:List kN):List kE:=qu (l.map (·.2.1))
def zV(f:kE→Option kN):List kE→List (List UInt8)→List (kE×List UInt8)
  | [],_=>[]
  |d::r,taken=>match f d with
   |some c=>if c.2.2.1=5 then zV f r taken else (d,JG (L c.2.2.2) taken)::zV f r (taken++[JG (L c.2.2.2) taken])
   |none=>zV f r taken
def Kj(l:List kN):List (kE×List UInt8):=if qK l then zV (Kn l) (Uk l) [] else []
def zO(l:List kN)(p:List UInt8):Option kE:=((Kj l).find? fun n=>n.2 == p).map (·.1)
theorem qM{l:List kN}:qK l=true↔qJ l:=by simp [qK]
theorem vl(f:kE→Option kN):∀(ds:List kE) (taken:List (List UInt8)),(zV f ds taken).map (·.1)=ds.filter fun d=>match f d with|some c=> !decide (c.2.2.1=5)|none=>false
  | [],_=>rfl
  |d::r,taken=>by
   unfold zV;rw[List.filter_cons];rcases hf:f d with _ |c
   ·simp [vl f r taken]
   ·by_cases hk:c.2.2.1=5
    ·simp [hk,vl f r taken]
    ·simp [hk,vl f r _]
theorem ZJ(f:kE→Option kN):∀(ds:List kE) (taken:List (List UInt8)),((zV f ds taken).map (·.2)).Pairwise (fun a b=>Ki b a=false)∧∀p∈(zV f ds taken).map (·.2),zu p taken=false
  | [],_=>⟨List.Pairwise.nil,fun p A=>by cases A⟩
  |d::r,taken=>by
   unfold zV;rcases hf:f d with _ |c
   ·exact ZJ f r taken
   ·by_cases hk:c.2.2.1=5
    ·simp only[hk,if_true];exact ZJ f r taken
    ·simp only[hk,if_false];obtain⟨h1,h2⟩:=ZJ f r (taken++[JG (L c.2.2.2) taken]);have B:∀p,zu p (taken++[JG (L c.2.2.2) taken])=false→zu p taken=false∧Ki p (JG (L c.2.2.2) taken)=false:=by
        intro p h
        simpa [zu] using h
     refine⟨?_,?_⟩
     ·rw[xX,List.pairwise_cons];exact⟨fun p A=>(B p (h2 p A)).2,h1⟩
     ·intro p A;rw[xX] at A;rcases xK.1 A with rfl|A
      ·exact fresh_clear _ _
      ·exact(B p (h2 p A)).1
theorem clashB_self(a:List UInt8):Ki a a=true:=by simp [Ki]
theorem Qk(l:List kN):((Kj l).map (·.2)).Pairwise (fun a b=>Ki b a=false):=by
  unfold Kj
  split
  ·exact(ZJ _ _ _).1
  ·exact List.Pairwise.nil
theorem findS_is(l:List kN){i:Nat}(hi:i<(Kj l).length):zO l (Kj l)[i].2=some (Kj l)[i].1:=by
  have A:=Qk l;unfold zO;have:((Kj l).find? fun n=>n.2 == (Kj l)[i].2)=some (Kj l)[i]:=by
    rw[List.find?_eq_some_iff_getElem];refine⟨by simp,i,hi,rfl,fun j B=>?_⟩;rw[List.pairwise_iff_getElem] at A;have:=A j i yX (by simpa using hi) B;simp only[List.getElem_map] at this;simp only[Bool.not_eq_true',beq_eq_false_iff_ne,ne_eq];intro e;rw[e,clashB_self] at this;cases this
  rw[this];rfl
def jA(n:Nat):List UInt8:=if h:n<128 then [UInt8.ofNat n] else UInt8.ofNat (n % 128+128)::jA (n / 128)
  termination_by n
  decreasing_by omega
theorem qN{n:Nat}(h:n<128):jA n=[UInt8.ofNat n]:=by rw[jA,dif_pos h]
theorem numB_big{n:Nat}(h:¬n<128):jA n=UInt8.ofNat (n % 128+128)::jA (n / 128):=by rw[jA,dif_neg h]
def getGo(i:Nat):List UInt8→Option (Nat×Nat)
  | []=>none
  |c::r=>if 128≤c.toNat then (if 8≤i then none else match getGo (i+1) r with|some (n,k)=>some (c.toNat - 128+128*n,k+1)|none=>none)
   else if c.toNat=0∧0<i then none else some (c.toNat,1)
def getS(l:List UInt8):Option (Nat×Nat):=getGo 0 l
theorem u8_of{n:Nat}(h:n<256):(UInt8.ofNat n).toNat=n:=by simp;omega
theorem numB_ne(n:Nat):jA n≠[]:=by
  unfold jA
  split<;>simp
theorem Ql(n:Nat):1≤(jA n).length:=by
  have:=List.length_pos_iff.2 (numB_ne n);exact this
theorem numB_len:∀(k n:Nat),1≤k→n<128 ^ k→(jA n).length≤k
  | 0,_,h,_=>by omega
  |k+1,n,_,h=>by
   by_cases hn:n<128
   ·rw[qN hn];simp
   ·rw[numB_big hn];rcases Nat.eq_zero_or_pos k with e|e
    ·subst e;simp at h;omega
    ·have:=numB_len k (n / 128) e (by rw[Nat.pow_succ] at h;omega);simp;omega
def jN(l:List UInt8):List UInt8:=jA l.length++l
def getTextS(l:List UInt8)(most:Nat):Option (List UInt8×Nat):=
  match getS l with
  |some (n,k)=>if most<n then none else if l.length - k<n then none else some ((l.drop k).take n,k+n)
  |none=>none
section
open Go.RowKit
def Sl(w:World)(B:Nat)(A:Option Addr)(n sz:Nat)(xs:List Value):Prop:=
  xs.length=n*sz∧(0<n→∃b off,A=some ⟨b,off,none⟩∧b<B∧∀j u,xs[j]?=some u→w.cell? ⟨b,off+j,none⟩=some u)
section
variable {w w':World} {B B' n sz:Nat} {A:Option Addr} {xs:List Value}
theorem Sl.nil:Sl w B A 0 sz []:=⟨by simp,fun h=>absurd h yv⟩
theorem Sl.keep(h:Sl w B A n sz xs)(hb:Below B w w'):Sl w' B A n sz xs:=by
  refine⟨h.1,fun E=>?_⟩;obtain⟨b,C,e,D,F⟩:=h.2 E;exact⟨b,C,e,D,fun j u G=>(hb.cell (p:=⟨b,C+j,none⟩) D).trans (F j u G)⟩
theorem Sl.more(h:Sl w B A n sz xs)(hB:B≤B'):Sl w B' A n sz xs:=by
  refine⟨h.1,fun D=>?_⟩;obtain⟨b,C,e,F,E⟩:=h.2 D;exact⟨b,C,e,by omega,E⟩
theorem Sl.of_own{base:Nat}{e:TypeId}{c:Nat}(h:w.ownsRow base e sz (.slice A n c) n xs):Sl w w.heap.size A n sz xs:=by
  refine⟨h.1,fun J=>?_⟩;rcases h.2 with⟨_,K⟩|⟨g,E,F,C,G,L,H,M,I,N⟩
  ·omega
  ·injection C with hA;subst hA;have B:=(h.lt g (by simp [Value.ownBlock])).2;refine⟨g,0,rfl,B,fun j u D=>?_⟩;have:=h.cells (g:=g) (by simp [Value.ownBlock]) j u D;have e:(⟨g,0,none⟩:Addr).add j=⟨g,0+j,none⟩:=by unfold Addr.add;split<;>simp_all
   rw[←e];exact this
theorem Sl.lt(h:Sl w B A n sz xs)(hn:0<n)(hs:0<sz):∃b C,A=some ⟨b,C,none⟩∧b<w.heap.size∧b<B:=by
  obtain⟨b,C,e,D,E⟩:=h.2 hn;have F:0<xs.length:=by rw[h.1];exact Nat.mul_pos hn hs
  have:=E 0 _ (yK F);refine⟨b,C,e,?_,D⟩;rcases Nat.lt_or_ge b w.heap.size with a|a
  ·exact a
  ·unfold World.cell? at this;rw[Array.getElem?_eq_none a] at this;cases this
end
theorem Jt{P:Program}{ops:Array Oper}{rest:List Oper}{o:Oper}{a:Act}{Q:Exit→Act→World→Prop}{w:World}(hgd:o.guard=none)(s x:Operand)(t:TypeId)
    (ho:o.op=.call { callee:=.builtin .append,args:=#[s,x],argTypes:=#[t,t]})
    (base:Nat) (e:TypeId) (z:Value) (bytes:Nat) (ht:P.underlying t=some (.slice e)) (hinf:(P.info? e).map (fun i=>(i.zero,i.size,i.bytes))=some (some z,1,bytes))
    (hz1:z.cells.size=1) (v:Value) (n:Nat) (xs:List Value) (hs:a.eval s=v) (hown:w.ownsRow base e 1 v n xs)
    (u:Value) (et:TypeId) (hx:a.eval x=.slice (some ⟨w.heap.size,0,none⟩) 1 1) (hu:u.oneCell'=true)
    (hn:n+1≤maxLen) (hb:(n+1)*bytes≤140737488355328) (hbase:base≤w.heap.size)
    (h:∀A w',w'.ownsRow base e 1 A (n+1) (xs++[u])→(∀B a,B≤base→Below B a w→Below B a w')→wpList P ops Q rest (a.put o.dst A) w'):
    wpList P ops Q (o::rest) a (w.alloc (.cells #[u] et)):=by
  obtain⟨K,L,G,H,I⟩:=info_parts hinf;refine wpList_append_own _ hgd s x t ho base e K z 1 bytes ht L G H I hz1 yj v n xs hs (hown.alloc _) ⟨w.heap.size,0,none⟩ 1 1 [u] hx rfl ?_ ?_ hn hb yX ?_
  ·intro j M C
   match j,C with
   | 0,C=>simp at C;subst C;simp [Addr.add]
  ·intro M F;simp at F;subst F;exact hu
  ·intro A w' D E _;refine h A w' D fun B a O J=>?_
   refine(J.alloc yv _).grown E yX fun k N=>?_
   have:=(hown.lt k N).1;omega
theorem wp_appN{P:Program}{ops:Array Oper}{rest:List Oper}{o:Oper}{a:Act}{Q:Exit→Act→World→Prop}{w:World}(hgd:o.guard=none)(s x:Operand)(t:TypeId)
    (ho:o.op=.call { callee:=.builtin .append,args:=#[s,x],argTypes:=#[t,t]})
    (base:Nat) (e:TypeId) (z:Value) (size bytes:Nat) (ht:P.underlying t=some (.slice e)) (hinf:(P.info? e).map (fun i=>(i.zero,i.size,i.bytes))=some (some z,size,bytes))
    (hz1:z.cells.size=size) (hsz:0<size) (v:Value) (n:Nat) (xs:List Value) (hs:a.eval s=v) (hown:w.ownsRow base e size v n xs)
    (us:List Value) (et:TypeId) (hl:us.length=size) (hx:a.eval x=.slice (some ⟨w.heap.size,0,none⟩) 1 1) (hu:∀u∈us,u.oneCell'=true)
    (hn:n+1≤maxLen) (hb:(n+1)*bytes≤140737488355328) (hbase:base≤w.heap.size)
    (h:∀A w',w'.ownsRow base e size A (n+1) (xs++us)→(∀B a,B≤base→Below B a w→Below B a w')→wpList P ops Q rest (a.put o.dst A) w'):
    wpList P ops Q (o::rest) a (w.alloc (.cells us.toArray et)):=by
  obtain⟨I,J,E,F,G⟩:=info_parts hinf;refine wpList_append_own _ hgd s x t ho base e I z size bytes ht J E F G hz1 hsz v n xs hs (hown.alloc _) ⟨w.heap.size,0,none⟩ 1 1 us hx (by simp [hl]) ?_ hu hn hb yX ?_
  ·intro j M K;have e:(⟨w.heap.size,0,none⟩:Addr).add j=⟨w.heap.size,j,none⟩:=by unfold Addr.add;split<;>simp_all
   rw[e,World.cell?_alloc_new]
   simpa using K
  ·intro A w' C D _;refine h A w' C fun B a N H=>?_
   refine(H.alloc yv _).grown D yX fun k L=>?_
   have:=(hown.lt k L).1;omega
theorem below_setRow'{B g:Nat}{w0 w:World}(hb:Below B w0 w)(hBg:B≤g)(cs:Array Value):Below B w0 (w.setRow g cs):=
  hb.trans ⟨rfl,rfl,rfl,by simp,fun k A=>setRow_other w g k cs yv⟩
theorem Ks{P:Program}{ops:Array Oper}{rest:List Oper}{o:Oper}{a:Act}{w:World}{Q:Exit→Act→World→Prop}(hgd:o.guard=none)(ty:TypeId)(x y:Operand)(ho:o.op=.store ty x y)
    (g:Nat) (cells:Array Value) (hx:a.eval x=.pointer (some ⟨g,0,none⟩)) (hy:a.eval y=.agg cells)
    (t:TypeId) (old:Array Value) (hg:w.heap[g]?=some (.cells old t (0,0))) (hi:(P.info? ty).map (·.size)=some cells.size)
    (hold:old.size=cells.size) (h1:cells.all (·.oneCell')=true) {B:Nat} {w0:World} (hb:Below B w0 w) (hB:B≤g)
    (h:∀W:World,Below B w0 W→W.heap[g]?=some (.cells cells t (0,0))→(∀k,k≠g→W.heap[k]?=w.heap[k]?)→wpList P ops Q rest (a.put o.dst undef) W):wpList P ops Q (o::rest) a w:=
  wpList_store_row hgd ty x y ho g cells hx hy t old hg hi hold h1 (h _ (below_setRow' hb hB _) (setRow_heap _ _ _ _ _ _ hg) (fun k A=>setRow_other _ _ _ _ A))
theorem Kt{P:Program}{fn:Func}{p u:Tmp}{ty:TypeId}(h:fn.results=#[.cell p ty,.tmp u])(tmps:Array Value)(w:World){a:Addr}{v x:Value}
    (hp:tmps.getD p undef=.pointer (some a)) (hu:tmps.getD u undef=x) (hl:(loadVar ty a).run P w=.ok v w):(results fn tmps).run P w=.ok (.tuple #[v,x]) w:=by
  rw[results_cell_tmp h,hp,hu];show ((Sem.pure a).run P w).andThen _=_;simp [Sem.run,Result.andThen,hl]
def idV(l:List UInt8):List Value:=l.map fun b=>Value.int .u8 (b.toNat:Int)
def kc(k:kE):List Value:=.int .i64 k.1::(idV k.2.1++[.int .i64 k.2.2])
def jr(l:List UInt8):Prop:=l.length=32
def kJ(k:kE):Prop:=(Lit.int .i64 k.1).wf=true∧jr k.2.1∧(Lit.int .i64 k.2.2).wf=true
theorem kn(l:List UInt8):(idV l).length=l.length:=by simp [idV]
theorem ke{k:kE}(h:kJ k):(kc k).length=34:=by
  have:=h.2.1;unfold jr at this;simp [kc,idV,this]
theorem kW(l:List UInt8):∀u∈idV l,u.oneCell'=true:=by
  intro u A;obtain⟨b,_,rfl⟩:=List.mem_map.1 A;rfl
theorem j8(k:kE):∀u∈kc k,u.oneCell'=true:=by
  intro u A;unfold kc at A;rcases xK.1 A with rfl|A
  ·rfl
  ·rcases xJ.1 A with A|A
   ·exact kW _ u A
   ·simp at A;subst A;rfl
theorem idV_inj{a b:List UInt8}(h:idV a=idV b):a=b:=by
  induction a generalizing b with
  |nil=>cases b with
   |nil=>rfl
   |cons _ _=>simp [idV] at h
  |cons x a ih=>cases b with
   |nil=>simp [idV] at h
   |cons y b=>
    simp only[idV,xX,List.cons.injEq,Value.int.injEq,true_and] at h;rw[ih h.2,UInt8.toNat_inj.1 (by omega:x.toNat=y.toNat)]
theorem keyV_inj{a b:kE}(h:kc a=kc b):a=b:=by
  unfold kc at h;simp only[List.cons.injEq,Value.int.injEq,true_and] at h;obtain⟨C,A⟩:=h;have D:=congrArg List.length A;simp only[yV,xQ] at D;obtain⟨E,B⟩:=List.append_inj A yv;simp only[List.cons.injEq,Value.int.injEq,true_and,and_true] at B;exact Prod.ext C (Prod.ext (idV_inj E) B)
section
variable {H:Type} {enc:TypeId×Value→H} {P:Program} {w:World} {base:Nat} {spare:Nat→Bool} {held:Bool} {fuel:Nat} {cs:List Value} {x:DataW H×List MemPlace}
theorem trod_id{t u:TypeId}(ht:P.underlying t=some (.array 32 u))(hu:P.underlying u=some (.int .u8))(hc:P.cellsOf u=1)(hct:P.cellsOf t=32)
    (h:DataW.trod enc P w base spare held fuel t cs=some x):∃l:List UInt8,jr l∧cs=idV l:=by
  obtain⟨H,m,_,_,B,J,C⟩:=DataW.trod_array ht h;rw[hct] at B;have D:∀i,i<32→∃b:UInt8,cs[i]?=some (.int .u8 (b.toNat:Int)):=by
    intro i A;have E:=C i A;rw[hc,yK (by omega:i<H.length)] at E;obtain⟨n,F,_,G⟩:=DataW.trod_int hu E;have K:0≤n∧n≤255:=by
      simp only[Lit.wf,IntKind.min,IntKind.max,IntKind.signed,IntKind.bits,xy] at G;simp at G;omega
    rw[Nat.mul_one,List.drop_eq_getElem_cons yv,List.take_succ_cons] at F;have I:cs[i]'(by omega)=.int .u8 n:=(List.cons.inj F).1;refine⟨UInt8.ofNat n.toNat,?_⟩;rw[yK yv,I]
    congr 2
    simp;omega
  obtain⟨f,C⟩:=Go.Deep.choose_lt D;refine⟨(List.range 32).map f,by simp [jr],?_⟩;apply List.ext_getElem?;intro i;by_cases A:i<32
  ·rw[C i A];simp [idV,A]
  ·rw[List.getElem?_eq_none yv,List.getElem?_eq_none (by simp [idV];omega)]
end
theorem run_loadN{P:Program}(w:World)(b off:Nat)(ty:TypeId)(cs:List Value)(d:TypeDesc)(hc:∀j u,cs[j]?=some u→w.cell? ⟨b,off+j,none⟩=some u)
    (hu:P.underlying ty=some d) (hd:(match d with| .struct _ | .array _ _=>true| _=>false)=true) (hi:(P.info? ty).map (·.size)=some cs.length):
    (loadVar ty ⟨b,off,none⟩).run P w=.ok (.agg cs.toArray) w:=by
  have C:(loadCells ⟨b,off,none⟩ cs.length).run P w=.ok cs.toArray w:=
    run_loadCells_list (P:=P) w ⟨b,off,none⟩ cs (fun j v D=>by
      have A:(⟨b,off,none⟩:Addr).add j=⟨b,off+j,none⟩:=by unfold Addr.add;split<;>simp_all
      rw[A];exact hc j v D)
  cases hq:P.info? ty with
  |none=>simp [hq] at hi
  |some i=>
   have E:i.size=cs.length:=by simpa [hq] using hi
   have B:(isAgg ty).run P w=.ok true w:=by
      unfold isAgg;rw[Sem.run_bind,run_underlying hu w];cases d<;>simp_all
   simp [loadVar,Sem.run_bind,B,sizeOf,typeInfo,hq,E,C]
theorem kZ{P:Program}{ops:Array Oper}{rest:List Oper}{o:Oper}{a:Act}{w:World}{Q:Exit→Act→World→Prop}(hgd:o.guard=none)(ty:TypeId)(x:Operand)(ho:o.op=.load ty x)
    (b off:Nat) (hx:a.eval x=.pointer (some ⟨b,off,none⟩)) (cs:List Value) (d:TypeDesc) (hc:∀j u,cs[j]?=some u→w.cell? ⟨b,off+j,none⟩=some u)
    (hu:P.underlying ty=some d) (hd:(match d with| .struct _ | .array _ _=>true| _=>false)=true) (hi:(P.info? ty).map (·.size)=some cs.length)
    (h:wpList P ops Q rest (a.put o.dst (.agg cs.toArray)) w):wpList P ops Q (o::rest) a w:=
  wpList_plain hgd fun K A=>by
    have:=A _ _ h;unfold Oper.wp execOp;simp only[ho,hx,Instr.loadAt,Instr.sureAddr,Sem.run_bind,Sem.run_pure,Result.andThen_ok,run_loadN w b off ty cs d hc hu hd hi];exact this
def zB(l:List (List UInt8)):List Value:=l.flatMap idV
def IdsOk(l:List (List UInt8)):Prop:=∀i∈l,jr i
theorem IdsOk.tail{a:List UInt8}{l:List (List UInt8)}(h:IdsOk (a::l)):IdsOk l:=fun i A=>h i (by simp [A])
theorem IdsOk.sub{a b:List (List UInt8)}(h:IdsOk b)(hs:∀i∈a,i∈b):IdsOk a:=fun i A=>h i (hs i A)
theorem IdsOk.app{a b:List (List UInt8)}(ha:IdsOk a)(hb:IdsOk b):IdsOk (a++b):=fun i A=>(xJ.1 A).elim (ha i) (hb i)
theorem idsV_one(l:List (List UInt8)):∀u∈zB l,u.oneCell'=true:=by
  intro u A;obtain⟨a,_,B⟩:=List.mem_flatMap.1 A;exact kW a u B
theorem idsV_get:∀{l:List (List UInt8)},IdsOk l→∀(i:Nat) (h:i<l.length) (j:Nat) (u:Value),(idV l[i])[j]?=some u→(zB l)[i*32+j]?=some u
  | [],_,_,h,_,_,_=>by cases h
  |a::l,ho,0,_,j,u,hj=>by
   have A:(idV a).length=32:=by rw[kn];exact ho a yZ
   have B:=(yJ.1 hj).1;simp only[zB,List.flatMap_cons,Nat.zero_mul,Nat.zero_add];rw[xv (by simpa using B)];exact hj
  |a::l,ho,i+1,h,j,u,hj=>by
   have A:(idV a).length=32:=by rw[kn];exact ho a yZ
   have:=idsV_get ho.tail i (by simpa using h) j u (by simpa using hj);simp only[zB,List.flatMap_cons] at this ⊢;rw[xx yv,A,show (i+1)*32+j - 32=i*32+j by omega];exact this
theorem Sl.id{w:World}{B b off:Nat}{l:List (List UInt8)}(ho:IdsOk l)(h:∀j u,(zB l)[j]?=some u→w.cell? ⟨b,off+j,none⟩=some u){i:Nat}(hi:i<l.length):∀j u,(idV l[i])[j]?=some u→w.cell? ⟨b,off+i*32+j,none⟩=some u:=by
  intro j u A;rw[Nat.add_assoc];exact h _ _ (idsV_get ho i hi j u A)
def jh:List (List UInt8)→Bool
  |a::b::r=>decide (jJ a b<0) && jh (b::r)
  | _=>true
theorem Zz:∀{l:List (List UInt8)},jh l=true↔∀i (h:i+1<l.length),jJ (l[i]'(by omega)) l[i+1]<0
  | []=>by simp [jh]
  | [a]=>by simp [jh]
  |a::b::r=>by
   rw[jh,xy,decide_eq_true_eq,Zz (l:=b::r)];constructor
   ·rintro⟨h1,h2⟩ i hi;cases i with
    |zero=>exact h1
    |succ i=>exact h2 i (by simpa using hi)
   ·intro h;exact⟨h 0 yZ,fun i hi=>h (i+1) (by simpa using hi)⟩
theorem vX{l:List (List UInt8)}(h:jh l=true):l.Pairwise fun a b=>jJ a b<0:=by
  induction l with
  |nil=>exact List.Pairwise.nil
  |cons a l ih=>
   rw[List.pairwise_cons];have B:jh l=true:=by
      cases l with
      |nil=>rfl
      |cons b r=>rw[jh,xy] at h;exact h.2
   refine⟨?_,ih B⟩;intro x A;cases l with
   |nil=>cases A
   |cons b r=>
    rw[jh,xy,decide_eq_true_eq] at h;rcases xK.1 A with rfl|A
    ·exact h.1
    ·exact KD h.1 ((List.pairwise_cons.1 (ih B)).1 x A)
theorem isSetB_of_pair{l:List (List UInt8)}(h:l.Pairwise fun a b=>jJ a b<0):jh l=true:=by
  rw[Zz];intro i A;exact(List.pairwise_iff_getElem.1 h) i (i+1) yv A yv
theorem Jc{P:Program}{ops:Array Oper}{rest:List Oper}{o:Oper}{a:Act}{w:World}{Q:Act→Prop}(hw:Region.wanted o (yielded ops a.tmps)=true)(ty:TypeId)(x:Operand)(ho:o.op=.load ty x)
    (b off:Nat) (hx:a.eval x=.pointer (some ⟨b,off,none⟩)) (cs:List Value) (d:TypeDesc) (hc:∀j u,cs[j]?=some u→w.cell? ⟨b,off+j,none⟩=some u)
    (hu:P.underlying ty=some d) (hd:(match d with| .struct _ | .array _ _=>true| _=>false)=true) (hi:(P.info? ty).map (·.size)=some cs.length)
    (h:wpStill P ops w Q rest (a.put o.dst (.agg cs.toArray))):wpStill P ops w Q (o::rest) a:=by
  unfold wpStill;rw[if_pos hw];unfold Oper.still execOp;simp only[ho,hx,Instr.loadAt,Instr.sureAddr,Sem.run_bind,Sem.run_pure,Result.andThen_ok,run_loadN w b off ty cs d hc hu hd hi];exact⟨rfl,h⟩
theorem mapM_some{α β:Type}{f:α→Option β}:∀{l:List α},(∀x∈l,∃y,f x=some y)→∃A,l.mapM f=some A
  | [],_=>⟨[],rfl⟩
  |x::l,h=>by
   obtain⟨y,hy⟩:=h x yZ;obtain⟨A,B⟩:=mapM_some (l:=l) fun z C=>h z (by simp [C])
   exact⟨y::A,by simp [List.mapM_cons,hy,B]⟩
def Kb(P:Program)(n:Nat)(t:TypeId)(cs:List Value):Prop:=∀d,n≤d→∃l,P.keyLits d t cs=some l
section
variable {P:Program} {t e:TypeId} {m n:Nat} {cs:List Value}
theorem kb_int{k:IntKind}{z:Int}(hu:P.underlying t=some (.int k))(hw:(Lit.int k z).wf=true):Kb P 1 t [.int k z]:=by
  intro d A;cases d with
  |zero=>omega
  |succ d=>exact⟨_,by simp [Program.keyLits,hu,hw];rfl⟩
theorem kb_arr(hu:P.underlying t=some (.array n e))(hl:cs.length=P.cellsOf t)(h:∀i,i<n→Kb P m e ((cs.drop (i*P.cellsOf e)).take (P.cellsOf e))):Kb P (m+1) t cs:=by
  intro d C;cases d with
  |zero=>omega
  |succ d=>
   obtain⟨D,A⟩:=mapM_some (l:=List.range n) (f:=fun i=>P.keyLits d e ((cs.drop (i*P.cellsOf e)).take (P.cellsOf e))) fun i B=>h i (by simpa using B) d yv
   exact⟨_,by simp only[Program.keyLits,hu,hl,if_true,A];rfl⟩
theorem kb_struct{fs : Array Field}(hu : P.underlying t = some (.struct fs))(hl : cs.length = P.cellsOf t)(hn : fs.all (·.name != "_") = true)(h : ∀ f ∈ fs.toList, Kb P m f.type ((cs.drop f.offset).take (P.cellsOf f.type))): Kb P (m + 1) t cs := by
  intro d hd;cases d with
  |zero=>omega
  |succ d=>
   obtain⟨ys,hys⟩:=mapM_some (l:=fs.toList) (f:=fun f=>P.keyLits d f.type ((cs.drop f.offset).take (P.cellsOf f.type))) fun f hf=>h f hf d yv
   exact⟨_,by simp only[Program.keyLits,hu,hl,hn,and_self,if_true,hys];rfl⟩
structure EqT (P:Program) (t:TypeId) (m:Nat):Prop where
  laid:laidOutB P=true
  few:P.types.size+2≤10000
  row:t<P.types.size
  key:P.keyType t=true
  wide:(match P.underlying t with|some (.array _ _)|some (.struct _)=>true| _=>false)=true
  deep:m≤P.types.size+1
  noGuard:P.eqGuardType P.depth t=false
theorem EqT.keyed(E:EqT P t m):Maps.Keyed P t:=Maps.Keyed.of_law (deep_law_laid E.laid (m:=P.types.size+1) E.few E.row E.key E.wide)
theorem EqT.is(E:EqT P t m)(hl:cs.length=P.cellsOf t)(h:Kb P m t cs):∃l,keyOf P t (.agg cs.toArray)=some l:=by
  obtain⟨l,C⟩:=h (P.types.size+1) E.deep;have A:=E.wide;have D:(Value.agg cs.toArray).formed P t=true:=by
    unfold Value.formed
    split at A<;>simp_all
  have F:(P.keyLits (P.types.size+1) t (Value.agg cs.toArray).cells.toList).map (fun G=>Lit.string (keyBytes G))=some (.string (keyBytes l)):=by
    rw[show (Value.agg cs.toArray).cells.toList=cs from rfl,C];rfl
  refine⟨.string (keyBytes l),?_⟩;unfold keyOf
  split at A
  ·rename_i B;simp only[B,E.key,D,Bool.and_self,if_true];exact F
  ·rename_i B;simp only[B,E.key,D,Bool.and_self,if_true];exact F
  ·cases A
theorem EqT.run(E:EqT P t m){α:Type}[DecidableEq α](enc:α→List Value)(hinj:∀a b,enc a=enc b→a=b){a b:α}(la:(enc a).length=P.cellsOf t)(lb:(enc b).length=P.cellsOf t)(ha:Kb P m t (enc a))(hb:Kb P m t (enc b))(w:World):
    (Op.equalIn 10000 t (.agg (enc a).toArray) (.agg (enc b).toArray)).run P w=.ok (decide (a=b)) w:=by
  obtain⟨D,ha⟩:=E.is la ha;obtain⟨F,hb⟩:=E.is lb hb;obtain⟨r,B,A⟩:=run_equal_deep w (m:=P.types.size+1) (by have:=E.few;omega) E.key E.wide ha hb;have C:(Op.equalIn 10000 t (.agg (enc a).toArray) (.agg (enc b).toArray)).run P w=.ok r w:=B;rw[C]
  congr 1
  rw[Bool.eq_iff_iff,A,decide_eq_true_eq];constructor
  ·intro h;have:=E.keyed.inj ha (by rw[h];exact hb);injection this with this;exact hinj _ _ (by have:=congrArg Array.toList this;simpa using this)
  ·rintro rfl;rw[ha] at hb;exact Option.some.inj hb
end
section
variable {P:Program} {ρ:Operand→Value} {o:Oper} {w:World}
theorem kg(ty:TypeId)(x:Operand)(ho:o.op=.load ty x){p:Addr}(hx:ρ x=.pointer (some p)){v:Value}(h:(loadVar ty p).run P w=.ok v w):(execOp ρ o).run P w=.ok (.value v) w:=by
  unfold execOp;simp only[ho,hx,Instr.loadAt,Instr.sureAddr,Sem.run_bind,Sem.run_pure,Result.andThen_ok,h]
theorem Kc(t t':TypeId)(x y:Operand)(ho:o.op=.binOp .eql t x y t'){xs ys:Array Value}(hx:ρ x=.agg xs)(hy:ρ y=.agg ys){r:Bool}(hg:P.eqGuardType P.depth t=false)
    (h:(Op.equalIn 10000 t (.agg xs) (.agg ys)).run P w=.ok r w):(execOp ρ o).run P w=.ok (.value (.bool r)) w:=by
  unfold execOp;simp only[ho,hx,hy,Sem.run_bind,run_eqGuard_agg w _ _ _ _ _ _ hg,Result.andThen_ok,run_eql_struct,h,Sem.run_pure]
theorem jV(t t':TypeId)(x y:Operand)(ho:o.op=.binOp .neq t x y t'){xs ys:Array Value}(hx:ρ x=.agg xs)(hy:ρ y=.agg ys){r:Bool}(hg:P.eqGuardType P.depth t=false)
    (h:(Op.equalIn 10000 t (.agg xs) (.agg ys)).run P w=.ok r w):(execOp ρ o).run P w=.ok (.value (.bool (!r))) w:=by
  unfold execOp;simp only[ho,hx,hy,Sem.run_bind,run_eqGuard_agg w _ _ _ _ _ _ hg,Result.andThen_ok,run_neq_struct,h,Sem.run_pure]
theorem kp(t:TypeId)(ps:Array (Nat×Operand))(ho:o.op=.build t ps){v:Value}(h:(Instr.build t (ps.map fun (i,x)=>(i,ρ x))).run P w=.ok v w):(execOp ρ o).run P w=.ok (.value v) w:=by
  unfold execOp;simp only[ho,Sem.run_bind,h,Result.andThen_ok,Sem.run_pure]
end
section
variable {P:Program} {o:Oper} {a:Act} {v:Value}
theorem kP{C:World→Prop}{K:Act→Prop}(h:∀w,C w→(execOp a.eval o).run P w=.ok (.value v) w)(hk:K (a.put o.dst v)):o.quiet P a C K:=
  ⟨v,fun w A=>by unfold Oper.quietAt;rw[h w A];exact⟨rfl,rfl⟩,hk⟩
theorem k7{ops:Array Oper}{rest:List Oper}{w:World}{Q:Exit→Act→World→Prop}(hw:Region.wanted o (yielded ops a.tmps)=true)(h:(execOp a.eval o).run P w=.ok (.value v) w)(hk:wpList P ops Q rest (a.put o.dst v) w):wpList P ops Q (o::rest) a w:=
  BigFrame.wpList_want hw fun K A=>by
    have:=A _ _ hk;unfold Oper.wp;rw[h];exact this
end
def Wd(base:Nat)(w:World):Type:={ w':World // Below base w w'}
instance (base:Nat) (w:World):Nonempty (Wd base w):=⟨⟨w,Below.refl _ _⟩⟩
theorem Wd.cell{base:Nat}{w:World}{b o:Nat}{v:Value}(hc:w.cell? ⟨b,o,none⟩=some v)(hb:b<base):∀n:Wd base w,n.val.cell? ⟨b,o,none⟩=some v:=fun n=>(n.2.cell (p:=⟨b,o,none⟩) hb).trans hc
theorem Wd.row{base:Nat}{w:World}{b o:Nat}{cs:List Value}(hc:∀j u,cs[j]?=some u→w.cell? ⟨b,o+j,none⟩=some u)(hb:b<base):∀w',(∃n:Wd base w,w'=n.val)→∀j u,cs[j]?=some u→w'.cell? ⟨b,o+j,none⟩=some u:=by
  rintro w' ⟨n,rfl⟩ j u A;exact Wd.cell (hc j u A) hb n
theorem Wd.call{base:Nat}{w:World}{P:Program}{f:FuncId}{args:Array Value}{v:Value}(h:∀w',Below base w w'→Calls P f args w' fun e A=>Below w'.heap.size w' A∧e=.returned v)(hbs:base≤w.heap.size)(n:Wd base w):
    Calls P f args n.val fun e A=>e=.returned v∧∃m:Wd base w,A=m.val:=
  (h n.val n.2).mono fun e A ⟨B,C⟩=>⟨C,⟨A,n.2.trans (B.mono (Nat.le_trans hbs n.2.size))⟩,rfl⟩
theorem jS{P:Program}{id:Nat}{Q:Exit→Act→World→Prop}{a:Act}{w:World}{l:List Oper}{base:Nat}(w0:World)(hb:Below base w0 w)(hm:P.follows .mixedOrders=true)(hB:Region.lexB .any l.toArray=true)
    (h:wpQuiet P l.toArray (fun w'=>∃n:Wd base w0,w'=n.val) (fun a'=>∀w',(∃n:Wd base w0,w'=n.val)→Q .normal a' w') l a):(Code.region id l.toArray true).wp P Q a w:=
  wp_region_quiet (C:=fun w'=>∃n:Wd base w0,w'=n.val) hm hB ⟨⟨_,hb.drew⟩,rfl⟩ (by simpa using h)
theorem cut_mid{α:Type}{a b c:List α}{n m:Nat}(ha:a.length=n)(hb:b.length=m):((a++(b++c)).drop n).take m=b:=by
  subst ha;subst hb;simp
theorem cut_end{α:Type}{a b:List α}{n m:Nat}(ha:a.length=n)(hb:b.length=m):((a++b).drop n).take m=b:=by
  subst ha;subst hb;simp
def k9:List UInt8:=List.replicate 32 0
theorem jT:jr k9:=by simp [jr,k9]
section
variable {P:Program} {t u i a:TypeId}
theorem kb_id(ht:P.underlying t=some (.array 32 u))(hu:P.underlying u=some (.int .u8))(hc:P.cellsOf u=1)(hct:P.cellsOf t=32){l:List UInt8}(hl:jr l):Kb P 2 t (idV l):=by
  have B:(idV l).length=32:=by rw[kn];exact hl
  refine kb_arr ht (by rw[hct,B]) fun j C=>?_
  rw[hc,Nat.mul_one,List.drop_eq_getElem_cons yv,List.take_succ_cons,List.take_zero];have A:j<l.length:=by rw[hl];exact C
  rw[show (idV l)[j]'(by omega)=.int .u8 ((l[j]'A).toNat:Int) by simp [idV]];refine kb_int hu ?_;simp only[Lit.wf,IntKind.min,IntKind.max,IntKind.signed,IntKind.bits,xy];have:=(l[j]'A).toNat_lt;simp;omega
end
abbrev zy:=List UInt8×Int
def kw(r:zy):List Value:=idV r.1++[.int .i64 r.2]
def zz(r:zy):Prop:=jr r.1∧(Lit.int .i64 r.2).wf=true
theorem kq{r:zy}(h:zz r):(kw r).length=33:=by
  have:=h.1;unfold jr at this;simp [kw,idV,this]
theorem refV_inj{a b:zy}(h:kw a=kw b):a=b:=by
  unfold kw at h;have B:=congrArg List.length h;simp only[yV,xQ] at B;obtain⟨C,A⟩:=List.append_inj h yv;simp only[List.cons.injEq,Value.int.injEq,true_and,and_true] at A;exact Prod.ext (idV_inj C) A
theorem Qm(r:zy):∀u∈kw r,u.oneCell'=true:=by
  intro u A;rcases xJ.1 A with A|A
  ·exact kW _ u A
  ·simp at A;subst A;rfl
theorem vn:prog.cellsOf 41=32:=yq
theorem Qn:prog.cellsOf 89=34:=yq
theorem cellsU8:prog.cellsOf 5=1:=yq
theorem ut:prog.cellsOf 3=1:=yq
theorem Qo:prog.cellsOf 9=1:=yq
theorem kbId{l:List UInt8}(hl:jr l):Kb prog 2 41 (idV l):=kb_id underlying41 underlying5 cellsU8 vn hl
theorem eqId:EqT prog 41 2:=⟨by kernel_rfl,of_decide_eq_true yq,of_decide_eq_true yq,by kernel_rfl,by kernel_rfl,of_decide_eq_true yq,by kernel_rfl⟩
theorem eqKey:EqT prog 89 3:=⟨by kernel_rfl,of_decide_eq_true yq,of_decide_eq_true yq,by kernel_rfl,by kernel_rfl,of_decide_eq_true yq,by kernel_rfl⟩
theorem kbKey{k:kE}(hk:kJ k):Kb prog 3 89 (kc k):=by
  have B:=ke hk;have A:(idV k.2.1).length=32:=by rw[kn];exact hk.2.1
  refine kb_struct underlying89 (by rw[B,Qn]) yq fun f C=>?_
  simp only[xK,YY,or_false] at C;rcases C with rfl|rfl|rfl
  ·simp only[ut,List.drop_zero];exact fun d D=>kb_int underlying3 hk.1 d yv
  ·simp only[vn];rw[show ((kc k).drop 1).take 32=idV k.2.1 from cut_mid (a:=[.int .i64 k.1]) rfl A];exact kbId hk.2.1
  ·simp only[ut];rw[show ((kc k).drop 33).take 1=[.int .i64 k.2.2] from by
     show ((.int .i64 k.1::(idV k.2.1++[.int .i64 k.2.2])).drop 33).take 1=_;rw[show (.int .i64 k.1::(idV k.2.1++[Value.int .i64 k.2.2]):List Value)=(.int .i64 k.1::idV k.2.1)++[.int .i64 k.2.2] from rfl];exact cut_end (by simp [A]) rfl]
   exact fun d D=>kb_int underlying3 hk.2.2 d yv
theorem Ke{a b:List UInt8}(ha:jr a)(hb:jr b)(w:World):(Op.equalIn 10000 41 (.agg (idV a).toArray) (.agg (idV b).toArray)).run prog w=.ok (decide (a=b)) w:=
  eqId.run idV (fun _ _=>idV_inj) (by rw[kn,vn];exact ha) (by rw[kn,vn];exact hb) (kbId ha) (kbId hb) w
theorem run_eqKey{a b:kE}(ha:kJ a)(hb:kJ b)(w:World):(Op.equalIn 10000 89 (.agg (kc a).toArray) (.agg (kc b).toArray)).run prog w=.ok (decide (a=b)) w:=
  eqKey.run kc (fun _ _=>keyV_inj) (by rw[ke ha,Qn]) (by rw[ke hb,Qn]) (kbKey ha) (kbKey hb) w
theorem keyedKey:Go.Maps.Keyed prog 89:=eqKey.keyed
end
abbrev OpD:=UInt8×zy×zy×ByteArray×Int×ByteArray
abbrev jL:=Bool×zy
abbrev ks:=Int×List (List UInt8)×ByteArray×List OpD
abbrev ZK:=List (List UInt8)×List (List UInt8)×ByteArray×ByteArray×Int
abbrev vB:=UInt8×ks×ZK
abbrev Qp:=Bool×Bool×Bool×Bool×Bool
def ko:zy:=(k9,0)
def noneS:ByteArray:=⟨#[]⟩
def kS:ZK:=([],[],noneS,noneS,0)
def jO(k:UInt8):Option Qp:=
  if k=1 then some (true,true,true,false,false) else if k=2 then some (true,true,false,true,false) else if k=3 then some (false,false,false,false,true)
  else if k=4 then some (true,false,false,false,true) else if k=5 then some (true,false,false,false,false) else none
def kO(x:OpD)(p:Qp):Bool:=(p.1 || decide (x.2.1=ko)) && (p.2.1 || decide (x.2.2.1=ko)) && (p.2.2.1 || decide (x.2.2.2.1=noneS)) && (p.2.2.2.1 || decide (x.2.2.2.2.1=0)) && (p.2.2.2.2 || decide (x.2.2.2.2.2=noneS))
def vC(l:List (List UInt8))(most:Nat):Bool:=decide (l.length≤most) && jh l && (decide (l=[]) || !decide (l.headD []=k9))
def zC(deps:List (List UInt8))(r:zy):Bool:=jh deps && decide (r.1∈deps) && decide (0≤r.2) && decide (r.2≤2147483647)
def vf(deps:List (List UInt8))(mk:List jL)(r:zy):Bool:=
  if r.1≠k9 then zC deps r else decide (0≤r.2) && decide (r.2<mk.length) && (mk.getD r.2.toNat (false,ko)).1
def jD(deps:List (List UInt8))(mk:List jL)(r d:zy)(n:Int):Bool:=
  if r.1≠k9 then zC deps r
  else decide (0≤r.2) && decide (n≤mk.length) && decide (r.2≤mk.length - n) && ((mk.drop r.2.toNat).take n.toNat).all fun m=> !m.1 && decide (m.2=d)
def KY(s:ByteArray):Bool:=decide (s.size≤4096) && KE s
def zK(s:ByteArray):Nat:=match jH s with
  |some l=>l.length
  |none=>0
def opB(deps:List (List UInt8))(mk:List jL)(x:OpD):Bool:=match jO x.1 with
  |none=>false
  |some p=>kO x p && (!p.1 || vf deps mk x.2.1) && (!p.2.2.2.2 || jZ x.2.2.2.2.2) &&
   (!decide (x.1=2) || (decide (1≤x.2.2.2.2.1) && decide (x.2.2.2.2.1≤4096) && jD deps mk x.2.2.1 x.2.1 x.2.2.2.2.1)) &&
   (!decide (x.1=1) || ((decide (x.2.2.1=x.2.1) || jD deps mk x.2.2.1 x.2.1 1) && !decide (x.2.2.2.1=noneS) && KY x.2.2.2.1))
def zT(x:OpD):List jL:=if x.1=3 then [(true,ko)] else if x.1=1 then List.replicate (zK x.2.2.2.1) (false,x.2.1) else []
def Zh(deps:List (List UInt8)):List jL→List OpD→Bool
  | _,[]=>true
  |mk,x::t=>opB deps mk x && Zh deps (mk++zT x) t
def ja(c:ks):Bool:=decide (1≤c.1) && decide (c.1≤1099511627776) && vC c.2.1 4096 && K8 c.2.2.1 && decide (1≤c.2.2.2.length) && decide (c.2.2.2.length≤4096) && Zh c.2.1 [] c.2.2.2
def commitB(c:ZK):Bool:=vC c.1 2 && vC c.2.1 4096 && K8 c.2.2.1 && noteB c.2.2.2.1 && decide (0≤c.2.2.2.2) && decide (c.2.2.2.2≤1099511627776)
def noChangeB(c:ks):Bool:=decide (c.1=0) && decide (c.2.1=[]) && decide (c.2.2.1=noneS) && decide (c.2.2.2=[])
def jF(c:ZK):Bool:=decide (c.1=[]) && decide (c.2.1=[]) && decide (c.2.2.1=noneS) && decide (c.2.2.2.1=noneS) && decide (c.2.2.2.2=0)
def zn(o:vB):Bool:=if o.1=1 then jF o.2.2 && ja o.2.1 else if o.1=2 then noChangeB o.2.1 && commitB o.2.2 else false
def qO(n:Int):List UInt8:=if n<0 then [] else jA n.toNat
def ZT(l:List (List UInt8)):List UInt8:=qO (l.length:Int)++l.flatten
def zj(deps:List (List UInt8))(r:zy):List UInt8:=qO (if r.1≠k9 then (deps.idxOf r.1:Int)+1 else 0)++qO r.2
def ifE(b:Bool)(l:List UInt8):List UInt8:=if b then l else []
def opE(deps:List (List UInt8))(x:OpD):List UInt8:=
  let p:=(jO x.1).getD (false,false,false,false,false)
  x.1::(ifE p.1 (zj deps x.2.1)++(ifE p.2.1 (zj deps x.2.2.1)++(ifE p.2.2.1 (jN (L x.2.2.2.1))++(ifE p.2.2.2.1 (qO x.2.2.2.2.1)++ifE p.2.2.2.2 (jN (L x.2.2.2.2.2))))))
def qo(deps:List (List UInt8))(l:List OpD):List UInt8:=(l.map (opE deps)).flatten
def Ju(c:ks):List UInt8:=67::(qO c.1++(ZT c.2.1++(jN (L c.2.2.1)++(qO (c.2.2.2.length:Int)++qo c.2.1 c.2.2.2))))
def commitE(c:ZK):List UInt8:=75::(ZT c.1++(ZT c.2.1++(jN (L c.2.2.1)++(jN (L c.2.2.2.1)++qO c.2.2.2.2))))
def Jv(o:vB):List UInt8:=if o.1=1 then Ju o.2.1 else commitE o.2.2
abbrev Ps(α:Type):=List UInt8→Option (α×List UInt8)
def pBind{α β:Type}(d:Ps α)(f:α→Ps β):Ps β:=fun l=>match d l with
  |some (a,r)=>f a r
  |none=>none
def pRet{α:Type}(a:α):Ps α:=fun l=>some (a,l)
def pMany{α:Type}(d:Ps α):Nat→Ps (List α)
  | 0=>pRet []
  |n+1=>pBind d fun a=>pBind (pMany d n) fun t=>pRet (a::t)
section
variable {α β:Type} {d:Ps α} {f:α→Ps β}
theorem pBind_at{l s:List UInt8}{a:α}(h:d l=some (a,s)):pBind d f l=f a s:=by unfold pBind;rw[h]
end
abbrev zD:=Bool×kE
abbrev vD:=ks×List zD
abbrev kj:=List (kE×List kQ)×List kN×List (List UInt8×vD)
def jv(s:kj)(k:kE):Option (List kQ):=(s.1.find? fun x=>decide (x.1=k)).map (·.2)
def kC(s:kj)(i:List UInt8):Option vD:=(s.2.2.find? fun x=>decide (x.1=i)).map (·.2)
def za(s:kj)(i:List UInt8):Int:=((kC s i).map (·.1.1)).getD 0
def jg(s:kj)(i:List UInt8)(t:Int)(r:zy):kE:=if r.1=k9 then (t,i,r.2) else (za s r.1,r.1,r.2)
def vo(s:kj)(mk:List zD)(r:zy):List zD:=if r.1=k9 then mk else ((kC s r.1).map (·.2)).getD []
def Jg(s:kj)(mk:List zD)(r:zy)(more:Nat):Option zD:=
  if r.2<((vo s mk r).length:Int) - (more:Int) then (vo s mk r)[r.2.toNat+more]? else none
def vg(s:kj)(i:List UInt8)(t:Int)(mk:List zD)(x:OpD)(more:Nat):Bool:=match Jg s mk x.2.2.1 more with
  |some m=> !m.1 && decide (m.2=jg s i t x.2.1)
  |none=>false
def J7(s:kj)(i:List UInt8)(t:Int)(mk:List zD)(x:OpD):Option (List zD):=
  if x.1=3 then some (mk++[(true,(0,k9,0))])
  else match Jg s mk x.2.1 0 with
    |none=>none
    |some m=>
     if m.1=false then none
     else if x.1=2 then (if (List.range x.2.2.2.2.1.toNat).all (vg s i t mk x) then some mk else none)
     else if x.1=1 then (if x.2.2.1=x.2.1∨vg s i t mk x 0=true then some (mk++List.replicate (zK x.2.2.2.1) (false,jg s i t x.2.1)) else none)
     else some mk
def KG(s:kj)(i:List UInt8)(t:Int):List zD→List OpD→Option (List zD×List Nat)
  |mk,[]=>some (mk,[])
  |mk,x::l=>match J7 s i t mk x with
   |none=>none
   |some mk2=>(KG s i t mk2 l).map fun q=>(q.1,mk.length::q.2)
def zQ(l:List (kE×List kQ))(k:kE)(d:List kQ):List (kE×List kQ):=
  if l.any fun x=>decide (x.1=k) then l.map fun x=>if x.1=k then (k,d) else x else l++[(k,d)]
def Jh(s:kj)(i:List UInt8)(t:Int)(place next:Nat)(x:OpD):kj:=
  if x.1=3 then (zQ s.1 (t,i,(next:Int)) [],s.2.1++[((t,i,(place:Int)),(t,i,(next:Int)),3,x.2.2.2.2.2)],s.2.2)
  else if x.1=4∨x.1=5 then (s.1,s.2.1++[((t,i,(place:Int)),jg s i t x.2.1,x.1.toNat,x.2.2.2.2.2)],s.2.2)
  else match jv s (jg s i t x.2.1) with
    |none=>s
    |some d=>
     if x.1=1 then (zQ s.1 (jg s i t x.2.1) (jG d (t,i,(next:Int)) (jg s i t x.2.2.1) (decide (x.2.2.1=x.2.1)) ((jH x.2.2.2.1).getD [])).1,s.2)
     else if x.1=2 then (zQ s.1 (jg s i t x.2.1) (K7 d (jg s i t x.2.2.1) x.2.2.2.2.1).1,s.2)
     else s
def J8(i:List UInt8)(t:Int):Nat→kj→List OpD→List Nat→kj
  |place,s,x::l,n::ns=>J8 i t (place+1) (Jh s i t place n x) l ns
  | _,s,_,_=>s
def zX(s:kj)(is i:List UInt8)(c:ks):Int×kj:=
  if is≠i then (18,s)
  else if (kC s i).isSome then (11,s)
  else if c.2.1.all (fun d=>(kC s d).isSome)=false then (12,s)
  else if c.2.1.all (fun d=>decide (za s d<c.1))=false then (21,s)
  else match KG s i c.1 [] c.2.2.2 with
    |none=>(22,s)
    |some (mk,ns)=>(0,J8 i c.1 0 (s.1,s.2.1,s.2.2++[(i,c,mk)]) c.2.2.2 ns)
def KO:kj:=([],[],[])
structure StateOk (s:kj):Prop where
  ids:(s.2.2.map (·.1)).Nodup
  docs:(s.1.map (·.1)).Nodup
  of:∀x∈s.1,(kC s x.1.2.1).isSome=true
  runs:∀x∈s.1,RunsOf (fun k=>(kC s k.2.1).isSome=true) x.2
theorem newState_ok:StateOk KO:=⟨List.nodup_nil,List.nodup_nil,(fun x A=>by cases A),fun x A=>by cases A⟩
theorem J1{l:List (kE×List kQ)}{k:kE}{d:List kQ}{x:kE×List kQ}(h:x∈zQ l k d):x∈l∨x=(k,d):=by
  unfold zQ at h
  split at h
  ·obtain⟨y,A,e⟩:=List.mem_map.1 h
   split at e
   ·exact .inr e.symm
   ·subst e;exact .inl A
  ·rcases xJ.1 h with h|h
   ·exact .inl h
   ·exact .inr (xZ.1 h)
theorem setDoc_keys(l:List (kE×List kQ))(k:kE)(d:List kQ):(zQ l k d).map (·.1)=l.map (·.1)∨(k∉l.map (·.1)∧(zQ l k d).map (·.1)=l.map (·.1)++[k]):=by
  unfold zQ
  split
  ·left
   rw[List.map_map];apply List.map_congr_left;intro x _;simp only[Function.comp]
   split
   ·rename_i e;exact e.symm
   ·rfl
  ·rename_i h
   right
   refine⟨fun A=>h ?_,by simp⟩;obtain⟨x,B,e⟩:=List.mem_map.1 A;exact List.any_eq_true.2 ⟨x,B,decide_eq_true e⟩
theorem setDoc_nodup{l:List (kE×List kQ)}(h:(l.map (·.1)).Nodup)(k:kE)(d:List kQ):((zQ l k d).map (·.1)).Nodup:=by
  rcases setDoc_keys l k d with e|⟨C,e⟩
  ·rw[e];exact h
  ·rw[e];exact List.nodup_append.2 ⟨h,by simp,fun a D b A B=>C (by rw[xZ] at A;rw[←A,←B];exact D)⟩
theorem Ku{s:kj}{k:kE}{d:List kQ}(h:jv s k=some d):(k,d)∈s.1:=by
  unfold jv at h;obtain⟨x,A,rfl⟩:=Option.map_eq_some_iff.1 h;have C:=List.mem_of_find?_eq_some A;have B:=List.find?_some A;rw[decide_eq_true_eq] at B;subst B;exact C
theorem find_set(k k':kE)(d:List kQ):∀l:List (kE×List kQ),l.any (fun x=>decide (x.1=k))=true→
    ((l.map fun x=>if x.1=k then (k,d) else x).find? fun x=>decide (x.1=k')).map (·.2)=if k'=k then some d else (l.find? fun x=>decide (x.1=k')).map (·.2)
  | [],h=>by cases h
  |x::l,h=>by
   rw[xX,List.find?_cons,List.find?_cons];by_cases hx:x.1=k
   ·rw[if_pos hx];by_cases hk:k'=k
    ·subst hk;simp
    ·rw[if_neg hk];have e1:decide (((k,d):kE×List kQ).1=k')=false:=decide_eq_false fun e=>hk e.symm
     have B:decide (x.1=k')=false:=decide_eq_false fun e=>hk (e.symm.trans hx)
     rw[e1,B];by_cases A:l.any (fun x=>decide (x.1=k))=true
     ·have:=find_set k k' d l A;rw[if_neg hk] at this;exact this
     ·have:(l.map fun x=>if x.1=k then (k,d) else x)=l:=by
         rw[List.map_congr_left (g:=id)]
         ·simp
         ·intro y C;have:y.1≠k:=fun e=>A (List.any_eq_true.2 ⟨y,C,decide_eq_true e⟩)
          rw[if_neg this];rfl
      simp only[this]
   ·rw[if_neg hx];have A:l.any (fun x=>decide (x.1=k))=true:=by
       rw[List.any_cons,decide_eq_false hx,Bool.false_or] at h;exact h
    by_cases hk:x.1=k'
    ·have:k'≠k:=fun e=>hx (hk.trans e)
     rw[if_neg this,decide_eq_true hk]
    ·rw[decide_eq_false hk];exact find_set k k' d l A
theorem uu(s:kj)(k:kE)(d:List kQ)(r:List kN×List (List UInt8×vD))(k':kE):jv (zQ s.1 k d,r) k'=if k'=k then some d else jv s k':=by
  unfold jv zQ;by_cases ha:s.1.any (fun x=>decide (x.1=k))=true
  ·rw[if_pos ha];exact find_set k k' d s.1 ha
  ·rw[if_neg ha];have B:∀x∈s.1,x.1≠k:=fun x A e=>ha (List.any_eq_true.2 ⟨x,A,decide_eq_true e⟩)
   show (List.find? _ (s.1++[(k,d)])).map _=_;rw[List.find?_append];by_cases hk:k'=k
   ·subst hk;rw[if_pos rfl,List.find?_eq_none.2 (fun x A=>by simpa using B x A)];simp
   ·rw[if_neg hk];have:decide (k=k')=false:=decide_eq_false fun e=>hk e.symm
    simp [List.find?_cons,this]
theorem StateOk.set{s:kj}(h:StateOk s){k:kE}{d:List kQ}(hk:(kC s k.2.1).isSome=true)(hd:RunsOf (fun k=>(kC s k.2.1).isSome=true) d)(cl:List kN):StateOk (zQ s.1 k d,cl,s.2.2):=
  ⟨h.ids,setDoc_nodup h.docs k d,fun x A=>by
    rcases J1 A with A|rfl
    ·exact h.of x A
    ·exact hk,fun x A=>by
    rcases J1 A with A|rfl
    ·exact h.runs x A
    ·exact hd⟩
theorem StateOk.do{s:kj}(h:StateOk s){i:List UInt8}(hi:(kC s i).isSome=true)(t:Int)(place next:Nat)(x:OpD):StateOk (Jh s i t place next x):=by
  unfold Jh
  split
  ·exact h.set (k:=(t,i,(next:Int))) (d:=[]) hi (fun r C=>by cases C) _
  ·split
   ·exact⟨h.ids,h.docs,h.of,h.runs⟩
   ·split
    ·exact h
    ·rename_i d D;have A:=Ku D
     split
     ·exact h.set (h.of _ A) ((h.runs _ A).insert (fun _ _ B=>B) (by exact hi)) _
     ·split
      ·exact h.set (h.of _ A) ((h.runs _ A).delete (fun _ _ B=>B) _ _) _
      ·exact h
theorem uP(s:kj)(i:List UInt8)(t:Int)(place next:Nat)(x:OpD):(Jh s i t place next x).2.2=s.2.2:=by
  unfold Jh
  split
  ·rfl
  ·split
   ·rfl
   ·split
    ·rfl
    ·split
     ·rfl
     ·split<;>rfl
theorem StateOk.dos{i:List UInt8}(t:Int):∀(l:List OpD) (ns:List Nat) (place:Nat) {s:kj},StateOk s→(kC s i).isSome=true→StateOk (J8 i t place s l ns)∧(J8 i t place s l ns).2.2=s.2.2
  | [],ns,place,s,h,hi=>by cases ns<;>exact⟨h,rfl⟩
  |x::l,[],place,s,h,hi=>⟨h,rfl⟩
  |x::l,n::ns,place,s,h,hi=>by
   have e:=uP s i t place n x;have A:(kC (Jh s i t place n x) i).isSome=true:=by
      unfold kC;rw[e];exact hi
   obtain⟨B,C⟩:=StateOk.dos t l ns (place+1) (h.do hi t place n x) A;exact⟨B,C.trans e⟩
theorem entryAt_none{s:kj}{i:List UInt8}(h:(kC s i).isSome=false):i∉s.2.2.map (·.1):=fun A=>by
  obtain⟨x,B,e⟩:=List.mem_map.1 A;unfold kC at h;rw[Option.isSome_map] at h;have:(s.2.2.find? fun x=>decide (x.1=i)).isSome=true:=List.find?_isSome.2 ⟨x,B,decide_eq_true e⟩;rw[this] at h;cases h
theorem Qq{s:kj}{i:List UInt8}{d:List (kE×List kQ)}{cl:List kN}{j:List UInt8}{e:vD}(h:(kC s j).isSome=true):(kC (d,cl,s.2.2++[(i,e)]) j)=kC s j:=by
  unfold kC at h ⊢;rw[Option.isSome_map] at h;rw[List.find?_append];obtain⟨x,A⟩:=Option.isSome_iff_exists.1 h;rw[A];rfl
theorem StateOk.add{s:kj}(h:StateOk s)(is i:List UInt8)(c:ks):StateOk (zX s is i c).2∧((zX s is i c).1≠0→(zX s is i c).2=s)∧
    ((zX s is i c).1=0→is=i∧(kC s i).isSome=false∧∃A,(zX s is i c).2.2.2=s.2.2++[(i,c,A)]):=by
  unfold zX
  split
  ·exact⟨h,fun _=>rfl,fun e=>by cases e⟩
  ·rename_i H
   split
   ·exact⟨h,fun _=>rfl,fun e=>by cases e⟩
   ·rename_i O
    split
    ·exact⟨h,fun _=>rfl,fun e=>by cases e⟩
    ·split
     ·exact⟨h,fun _=>rfl,fun e=>by cases e⟩
     ·split
      ·exact⟨h,fun _=>rfl,fun e=>by cases e⟩
      ·rename_i A I P;have D:(kC s i).isSome=false:=by cases hq:(kC s i).isSome<;>simp_all
       have J:=entryAt_none D;have K:StateOk (s.1,s.2.1,s.2.2++[(i,c,A)]):=by
         refine⟨?_,h.docs,fun x B=>?_,fun x B r L=>?_⟩
         ·rw[List.map_append];exact List.nodup_append.2 ⟨h.ids,by simp,fun a M b F G=>J (by simp at F;rw[←F,←G];exact M)⟩
         ·rw[Qq (h.of x B)];exact h.of x B
         ·obtain⟨C,E⟩:=h.runs x B r L;exact⟨by show (kC _ r.1.2.1).isSome=true;rw[Qq C];exact C,E⟩
       have N:(kC (s.1,s.2.1,s.2.2++[(i,c,A)]) i).isSome=true:=by
         unfold kC;rw[Option.isSome_map];exact List.find?_isSome.2 ⟨(i,c,A),by simp,by simp⟩
       obtain⟨C,E⟩:=StateOk.dos c.1 c.2.2.2 I 0 K N;exact⟨C,fun e=>absurd rfl e,fun _=>⟨by simpa using H,D,A,E⟩⟩
section
open Go.RowKit
theorem qX{α:Type}{xs:Array α}{i:Nat}{a:α}(h:xs[i]?=some a):i<xs.size:=(Array.getElem?_eq_some_iff.1 h).1
theorem dT{p:Prop}[Decidable p](h:p):decide p=true:=decide_eq_true h
theorem dF{p:Prop}[Decidable p](h:¬p):decide p=false:=decide_eq_false h
theorem qR(n:Nat):n≤n:=xY n
theorem qT{a b c:Nat}(h:a≤b)(g:b≤c):a≤c:=Nat.le_trans h g
theorem qL{a b c:Nat}(h:a<b)(g:b≤c):a<c:=Nat.lt_of_lt_of_le h g
theorem qZ(n:Nat):0+n=n:=Nat.zero_add n
theorem qD(b:Nat)(w:World):Below b w w.drew:=(Below.refl b w).drew
theorem qB(b:Nat)(w:World):Below b w w:=Below.refl b w
abbrev qV:=@run_loadVar_mid
end
section
open Go.RowKit
open Lib (hid)
theorem vY(r:Int)(w:World)(h0:0≤r)(h1:r≤2147483647):Calls prog 180 #[.int .i32 r] w fun e w'=>
    w=w'∧e=.returned (.bool (Kp r)):=by
  by_cases a1:r≤1114111
  ·by_cases a2:r<55296
   ·rw[show Kp r=true by simp [Kp,h0,a1,a2]];go_enter func180,ntmps180
    go_wp2
    go_ret;exact⟨rfl,rfl⟩
   ·rw[show Kp r=decide (57343<r) by simp [Kp,h0,a1];omega];have:55296≤r:=yv;go_enter func180,ntmps180
    go_wp2
    go_ret;exact⟨rfl,rfl⟩
  ·rw[show Kp r=false by simp [Kp];omega];go_enter func180,ntmps180
   go_wp2
   go_ret;exact⟨rfl,rfl⟩
def Qr(c:Nat):Int×Nat×Nat:=
  if c<128 then (0,c,0) else if c<192 then (-1,0,0) else if c<224 then (1,c % 32,128) else if c<240 then (2,c % 16,2048)
  else if c<248 then (3,c % 8,65536) else (-1,0,0)
theorem lead1{c:Nat}(h:c<128):Qr c=(0,c,0):=by simp [Qr,h]
theorem leadX{c:Nat}(h:128≤c∧c<192∨248≤c):Qr c=(-1,0,0):=by
  unfold Qr;rw[if_neg yv];by_cases b:c<192
  ·rw[if_pos b]
  ·rw[if_neg b,if_neg yv,if_neg yv,if_neg yv]
theorem lead2{c:Nat}(h:192≤c∧c<224):Qr c=(1,c % 32,128):=by
  unfold Qr;rw[if_neg yv,if_neg yv,if_pos yv]
theorem lead3{c:Nat}(h:224≤c∧c<240):Qr c=(2,c % 16,2048):=by
  unfold Qr;rw[if_neg yv,if_neg yv,if_neg yv,if_pos yv]
theorem lead4{c:Nat}(h:240≤c∧c<248):Qr c=(3,c % 8,65536):=by
  unfold Qr;rw[if_neg yv,if_neg yv,if_neg yv,if_neg yv,if_pos yv]
theorem zY(c:Nat)(w:World)(hc:c<256):Calls prog 258 #[.int .u8 c] w fun e w'=>
    w=w'∧e=.returned (.tuple #[.int .i64 (Qr c).1,.int .i32 (Qr c).2.1,.int .i32 (Qr c).2.2]):=by
  rcases (by omega:c<128∨(128≤c∧c<192)∨(192≤c∧c<224)∨(224≤c∧c<240)∨(240≤c∧c<248)∨248≤c) with a|a|a|a|a|a
  ·rw[lead1 a];go_enter func258,ntmps258
   go_wp2
   go_ret3;exact⟨rfl,rfl⟩
  ·rw[leadX (.inl a)];go_enter func258,ntmps258
   go_wp2
   go_ret3;exact⟨rfl,rfl⟩
  ·rw[lead2 a];go_enter func258,ntmps258
   go_wp2
   go_ret3;exact⟨rfl,rfl⟩
  ·rw[lead3 a];go_enter func258,ntmps258
   go_wp2
   go_ret3;exact⟨rfl,rfl⟩
  ·rw[lead4 a];go_enter func258,ntmps258
   go_wp2
   go_ret3;exact⟨rfl,rfl⟩
  ·rw[leadX (.inr a)];go_enter func258,ntmps258
   go_wp2
   go_ret3;exact⟨rfl,rfl⟩
theorem high2:∀c:Fin 256,(bits BinOp.and IntKind.u8 ((c.val:Nat):Int) 192 == 128)=(c.val / 64 == 2):=by
  decide+kernel
theorem uv{c:Nat}(h:c<256)(g:c / 64=2):(bits BinOp.and IntKind.u8 (c:Int) 192 == 128)=true∧(bits BinOp.and IntKind.u8 (c:Int) 192 != 128)=false:=by
  have:=high2 ⟨c,h⟩;simp only[g] at this;exact⟨this,by simp [bne,this]⟩
theorem UL{c:Nat}(h:c<256)(g:¬c / 64=2):(bits BinOp.and IntKind.u8 (c:Int) 192 == 128)=false∧(bits BinOp.and IntKind.u8 (c:Int) 192 != 128)=true:=by
  have:=high2 ⟨c,h⟩;simp only[beq_eq_false_iff_ne.2 g] at this;exact⟨this,by simp [bne,this]⟩
def DecGives(s:ByteArray)(i:Nat)(w:World)(e:Ending)(w':World):Prop:=
  w=w'∧(J6 s i=true∧e=.returned (.tuple #[.int .i32 (Utf8.decode s i).1,.int .i64 ((i+(Utf8.decode s i).2:Nat):Int),.bool true])∨
   J6 s i=false∧∃r n:Int,e=.returned (.tuple #[.int .i32 r,.int .i64 n,.bool false]))
theorem DecGives.yes{s:ByteArray}{i r n:Nat}{w:World}{e:Ending}(k:J6 s i=true)(d:Utf8.decode s i=(r,n))(h:e=.returned (.tuple #[.int .i32 r,.int .i64 ((i+n:Nat):Int),.bool true])):DecGives s i w e w:=
  ⟨rfl,.inl ⟨k,by rw[d];exact h⟩⟩
theorem DecGives.no{s:ByteArray}{i:Nat}{r n:Int}{w:World}{e:Ending}(k:J6 s i=false)(h:e=.returned (.tuple #[.int .i32 r,.int .i64 n,.bool false])):DecGives s i w e w:=
  ⟨rfl,.inr ⟨k,_,_,h⟩⟩
theorem uw{a b a' b':Int}{x y:Bool}(h1:a=a')(h2:b=b')(h3:x=y):Ending.returned (.tuple #[.int .i32 a,.int .i64 b,.bool x])=.returned (.tuple #[.int .i32 a',.int .i64 b',.bool y]):=by rw[h1,h2,h3]
theorem decode1(s:ByteArray)(i:Nat)(w:World)(h0:i<s.size)(hs:s.size≤maxLen)(h:B s i<128):
    Calls prog 234 #[.string s,.int .i64 i] w (DecGives s i w):=by
  unfold maxLen at hs;have D:=getB s;have A:=JE s i;have C:(i:Int)<(s.size:Int):=yv;go_enter func234,ntmps234;go_wp2_with fail;refine(zY _ _ A).mono ?_;rw[lead1 h];rintro e w' ⟨rfl,rfl⟩;go_wp2_with fail;refine wp_loop_rounds 1 ?_;rw[rounds_succ]
  go_wp2_with (go_at_call 180;refine(vY _ _ yv yv).mono ?_;rintro e w' ⟨rfl,rfl⟩)
  go_ret3;have d:=dec1 h;exact .yes d.2 d.1 (uw rfl yv (by simp [Kp];omega))
theorem decodeX(s:ByteArray)(i:Nat)(w:World)(h0:i<s.size)(hs:s.size≤maxLen)(h:128≤B s i∧B s i<192∨248≤B s i):
    Calls prog 234 #[.string s,.int .i64 i] w (DecGives s i w):=by
  unfold maxLen at hs;have D:=getB s;have A:=JE s i;have C:(i:Int)<(s.size:Int):=yv;go_enter func234,ntmps234;go_wp2_with fail;refine(zY _ _ A).mono ?_;rw[leadX h];rintro e w' ⟨rfl,rfl⟩;go_wp2_with fail;go_ret3;exact .no (dec_lone h) rfl
theorem decode2(s:ByteArray)(i:Nat)(w:World)(h0:i<s.size)(hs:s.size≤maxLen)(h:192≤B s i∧B s i<224):
    Calls prog 234 #[.string s,.int .i64 i] w (DecGives s i w):=by
  unfold maxLen at hs;have J:=getB s;have D:=JE s i;have E:=JE s (i+1);have I:(i:Int)<(s.size:Int):=yv;go_enter func234,ntmps234;by_cases hl:s.size≤i+1
  ·go_wp2_with fail;refine(zY _ _ D).mono ?_;rw[lead2 h];rintro e w' ⟨rfl,rfl⟩;go_wp2_with fail;go_ret3;exact .no (dec2_no h (Zg (.inl yv))) rfl
  by_cases c1:¬B s (i+1) / 64=2
  ·have⟨q1,p1⟩:=UL E c1;go_wp2_with fail;refine(zY _ _ D).mono ?_;rw[lead2 h];rintro e w' ⟨rfl,rfl⟩;go_wp2_with fail;refine wp_loop_rounds 1 ?_;rw[rounds_succ];go_wp2_with fail;go_ret3;exact .no (dec2_no h (Zg (.inr c1))) rfl
  have C:B s (i+1) / 64=2:=yv;have⟨q1,p1⟩:=uv E C;have F:=hid (JS (s:=s) (k:=i+1) yv C);clear c1 C;have G:(((B s i:Nat):Int) % 32)*64+((B s (i+1):Nat):Int) % 64=((v2 s i:Nat):Int):=by unfold v2;omega
  have A:=hid G;clear G;by_cases v:128≤v2 s i
  ·have H:(128:Int)≤(((B s i:Nat):Int) % 32)*64+((B s (i+1):Nat):Int) % 64:=by rw[A.out];omega
   go_wp2_with fail;refine(zY _ _ D).mono ?_;rw[lead2 h];rintro e w' ⟨rfl,rfl⟩;go_wp2_with fail;refine wp_loop_rounds 2 ?_;rw[rounds_succ];go_wp2_with fail;rw[rounds_succ]
   go_wp2_with (go_at_call 180;refine(vY _ _ yv yv).mono ?_;rintro e w' ⟨rfl,rfl⟩)
   go_ret3;rcases dec2 h F.out with⟨_,d,k⟩|⟨d,k⟩
   ·exact .yes k d (uw A yv (by simp [Kp];omega))
   ·omega
  ·have H:¬(128:Int)≤(((B s i:Nat):Int) % 32)*64+((B s (i+1):Nat):Int) % 64:=by rw[A.out];omega
   go_wp2_with fail;refine(zY _ _ D).mono ?_;rw[lead2 h];rintro e w' ⟨rfl,rfl⟩;go_wp2_with fail;refine wp_loop_rounds 2 ?_;rw[rounds_succ];go_wp2_with fail;rw[rounds_succ];go_wp2_with fail;go_ret3;rcases dec2 h F.out with⟨d,_⟩|⟨_,k⟩
   ·omega
   ·exact .no k rfl
theorem decode3(s:ByteArray)(i:Nat)(w:World)(h0:i<s.size)(hs:s.size≤maxLen)(h:224≤B s i∧B s i<240):
    Calls prog 234 #[.string s,.int .i64 i] w (DecGives s i w):=by
  unfold maxLen at hs;have N:=getB s;have C:=JE s i;have F:=JE s (i+1);have G:=JE s (i+1+1);have M:(i:Int)<(s.size:Int):=yv;go_enter func234,ntmps234;by_cases hl:s.size≤i+2
  ·go_wp2_with fail;refine(zY _ _ C).mono ?_;rw[lead3 h];rintro e w' ⟨rfl,rfl⟩;go_wp2_with fail;go_ret3;exact .no (uM h (.inr (Zg (.inl yv)))) rfl
  by_cases c1:¬B s (i+1) / 64=2
  ·have⟨q1,p1⟩:=UL F c1;go_wp2_with fail;refine(zY _ _ C).mono ?_;rw[lead3 h];rintro e w' ⟨rfl,rfl⟩;go_wp2_with fail;refine wp_loop_rounds 1 ?_;rw[rounds_succ];go_wp2_with fail;go_ret3;exact .no (uM h (.inl (Zg (.inr c1)))) rfl
  have D:B s (i+1) / 64=2:=yv;have⟨q1,p1⟩:=uv F D;have I:=hid (JS (s:=s) (k:=i+1) yv D);clear c1 D;by_cases c2:¬B s (i+1+1) / 64=2
  ·have⟨q2,p2⟩:=UL G c2;go_wp2_with fail;refine(zY _ _ C).mono ?_;rw[lead3 h];rintro e w' ⟨rfl,rfl⟩;go_wp2_with fail;refine wp_loop_rounds 2 ?_;rw[rounds_succ];go_wp2_with fail;rw[rounds_succ];go_wp2_with fail;go_ret3;exact .no (uM h (.inr (Zg (.inr c2)))) rfl
  have E:B s (i+1+1) / 64=2:=yv;have⟨q2,p2⟩:=uv G E;have J:=hid (JS (s:=s) (k:=i+1+1) yv E);clear c2 E;have K:((((B s i:Nat):Int) % 16)*64+((B s (i+1):Nat):Int) % 64)*64+((B s (i+1+1):Nat):Int) % 64=((v3 s i:Nat):Int):=by unfold v3;rw[show i+2=i+1+1 from rfl];omega
  have A:=hid K;clear K;by_cases v:2048≤v3 s i
  ·have L:(2048:Int)≤((((B s i:Nat):Int) % 16)*64+((B s (i+1):Nat):Int) % 64)*64+((B s (i+1+1):Nat):Int) % 64:=by rw[A.out];omega
   go_wp2_with fail;refine(zY _ _ C).mono ?_;rw[lead3 h];rintro e w' ⟨rfl,rfl⟩;go_wp2_with fail;refine wp_loop_rounds 3 ?_;rw[rounds_succ];go_wp2_with fail;rw[rounds_succ];go_wp2_with fail;rw[rounds_succ]
   go_wp2_with (go_at_call 180;refine(vY _ _ yv yv).mono ?_;rintro e w' ⟨rfl,rfl⟩)
   go_ret3;rcases dec3 h I.out J.out with⟨_,H,d,k⟩|⟨d,k⟩
   ·exact .yes k d (uw A yv (by rw[A.out];exact H))
   ·have H:Kp (v3 s i)=false:=d.resolve_left yv;exact .no k (uw rfl rfl (by rw[A.out];exact H))
  ·have L:¬(2048:Int)≤((((B s i:Nat):Int) % 16)*64+((B s (i+1):Nat):Int) % 64)*64+((B s (i+1+1):Nat):Int) % 64:=by rw[A.out];omega
   go_wp2_with fail;refine(zY _ _ C).mono ?_;rw[lead3 h];rintro e w' ⟨rfl,rfl⟩;go_wp2_with fail;refine wp_loop_rounds 3 ?_;rw[rounds_succ];go_wp2_with fail;rw[rounds_succ];go_wp2_with fail;rw[rounds_succ];go_wp2_with fail;go_ret3;rcases dec3 h I.out J.out with⟨d,_⟩|⟨_,k⟩
   ·omega
   ·exact .no k rfl
theorem decode4(s:ByteArray)(i:Nat)(w:World)(h0:i<s.size)(hs:s.size≤maxLen)(h:240≤B s i∧B s i<248):
    Calls prog 234 #[.string s,.int .i64 i] w (DecGives s i w):=by
  unfold maxLen at hs;have Q:=getB s;have C:=JE s i;have G:=JE s (i+1);have H:=JE s (i+1+1);have I:=JE s (i+1+2);have P:(i:Int)<(s.size:Int):=yv;go_enter func234,ntmps234;by_cases hl:s.size≤i+3
  ·go_wp2_with fail;refine(zY _ _ C).mono ?_;rw[lead4 h];rintro e w' ⟨rfl,rfl⟩;go_wp2_with fail;go_ret3;exact .no (ZI h (.inr (.inr (Zg (.inl yv))))) rfl
  by_cases c1:¬B s (i+1) / 64=2
  ·have⟨q1,p1⟩:=UL G c1;go_wp2_with fail;refine(zY _ _ C).mono ?_;rw[lead4 h];rintro e w' ⟨rfl,rfl⟩;go_wp2_with fail;refine wp_loop_rounds 1 ?_;rw[rounds_succ];go_wp2_with fail;go_ret3;exact .no (ZI h (.inl (Zg (.inr c1)))) rfl
  have D:B s (i+1) / 64=2:=yv;have⟨q1,p1⟩:=uv G D;have K:=hid (JS (s:=s) (k:=i+1) yv D);clear c1 D;by_cases c2:¬B s (i+1+1) / 64=2
  ·have⟨q2,p2⟩:=UL H c2;go_wp2_with fail;refine(zY _ _ C).mono ?_;rw[lead4 h];rintro e w' ⟨rfl,rfl⟩;go_wp2_with fail;refine wp_loop_rounds 2 ?_;rw[rounds_succ];go_wp2_with fail;rw[rounds_succ];go_wp2_with fail;go_ret3;exact .no (ZI h (.inr (.inl (Zg (.inr c2))))) rfl
  have E:B s (i+1+1) / 64=2:=yv;have⟨q2,p2⟩:=uv H E;have L:=hid (JS (s:=s) (k:=i+1+1) yv E);clear c2 E;by_cases c3:¬B s (i+1+2) / 64=2
  ·have⟨q3,p3⟩:=UL I c3;go_wp2_with fail;refine(zY _ _ C).mono ?_;rw[lead4 h];rintro e w' ⟨rfl,rfl⟩;go_wp2_with fail;refine wp_loop_rounds 3 ?_;rw[rounds_succ];go_wp2_with fail;rw[rounds_succ];go_wp2_with fail;rw[rounds_succ];go_wp2_with fail;go_ret3;exact .no (ZI h (.inr (.inr (Zg (.inr c3))))) rfl
  have F:B s (i+1+2) / 64=2:=yv;have⟨q3,p3⟩:=uv I F;have M:=hid (JS (s:=s) (k:=i+1+2) yv F);clear c3 F;have N:(((((B s i:Nat):Int) % 8)*64+((B s (i+1):Nat):Int) % 64)*64+((B s (i+1+1):Nat):Int) % 64)*64+((B s (i+1+2):Nat):Int) % 64=((v4 s i:Nat):Int):=by unfold v4;rw[show i+2=i+1+1 from rfl,show i+3=i+1+2 from rfl];omega
  have A:=hid N;clear N;by_cases v:65536≤v4 s i
  ·have O:(65536:Int)≤(((((B s i:Nat):Int) % 8)*64+((B s (i+1):Nat):Int) % 64)*64+((B s (i+1+1):Nat):Int) % 64)*64+((B s (i+1+2):Nat):Int) % 64:=by rw[A.out];omega
   go_wp2_with fail;refine(zY _ _ C).mono ?_;rw[lead4 h];rintro e w' ⟨rfl,rfl⟩;go_wp2_with fail;refine wp_loop_rounds 4 ?_;rw[rounds_succ];go_wp2_with fail;rw[rounds_succ];go_wp2_with fail;rw[rounds_succ];go_wp2_with fail;rw[rounds_succ]
   go_wp2_with (go_at_call 180;refine(vY _ _ yv yv).mono ?_;rintro e w' ⟨rfl,rfl⟩)
   go_ret3;rcases dec4 h K.out L.out M.out with⟨_,J,d,k⟩|⟨d,k⟩
   ·exact .yes k d (uw A yv (by rw[A.out];exact J))
   ·have J:Kp (v4 s i)=false:=d.resolve_left yv;exact .no k (uw rfl rfl (by rw[A.out];exact J))
  ·have O:¬(65536:Int)≤(((((B s i:Nat):Int) % 8)*64+((B s (i+1):Nat):Int) % 64)*64+((B s (i+1+1):Nat):Int) % 64)*64+((B s (i+1+2):Nat):Int) % 64:=by rw[A.out];omega
   go_wp2_with fail;refine(zY _ _ C).mono ?_;rw[lead4 h];rintro e w' ⟨rfl,rfl⟩;go_wp2_with fail;refine wp_loop_rounds 4 ?_;rw[rounds_succ];go_wp2_with fail;rw[rounds_succ];go_wp2_with fail;rw[rounds_succ];go_wp2_with fail;rw[rounds_succ];go_wp2_with fail;go_ret3;rcases dec4 h K.out L.out M.out with⟨d,_⟩|⟨_,k⟩
   ·omega
   ·exact .no k rfl
theorem decode_any(s:ByteArray)(i:Nat)(w:World)(h0:i<s.size)(hs:s.size≤maxLen):
    Calls prog 234 #[.string s,.int .i64 i] w (DecGives s i w):=by
  have:=JE s i;rcases (by omega:B s i<128∨(128≤B s i∧B s i<192∨248≤B s i)∨(192≤B s i∧B s i<224)∨(224≤B s i∧B s i<240)∨(240≤B s i∧B s i<248)) with h|h|h|h|h
  ·exact decode1 s i w h0 hs h
  ·exact decodeX s i w h0 hs h
  ·exact decode2 s i w h0 hs h
  ·exact decode3 s i w h0 hs h
  ·exact decode4 s i w h0 hs h
def ChkGives(s:ByteArray)(w:World)(e:Ending)(w':World):Prop:=
  w=w'∧(KE s=true∧e=.returned (.tuple #[.int .i64 0,.int .i64 0])∨KE s=false∧∃n:Int,e=.returned (.tuple #[.int .i64 n,.int .i64 5]))
theorem UM(s:ByteArray)(w:World)(hs:s.size≤maxLen):
    Calls prog 198 #[.string s] w (ChkGives s w):=by
  have D:=hs;unfold maxLen at hs;go_enter func198,ntmps198
  go_wp2
  go_loop [2] (fun t=>∃k:Nat,k≤s.size∧t=.int .i64 k∧Hid (KE s=(jM s k).isSome)) (fun t=>s.size - (intOf t).toNat)
  case atStart=>exact⟨0,YX _,rfl,hid rfl⟩
  case round=>
    obtain⟨k,F,rfl,C⟩:=hrel;by_cases hlt:k<s.size
    ·have E:=vz hlt;go_wp2_with fail;refine(decode_any s k _ hlt D).mono ?_;rintro e w' ⟨rfl,⟨B,rfl⟩|⟨B,r,n,rfl⟩⟩
     ·have A:=hid B;clear B;go_wp2_with fail
      go_round
      case rel=>exact⟨k+(Utf8.decode s k).2,by omega,rfl,hid (by rw[C.out,Jo hlt A.out];simp)⟩
      case measure=>simp [intOf];omega
     ·have A:=hid B;clear B;go_wp2_with fail;go_ret2;exact⟨rfl,.inr ⟨by rw[C.out,vU hlt A.out];rfl,_,rfl⟩⟩
    ·go_wp2_with fail;go_ret2;exact⟨rfl,.inl ⟨by rw[C.out,Jn yv];rfl,rfl⟩⟩
theorem refMay_any(r:Int)(w:World)(h0:0≤r)(h1:r≤2147483647):Calls prog 209 #[.int .i32 r] w fun e w'=>
    w=w'∧e=.returned (.bool (Kp r)):=by
  by_cases a2:r<55296
  ·rw[show Kp r=true by simp [Kp];omega];go_enter func209,ntmps209
   go_wp2
   go_ret;exact⟨rfl,rfl⟩
  ·have:55296≤r:=yv;by_cases a3:57343<r
   ·rw[show Kp r=decide (r≤1114111) by unfold Kp;rw[Bool.eq_iff_iff];simp;omega];go_enter func209,ntmps209
    go_wp2
    go_ret;exact⟨rfl,rfl⟩
   ·rw[show Kp r=false by unfold Kp;rw[Bool.eq_false_iff];simp;omega];go_enter func209,ntmps209
    go_wp2
    go_ret;exact⟨rfl,rfl⟩
theorem Qs(r:Int)(w:World)(h0:0≤r)(h1:r≤1114111):Calls prog 113 #[.int .i32 r] w fun e w'=>
    w.alloc (.cells ((vR r).map (Value.int .u8)).toArray 5)=w'∧e=.returned (.slice (some ⟨w.heap.size,0,none⟩) (vR r).length (vR r).length):=by
  rcases (by omega:r<128∨(128≤r∧r<2048)∨(2048≤r∧r<65536)∨65536≤r) with a|⟨a,b⟩|⟨a,b⟩|a
  ·rw[encB1 a];go_enter func113,ntmps113
   go_wp2
   go_ret;exact⟨rfl,rfl⟩
  ·rw[encB2 a b];go_enter func113,ntmps113
   go_wp2
   go_ret;exact⟨rfl,rfl⟩
  ·rw[encB3 a b];go_enter func113,ntmps113
   go_wp2
   go_ret;exact⟨rfl,rfl⟩
  ·rw[encB4 a];go_enter func113,ntmps113
   go_wp2
   go_ret;exact⟨rfl,rfl⟩
def OneGives(s:ByteArray)(i:Nat)(w:World)(e:Ending)(w':World):Prop:=
  Below w.heap.size w w'∧(J6 s i=true∧e=.returned (.tuple #[.int .i32 (Utf8.decode s i).1,.int .i64 ((Utf8.decode s i).2:Int)])∨
    J6 s i=false∧e=.returned (.tuple #[.int .i32 0,.int .i64 0]))
theorem uQ{s:ByteArray}{i k:Nat}(h:J6 s i=true→k≤(Utf8.decode s i).2)(n:¬hit s i k):J6 s i=true→k+1≤(Utf8.decode s i).2:=by
  intro A;have:=h A;rcases Nat.lt_or_ge k (Utf8.decode s i).2 with a|a
  ·exact a
  ·exact absurd ⟨A,by omega⟩ n
theorem one_any(s:ByteArray)(i:Nat)(w:World)(hi:i<s.size)(hs:s.size≤maxLen):Calls prog 172 #[.string s,.int .i64 i] w (OneGives s i w):=by
  unfold maxLen at hs;have l:=getB s;have m:=JE s i;have Y:=JE s (i+1);have Z:=JE s (i+2);have a:=JE s (i+3);have b:(i:Int)<(s.size:Int):=yv;go_enter func172,ntmps172
  go_wp2
  go_loopw [6] (fun n wr=>∃k:Nat,1≤k∧n=.int .i64 k∧Below w.heap.size w wr∧Hid (J6 s i=true→k≤(Utf8.decode s i).2)) (fun n _=>5 - (intOf n).toNat)
  case atStart=>exact⟨1,by omega,rfl,Below.refl _ _,hid fun _=>(vz hi).2.1⟩
  case round=>
    obtain⟨k,Q,rfl,D,K⟩:=hrel;by_cases hin:k≤4∧i+k≤s.size
    ·obtain⟨H,L⟩:=hin;have c:=vOf_range s i k
     go_upto_block 2 with (fail)
     go_cut [7] (fun s7 wx=>s7=.int .i64 (vOf s i k)∧Below w.heap.size w wx)
     case first=>
       rcases (by omega:k=1∨k=2∨k=3∨k=4) with rfl|rfl|rfl|rfl
       ·go_wp2_with fail
        go_meet
        exact⟨rfl,D⟩
       ·have R:(i:Int)+1<s.size:=yv;go_wp2_with fail
        go_quiet (fail)
        go_wp2_with fail
        go_meet
        exact⟨rfl,below_drewN D _⟩
       ·have R:(i:Int)+1<s.size:=yv;have W:(i:Int)+2<s.size:=yv;go_wp2_with fail
        go_quiet (fail)
        go_wp2_with fail
        go_meet
        exact⟨rfl,below_drewN D _⟩
       ·have R:(i:Int)+1<s.size:=yv;have W:(i:Int)+2<s.size:=yv;have o:(i:Int)+3<s.size:=yv;go_wp2_with fail
        go_quiet (fail)
        go_wp2_with fail
        go_meet
        exact⟨rfl,below_drewN D _⟩
     case rest=>
       obtain⟨rfl,A⟩:=hcut;by_cases hm:Kp (vOf s i k)=true
       ·have d:=may_range hm;have B:=hid hm;clear hm;generalize hv:vOf s i k=v at *;have C:=hid hv;clear hv;have S:IntKind.i32.wrap v=v:=IntWalk.i32_in _ yv
        go_wp2_with (go_at_call 209;refine(refMay_any _ _ yv yv).mono ?_;rw[B.out];rintro e w' ⟨rfl,rfl⟩)
        have V:∀wx:World,(convert 169 9 (.slice (some ⟨wx.heap.size,0,none⟩) (vR v).length (vR v).length)).run prog (wx.alloc (.cells ((vR v).map (Value.int .u8)).toArray 5)).drew=.ok (.string (strOfNums (vR v))) (wx.alloc (.cells ((vR v).map (Value.int .u8)).toArray 5)).drew:=by
          intro wx;refine run_convert_bytes_arg _ 169 5 underlying169 underlying5 _ 0 _ _ _ rfl ?_ 9 underlying9;intro j X;rw[Nat.zero_add];show (wx.alloc _).cell? _=_;rw[World.cell?_alloc_new];simp [List.getD,X]
        have f:IntKind.i64.wrap ((i:Int)+(k:Int))=(i:Int)+k:=IntWalk.i64_in _ yv;have g:∀wx:World,(Instr.slice 9 (.string s) (some (.int .i64 (i:Int))) (some (.int .i64 ((i:Int)+(k:Int)))) none).run prog wx=.ok (.string (s.extract i (i+k))) wx:=by
          intro wx;have:=run_slice_string (P:=prog) (w:=wx) 9 s .i64 .i64 (i:Int) ((i:Int)+k) underlying9 yv yv yv;rw[this]
          congr 2
        have M:=enc_beq (v:=v) Q H L yv yv;by_cases hh:vR v=zU s i k
        ·rw[decide_eq_true hh] at M;have E:=hid hh;clear hh
         go_region_with (go_at_call 113;refine(Qs _ _ yv yv).mono ?_;rintro e w' ⟨rfl,rfl⟩)
         go_wp2_with fail;go_ret2;have F:hit s i k:=vOf_miss Q H L (by rw[C.out];exact B.out) (by rw[C.out];exact E.out);obtain⟨I,_⟩:=vOf_hit F;refine⟨(A.alloc A.size _).drew,.inl ⟨F.1,?_⟩⟩;rw[←I,F.2,C.out];rfl
        ·rw[decide_eq_false hh] at M;have E:=hid hh;clear hh
         go_region_with (go_at_call 113;refine(Qs _ _ yv yv).mono ?_;rintro e w' ⟨rfl,rfl⟩)
         go_wp2_with fail
         go_roundw
         case rel=>
           refine⟨k+1,by omega,by go_num,(A.alloc A.size _).drew,hid (uQ K ?_)⟩;intro F;obtain⟨I,_,T,_⟩:=vOf_hit F;rw[←I,C.out] at T;exact E.out T
         case measure=>simp [intOf];omega
       ·have N:¬hit s i k:=by
          intro F;obtain⟨I,U,_⟩:=vOf_hit F;rw[←I] at U;exact hm U
        have G:=hid N;clear N;have O:Kp (vOf s i k)=false:=by simpa using hm
        clear hm;have B:=hid O;clear O;generalize hv:vOf s i k=v at *;clear hv;by_cases hr:0≤v∧v≤1114111
        ·have S:IntKind.i32.wrap v=v:=IntWalk.i32_in _ yv
         go_wp2_with (go_at_call 209;refine(refMay_any _ _ yv yv).mono ?_;rw[B.out];rintro e w' ⟨rfl,rfl⟩)
         go_roundw
         case rel=>exact⟨k+1,by omega,by go_num,A,hid (uQ K G)⟩
         case measure=>simp [intOf];omega
        ·by_cases hr0:v<0
         rotate_left
         focus
           have h:1114111<v:=yv
         all_goals
           go_wp2_with fail
           go_roundw
           case rel=>exact⟨k+1,by omega,by go_num,A,hid (uQ K G)⟩
           case measure=>simp [intOf];omega
    ·have J:OneGives s i w (.returned (.tuple #[.int .i32 0,.int .i64 0])) wr:=by
       refine⟨D,.inr ⟨?_,rfl⟩⟩;cases ho:J6 s i
       ·rfl
       ·have:=K.out ho;have:=vz hi;omega
     by_cases H:k≤4
     ·go_wp2_with fail;go_ret2;exact J
     ·go_wp2_with fail;go_ret2;exact J
end
section
open Go.RowKit
theorem vE{a b:Bool}(h:a=b):Ending.returned (.bool a)=.returned (.bool b):=by rw[h]
theorem shown_any(r:Nat)(w:World)(hr:r≤2147483647):Calls prog 211 #[.int .i32 r] w fun e w'=>w=w'∧e=.returned (.bool (jQ r)):=by
  have A:32≤r∧r≠127→jQ r=true:=by intro h;simp [jQ,h]
  have B:¬(32≤r∧r≠127)→jQ r=false:=by intro h;rw[Bool.eq_false_iff];simp [jQ];omega
  rcases (by omega:r<32∨r=127∨(32≤r∧r<127)∨127<r) with h|h|h|h
  all_goals
    first
    |rw[A yv]
    |rw[B yv]
    clear A B
    first
    |(subst h;go_enter func211,ntmps211;go_wp2;go_ret;refine⟨rfl,vE ?_⟩;simp;done)
    |(go_enter func211,ntmps211;go_wp2;go_ret;refine⟨rfl,vE ?_⟩;simp;omega)
    |(go_enter func211,ntmps211;go_wp2;go_ret;refine⟨rfl,vE ?_⟩;simp;done)
    |(go_enter func211,ntmps211;go_wp2;go_ret;refine⟨rfl,vE ?_⟩;simp;omega)
theorem all_head{p:Nat→Bool}{s:ByteArray}{k:Nat}(h:k<s.size)(ho:J6 s k=true):
    ((jM s k).map (·.all p))=(((jM s (k+(Utf8.decode s k).2)).map (·.all p)).map (p (Utf8.decode s k).1 && ·)):=by
  rw[Jo h ho];cases jM s (k+(Utf8.decode s k).2)<;>simp
def okFrom(s:ByteArray)(k:Nat):Prop:=(jM s k).isSome=true
theorem okFrom.at_{s:ByteArray}{k:Nat}(h:okFrom s k)(hk:k<s.size):J6 s k=true∧okFrom s (k+(Utf8.decode s k).2):=by
  cases ho:J6 s k
  ·unfold okFrom at h;rw[vU hk ho] at h;cases h
  ·refine⟨rfl,?_⟩;unfold okFrom at h ⊢;rw[Jo hk ho] at h
   simpa using h
theorem Ul(s:ByteArray)(w:World)(hs:s.size≤maxLen):
    Calls prog 210 #[.string s,.func (.func 211) #[] #[]] w fun e w'=>Below w.heap.size w w'∧e=.returned (.bool (Kr s jQ)):=by
  go_enter func210,ntmps210;go_wp2_with fail;refine(UM s _ hs).mono ?_;rintro e R ⟨rfl,⟨E,rfl⟩|⟨E,n,rfl⟩⟩
  ·have F:Kr s jQ=((jM s 0).map (·.all jQ)).getD false:=by
     unfold Kr;rw[uN];cases jM s 0<;>rfl
   have I:=Lib.hid F;clear F;have G:okFrom s 0:=E;have J:=Lib.hid G;clear G;clear E;unfold maxLen at hs;go_wp2_with fail
   go_loopw [] (fun wr=>∃k:Nat,k≤s.size∧wr=w.iter s k∧Hid (okFrom s k)∧Hid (Kr s jQ=((jM s k).map (·.all jQ)).getD false)) (fun wr=>s.size - wr.iterPos w.heap.size)
   case atStart=>exact⟨0,by omega,rfl,J,I⟩
   case round=>
     obtain⟨k,S,rfl,P,L⟩:=hrel;by_cases hp:k<s.size
     ·have M:∀B,(Instr.next (.pointer (some ⟨w.heap.size,0,none⟩)) true B).run prog (w.iter s k)=_:=fun B=>run_next_any w s k B hp
      have Q:=vz hp;have N:=decode_le s k;obtain⟨O,H⟩:=P.at_ hp;have C:=Lib.hid O;clear O;have D:=Lib.hid H;clear H;cases hpr:jQ (Utf8.decode s k).1
      all_goals
        have A:=Lib.hid hpr;clear hpr;go_wp2_with fail;refine(shown_any _ _ N).mono ?_;rintro e T ⟨rfl,rfl⟩;rw[A.out];go_wp2_with fail
      ·go_ret;refine⟨(qB _ w).alloc (qR _) _,?_⟩;rw[L.out,all_head hp C.out,A.out];cases jM s (k+(Utf8.decode s k).2)<;>rfl
      ·go_roundw
       case rel=>
         refine⟨k+(Utf8.decode s k).2,by omega,rfl,D,Lib.hid ?_⟩;rw[L.out,all_head hp C.out,A.out];cases jM s (k+(Utf8.decode s k).2)<;>simp
       case measure=>simp;omega
     ·have M:∀B,(Instr.next (.pointer (some ⟨w.heap.size,0,none⟩)) true B).run prog (w.iter s k)=_:=fun B=>run_next_end w s k B hp
      go_wp2_with fail;go_ret;refine⟨(qB _ w).alloc (qR _) _,?_⟩;rw[L.out,Jn yv];rfl
  ·have K:=Lib.hid E;clear E;go_wp2_with fail;go_ret;exact⟨qB _ _,by rw[plainB_text K.out];rfl⟩
end
section
open Go.RowKit
open Lib (hid)
theorem ba(a b c:Bool)(h:a=true)(h':b=true):(a && b && c)=c:=by rw[h,h'];simp
theorem uR(s:ByteArray)(w:World)(hs:s.size≤maxLen):Calls prog 226 #[.string s] w fun e w'=>Below w.heap.size w w'∧e=.returned (.bool (K8 s)):=by
  have A:=hs;unfold maxLen at hs;by_cases h1:1≤s.size
  ·by_cases h2:s.size≤32
   ·rw[show K8 s=Kr s jQ by simp [K8,h1,h2]];go_enter func226,ntmps226
    go_wp2_with (go_at_call 210;refine(Ul s _ A).mono ?_;rintro e C ⟨B,rfl⟩)
    go_ret;exact⟨B,rfl⟩
   ·rw[show K8 s=false by simp [K8,h2]];go_enter func226,ntmps226;go_wp2_with fail;go_ret;exact⟨Below.refl _ _,rfl⟩
  ·rw[show K8 s=false by simp [K8,h1]];go_enter func226,ntmps226;go_wp2_with fail;go_ret;exact⟨Below.refl _ _,rfl⟩
def Glob(w:World):Prop:=∃m:Int,w.cell? ⟨0,0,none⟩=some (.int .i64 m)
theorem Glob.keep{w w':World}{B:Nat}(h:Glob w)(hb:Below B w w')(hB:0<B):Glob w':=by
  obtain⟨m,A⟩:=h;exact⟨m,(hb.cell (p:=⟨0,0,none⟩) hB).trans A⟩
theorem Glob.lt{w:World}(h:Glob w):0<w.heap.size:=by
  obtain⟨m,A⟩:=h;rcases Nat.lt_or_ge 0 w.heap.size with a|a
  ·exact a
  ·unfold World.cell? at A;rw[Array.getElem?_eq_none a] at A;cases A
theorem Glob.next{w w':World}(h:Glob w)(hb:Below w.heap.size w w'):Glob w':=h.keep hb h.lt
theorem piece_eq(p:ByteArray):JF (L p)=(!p.toList.isEmpty && !(p.toList == [46]) && !(p.toList == [46,46])):=by
  rw[JJ,Bool.eq_iff_iff];simp [JF]
theorem ZU(s:ByteArray)(w:World)(hs:s.size≤maxLen)(hg:Glob w):Calls prog 173 #[.string s] w fun e w'=>Below w.heap.size w w'∧e=.returned (.bool (jZ s)):=by
  have O:=hs;unfold maxLen at hs;by_cases h1:s.size<1
  ·rw[show jZ s=false by simp [jZ];omega];go_enter func173,ntmps173;go_wp2_with fail;go_ret;exact⟨Below.refl _ _,rfl⟩
  by_cases h2:64<s.size
  ·rw[show jZ s=false by simp [jZ];omega];go_enter func173,ntmps173;go_wp2_with fail;go_ret;exact⟨Below.refl _ _,rfl⟩
  cases hp:Kr s jQ
  ·have B:=hid hp;clear hp;rw[show jZ s=false by simp [jZ,B.out]];go_enter func173,ntmps173
   go_wp2_with (go_at_call 210;refine(Ul s _ O).mono ?_;rw[B.out];rintro e U ⟨E,rfl⟩)
   go_ret;exact⟨E,rfl⟩
  ·have B:=hid hp;clear hp;have I:Hid (jZ s=((Lib.splitB KN 0 (Lib.countB s KN) s).map L).all JF):=hid (by rw[qv];simp [jZ,B.out];omega);have K:=Lib.splitB_all KN yj 0 (Lib.countB s KN) s rfl;have W:=Lib.countB_le KN yj _ s (xY _);generalize hq:Lib.splitB KN 0 (Lib.countB s KN) s=q at *;have R:=hid hq;clear hq;have b:q.length≤65:=yv;have S:=hid K;clear K W;go_enter func173,ntmps173
   go_wp2_with (go_at_call 210;refine(Ul s _ O).mono ?_;rw[B.out];rintro e U ⟨E,rfl⟩)
   obtain⟨m,Z⟩:=hg.next E;refine(Tryz.strings_Split s KN m U yv Z yj).mono ?_;rw[R.out,←S.out];rintro e X ⟨rfl,M⟩;have F:Below w.heap.size w X:=by rw[M];exact E.alloc E.size _
   have G:∀j,(h:j<q.length)→X.cell? ⟨U.heap.size,j,none⟩=some (.string q[j]):=by
     intro j h;rw[M,World.cell?_alloc_new];simp [h]
   have T:=hid G;clear G M;go_wp2_with fail
   go_loop [21] (fun t=>∃k:Nat,k≤q.length∧t=.int .i64 k∧Hid (∀j (h:j<q.length),j<k→JF (L q[j])=true)) (fun t=>q.length - (intOf t).toNat)
   case atStart=>exact⟨0,by omega,rfl,hid fun j _ N=>absurd N yv⟩
   case round=>
     obtain⟨k,d,rfl,Y⟩:=hrel;by_cases hlt:k<q.length
     ·have f:=T.out k hlt;have P:=piece_eq q[k];have H:JF (L q[k])=false→jZ s=false:=by
        intro h;rw[I.out,List.all_eq_false];exact⟨L q[k],List.mem_map_of_mem (yQ hlt),by simp [h]⟩
      have Q:JF (L q[k])=true→∀j (h:j<q.length),j<k+1→JF (L q[j])=true:=by
        intro h j N c;rcases (by omega:j<k∨j=k) with V|V
        ·exact Y.out j N V
        ·subst V;exact h
      generalize hqk:q[k]=p at *;clear hqk;have A:=hid P;clear P;have C:=hid H;clear H;have J:=hid Q;clear Q;cases e1:p.toList.isEmpty
      ·cases e2:(p.toList == [46])
       ·cases e3:(p.toList == [46,46])
        ·have D:Hid (JF (L p)=true):=hid (by rw[A.out,e1,e2,e3];rfl);go_wp2_with fail
         go_round
         case rel=>exact⟨k+1,by omega,by go_num,hid (J D)⟩
         case measure=>simp [intOf];omega
        ·have D:Hid (jZ s=false):=hid (C (by rw[A.out,e1,e2,e3];rfl));go_wp2_with fail;go_ret;exact⟨F,by rw[D.out];rfl⟩
       ·have D:Hid (jZ s=false):=hid (C (by rw[A.out,e1,e2];rfl));go_wp2_with fail;go_ret;exact⟨F,by rw[D.out];rfl⟩
      ·have D:Hid (jZ s=false):=hid (C (by rw[A.out,e1];rfl));go_wp2_with fail;go_ret;exact⟨F,by rw[D.out];rfl⟩
     ·go_wp2_with fail;go_ret;refine⟨F,?_⟩;have:jZ s=true:=by
        rw[I.out,List.all_eq_true];intro x a;obtain⟨y,D,rfl⟩:=List.mem_map.1 a;obtain⟨j,N,rfl⟩:=List.getElem_of_mem D;exact Y.out j N yv
      rw[this];rfl
end
section
open Go.RowKit
theorem L_app(a b:ByteArray):L (a++b)=L a++L b:=Go.Joins.data_append a b
theorem under_any(a b:ByteArray)(w:World)(ha:a.size≤140737488355328):Calls prog 44 #[.string a,.string b] w fun e w'=>w=w'∧e=.returned (.bool (uO (L a) (L b))):=by
  go_enter func44,ntmps44;go_wp2_with fail;refine(Tryz.strings_HasPrefix b _ _).mono ?_;rintro e A ⟨rfl,B⟩;obtain rfl:A=w:=B;go_wp2_with fail;go_ret;exact⟨rfl,vE rfl⟩
theorem clash_any(a b:ByteArray)(w:World)(ha:a.size≤140737488355328)(hb:b.size≤140737488355328):Calls prog 14 #[.string a,.string b] w fun e w'=>w=w'∧e=.returned (.bool (Ki (L a) (L b))):=by
  have C:=str_beq a b;by_cases h1:L a=L b
  ·rw[decide_eq_true h1] at C;rw[show Ki (L a) (L b)=true by simp [Ki,h1]];clear h1;go_enter func14,ntmps14;go_wp2_with fail;go_ret;exact⟨rfl,rfl⟩
  ·rw[decide_eq_false h1] at C;have A:Ki (L a) (L b)=(uO (L a) (L b) || uO (L b) (L a)):=by simp [Ki,h1]
   rw[A];clear h1 A;cases hu:uO (L a) (L b)
   all_goals
     have B:=Lib.hid hu;clear hu;go_enter func14,ntmps14;go_wp2_with fail;refine(under_any a b _ ha).mono ?_;rw[B.out];rintro e D ⟨rfl,rfl⟩;go_wp2_with fail
   ·refine(under_any b a _ hb).mono ?_;rintro e D ⟨rfl,rfl⟩;go_wp2_with fail;go_ret;exact⟨rfl,vE yZ⟩
   ·go_ret;exact⟨rfl,vE yZ⟩
def strs(l:List ByteArray):List Value:=l.map Value.string
def Ls(l:List ByteArray):List (List UInt8):=l.map L
def smallL(l:List ByteArray):Prop:=∀t∈l,t.size≤140737488355328
theorem indexByte_first(l:List UInt8):Lib.indexByte l 47=if (47:UInt8)∈l then ((z7 l).length:Int) else -1:=by
  induction l with
  |nil=>rfl
  |cons c l ih=>
   unfold Lib.indexByte;by_cases hc:c=47
   ·subst hc;simp [z7]
   ·have B:¬(c == 47)=true:=by simpa using hc
    have C:(c != 47)=true:=by simp [hc]
    rw[if_neg B,ih];by_cases hm:(47:UInt8)∈l
    ·have A:(47:UInt8)∈c::l:=List.mem_cons_of_mem _ hm;have D:¬(((z7 l).length:Int) == -1)=true:=by simp
     rw[if_pos hm,if_pos A,if_neg D];unfold z7;rw[List.takeWhile_cons,if_pos C];simp
    ·have A:(47:UInt8)∉c::l:=by
        intro h;rcases xK.1 h with e|e
        ·exact hc e.symm
        ·exact hm e
     rw[if_neg hm,if_neg A];rfl
theorem firstc_take(l:List UInt8):l.take (z7 l).length=z7 l:=by
  conv=>lhs;arg 2;rw[←KF l]
  exact List.take_left
theorem firstc_drop(l:List UInt8):l.drop (z7 l).length=restc l:=by
  conv=>lhs;arg 2;rw[←KF l]
  exact List.drop_left
theorem firstc_le(l:List UInt8):(z7 l).length≤l.length:=by
  have:=congrArg List.length (KF l);simp at this;omega
theorem restc_none{l:List UInt8}(h:(47:UInt8)∉l):restc l=[]:=by
  have:=KF l;rw[ZS h] at this;have:=congrArg List.length this;simp at this;exact this
theorem clashes_no{t:List UInt8}{taken:List (List UInt8)}(h:∀j (hj:j<taken.length),Ki t taken[j]=false):zu t taken=false:=by
  unfold zu;rw[List.any_eq_false];intro x A;obtain⟨j,hj,rfl⟩:=List.getElem_of_mem A;simp [h j hj]
theorem clashes_yes{t:List UInt8}{taken:List (List UInt8)}{j:Nat}(hj:j<taken.length)(h:Ki t taken[j]=true):zu t taken=true:=by
  unfold zu;rw[List.any_eq_true];exact⟨_,yQ hj,h⟩
structure Trying (s:ByteArray) (taken:List (List UInt8)) (k f:Nat) (t:ByteArray):Prop where
  one:1≤k
  sum:k+f=taken.length+3
  size:t.size≤s.size+4
  is:JG (L s) taken=JT (L s) taken f k (L t)
  cand:2≤k→L t=Z4 (L s) (k - 1)
  behind:∀j,1≤j→j+1<k→zu (Z4 (L s) j) taken=true
theorem Trying.start(s:ByteArray)(taken:List (List UInt8)):Trying s taken 1 (taken.length+2) s:=
  ⟨by omega,by omega,by omega,rfl,fun h=>absurd h yv,fun j B A=>absurd A yv⟩
theorem Trying.left{s t:ByteArray}{taken:List (List UInt8)}{k f:Nat}(h:Trying s taken k f t):∃g,f=g+1∧k≤taken.length+2:=by
  have:=cand_few (l:=L s) (taken:=taken) (m:=k - 2) (fun j A B=>h.behind j A yv);have:=h.sum;exact⟨f - 1,by omega,by omega⟩
theorem Trying.next{s t t':ByteArray}{taken:List (List UInt8)}{k f:Nat}(h:Trying s taken k (f+1) t)(hc:zu (L t) taken=true)(ht:L t'=Z4 (L s) k)(hz:t'.size≤s.size+4):Trying s taken (k+1) f t':=by
  have B:=h.one;refine⟨by omega,by have:=h.sum;omega,hz,?_,fun _=>by rw[Nat.add_sub_cancel];exact ht,fun j A C=>?_⟩
  ·rw[h.is,JT,if_pos hc,ht]
  ·rcases (by omega:j+1<k∨j=k - 1) with a|a
   ·exact h.behind j A a
   ·subst a;rw[←h.cand yv];exact hc
theorem Trying.done{s t:ByteArray}{taken:List (List UInt8)}{k f:Nat}(h:Trying s taken k (f+1) t)(hc:zu (L t) taken=false):L t=JG (L s) taken:=by
  rw[h.is,JT,if_neg (by rw[hc];simp)]
theorem own:ownKnob prog.godebug=none:=yq
theorem laidOut:laidOutB prog=true:=yq
theorem glob0{W:World}(h:W.ShapedOpen prog):∃m:Int,W.cell? ⟨0,0,none⟩=some (.int .i64 m):=
  cell_of_shapedOpen_int (zero:=#[.int .i64 0]) (t:=3) h (of_decide_eq_true yq) yq rfl yq yq underlying3
theorem witness_laid{H:Type}{enc:TypeId×Value→H}{C:Checked}{os:Os}{f:FuncId}{fn:Func}{s:OpenSpec}{conds:List PathCond}{apart:Bool}{laid:List (String×DataW Unit)}(w0:World)(args:Array Value)(hos:w0.os=os)
    (hsh:(w0.forCall (fun _ _=>0) ⟨#[],args,[]⟩).Shaped C.prog)
    (hok:Input.okWideB C.prog (w0.forCall (fun _ _=>0) ⟨#[],args,[]⟩) f ⟨#[],args,[]⟩=true)
    (hrow:s.preRow enc C.prog fn conds apart laid (w0.forCall (fun _ _=>0) ⟨#[],args,[]⟩).memory args):
    ∃(w:World) (tape:Tape) (i:Input),w.os=os∧(w.forCall tape i).Shaped C.prog∧i.vars=[]∧Input.okWide C.prog (w.forCall tape i) .any w.heap.size f i∧
     s.preRow enc C.prog fn conds apart laid (w.forCall tape i).memory i.args∧({}:Assume).holds C.prog (lone (Frame.enter C.prog f i.args .normal) [] (w.forCall tape i)):=
  ⟨w0,fun _ _=>0,⟨#[],args,[]⟩,hos,hsh,(Input.okWide_of_okWideB (base:=0) hok).1,(Input.okWide_of_okWideB hok).2,hrow,by
    simp only[Assume.holds];exact⟨by simp,by simp,fun _=>Modest.zero,by simp,by simp⟩⟩
end
section
open Go.ChangeShapes Go.WideShapes Go.ChangeAt Go.RowKit
theorem addr_add(b off k:Nat):(⟨b,off,none⟩:Addr).add k=⟨b,off+k,none⟩:=by unfold Addr.add;split<;>simp_all
theorem vF{H:Type}{P:Program}{e:TypeId}:∀{l:List (DataW H)} {d:DataW H},d∈l→∀n∈d.weights P e,n∈DataW.weightsAll P e l
  |d'::r,d,hd,n,hn=>by
   simp only[DataW.weightsAll,xJ];rcases xK.1 hd with rfl|h
   ·exact Or.inl hn
   ·exact Or.inr (vF h n hn)
end
section
open Go.RowKit Go.ChangeShapes Go.WideShapes Go.ChangeAt
section
variable {α:Type} {enc:α→List Value} {sz:Nat}
def kf(enc:α→List Value)(l:List α):List Value:=l.flatMap enc
theorem jb:∀{l:List α},(∀x∈l,(enc x).length=sz)→(kf enc l).length=l.length*sz
  | [],_=>by simp [kf]
  |a::l,h=>by
   have h1:=h a yZ;have A:=jb (l:=l) fun x B=>h x (by simp [B])
   simp only[kf,List.flatMap_cons,yV,Yx] at A ⊢;rw[h1,A,Nat.add_mul];omega
theorem vu(a b:List α):kf enc (a++b)=kf enc a++kf enc b:=by simp [kf]
theorem K9:∀{l:List α},(∀x∈l,(enc x).length=sz)→∀(i:Nat) (h:i<l.length) (j:Nat) (u:Value),(enc l[i])[j]?=some u→(kf enc l)[i*sz+j]?=some u
  | [],_,_,h,_,_,_=>by cases h
  |a::l,ho,0,_,j,u,hj=>by
   have A:(enc a).length=sz:=ho a yZ;have B:=(yJ.1 hj).1;simp only[kf,List.flatMap_cons,Nat.zero_mul,Nat.zero_add];rw[xv (by simpa using B)];exact hj
  |a::l,ho,i+1,h,j,u,hj=>by
   have A:(enc a).length=sz:=ho a yZ;have:=K9 (l:=l) (fun x C=>ho x (by simp [C])) i (by simpa using h) j u (by simpa using hj);simp only[kf,List.flatMap_cons] at this ⊢;rw[xx (by rw[A,Nat.add_mul];omega),A,show (i+1)*sz+j - sz=i*sz+j by rw[Nat.add_mul];omega];exact this
theorem Sl.row{w:World}{b off:Nat}{l:List α}(ho:∀x∈l,(enc x).length=sz)(h:∀j u,(kf enc l)[j]?=some u→w.cell? ⟨b,off+j,none⟩=some u){i:Nat}(hi:i<l.length):∀j u,(enc l[i])[j]?=some u→w.cell? ⟨b,off+i*sz+j,none⟩=some u:=by
  intro j u A;rw[Nat.add_assoc];exact h _ _ (K9 ho i hi j u A)
end
theorem open_rows{H:Type}{encH:TypeId×Value→H}{P:Program}{W:World}{t e:TypeId}{α:Type}[Inhabited α]{enc:α→List Value}{ok:α→Prop}{sz:Nat}(ht:P.underlying t=some (.slice e))(hce:P.cellsOf e=sz)(hsz:0<sz)(hlen:∀x,ok x→(enc x).length=sz)
    (dec:∀n cs x,DataW.trod encH P W 0 (fun _=>true) true n e cs=some x→∃c:α,ok c∧cs=enc c)
    {a:Option Addr} {len cap:Nat} {d:DataW H} {ps:List MemPlace} (h:DataW.Trod encH P W 0 (fun _=>true) true t (.slice a len cap) d ps):
    ∃l:List α,l.length=len∧len≤maxLen∧len≤cap∧(∀c∈l,ok c)∧Sl W W.heap.size a l.length sz (kf enc l):=by
  obtain⟨s,w⟩:=h;rcases Go.Deep.open_slice ht w with⟨B,_⟩|⟨x,ln,c,m,n,D,Pl,B,_,y,hm,X,A0,z⟩
  ·simp [Value.cells] at B;obtain⟨rfl,rfl,rfl⟩:=B;exact⟨[],rfl,by unfold maxLen;omega,by omega,fun t ht=>absurd ht yZ,Sl.nil⟩
  ·simp [Value.cells] at B;obtain⟨rfl,rfl,rfl⟩:=B;have Y:m=cap:=by simpa using X
   subst Y;have T:∀i,i<len→∃q:α,ok q∧W.cells? 0 (x.add (i*sz)) sz=some (enc q):=by
     intro i C;obtain⟨A1,Z,h2⟩:=z i yv;obtain⟨q,hq,rfl⟩:=dec _ _ _ h2;rw[hce] at Z;exact⟨q,hq,Z⟩
   obtain⟨F,O⟩:=Go.Deep.choose_lt T;have R:∀c∈(List.range len).map F,ok c:=by
     intro c E;obtain⟨i,C,rfl⟩:=List.mem_map.1 E;exact(O i (by simpa using C)).1
   have A:∀c∈(List.range len).map F,(enc c).length=sz:=fun c E=>hlen c (R c E)
   refine⟨(List.range len).map F,by simp,by omega,y,R,jb A,fun U=>?_⟩;have I:((List.range len).map F).length=len:=by simp
   rw[I] at U;obtain⟨b,J,K⟩:=x;have G:∀i,i<len→∀k,k<sz→W.cell? ((⟨b,J,K⟩:Addr).add (i*sz+k))=(enc (F i))[k]?:=by
     intro i C k Q;obtain⟨_,r,E⟩:=World.cells?_some (O i C).2;have:=E k Q;rw[Go.Deep.add_add] at this;exact this
   have L:=G 0 U 0 hsz;have M:∃v,(enc (F 0))[0]?=some v:=⟨_,yK (by rw[hlen _ (O 0 U).1];exact hsz)⟩;obtain⟨v0,M⟩:=M;rw[M] at L;obtain rfl:K=none:=by simpa [Addr.add] using World.cell?_spot L
   have V:b<W.heap.size:=by
     have N:W.cell? ⟨b,J,none⟩=some v0:=by simpa [Addr.add] using L
     rcases Nat.lt_or_ge b W.heap.size with q|q
     ·exact q
     ·unfold World.cell? at N;rw[Array.getElem?_eq_none q] at N;cases N
   refine⟨b,J,rfl,V,fun j u f=>?_⟩;have g:=(yJ.1 f).1;rw[jb A,I] at g;have C:j / sz<len:=(Nat.div_lt_iff_lt_mul hsz).2 g;have Q:j % sz<sz:=Nat.mod_lt _ hsz;have S:j / sz*sz+j % sz=j:=by rw[Nat.mul_comm];exact Nat.div_add_mod j sz
   have E:=G (j / sz) C (j % sz) Q;rw[S,addr_add] at E;obtain⟨v,o⟩:∃v,(enc (F (j / sz)))[j % sz]?=some v:=⟨_,yK (by rw[hlen _ (O _ C).1];exact Q)⟩;have p:=K9 A (j / sz) (by rw[I];exact C) (j % sz) v (by simpa using o);rw[S,f] at p;rw[E,o,Option.some.inj p]
end
section
open Go.RowKit
theorem run_copy_rowN{P:Program}(w:World)(dT sT ty elem:TypeId)(sz g o dLen dCap:Nat)(a:Addr)(sLen sCap:Nat)(cur:Array Value)(t:TypeId)(cs:List Value)
    (hu:P.underlying dT=some (.slice elem)) (hs:(P.info? elem).map (·.size)=some sz)
    (hg:w.heap[g]?=some (.cells cur t (0,0))) (hn:cs.length=Nat.min sLen dLen*sz)
    (hsrc:∀j v,cs[j]?=some v→w.cell? (a.add j)=some v) (hfit:o+cs.length≤cur.size) (h1:∀v∈cs,v.oneCell'=true):
    (Builtin.copy_ #[dT,sT] ty #[.slice (some ⟨g,o,none⟩) dLen dCap,.slice (some a) sLen sCap]).run P w=
      .ok (goInt (Nat.min sLen dLen)) (w.setRow g (cur.toList.take o++cs++cur.toList.drop (o+cs.length)).toArray):=by
  have B:=run_loadCells_list (P:=P) w a cs hsrc;have A:=run_storeCells_at P g o t cs 0 cur w hg (by simpa using hfit) h1;cases hq:P.info? elem with
  |none=>simp [hq] at hs
  |some i=>
   have C:i.size=sz:=by simpa [hq] using hs
   simp [Builtin.copy_,run_underlying hu,Builtin.lenOf,Builtin.firstCells,sizeOf,typeInfo,hq,C,←hn,B,A]
theorem KP{w:World}{B sz n:Nat}{e:TypeId}{v:Value}{xs:List Value}(h:w.ownsRow B e sz v n xs)(hn:0<n):
    ∃g A tail,v=.slice (some ⟨g,0,none⟩) n A∧B≤g∧w.heap[g]?=some (.cells (xs++tail).toArray e (0,0))∧n≤A∧A≤maxLen∧tail.length=(A - n)*sz:=by
  obtain⟨L,D⟩:=h;rcases D with⟨_,M⟩|⟨g,A,C,E,F,G,H,I,J,K⟩
  ·omega
  ·refine⟨g,A,C.toList.drop (n*sz),E,F,?_,H,I,?_⟩
   ·rw[←K,List.take_append_drop];simpa using G
   ·rw[List.length_drop,Array.length_toList,J,Nat.sub_mul]
theorem Qt{w:World}{B sz n g cap:Nat}{e:TypeId}{xs tail:List Value}(hl:xs.length=n*sz)(hB:B≤g)(hg:w.heap[g]?=some (.cells (xs++tail).toArray e (0,0)))(hc:n≤cap)(hm:cap≤maxLen)(ht:tail.length=(cap - n)*sz):
    w.ownsRow B e sz (.slice (some ⟨g,0,none⟩) n cap) n xs:=by
  refine⟨hl,.inr ⟨g,cap,(xs++tail).toArray,rfl,hB,hg,hc,hm,?_,?_⟩⟩
  ·rw[xz,yV,hl,ht,←Nat.add_mul,show n+(cap - n)=cap by omega]
  ·show (xs++tail).take (n*sz)=xs;rw[←hl,List.take_left]
section
variable {α:Type} {enc:α→List Value} {sz:Nat}
theorem rowsV_drop{l:List α}(ho:∀x∈l,(enc x).length=sz){i:Nat}(hi:i≤l.length):kf enc (l.drop i)=(kf enc l).drop (i*sz):=by
  have A:(kf enc (l.take i)).length=i*sz:=by
    rw[jb fun x B=>ho x (YQ B),Yj,Nat.min_eq_left hi]
  have C:kf enc l=kf enc (l.take i)++kf enc (l.drop i):=by rw[←vu,List.take_append_drop]
  rw[C,←A,List.drop_left]
theorem shift_rows{l:List α}(ho:∀x∈l,(enc x).length=sz){i:Nat}(hi:i≤l.length){z tail:List Value}(hz:z.length=sz):
    ∃m,m.length=sz∧((kf enc l++z)++tail).take ((i+1)*sz)++kf enc (l.drop i)++((kf enc l++z)++tail).drop ((i+1)*sz+(kf enc (l.drop i)).length)=kf enc (l.take i)++(m++(kf enc (l.drop i)++tail)):=by
  have B:=jb ho;have E:(kf enc (l.drop i)).length=(l.length - i)*sz:=by rw[jb fun x A=>ho x (List.mem_of_mem_drop A),List.length_drop]
  have C:(kf enc (l.take i)).length=i*sz:=by rw[jb fun x A=>ho x (YQ A),Yj,Nat.min_eq_left hi]
  have D:(i+1)*sz≤(kf enc l++z).length:=by
    rw[yV,B,hz,←Nat.succ_mul];exact Nat.mul_le_mul_right _ yv
  have F:kf enc l=kf enc (l.take i)++kf enc (l.drop i):=by rw[←vu,List.take_append_drop]
  refine⟨((kf enc (l.drop i)++z)).take sz,?_,?_⟩
  ·rw[Yj,yV,hz];omega
  ·have G:((kf enc l++z)++tail).take ((i+1)*sz)=kf enc (l.take i)++(kf enc (l.drop i)++z).take sz:=by
     rw[List.take_append_of_le_length D,F,Yz,List.take_append,C,show (i+1)*sz - i*sz=sz by rw[Nat.succ_mul];omega,Yq (by rw[C,Nat.succ_mul];omega)]
   have H:((kf enc l++z)++tail).drop ((i+1)*sz+(kf enc (l.drop i)).length)=tail:=by
     have:(i+1)*sz+(kf enc (l.drop i)).length=(kf enc l++z).length:=by
       rw[yV,B,hz,E,←Nat.succ_mul,←Nat.add_mul]
       congr 1
       omega
     rw[this,List.drop_left]
   rw[G,H];simp only[Yz]
end
end
section
open Go.RowKit Go.Sort
def Gr(w w':World):Prop:=∃q os,w'=grow (w.drewN q) os
theorem Gr.refl(w:World):Gr w w:=⟨0,#[],by rw[grow_empty];rfl⟩
theorem Gr.trans{a b c:World}(h:Gr a b)(k:Gr b c):Gr a c:=by
  obtain⟨q,A,rfl⟩:=h;obtain⟨B,C,rfl⟩:=k;refine⟨q+B,A++C,?_⟩;rw[show (grow (a.drewN q) A).drewN B=grow ((a.drewN q).drewN B) A from rfl,grow_grow,World.drewN_drewN]
theorem Gr.alloc{a b:World}(h:Gr a b)(o:Obj):Gr a (b.alloc o):=h.trans ⟨0,#[o],by rw[alloc_eq_grow];rfl⟩
theorem Gr.drewN{a b:World}(h:Gr a b)(q:Nat):Gr a (b.drewN q):=h.trans ⟨q,#[],by rw[grow_empty]⟩
theorem Gr.drew{a b:World}(h:Gr a b):Gr a b.drew:=h.drewN 1
theorem Gr.below{a b:World}(h:Gr a b):Below a.heap.size a b:=by
  obtain⟨q,A,rfl⟩:=h;refine⟨rfl,rfl,rfl,by simp [grow,World.drewN],fun k B=>?_⟩;show (a.heap++A)[k]?=_;rw[Array.getElem?_append_left B]
end
section
open Go.RowKit
theorem own_iter_ne{w:World}{base:Nat}{e:TypeId}{sz:Nat}{v:Value}{n:Nat}{xs:List Value}(h:w.ownsRow base e sz v n xs){k:Nat}{s:ByteArray}{p:Nat}(hk:w.heap[k]?=some (.stringIter s p)):v.ownBlock≠some k:=by
  intro A;rcases h.2 with⟨C,_⟩|⟨g,E,F,B,_,D,_⟩
  ·rw[C] at A;simp [Value.ownBlock] at A
  ·rw[B] at A;have:g=k:=by simpa [Value.ownBlock] using A
   subst this;rw[D] at hk;cases hk
theorem qP{w:World}{base:Nat}{e:TypeId}{sz:Nat}{v:Value}{n:Nat}{xs:List Value}(h:w.ownsRow base e sz v n xs){k:Nat}{s:ByteArray}{p:Nat}(hk:w.heap[k]?=some (.stringIter s p))(p':Nat):(w.iterAt k s p').ownsRow base e sz v n xs:=by
  have A:=own_iter_ne h hk;refine h.kept (row:=some k) ⟨rfl,rfl,rfl,by rw[Lib.iterAt_size];exact xY _,fun j C B=>Lib.iterAt_other w k j s p' (fun e=>B (by rw[e]))⟩ (.inr A)
end
end Go.Proofs.YtdgbjhfkmembdaaGreatDoor