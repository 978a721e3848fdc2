/-
  Facts and contracts that the walk needs. Conditions: as each says.
-/
import Derived.Test.YtdgbjhfkmembdaaGreatDoorPart7
import Derived.BigFrame
import Derived.Maps.Own
import Derived.Maps.OwnOps
import Derived.Maps.OwnSet
import Derived.Maps.Views
import Derived.Great.FillDense
import Derived.Laws.Tables
import Derived.Test.YtdgbjhfkmembdaaGreatDoorProg
import Derived.Lib.SlBytesRow
import Derived.Lib.BytesEntry
import Derived.Handy
import Derived.PlainAid
import Derived.Lib.Hide
import Derived.Deep.QuietTactic
import Derived.BigQuiet
import Derived.StillTailTactics
import Derived.Deep.CutRange
import Derived.StillTail
import Derived.Deep.MidRow
import Derived.Deep.RegionHeld
import Derived.OrdersHeld
import Derived.Laws.AppendOwn
import Derived.Maps.RangeWalk
import Derived.Shelf.Abstract
set_option linter.unusedVariables false
set_option linter.unusedSimpArgs false
set_option maxHeartbeats 4000000
set_option maxRecDepth 100000
open Go.Proofs.Tryz
namespace Go.Proofs.YtdgbjhfkmembdaaGreatDoor
section
open Go.RowKit
def Where(z:Nat)(v v':Value):Prop:=v'.ownBlock=v.ownBlock∨∃g,v'.ownBlock=some g∧z≤g
section
variable {P:Program} {w w':World}
theorem ux(base:Nat)(t ty e:TypeId)(i:TypeInfo)(z:Value)(size bytes:Nat)(ht:P.underlying t=some (.slice e))(hi:P.info? e=some i)(hz:i.zero=some z)
    (hsize:i.size=size) (hby:i.bytes=bytes) (hzs:z.cells.size=size) (hsz:0<size)
    (v:Value) (n:Nat) (xs:List Value) (hown:w.ownsRow base e size v n xs)
    (a:Addr) (m c:Nat) (news:List Value) (hl:news.length=m*size) (hnews:∀j u,news[j]?=some u→w.cell? (a.add j)=some u) (h1:∀u∈news,u.oneCell'=true)
    (h63:n+m≤maxLen) (hbytes:(n+m)*bytes≤140737488355328) {v':Value} (hr:(Builtin.append_ #[t,t] ty #[v,.slice (some a) m c]).run P w=.ok v' w'):Where w.heap.size v v':=by
  subst hsize;subst hby;have F:n+m≤9223372036854775807:=by simp only[maxLen] at h63;omega
  rcases hown.2 with⟨rfl,rfl⟩|⟨g,B,D,rfl,L,I,M,N,G,H⟩
  ·by_cases hm:m=0
   ·subst hm;have J:news=[]:=List.eq_nil_of_length_eq_zero (by simpa using hl);subst J;have A:(Builtin.append_ #[t,t] ty #[.slice none 0 0,.slice (some a) 0 c]).run P w=.ok (.slice none 0 0) w:=by
      simp [Builtin.append_,run_underlying ht,sizeOf,typeInfo,hi,Builtin.lenOf,Builtin.firstCells,loadCells,loadCellsFrom]
    rw[A] at hr;injection hr with hr _;rw[←hr];exact .inl rfl
   ·have A:=run_append_nil (P:=P) w t ty e i z ht hi hz a m c news hl hnews yv yv (by have K:=hbytes;simp only[Nat.zero_add] at K;omega);rw[A] at hr;injection hr with hr _;rw[←hr];exact .inr ⟨_,rfl,xY _⟩
  ·by_cases hroom:n+m≤B
   ·have E:n*i.size+news.length≤D.size:=by rw[hl,G,←Nat.add_mul];exact Nat.mul_le_mul_right _ hroom
    have A:=run_append_room (P:=P) w t ty e i ht hi g n B D I a m c news hl hnews h1 hroom E;rw[A] at hr;injection hr with hr _;rw[←hr];exact .inl rfl
   ·have C:∀j u,xs[j]?=some u→w.cell? ((⟨g,0,none⟩:Addr).add j)=some u:=hown.cells (g:=g) rfl;have A:=run_append_grow (P:=P) w t ty e i z ht hi hz ⟨g,0,none⟩ n B xs hown.1 C a m c news hl hnews yv yv (growslice_fits yv hbytes);rw[A] at hr;injection hr with hr _;rw[←hr];exact .inr ⟨_,rfl,xY _⟩
end
end
section
open Go.RowKit Go.Maps
structure KeyEnc (P:Program) (K:TypeId) {κ:Type} (ok:κ→Prop) (val:κ→Value) (kl:κ→Lit):Prop where
  keyed:Keyed P K
  of:∀k,ok k→keyOf P K (val k)=some (kl k)
  inj:∀a b,val a=val b→a=b
def Rv(v:Value):Option (DataW Value×List MemPlace):=some (.held v,[])
def MapK{κ:Type}(ok:κ→Prop)(kl:κ→Lit)(D:DataW Value):Prop:=IsMap D∧∀l,has D l=true→∃k,ok k∧l=kl k
def MapV(w:World)(P:Program)(K:TypeId){κ:Type}(ok:κ→Prop)(kl:κ→Lit)(b n:Nat)(m:κ→Option Value):Prop:=
  ∃D:DataW Value,w.ownsMap P K Rv b n D∧MapK ok kl D∧(∀k,ok k→has D (kl k)=(m k).isSome)∧∀k v,ok k→m k=some v→∀z,D.atKey (kl k) z=.held v
section
variable {P:Program} {K:TypeId} {κ:Type} {ok:κ→Prop} {val:κ→Value} {kl:κ→Lit} {w:World} {b n:Nat} {m:κ→Option Value}
theorem KeyEnc.klInj(E:KeyEnc P K ok val kl){x y:κ}(hx:ok x)(hy:ok y)(h:kl x=kl y):x=y:=
  E.inj _ _ (E.keyed.inj (E.of x hx) (by rw[h];exact E.of y hy))
theorem MapV.made(w:World)(P:Program)(K:TypeId)(ok:κ→Prop)(kl:κ→Lit):MapV (w.alloc (.map #[] 0)) P K ok kl w.heap.size 0 (fun _=>none):=
  ⟨.map [],World.ownsMap_made w P K Rv,⟨isMap_empty,fun l h=>by cases h⟩,fun _ _=>rfl,fun _ _ _ h=>by cases h⟩
theorem MapV.lt(h:MapV w P K ok kl b n m):b<w.heap.size:=by
  obtain⟨D,A,_⟩:=h;exact A.lt
theorem MapV.below{w':World}(h:MapV w P K ok kl b n m)(hb:Below w.heap.size w w'):MapV w' P K ok kl b n m:=by
  have B:=h.lt;obtain⟨D,E,G⟩:=h;obtain⟨H,A,C,F,I,J⟩:=E;exact⟨D,⟨H,A,(hb.block b B).trans C,F,I,J⟩,G⟩
theorem MapV.kept{w':World}{row:Option Nat}(h:MapV w P K ok kl b n m)(hg:w.grownBy w' row)(hne:some b≠row):MapV w' P K ok kl b n m:=by
  obtain⟨D,A,B⟩:=h;exact⟨D,A.kept hg hne,B⟩
theorem MapV.alloc(h:MapV w P K ok kl b n m)(o:Obj):MapV (w.alloc o) P K ok kl b n m:=by
  obtain⟨D,A,B⟩:=h;exact⟨D,A.alloc o,B⟩
theorem MapV.drew(h:MapV w P K ok kl b n m):MapV w.drew P K ok kl b n m:=by
  obtain⟨D,A,B⟩:=h;exact⟨D,A.drew,B⟩
theorem Qu{D:DataW Value}(E:KeyEnc P K ok val kl)(hm0:MapK ok kl D)(h1:∀k,ok k→has D (kl k)=(m k).isSome)(h2:∀k v,ok k→m k=some v→∀z,D.atKey (kl k) z=.held v)[DecidableEq κ]{k0:κ}(hk:ok k0)(v0:Value):
    MapK ok kl (D.put (kl k0) (.held v0))∧(∀k,ok k→has (D.put (kl k0) (.held v0)) (kl k)=(if k=k0 then some v0 else m k).isSome)∧∀k v,ok k→(if k=k0 then some v0 else m k)=some v→∀z,(D.put (kl k0) (.held v0)).atKey (kl k) z=.held v:=by
  have A:=E.keyed.key (E.of k0 hk);have C:=hm0.1;refine⟨⟨C.put _ _,fun l G=>?_⟩,fun k B=>?_,fun k v B h z=>?_⟩
  ·by_cases e:l=kl k0
   ·exact⟨k0,hk,e⟩
   ·rw[has_put_other e] at G;exact hm0.2 l G
  ·by_cases e:k=k0
   ·subst e;rw[if_pos rfl,has_put_same C A];rfl
   ·rw[if_neg e,has_put_other (fun F=>e (E.klInj B hk F)),h1 k B]
  ·by_cases e:k=k0
   ·subst e;rw[if_pos rfl] at h;cases h
    exact atKey_put_same C A _ _
   ·rw[if_neg e] at h;rw[atKey_put_other (fun F=>e (E.klInj B hk F))];exact h2 k v B h z
theorem wp_mapPut{ops:Array Oper}{rest:List Oper}{o:Oper}{a:Act}{Q:Exit→Act→World→Prop}[DecidableEq κ](hg:o.guard=none)(mo x v:Operand)(t:TypeId)(hop:o.op=Op.mapUpdate t mo x v)
    (e:TypeId) (E:KeyEnc P K ok val kl) (ht:P.underlying t=some (.map K e)) (hm:a.eval mo=.map (some b)) (hown:MapV w P K ok kl b n m) (hn:n<maxLen) (k0:κ) (hk:ok k0) (hx:a.eval x=val k0) (v0:Value) (hv:a.eval v=v0)
    (h:∀w',MapV w' P K ok kl b (n+1) (fun k=>if k=k0 then some v0 else m k)→w.grownBy w' (some b)→wpList P ops Q rest (a.put o.dst undef) w'):
    wpList P ops Q (o::rest) a w:=by
  obtain⟨D,B,C,F,G⟩:=hown;refine wpList_mapUpdate_own w hg mo x v t hop K e E.keyed ht Rv b n D hm B hn (val k0) v0 (kl k0) hx hv (E.of k0 hk) (.held v0) [] rfl fun w' H A=>?_
  obtain⟨I,J,L⟩:=Qu E C F G hk v0;exact h w' ⟨_,H,I,J,L⟩ A
theorem qQ{ops:Array Oper}{rest:List Oper}{o:Oper}{a:Act}{Q:Exit→Act→World→Prop}(hg:o.guard=none)(mo x:Operand)(t:TypeId)(hop:o.op=Op.lookup t mo x true)
    (e:TypeId) (E:KeyEnc P K ok val kl) (ht:P.underlying t=some (.map K e)) (z:Value) (hz:(zeroValue e).run P w=.ok z w) (hm:a.eval mo=.map (some b)) (hown:MapV w P K ok kl b n m) (k0:κ) (hk:ok k0) (hx:a.eval x=val k0)
    (h:wpList P ops Q rest (a.put o.dst (.tuple #[(m k0).getD z,.bool (m k0).isSome])) w):
    wpList P ops Q (o::rest) a w:=by
  obtain⟨D,F,J,B,G⟩:=hown;refine wpList_lookup_own_ok w hg mo x t hop K e E.keyed ht Rv hz (.held z) [] rfl b n D hm F (val k0) (kl k0) hx (E.of k0 hk) fun v L H=>?_
  rw[B k0 hk];have C:v=(m k0).getD z:=by
    have A:(DataW.held v:DataW Value)=D.atKey (kl k0) (.held z):=congrArg Prod.fst (Option.some.inj H);rcases hmk:m k0 with _ |u
    ·have I:has D (kl k0)=false:=by rw[B k0 hk,hmk];rfl
     rw[atKey_of_not_has I] at A;injection A
    ·rw[G k0 u hk hmk] at A;injection A
  rw[C];exact h
theorem vG{ops:Array Oper}{rest:List Oper}{o:Oper}{a:Act}{Q:Exit→Act→World→Prop}(hg:o.guard=none)(mo x:Operand)(t:TypeId)(hop:o.op=Op.lookup t mo x false)
    (e:TypeId) (E:KeyEnc P K ok val kl) (ht:P.underlying t=some (.map K e)) (z:Value) (hz:(zeroValue e).run P w=.ok z w) (hm:a.eval mo=.map (some b)) (hown:MapV w P K ok kl b n m) (k0:κ) (hk:ok k0) (hx:a.eval x=val k0)
    (h:wpList P ops Q rest (a.put o.dst ((m k0).getD z)) w):
    wpList P ops Q (o::rest) a w:=by
  obtain⟨D,G,M,H,I⟩:=hown;refine wpList_plain hg fun N C=>?_
  obtain⟨v,O,B,J⟩:=G.lookup E.keyed ht hz (zd:=.held z) (zp:=[]) rfl (E.of k0 hk);have F:v=(m k0).getD z:=by
    have A:(DataW.held v:DataW Value)=D.atKey (kl k0) (.held z):=congrArg Prod.fst (Option.some.inj J);rcases hmk:m k0 with _ |u
    ·have L:has D (kl k0)=false:=by rw[H k0 hk,hmk];rfl
     rw[atKey_of_not_has L] at A;injection A
    ·rw[I k0 u hk hmk] at A;injection A
  subst F;unfold Oper.wp;simp [execOp,hop,hm,hx,B,Result.andThen];exact C _ _ h
end
end
section
open Go.RowKit
structure But (X:Nat→Prop) (w w':World):Prop where
  os:w'.os=w.os
  tape:w'.tape=w.tape
  output:w'.output=w.output
  size:w.heap.size≤w'.heap.size
  block:∀k,k<w.heap.size→¬X k→w'.heap[k]?=w.heap[k]?
def NoB(_:Nat):Prop:=False
section
variable {X Y:Nat→Prop} {a b c w w':World}
theorem But.refl(X:Nat→Prop)(w:World):But X w w:=⟨rfl,rfl,rfl,qR _,fun _ _ _=>rfl⟩
theorem But.trans(h:But X a b)(k:But Y b c)(hxy:∀i,i<a.heap.size→Y i→X i):But X a c:=
  ⟨k.os.trans h.os,k.tape.trans h.tape,k.output.trans h.output,qT h.size k.size,fun i A B=>(k.block i (qL A h.size) (fun C=>B (hxy i A C))).trans (h.block i A B)⟩
theorem But.weak(h:But X a b)(hxy:∀i,i<a.heap.size→X i→Y i):But Y a b:=⟨h.os,h.tape,h.output,h.size,fun i A B=>h.block i A fun C=>B (hxy i A C)⟩
theorem But.of_below(h:Below a.heap.size a b):But X a b:=⟨h.os,h.tape,h.output,h.size,fun k A _=>h.block k A⟩
theorem But.below{B:Nat}(h:But X a b)(hB:B≤a.heap.size)(hx:∀k,k<B→¬X k):Below B a b:=⟨h.os,h.tape,h.output,h.size,fun k A=>h.block k yv (hx k A)⟩
theorem But.andBelow(h:But X a b)(k:Below b.heap.size b c):But X a c:=h.trans (Y:=NoB) ⟨k.os,k.tape,k.output,k.size,fun i A _=>k.block i A⟩ fun _ _ q=>q.elim
theorem But.drew(h:But X a b):But X a b.drew:=⟨h.os,h.tape,h.output,h.size,h.block⟩
theorem But.alloc(h:But X a b)(o:Obj):But X a (b.alloc o):=h.andBelow ((qB _ _).alloc (qR _) o)
theorem But.setCell(h:But X a b){p:Addr}(hp:p.block<a.heap.size→X p.block)(u:Value):But X a (b.setCell p u):=
  ⟨h.os,h.tape,h.output,by simpa [World.setCell] using h.size,fun k A B=>(Below.heap_setCell _ _ _ _ (by rintro rfl;exact B (hp A))).trans (h.block k A B)⟩
theorem But.grown{row:Option Nat}(h:But X a b)(hg:b.grownBy c row)(hr:∀k,row=some k→k<a.heap.size→X k):But X a c:=
  h.trans (Y:=fun k=>row=some k) ⟨hg.os,hg.tape,hg.output,hg.size,fun k A B=>hg.block k A (fun e=>B e.symm)⟩ fun k A B=>hr k B A
theorem But.cell(h:But X a b){g j:Nat}(hg:g<a.heap.size)(hx:¬X g):b.cell? ⟨g,j,none⟩=a.cell? ⟨g,j,none⟩:=by
  unfold World.cell?;rw[h.block g hg hx]
theorem But.own{base n size:Nat}{e:TypeId}{v:Value}{xs:List Value}(h:But X a b)(ho:a.ownsRow base e size v n xs)(hx:∀g,v.ownBlock=some g→¬X g):b.ownsRow base e size v n xs:=by
  refine⟨ho.1,?_⟩;rcases ho.2 with D|⟨g,A,B,rfl,E,C,r⟩
  ·exact .inl D
  ·exact .inr ⟨g,A,B,rfl,E,(h.block g (qX C) (hx g rfl)).trans C,r⟩
theorem But.sl{B n sz:Nat}{A:Option Addr}{xs:List Value}(h:But X a b)(ho:Sl a B A n sz xs)(hB:B≤a.heap.size)(hx:∀k,k<B→¬X k):Sl b B A n sz xs:=ho.keep (h.below hB hx)
theorem But.map{P:Program}{K:TypeId}{κ:Type}{ok:κ→Prop}{kl:κ→Lit}{g n:Nat}{m:κ→Option Value}(h:But X a b)(hm:MapV a P K ok kl g n m)(hx:¬X g):MapV b P K ok kl g n m:=by
  have B:=hm.lt;obtain⟨D,E,G⟩:=hm;obtain⟨H,A,C,F,I,J⟩:=E;exact⟨D,⟨H,A,(h.block g B hx).trans C,F,I,J⟩,G⟩
end
theorem k6{w:World}{g:Nat}{cs:List Value}{t:TypeId}{fr:Nat×Nat}(h:w.heap[g]?=some (.cells cs.toArray t fr))(j:Nat):w.cell? ⟨g,j,none⟩=cs[j]?:=by
  rw[cell_of_row w g j _ t fr h];simp
theorem Jw{P:Program}{ops:Array Oper}{rest:List Oper}{o:Oper}{a:Act}{Q:Exit→Act→World→Prop}{w:World}(hw:Region.wanted o (yielded ops a.tmps)=true)(s x:Operand)(t:TypeId)
    (ho:o.op=.call { callee:=.builtin .append,args:=#[s,x],argTypes:=#[t,t]})
    (base:Nat) (e:TypeId) (z:Value) (size bytes:Nat) (ht:P.underlying t=some (.slice e)) (hinf:(P.info? e).map (fun i=>(i.zero,i.size,i.bytes))=some (some z,size,bytes))
    (hz1:z.cells.size=size) (hsz:0<size) (v:Value) (n:Nat) (xs:List Value) (hs:a.eval s=v) (hown:w.ownsRow base e size v n xs)
    (A:Addr) (m c:Nat) (news:List Value) (hx:a.eval x=.slice (some A) m c) (hl:news.length=m*size) (hnews:∀j u,news[j]?=some u→w.cell? (A.add j)=some u) (h1:∀u∈news,u.oneCell'=true)
    (hn:n+m≤maxLen) (hb:(n+m)*bytes≤140737488355328) (hbase:base≤w.heap.size)
    (h:∀B w',w'.ownsRow base e size B (n+m) (xs++news)→w.grownBy w' v.ownBlock→Where w.heap.size v B→wpList P ops Q rest (a.put o.dst B) w'):
    wpList P ops Q (o::rest) a w:=by
  obtain⟨H,I,E,F,G⟩:=info_parts hinf;obtain⟨B,w',J,C,D,_⟩:=run_append_own (P:=P) w base t o.type e H z size bytes ht I E F G hz1 hsz v n xs hown A m c news hl hnews h1 hn hb hbase;have L:=ux (P:=P) (w:=w) base t o.type e H z size bytes ht I E F G hz1 hsz v n xs hown A m c news hl hnews h1 hn hb J;refine BigFrame.wpList_want hw fun K M=>?_
  unfold Oper.wp execOp;simp only[ho,resolve,invoke,builtin,Sem.run_bind,Sem.run_pure,Result.andThen_ok,xV,xX,Yy,hs,hx,J];exact M _ _ (h B w' C D L)
end
section
open Go.RowKit
open Lib (hid)
theorem info_i32:(prog.info? 21).map (fun i=>(i.zero,i.size,i.bytes))=some (some (.int .i32 0),1,4):=yq
def Qv(l:List Nat):List Value:=l.map fun (r:Nat)=>Value.int .i32 (r:Int)
def RunesGives(s:ByteArray)(w:World)(e:Ending)(w':World):Prop:=
  Below w.heap.size w w'∧((∃l A c,jH s=some l∧e=.returned (.tuple #[.slice A l.length c,.int .i64 0,.int .i64 0])∧Sl w' w'.heap.size A l.length 1 (Qv l))∨
    jH s=none∧∃n:Int,e=.returned (.tuple #[.slice none 0 0,.int .i64 n,.int .i64 5]))
theorem kX{w:World}{base:Nat}{e:TypeId}{sz:Nat}{v:Value}{n:Nat}{xs:List Value}(h:w.ownsRow base e sz v n xs):∃A c,v=.slice A n c:=by
  rcases h.2 with⟨B,C⟩|⟨g,D,E,B,_⟩
  ·exact⟨none,0,by rw[B,C]⟩
  ·exact⟨_,_,B⟩
theorem runes_any(s:ByteArray)(w:World)(hs:s.size≤1099511627776):Calls prog 119 #[.string s] w (RunesGives s w):=by
  have L:s.size≤maxLen:=by unfold maxLen;omega
  go_enter func119,ntmps119
  go_wp2
  go_loopw [5,6] (fun v n wr=>∃(k:Nat) (l:List Nat),k≤s.size∧l.length≤k∧n=.int .i64 k∧wr.ownsRow w.heap.size 21 1 v l.length (Qv l)∧Below w.heap.size w wr∧Hid (jH s=(jM s k).map (l++ ·))) (fun _ n _=>s.size - (intOf n).toNat)
  case atStart=>exact⟨0,[],by omega,by simp,rfl,World.ownsRow_nil _ _ _ _,Below.refl _ _,hid (by rw[uN];simp)⟩
  case round=>
    obtain⟨k,l,S,T,rfl,C,D,K⟩:=hrel;by_cases hlt:k<s.size
    ·have Q:=vz hlt;go_wp2_with fail;refine(one_any s k _ hlt L).mono ?_;rintro e M ⟨B,⟨F,rfl⟩|⟨F,rfl⟩⟩
     ·have E:=hid F;clear F;have U:=decode_le s k;have G:Below w.heap.size w M:=D.trans (B.mono D.size);have I:M.ownsRow w.heap.size 21 1 u5 l.length (Qv l):=by
        refine C.kept (row:=none) ⟨B.os,B.tape,B.output,B.size,fun j P _=>B.block j P⟩ ?_;rcases h:u5.ownBlock with _ |g
        ·exact .inl rfl
        ·exact .inr yZ
      have R:(((Utf8.decode s k).2:Int) == 0)=false:=by simp;omega
      go_wp2_with (at_builtin;refine Jt rfl _ _ 175 rfl w.heap.size 21 (.int .i32 0) 4 underlying175 info_i32 rfl _ _ _ rfl I _ _ rfl rfl ?c1 ?c2 ?c3 ?_)
      case c1=>unfold maxLen;omega
      case c2=>omega
      case c3=>exact G.size
      intro V W J H;have N:=H _ _ (xY _) G;clear H;go_wp2_with fail
      go_roundw
      case rel=>
        refine⟨k+(Utf8.decode s k).2,l++[(Utf8.decode s k).1],by omega,by simp;omega,by go_num,?_,N,hid ?_⟩
        ·simpa [Qv] using J
        ·rw[K.out,Jo hlt E.out];cases jM s (k+(Utf8.decode s k).2)<;>simp
      case measure=>simp [intOf];omega
     ·have E:=hid F;clear F;go_wp2_with fail;go_ret3;refine⟨D.trans (B.mono D.size),.inr ⟨by rw[K.out,vU hlt E.out];rfl,_,rfl⟩⟩
    ·go_wp2_with fail;go_ret3;obtain⟨A,c,O⟩:=kX C;refine⟨D,.inl ⟨l,A,c,by rw[K.out,Jn yv];simp,?_,?_⟩⟩
     ·rw[←O];rfl
     ·rw[O] at C;exact Sl.of_own C
theorem is_any(s:ByteArray)(w:World)(hs:s.size≤1099511627776):Calls prog 265 #[.string s] w fun e w'=>Below w.heap.size w w'∧e=.returned (.bool (KE s)):=by
  go_enter func265,ntmps265;go_wp2_with fail;refine(runes_any s _ hs).mono ?_;rintro e F ⟨D,⟨l,A,c,C,rfl,E⟩|⟨C,n,rfl⟩⟩
  ·have B:=hid C;clear C;go_wp2_with fail;go_ret;exact⟨D,by unfold KE;rw[B.out];rfl⟩
  ·have B:=hid C;clear C;go_wp2_with fail;go_ret;exact⟨D,by unfold KE;rw[B.out];rfl⟩
def J2(s:ByteArray):Int:=if 4096<s.size then 2 else if KE s then 0 else 5
theorem bytes_any(s:ByteArray)(w:World)(hs:s.size≤maxLen):Calls prog 252 #[.string s] w fun e w'=>w=w'∧e=.returned (.int .i64 (J2 s)):=by
  by_cases h:4096<s.size
  ·rw[show J2 s=2 by simp [J2,h]];go_enter func252,ntmps252;go_wp2_with fail;go_ret;exact⟨rfl,rfl⟩
  ·go_enter func252,ntmps252;go_wp2_with fail;refine(UM s _ hs).mono ?_;rintro e C ⟨rfl,⟨B,rfl⟩|⟨B,n,rfl⟩⟩
   ·have A:=hid B;clear B;go_wp2_with fail;go_ret;exact⟨rfl,by simp [J2,h,A.out]⟩
   ·have A:=hid B;clear B;go_wp2_with fail;go_ret;exact⟨rfl,by simp [J2,h,A.out]⟩
theorem refFileBytes_any(s:ByteArray)(w:World):Calls prog 264 #[.string s] w fun e w'=>Below w.heap.size w w'∧e=.returned (.int .i64 (J2 s)):=by
  by_cases h:4096<s.size
  ·rw[show J2 s=2 by simp [J2,h]];go_enter func264,ntmps264;go_wp2_with fail;go_ret;exact⟨Below.refl _ _,rfl⟩
  ·have C:s.size≤1099511627776:=yv;go_enter func264,ntmps264;go_wp2_with fail;refine(is_any s _ C).mono ?_;rintro e D ⟨B,rfl⟩;cases ht:KE s
   ·have A:=hid ht;clear ht;go_wp2_with fail;go_ret;exact⟨B,by simp [J2,h,A.out]⟩
   ·have A:=hid ht;clear ht;go_wp2_with fail;go_ret;exact⟨B,by simp [J2,h,A.out]⟩
end
section
open Go.RowKit
abbrev zk:=kE×Value×List Nat×Bool
def kY(r:zk):List Value:=kc r.1++([r.2.1]++[.bool r.2.2.2])
def kA(r:zk):kQ:=(r.1,r.2.2.1,r.2.2.2)
def RuneAt(w:World)(v:Value)(l:List Nat):Prop:=∃g off cap cur fr,v=.slice (some ⟨g,off,none⟩) l.length cap∧l.length≤cap∧cap≤maxLen∧w.heap[g]?=some (.cells cur 21 fr)∧∀j u,(Qv l)[j]?=some u→cur[off+j]?=some u
def RunIn(w:World)(r:zk):Prop:=kJ r.1∧RuneAt w r.2.1 r.2.2.1∧r.2.2.1≠[]
structure DocAt (w:World) (B p:Nat) (v:Value) (d:List kQ):Prop where
  box:∃s t:Int,w.heap[p]?=some (.cells [v,.int .i64 s,.int .i64 t].toArray 192 (0,0))
  low:B≤p
  rows:∃rs:List zk,rs.map kA=d∧(∀r∈rs,RunIn w r)∧w.ownsRow B 177 36 v rs.length (kf kY rs)
def DocX(p:Nat)(v:Value)(k:Nat):Prop:=k=p∨v.ownBlock=some k
def immB(t:TypeId):Bool:=t == 21 || t == 41 || t == 112 || t == 199
def KeepR(w w':World):Prop:=∀(k:Nat) (cur:Array Value) (t:TypeId) (fr:Nat×Nat),immB t=true→w.heap[k]?=some (.cells cur t fr)→w'.heap[k]?=w.heap[k]?
theorem jw{w:World}{r:zk}(h:RunIn w r):(kY r).length=36:=by
  simp [kY,ke h.1]
theorem vH{w:World}{rs:List zk}(h:∀r∈rs,RunIn w r):∀r∈rs,(kY r).length=36:=fun r A=>jw (h r A)
theorem KQ(r:zk)(h:r.2.1.oneCell'=true):∀u∈kY r,u.oneCell'=true:=by
  intro u A;simp only[kY,xJ,xZ] at A;rcases A with A|rfl|rfl
  ·exact j8 _ u A
  ·exact h
  ·rfl
section
variable {w w' w2:World} {B p:Nat} {v:Value} {d:List kQ} {l:List Nat} {r:zk}
theorem RuneAt.keep(h:RuneAt w v l)(hk:KeepR w w'):RuneAt w' v l:=by
  obtain⟨g,B,C,A,D,F,G,H,E,I⟩:=h;exact⟨g,B,C,A,D,F,G,H,(hk g A _ D yj E).trans E,I⟩
theorem RunIn.keep(h:RunIn w r)(hk:KeepR w w'):RunIn w' r:=⟨h.1,h.2.1.keep hk,h.2.2⟩
theorem KeepR.trans(h:KeepR w w')(k:KeepR w' w2):KeepR w w2:=fun g A t B C D=>(k g A t B C ((h g A t B C D).trans D)).trans (h g A t B C D)
theorem KeepR.below(h:Below w.heap.size w w'):KeepR w w':=fun g B t C D A=>h.block g (qX A)
theorem KeepR.but{X:Nat→Prop}(h:But X w w')(hx:∀k,X k→∀A t B,immB t=true→w.heap[k]?≠some (.cells A t B)):KeepR w w':=fun g A t B D C=>h.block g (qX C) fun E=>hx g E A t B D C
theorem RuneAt.one(h:RuneAt w v l):v.oneCell'=true:=by
  obtain⟨g,A,B,C,D,rfl,_⟩:=h;rfl
theorem RuneAt.take{g off cap:Nat}(h:RuneAt w (.slice (some ⟨g,off,none⟩) l.length cap) l){n:Nat}(hn:n≤l.length):RuneAt w (.slice (some ⟨g,off,none⟩) n n) (l.take n):=by
  obtain⟨I,C,D,B,E,F,J,K,G,H⟩:=h;injection F with e1 _ e2;injection e1 with e1;injection e1 with e3 e4;subst e2 e3 e4;refine⟨g,off,n,B,E,by rw[Yj,Nat.min_eq_left hn],by rw[Yj];omega,by omega,G,fun j u A=>H j u ?_⟩;unfold Qv at A ⊢;rw[List.map_take,List.getElem?_take] at A
  split at A
  ·exact A
  ·cases A
theorem RuneAt.drop{g off cap:Nat}(h:RuneAt w (.slice (some ⟨g,off,none⟩) l.length cap) l){n:Nat}(hn:n≤l.length):RuneAt w (.slice (some ⟨g,off+n,none⟩) (l.length - n) (cap - n)) (l.drop n):=by
  obtain⟨I,D,E,B,F,G,J,K,H,C⟩:=h;injection G with e1 _ e2;injection e1 with e1;injection e1 with e3 e4;subst e2 e3 e4;refine⟨g,off+n,cap - n,B,F,by rw[List.length_drop],by rw[List.length_drop];omega,by omega,H,fun j u A=>?_⟩;unfold Qv at A C;rw[List.map_drop,List.getElem?_drop] at A;rw[Nat.add_assoc];exact C _ _ A
theorem DocAt.lt(h:DocAt w B p v d):p<w.heap.size:=by obtain⟨s,t,A⟩:=h.box;exact qX A
theorem DocAt.noRunes(h:DocAt w B p v d):∀k,DocX p v k→∀D t F,immB t=true→w.heap[k]?≠some (.cells D t F):=by
  intro k C D K F E A;rcases C with rfl|C
  ·obtain⟨s,t,G⟩:=h.box;rw[G] at A;injection A with A;injection A with _ A;subst A;exact absurd E yj
  ·obtain⟨L,_,_,H⟩:=h.rows;rcases H.2 with⟨rfl,_⟩|⟨g,J,M,rfl,_,I,_⟩
   ·cases C
   ·have:g=k:=by simpa [Value.ownBlock] using C
    subst this;rw[I] at A;injection A with A;injection A with _ A;subst A;exact absurd E yj
theorem DocAt.low'(h:DocAt w B p v d):∀k,DocX p v k→B≤k:=by
  rintro k (rfl|hk)
  ·exact h.low
  ·obtain⟨C,_,_,A⟩:=h.rows;exact(A.lt k hk).1
theorem DocAt.but{X:Nat→Prop}(h:DocAt w B p v d)(hb:But X w w')(hx:∀k,DocX p v k→¬X k)(hr:KeepR w w'):DocAt w' B p v d:=by
  obtain⟨C,D,E,F⟩:=h.rows;obtain⟨s,t,G⟩:=h.box;exact⟨⟨s,t,(hb.block p h.lt (hx p (.inl rfl))).trans G⟩,h.low,C,D,fun r A=>(E r A).keep hr,hb.own F fun g H=>hx g (.inr H)⟩
theorem DocAt.keep(h:DocAt w B p v d)(hb:Below w.heap.size w w'):DocAt w' B p v d:=h.but (X:=NoB) (But.of_below hb) (fun _ _ q=>q) (KeepR.below hb)
end
structure DocRows (w:World) (B p:Nat) (v:Value) (rs:List zk):Prop where
  box:∃s t:Int,w.heap[p]?=some (.cells [v,.int .i64 s,.int .i64 t].toArray 192 (0,0))
  low:B≤p
  ins:∀r∈rs,RunIn w r
  own:w.ownsRow B 177 36 v rs.length (kf kY rs)
def Newer(w:World)(v v':Value):Prop:=∀j,v'.ownBlock=some j→v.ownBlock=some j∨w.heap.size≤j
theorem Newer.refl(w:World)(v:Value):Newer w v v:=fun _ h=>.inl h
theorem Newer.trans{w w':World}{v v' v2:Value}(h:Newer w v v')(k:Newer w' v' v2)(hs:w.heap.size≤w'.heap.size):Newer w v v2:=fun j A=>by
  rcases k j A with q|q
  ·exact h j q
  ·exact .inr (Nat.le_trans hs q)
theorem DocX.of{w:World}{p:Nat}{v v':Value}(h:Newer w v v'){j:Nat}(hj:j<w.heap.size)(hx:DocX p v' j):DocX p v j:=by
  rcases hx with q|q
  ·exact .inl q
  ·rcases h j q with q|q
   ·exact .inr q
   ·omega
theorem DocRows.at{w:World}{B p:Nat}{v:Value}{rs:List zk}(h:DocRows w B p v rs):DocAt w B p v (rs.map kA):=⟨h.box,h.low,rs,rfl,h.ins,h.own⟩
theorem DocAt.runs{w:World}{B p:Nat}{v:Value}{d:List kQ}(h:DocAt w B p v d):∃A:List zk,A.map kA=d∧DocRows w B p v A:=by
  obtain⟨A,C,D,E⟩:=h.rows;exact⟨A,C,h.box,h.low,D,E⟩
section
variable {w w':World} {B p:Nat} {v:Value} {rs:List zk}
theorem DocRows.lt(h:DocRows w B p v rs):p<w.heap.size:=h.at.lt
theorem DocRows.keep(h:DocRows w B p v rs)(hb:Below w.heap.size w w'):DocRows w' B p v rs:=by
  obtain⟨s,t,A⟩:=h.box;exact⟨⟨s,t,(hb.block p h.lt).trans A⟩,h.low,fun r C=>(h.ins r C).keep (KeepR.below hb),(But.of_below (X:=NoB) hb).own h.own fun _ _ q=>q⟩
theorem DocRows.row(h:DocRows w B p v rs){i:Nat}(hi:i<rs.length):∃g c,v=.slice (some ⟨g,0,none⟩) rs.length c∧w.rangeAt g (i*36) (kY rs[i])∧g<w.heap.size∧B≤g:=by
  obtain⟨g,c,D,E,F,A,_⟩:=KP h.own yv;refine⟨g,c,E,fun j u G=>?_,qX A,F⟩;have C:=K9 (vH h.ins) i hi j u G;rw[k6 A,xv (yJ.1 C).1];exact C
theorem rows_set{sz:Nat}{α:Type}{enc:α→List Value}{l:List α}(ho:∀x∈l,(enc x).length=sz){i:Nat}(hi:i<l.length){r:α}:
    kf enc l=kf enc (l.take i)++(enc l[i]++kf enc (l.drop (i+1)))∧kf enc (l.take i++r::l.drop (i+1))=kf enc (l.take i)++(enc r++kf enc (l.drop (i+1))):=by
  refine⟨?_,by simp [kf]⟩;have:l=l.take i++l[i]::l.drop (i+1):=by rw[←List.drop_eq_getElem_cons hi,List.take_append_drop]
  have e:kf enc l=kf enc (l.take i++l[i]::l.drop (i+1)):=congrArg (kf enc) this;rw[e];simp only[kf,List.flatMap_append,List.flatMap_cons]
end
section
variable {w:World}
theorem kH{base n sz:Nat}{e:TypeId}{v:Value}{xs:List Value}(h:w.ownsRow base e sz v n xs){k:Nat}(hk:v.ownBlock=some k):∃A,w.heap[k]?=some (.cells A e (0,0)):=by
  rcases h.2 with⟨rfl,_⟩|⟨g,C,A,rfl,D,B,r⟩
  ·cases hk
  ·have:g=k:=by simpa [Value.ownBlock] using hk
   subst this;exact⟨A,B⟩
theorem ji{a b:Nat}{ca cb:Array Value}{ta tb:TypeId}{fa fb:Nat×Nat}(ha:w.heap[a]?=some (.cells ca ta fa))(hb:w.heap[b]?=some (.cells cb tb fb))(hne:ta≠tb):a≠b:=by
  rintro rfl;rw[ha] at hb;injection hb with hb;injection hb with _ hb;exact hne hb
theorem JV{a b:Nat}{ca:Array Value}{ta:TypeId}{fa:Nat×Nat}(ha:w.heap[a]?=some (.cells ca ta fa))(hb:∃x y,w.heap[b]?=some (.map x y)):a≠b:=by
  rintro rfl;obtain⟨x,y,hb⟩:=hb;rw[ha] at hb;cases hb
end
theorem putR_map(rs:List zk)(i:Nat)(r:zk):(rs.take i++r::rs.drop i).map kA=Ug (rs.map kA) i (kA r):=by
  simp [Ug,List.map_take,List.map_drop]
theorem splice_is{A M B C:List Value}(hB:B.length=M.length)(v:Value)(hv:v.cells.toList=B):
    v.cells.zipIdx.foldl (fun cs (x:Value×Nat)=>cs.setIfInBounds (A.length+x.2) x.1) (A++(M++C)).toArray=(A++(B++C)).toArray:=by
  obtain⟨E,D⟩:=Go.Great.foldl_set A.length v.cells.toList 0 (A++(M++C)).toArray;rw[←Array.foldl_toList,Array.toList_zipIdx];apply Array.ext_getElem?;intro k;rw[D k,hv];simp only[Nat.add_zero,xz,yV,List.getElem?_toArray];by_cases h1:k<A.length
  ·rw[if_neg yv,xv h1,xv h1]
  ·by_cases h2:k<A.length+B.length
   ·rw[if_pos yv,xx yv,xv yv]
   ·rw[if_neg yv,xx yv,xx yv,xx yv,xx yv,hB]
theorem fill_chunks(place:Nat→Option (Nat×Nat)):∀(parts:List (Nat×Value)) (ch:List (List Value)),(∀i (h:i<ch.length),place i=some ((ch.take i).flatten.length,ch[i].length))→
    (∀p∈parts,∃h:p.1<ch.length,p.2.cells.size=ch[p.1].length)→Instr.fill place ch.flatten.toArray parts=some ((parts.foldl (fun c p=>c.set p.1 p.2.cells.toList) ch).flatten.toArray)
  | [],ch,_,_=>rfl
  |(i,v)::rest,ch,hp,hs=>by
   obtain⟨hi,hsz⟩:=hs (i,v) yZ;have C:i<ch.length:=hi;have A:v.cells.size=ch[i].length:=hsz;have D:ch=ch.take i++(ch[i]::ch.drop (i+1)):=by
      rw[←List.drop_eq_getElem_cons C,List.take_append_drop]
   have E:ch.flatten=(ch.take i).flatten++(ch[i]++(ch.drop (i+1)).flatten):=by
      have h:=congrArg List.flatten D;rw[List.flatten_append,List.flatten_cons] at h;exact h
   have F:(ch.set i v.cells.toList).flatten=(ch.take i).flatten++(v.cells.toList++(ch.drop (i+1)).flatten):=by
      rw[List.set_eq_take_append_cons_drop,if_pos C];simp
   unfold Instr.fill;simp only[hp i C];rw[if_neg (by
      simp only[A,ne_eq,not_true_eq_false,decide_false,Bool.false_or,decide_eq_true_eq,xz,Nat.not_lt];rw[E];simp)]
   rw[show (v.cells.zipIdx.foldl (fun cs (x:Value×Nat)=>cs.setIfInBounds ((ch.take i).flatten.length+x.2) x.1) ch.flatten.toArray)=(ch.set i v.cells.toList).flatten.toArray by
      rw[F,E];exact splice_is (by simpa using A) v rfl]
   have B:∀k (h:k<(ch.set i v.cells.toList).length),(ch.set i v.cells.toList)[k].length=(ch[k]'(by simpa using h)).length:=by
      intro k h;rw[List.getElem_set]
      split
      ·rename_i e;subst e;simpa using A
      ·rfl
   refine(fill_chunks place rest (ch.set i v.cells.toList) ?_ ?_).trans rfl
   ·intro k G;have H:k<ch.length:=by simpa using G
    rw[hp k H,B k G]
    congr 2
    have:∀n,n≤ch.length→(((ch.set i v.cells.toList).take n).flatten).length=((ch.take n).flatten).length:=by
       intro n
       induction n with
       |zero=>intro _;rfl
       |succ n ih=>
        intro L;rw[xj yX,xj yv];simp only[List.flatten_append,yV,ih yv,List.flatten_cons,List.flatten_nil,List.append_nil];rw[B n yX]
    exact(this k yv).symm
   ·intro p I;obtain⟨J,K⟩:=hs p (by simp [I]);refine⟨by simpa using J,?_⟩;rw[K,B]
theorem zl{P:Program}{t:TypeId}{i:TypeInfo}{fs:Array Field}(hi:P.info? t=some i)(hu:P.underlying t=some (.struct fs)){z:Value}(hz:i.zero=some z)(ch:List (List Value))(hc:z.cells.toList=ch.flatten)
    {places:List (Nat×Nat)} (hpl:fs.toList.mapM (fun f=>(P.info? f.type).map fun i=>(f.offset,i.size))=some places) (hp:places=(List.range ch.length).map fun k=>(((ch.take k).flatten.length),(ch.getD k []).length))
    (parts:List (Nat×Value)) (hs:∀p∈parts,∃h:p.1<ch.length,p.2.cells.size=ch[p.1].length):P.built t parts=some ((parts.foldl (fun c p=>c.set p.1 p.2.cells.toList) ch).flatten.toArray):=by
  unfold Program.built;simp only[hi,hu,hz,hpl];rw[show z.cells=ch.flatten.toArray by rw[←hc]];refine fill_chunks _ parts ch (fun k A=>?_) hs;rw[hp];simp [A,List.getD_eq_getElem?_getD]
theorem Kv{P:Program}(w:World)(t e:TypeId)(ht:P.underlying t=some (.slice e))(z:Value)(size bytes:Nat)(hinf:(P.info? e).map (fun i=>(i.zero,i.size,i.bytes))=some (some z,size,bytes))(hz1:z.cells.size=size)(hsz:0<size)
    (vs:List Value) (hv:∀v∈vs,v.cells.size=size) (hn0:0<vs.length) (hmax:vs.length*size≤16777216):
    (Instr.buildSlice t vs.length ((vs.zipIdx 0).map fun x=>(x.2,x.1)).toArray).run P w=.ok (.slice (some ⟨w.heap.size,0,none⟩) vs.length vs.length) (w.alloc (.cells (vs.flatMap fun v=>v.cells.toList).toArray e)):=by
  obtain⟨i,E,F,G,I⟩:∃i,P.info? e=some i∧i.zero=some z∧i.size=size∧i.bytes=bytes:=by
    cases hq:P.info? e with
    |none=>simp [hq] at hinf
    |some i=>simp [hq] at hinf;exact⟨i,rfl,hinf.1,hinf.2.1,hinf.2.2⟩
  have D:vs.length*size≠0:=Nat.mul_ne_zero yv yv;have H:¬(vs.length*size > 2 ^ 24):=yv;have A:Instr.fill (fun k=>some (k*size,size)) ((Array.range (vs.length*size)).map (z.cells[· % z.cells.size]!)) ((vs.zipIdx 0).map fun x=>(x.2,x.1))=some (vs.flatMap fun v=>v.cells.toList).toArray:=
    Go.Great.fill_whole hsz vs _ hv yZ
  unfold Instr.buildSlice;have B:(sizeOf e).run P w=.ok size w:=by simp [sizeOf,typeInfo,E,G]
  have C:(zeroValue e).run P w=.ok z w:=by simp [zeroValue,typeInfo,E,F]
  simp only[Sem.run_bind,run_underlying ht,Result.andThen_ok,B,if_neg H,if_neg D,C,Sem.run_pure,A];rfl
theorem zE{P:Program}{ops:Array Oper}{rest:List Oper}{o:Oper}{a:Act}{w:World}{Q:Exit→Act→World→Prop}(hw:Region.wanted o (yielded ops a.tmps)=true)(t:TypeId)(x:Operand)(ho:o.op=.buildSlice t 1 #[(0,x)])
    (e:TypeId) (ht:P.underlying t=some (.slice e)) (z:Value) (size bytes:Nat) (hinf:(P.info? e).map (fun i=>(i.zero,i.size,i.bytes))=some (some z,size,bytes)) (hz1:z.cells.size=size) (hsz:0<size) (hmax:size≤16777216)
    (us:List Value) (hl:us.length=size) (hx:a.eval x=.agg us.toArray)
    (h:wpList P ops Q rest (a.put o.dst (.slice (some ⟨w.heap.size,0,none⟩) 1 1)) (w.alloc (.cells us.toArray e))):wpList P ops Q (o::rest) a w:=by
  have A:=Kv w t e ht z size bytes hinf hz1 hsz [.agg us.toArray] (fun v B=>by rw[xZ.1 B];exact hl) yZ (by simpa using hmax);simp only[List.flatMap_cons,List.flatMap_nil,List.append_nil] at A;refine BigFrame.wpList_want hw fun K C=>?_
  have:=C _ _ h;unfold Oper.wp execOp;simp only[ho,xV,xX,Yy,hx,Sem.run_bind];have D:(Instr.buildSlice t 1 #[(0,.agg us.toArray)]).run P w=.ok (.slice (some ⟨w.heap.size,0,none⟩) 1 1) (w.alloc (.cells us.toArray e)):=A;rw[D];exact this
def kT(c:kN):List Value:=kc c.1++(kc c.2.1++([.int .u8 (c.2.2.1:Int)]++[.string c.2.2.2]))
def Kx(c:kN):Prop:=kJ c.1∧kJ c.2.1∧c.2.2.1<256∧c.2.2.2.size≤maxLen
theorem j6{c:kN}(h:Kx c):(kT c).length=70:=by
  simp [kT,ke h.1,ke h.2.1]
theorem JW(c:kN):∀u∈kT c,u.oneCell'=true:=by
  intro u A;simp only[kT,xJ,xZ] at A;rcases A with A|A|rfl|rfl
  ·exact j8 _ u A
  ·exact j8 _ u A
  ·rfl
  ·rfl
theorem qS{c:kN}(h:Kx c):(kT c)[68]?=some (.int .u8 (c.2.2.1:Int))∧(kT c)[69]?=some (.string c.2.2.2):=by
  have A:=ke h.1;have B:=ke h.2.1;constructor
  ·unfold kT;rw[xx yv,xx yv,A,B];rfl
  ·unfold kT;rw[xx yv,xx yv,A,B];rfl
theorem uy{c:kN}(h:Kx c):∀j u,(kc c.1)[j]?=some u→(kT c)[0+j]?=some u:=by
  intro j u A;unfold kT;rw[Nat.zero_add,xv (yJ.1 A).1];exact A
theorem claim_doc{c:kN}(h:Kx c):∀j u,(kc c.2.1)[j]?=some u→(kT c)[34+j]?=some u:=by
  intro j u A;have B:=ke h.1;unfold kT;rw[xx yv,B,show 34+j - 34=j by omega,xv (yJ.1 A).1];exact A
abbrev Zi:=kE×ByteArray
def jW(n:Zi):List Value:=kc n.1++[.string n.2]
def Qw(n:Zi):Prop:=kJ n.1∧n.2.size≤maxLen
theorem JK{n:Zi}(h:Qw n):(jW n).length=35:=by
  simp [jW,ke h.1]
theorem qU(n:Zi):∀u∈jW n,u.oneCell'=true:=by
  intro u A;simp only[jW,xJ,xZ] at A;rcases A with A|rfl
  ·exact j8 _ u A
  ·rfl
theorem named_cell{n:Zi}(h:Qw n):(jW n)[34]?=some (.string n.2):=by
  have A:=ke h.1;unfold jW;rw[xx yv,A];rfl
theorem named_doc{n:Zi}(h:Qw n):∀j u,(kc n.1)[j]?=some u→(jW n)[0+j]?=some u:=by
  intro j u A;unfold jW;rw[Nat.zero_add,xv (yJ.1 A).1];exact A
section
variable {H:Type} {enc:TypeId×Value→H} {w:World} {base:Nat} {spare:Nat→Bool} {held:Bool} {fuel:Nat} {cs:List Value} {x:DataW H×List MemPlace}
end
def vI(k:kE):Value:=.agg (kc k).toArray
noncomputable def Um(k:kE):Lit:=(keyOf prog 89 (vI k)).getD (.bool false)
theorem keyA_inj{a b:kE}(h:vI a=vI b):a=b:=by
  unfold vI at h;injection h with h;exact keyV_inj (by have:=congrArg Array.toList h;simpa using this)
theorem keyOf_key{k:kE}(hk:kJ k):keyOf prog 89 (vI k)=some (Um k):=by
  obtain⟨l,A⟩:=eqKey.is (by rw[ke hk,Qn]) (kbKey hk);unfold Um;have B:keyOf prog 89 (vI k)=some l:=A;rw[B];rfl
theorem keyEnc:KeyEnc prog 89 kJ vI Um:=⟨keyedKey,fun k A=>keyOf_key A,fun a b h=>keyA_inj h⟩
def idA(i:List UInt8):Value:=.agg (idV i).toArray
noncomputable def idL(i:List UInt8):Lit:=(keyOf prog 41 (idA i)).getD (.bool false)
theorem idA_inj{a b:List UInt8}(h:idA a=idA b):a=b:=by
  unfold idA at h;injection h with h;exact idV_inj (by have:=congrArg Array.toList h;simpa using this)
theorem keyOf_id{i:List UInt8}(hi:jr i):keyOf prog 41 (idA i)=some (idL i):=by
  obtain⟨l,A⟩:=eqId.is (by rw[kn,vn];exact hi) (kbId hi);unfold idL;have B:keyOf prog 41 (idA i)=some l:=A;rw[B];rfl
theorem Qx:KeyEnc prog 41 jr idA idL:=⟨eqId.keyed,fun i A=>keyOf_id A,fun a b h=>idA_inj h⟩
end
def OpOk(x:OpD):Prop:=zz x.2.1∧zz x.2.2.1∧(Lit.int .i64 x.2.2.2.2.1).wf=true
def Zj(c:ks):Prop:=(Lit.int .i64 c.1).wf=true∧IdsOk c.2.1∧∀x∈c.2.2.2,OpOk x
def CommitOk(c:ZK):Prop:=IdsOk c.1∧IdsOk c.2.1∧(Lit.int .i64 c.2.2.2.2).wf=true
def ObjOk(o:vB):Prop:=Zj o.2.1∧CommitOk o.2.2
theorem zZ{n:Int}(h:(Lit.int .i64 n).wf=true): -9223372036854775808≤n∧n<9223372036854775808:=by
  simp only[Lit.wf,IntKind.min,IntKind.max,IntKind.signed,IntKind.bits,xy] at h;simp at h;omega
theorem zF(n:Nat):qO (n:Int)=jA n:=by unfold qO;rw[if_neg yv];rfl
section
variable {α:Type} {d:Ps α} {enc:α→List UInt8}
end
theorem cmpB_zeros:∀(n:Nat) (a:List UInt8),a.length=n→¬jJ a (List.replicate n 0)<0
  | 0,a,h=>by
    rw[List.length_eq_zero_iff.1 h];rw[show List.replicate 0 (0:UInt8)=[] from rfl,vx];omega
  |n+1,[],h=>by cases h
  |n+1,x::a,h=>by
   rw[List.replicate_succ,Jb,if_neg (by rw[UInt8.lt_iff_toNat_lt];exact Nat.not_lt_zero _)]
   split
   ·omega
   ·exact cmpB_zeros n a (by simpa using h)
theorem ids_nodup{l:List (List UInt8)}(h:jh l=true):∀i j (hij:i<j) (hj:j<l.length),l[i]'(Nat.lt_trans hij hj)≠l[j]:=fun i j hij hj e=>by
  have:=(List.pairwise_iff_getElem.1 (vX h)) i j yv hj hij;rw[e,vt] at this;omega
theorem idxOf_at{l:List (List UInt8)}(h:jh l=true)(i:Nat)(hi:i<l.length):l.idxOf l[i]=i:=by
  have C:l[i]∈l:=yQ hi;have A:=List.idxOf_lt_length_iff.2 C;have B:l[l.idxOf l[i]]=l[i]:=List.getElem_idxOf A;rcases (by omega:l.idxOf l[i]<i∨i<l.idxOf l[i]∨l.idxOf l[i]=i) with q|q|q
  ·exact absurd B (ids_nodup h _ _ q hi)
  ·exact absurd B.symm (ids_nodup h _ _ q A)
  ·exact q
theorem UN{l:List (List UInt8)}{most:Nat}(h:vC l most=true)(ho:IdsOk l):l.length≤most∧jh l=true∧k9∉l:=by
  unfold vC at h;simp only[xy,decide_eq_true_eq] at h;refine⟨h.1.1,h.1.2,fun A=>?_⟩;obtain⟨i,C,e⟩:=List.getElem_of_mem A;cases l with
  |nil=>cases A
  |cons a l=>
   have D:a≠k9:=by simpa using h.2
   cases i with
   |zero=>exact D e
   |succ i=>
    have B:=(List.pairwise_iff_getElem.1 (vX h.1.2)) 0 (i+1) yZ C yv;rw[e] at B;exact cmpB_zeros 32 a (ho a yZ) B
theorem zW{k:UInt8}{p:Qp}(h:jO k=some p):(k=1∧p=(true,true,true,false,false))∨(k=2∧p=(true,true,false,true,false))∨(k=3∧p=(false,false,false,false,true))∨(k=4∧p=(true,false,false,false,true))∨(k=5∧p=(true,false,false,false,false)):=by
  unfold jO at h
  repeat (split at h; · rename_i A;cases h;simp [A])
  cases h
theorem foreign_in{deps:List (List UInt8)}{r:zy}(h:zC deps r=true):r.1∈deps∧0≤r.2:=by
  unfold zC at h;simp only[xy,decide_eq_true_eq] at h;exact⟨h.1.1.2,h.1.2⟩
theorem doc_in{deps:List (List UInt8)}{mk:List jL}{r:zy}(h:vf deps mk r=true):(r.1=k9∨r.1∈deps)∧0≤r.2:=by
  unfold vf at h
  split at h
  ·have:=foreign_in h;exact⟨.inr this.1,this.2⟩
  ·rename_i A;simp only[xy,decide_eq_true_eq] at h;exact⟨.inl (Classical.not_not.1 A),h.1.1⟩
theorem elems_in{deps:List (List UInt8)}{mk:List jL}{r d:zy}{n:Int}(h:jD deps mk r d n=true):(r.1=k9∨r.1∈deps)∧0≤r.2:=by
  unfold jD at h
  split at h
  ·have:=foreign_in h;exact⟨.inr this.1,this.2⟩
  ·rename_i A;simp only[xy,decide_eq_true_eq] at h;exact⟨.inl (Classical.not_not.1 A),h.1.1.1⟩
theorem vJ{s:ByteArray}(h:KY s=true):s.size≤4096:=by
  unfold KY at h;simp only[xy,decide_eq_true_eq] at h;exact h.1
theorem pathB_size{s:ByteArray}(h:jZ s=true):s.size≤64:=by
  unfold jZ at h;simp only[xy,decide_eq_true_eq] at h;exact h.1.1.2
theorem Qy{s:ByteArray}(h:K8 s=true):s.size≤32:=by
  unfold K8 at h;simp only[xy,decide_eq_true_eq] at h;exact h.1.2
theorem op_names{deps:List (List UInt8)}{mk:List jL}{x:OpD}{p:Qp}(hp:jO x.1=some p)(h:opB deps mk x=true):
    (p.1=true→(x.2.1.1=k9∨x.2.1.1∈deps)∧0≤x.2.1.2)∧(p.1=false→x.2.1=ko)∧(p.2.1=true→(x.2.2.1.1=k9∨x.2.2.1.1∈deps)∧0≤x.2.2.1.2)∧(p.2.1=false→x.2.2.1=ko)∧
    (p.2.2.1=true→x.2.2.2.1.size≤4096)∧(p.2.2.1=false→x.2.2.2.1=noneS)∧(p.2.2.2.1=true→0≤x.2.2.2.2.1)∧(p.2.2.2.1=false→x.2.2.2.2.1=0)∧(p.2.2.2.2=true→x.2.2.2.2.2.size≤4096)∧(p.2.2.2.2=false→x.2.2.2.2.2=noneS):=by
  obtain⟨k,d,a,t,c,q⟩:=x;unfold opB at h;simp only at hp h ⊢;rw[hp] at h;simp only[kO,xy] at h;obtain⟨⟨⟨⟨A,B⟩,D⟩,E⟩,C⟩:=h;have F:k=1→(a.1=k9∨a.1∈deps)∧0≤a.2:=fun e=>by
    subst e;rcases zW hp with⟨_,rfl⟩|⟨e,_⟩|⟨e,_⟩|⟨e,_⟩|⟨e,_⟩
    ·have G:=doc_in (by simpa using B:vf deps mk d=true);simp only[decide_true,Bool.not_true,Bool.false_or,xy,Bool.or_eq_true,decide_eq_true_eq] at C;rcases C.1.1 with e|e
     ·rw[e];exact G
     ·exact elems_in e
    all_goals exact absurd e yj
  rcases zW hp with⟨rfl,rfl⟩|⟨rfl,rfl⟩|⟨rfl,rfl⟩|⟨rfl,rfl⟩|⟨rfl,rfl⟩
  ·simp at A B D C E ⊢;exact⟨doc_in B,F rfl,vJ C.2,A.1,A.2⟩
  ·simp at A B D C E ⊢;exact⟨doc_in B,elems_in E.2,A.1,by omega,A.2⟩
  ·simp at A B D C E ⊢;exact⟨A.1.1.1,A.1.1.2,A.1.2,A.2,by have:=pathB_size D;omega⟩
  ·simp at A B D C E ⊢;exact⟨doc_in B,A.1.1,A.1.2,A.2,by have:=pathB_size D;omega⟩
  ·simp at A B D C E ⊢;exact⟨doc_in B,A.1.1.1,A.1.1.2,A.1.2,A.2⟩
theorem ops_each{deps:List (List UInt8)}:∀{l:List OpD} {mk:List jL},Zh deps mk l=true→∀x∈l,∃mk,opB deps mk x=true
  | [],_,_,_,h=>by cases h
  |y::l,mk,h,x,hx=>by
   unfold Zh at h;rw[xy] at h;rcases xK.1 hx with rfl|hx
   ·exact⟨mk,h.1⟩
   ·exact ops_each h.2 x hx
section
open Go.RowKit
def opV(x:OpD):List Value:=.int .u8 (x.1.toNat:Int)::(kw x.2.1++(kw x.2.2.1++[.string x.2.2.2.1,.int .i64 x.2.2.2.2.1,.string x.2.2.2.2.2]))
def KR(x:OpD):Prop:=OpOk x∧x.2.2.2.1.size≤maxLen∧x.2.2.2.2.2.size≤maxLen
theorem kI{x:OpD}(h:KR x):(opV x).length=70:=by
  have A:=kq h.1.1;have B:=kq h.1.2.1;simp [opV,A,B]
theorem UO(x:OpD):∀u∈opV x,u.oneCell'=true:=by
  intro u A;unfold opV at A;rcases xK.1 A with rfl|A
  ·rfl
  ·rcases xJ.1 A with A|A
   ·exact Qm _ u A
   ·rcases xJ.1 A with A|A
    ·exact Qm _ u A
    ·simp at A;rcases A with rfl|rfl|rfl<;>rfl
theorem kB{x:OpD}(h:KR x):(opV x)[0]?=some (.int .u8 (x.1.toNat:Int))∧(∀(j:Nat) (u:Value),(kw x.2.1)[j]?=some u→(opV x)[1+j]?=some u)∧(∀(j:Nat) (u:Value),(kw x.2.2.1)[j]?=some u→(opV x)[34+j]?=some u)∧
    (opV x)[67]?=some (.string x.2.2.2.1)∧(opV x)[68]?=some (.int .i64 x.2.2.2.2.1)∧(opV x)[69]?=some (.string x.2.2.2.2.2):=by
  have C:=kq h.1.1;have E:=kq h.1.2.1;have e:opV x=[.int .u8 (x.1.toNat:Int)]++kw x.2.1++kw x.2.2.1++[.string x.2.2.2.1,.int .i64 x.2.2.2.2.1,.string x.2.2.2.2.2]:=by simp [opV]
  have F:([.int .u8 (x.1.toNat:Int)]++kw x.2.1:List Value).length=34:=by simp [C]
  have B:([.int .u8 (x.1.toNat:Int)]++kw x.2.1++kw x.2.2.1:List Value).length=67:=by simp [C,E]
  refine⟨rfl,fun j u A=>?_,fun j u A=>?_,?_,?_,?_⟩
  ·have D:=(yJ.1 A).1;rw[e,Yz,Yz,xx yZ,xv (by simp<;>omega)]
   simpa using A
  ·have D:=(yJ.1 A).1;rw[e,Yz,xx yv,F,xv yv,Nat.add_sub_cancel_left];exact A
  ·rw[e,xx yv,B];rfl
  ·rw[e,xx yv,B];rfl
  ·rw[e,xx yv,B];rfl
theorem kK{r:zy}(h:zz r):(∀(j:Nat) (u:Value),(idV r.1)[j]?=some u→(kw r)[j]?=some u)∧(kw r)[32]?=some (.int .i64 r.2):=by
  have B:(idV r.1).length=32:=by rw[kn];exact h.1
  refine⟨fun j u A=>?_,?_⟩
  ·unfold kw;rw[xv (yJ.1 A).1];exact A
  ·unfold kw;rw[xx yv,B];rfl
theorem uz:prog.cellsOf 110=33:=yq
theorem eqRef:EqT prog 110 3:=⟨by kernel_rfl,of_decide_eq_true yq,of_decide_eq_true yq,by kernel_rfl,by kernel_rfl,of_decide_eq_true yq,by kernel_rfl⟩
theorem kbRef{r:zy}(hr:zz r):Kb prog 3 110 (kw r):=by
  have B:=kq hr;have A:(idV r.1).length=32:=by rw[kn];exact hr.1
  refine kb_struct underlying110 (by rw[B,uz]) yq fun f C=>?_
  simp only[xK,YY,or_false] at C;rcases C with rfl|rfl
  ·simp only[vn,List.drop_zero];rw[show (kw r).take 32=idV r.1 by unfold kw;rw[←A,List.take_left]];exact kbId hr.1
  ·simp only[ut];rw[show ((kw r).drop 32).take 1=[.int .i64 r.2] from cut_end A rfl];exact fun d D=>kb_int underlying3 hr.2 d yv
theorem jU{a b:zy}(ha:zz a)(hb:zz b)(w:World):(Op.equalIn 10000 110 (.agg (kw a).toArray) (.agg (kw b).toArray)).run prog w=.ok (decide (a=b)) w:=
  eqRef.run kw (fun _ _=>refV_inj) (by rw[kq ha,uz]) (by rw[kq hb,uz]) (kbRef ha) (kbRef hb) w
theorem jd:zz ko:=⟨jT,by decide⟩
structure ObjIn (w:World) (B:Nat) (v:Value) (o:vB):Prop where
  ok:ObjOk o
  ops:∀x∈o.2.1.2.2.2,KR x
  author:o.2.1.2.2.1.size≤maxLen
  author2:o.2.2.2.2.1.size≤maxLen
  note:o.2.2.2.2.2.1.size≤maxLen
  cells:∃Ad cd Ao co Ap cp Ac cc,v=.agg #[.int .u8 (o.1.toNat:Int),.int .i64 o.2.1.1,.slice Ad o.2.1.2.1.length cd,.string o.2.1.2.2.1,.slice Ao o.2.1.2.2.2.length co,.slice Ap o.2.2.1.length cp,.slice Ac o.2.2.2.1.length cc,.string o.2.2.2.2.1,.string o.2.2.2.2.2.1,.int .i64 o.2.2.2.2.2.2]∧
    Sl w B Ad o.2.1.2.1.length 32 (zB o.2.1.2.1)∧Sl w B Ao o.2.1.2.2.2.length 70 (kf opV o.2.1.2.2.2)∧Sl w B Ap o.2.2.1.length 32 (zB o.2.2.1)∧Sl w B Ac o.2.2.2.1.length 32 (zB o.2.2.2.1)
structure ChIn (w:World) (B:Nat) (v:Value) (c:ks):Prop where
  ok:Zj c
  ops:∀x∈c.2.2.2,KR x
  author:c.2.2.1.size≤maxLen
  cells:∃Ad cd Ao co,v=.agg #[.int .i64 c.1,.slice Ad c.2.1.length cd,.string c.2.2.1,.slice Ao c.2.2.2.length co]∧Sl w B Ad c.2.1.length 32 (zB c.2.1)∧Sl w B Ao c.2.2.2.length 70 (kf opV c.2.2.2)
structure CmIn (w:World) (B:Nat) (v:Value) (c:ZK):Prop where
  ok:CommitOk c
  author:c.2.2.1.size≤maxLen
  note:c.2.2.2.1.size≤maxLen
  cells:∃Ap cp Ac cc,v=.agg #[.slice Ap c.1.length cp,.slice Ac c.2.1.length cc,.string c.2.2.1,.string c.2.2.2.1,.int .i64 c.2.2.2.2]∧Sl w B Ap c.1.length 32 (zB c.1)∧Sl w B Ac c.2.1.length 32 (zB c.2.1)
section
variable {w w':World} {B B':Nat} {v:Value}
theorem ObjIn.keep{o:vB}(h:ObjIn w B v o)(hb:Below B w w'):ObjIn w' B v o:=by
  obtain⟨A,C,D,E,F,Ad,G,Ao,H,Ap,I,Ac,J,K,L,M,N,O⟩:=h;exact⟨A,C,D,E,F,Ad,G,Ao,H,Ap,I,Ac,J,K,L.keep hb,M.keep hb,N.keep hb,O.keep hb⟩
theorem ObjIn.more{o:vB}(h:ObjIn w B v o)(hB:B≤B'):ObjIn w B' v o:=by
  obtain⟨A,C,D,E,F,Ad,G,Ao,H,Ap,I,Ac,J,K,L,M,N,O⟩:=h;exact⟨A,C,D,E,F,Ad,G,Ao,H,Ap,I,Ac,J,K,L.more hB,M.more hB,N.more hB,O.more hB⟩
theorem ChIn.keep{o:ks}(h:ChIn w B v o)(hb:Below B w w'):ChIn w' B v o:=by
  obtain⟨A,C,D,Ad,E,Ao,F,G,H,I⟩:=h;exact⟨A,C,D,Ad,E,Ao,F,G,H.keep hb,I.keep hb⟩
theorem ChIn.more{o:ks}(h:ChIn w B v o)(hB:B≤B'):ChIn w B' v o:=by
  obtain⟨A,C,D,Ad,E,Ao,F,G,H,I⟩:=h;exact⟨A,C,D,Ad,E,Ao,F,G,H.more hB,I.more hB⟩
theorem CmIn.keep{o:ZK}(h:CmIn w B v o)(hb:Below B w w'):CmIn w' B v o:=by
  obtain⟨A,C,D,Ad,E,Ao,F,G,H,I⟩:=h;exact⟨A,C,D,Ad,E,Ao,F,G,H.keep hb,I.keep hb⟩
theorem CmIn.more{o:ZK}(h:CmIn w B v o)(hB:B≤B'):CmIn w B' v o:=by
  obtain⟨A,C,D,Ad,E,Ao,F,G,H,I⟩:=h;exact⟨A,C,D,Ad,E,Ao,F,G,H.more hB,I.more hB⟩
end
def jc(m:zD):List Value:=.bool m.1::kc m.2
abbrev EntryM:=Value×Value×Value
def Kk(e:vD)(m:EntryM):List Value:=[.int .i64 e.1.1,m.1,.string e.1.2.2.1,m.2.1,m.2.2]
structure EntryIn (w:World) (e:vD) (m:EntryM):Prop where
  time:(Lit.int .i64 e.1.1).wf=true
  deps:w.ownsRow 0 41 32 m.1 e.1.2.1.length (zB e.1.2.1)
  ops:w.ownsRow 0 112 70 m.2.1 e.1.2.2.2.length (kf opV e.1.2.2.2)
  makes:w.ownsRow 0 199 35 m.2.2 e.2.length (kf jc e.2)
  idsOk:IdsOk e.1.2.1
  opsOk:∀x∈e.1.2.2.2,KR x
  keys:∀m∈e.2,kJ m.2
structure kV where
  bd:Nat
  bc:Nat
  nd:Nat
  vc:Value
  ptr:kE→Nat
  row:kE→Value
  em:List UInt8→EntryM
structure StateAt (w:World) (B s:Nat) (S:kj) (q:kV):Prop where
  box:w.heap[s]?=some (.cells [.map (some q.bd),q.vc,.map (some q.bc)].toArray 87 (0,0))
  low:B≤s∧B≤q.bd∧B≤q.bc
  mapD:MapV w prog 89 kJ Um q.bd q.nd (fun k=>(jv S k).map fun _=>.pointer (some ⟨q.ptr k,0,none⟩))
  mapC:MapV w prog 41 jr idL q.bc S.2.2.length (fun i=>(kC S i).map fun e=>.agg (Kk e (q.em i)).toArray)
  ne:q.bd≠q.bc
  claims:w.ownsRow B 135 70 q.vc S.2.1.length (kf kT S.2.1)
  claimsOk:∀c∈S.2.1,Kx c
  docs:∀k d,jv S k=some d→kJ k∧DocAt w B (q.ptr k) (q.row k) d
  apart:∀k k',(jv S k).isSome=true→(jv S k').isSome=true→k≠k'→∀j,DocX (q.ptr k) (q.row k) j→¬DocX (q.ptr k') (q.row k') j
  entries:∀i e,kC S i=some e→jr i∧EntryIn w e (q.em i)
theorem own_keepR{w w':World}{base n sz:Nat}{e:TypeId}{v:Value}{xs:List Value}(h:w.ownsRow base e sz v n xs)(he:immB e=true)(hk:KeepR w w'):w'.ownsRow base e sz v n xs:=by
  refine⟨h.1,?_⟩;rcases h.2 with D|⟨g,B,A,rfl,E,C,r⟩
  ·exact .inl D
  ·exact .inr ⟨g,B,A,rfl,E,(hk g A e (0,0) he C).trans C,r⟩
theorem EntryIn.keep{w w':World}{e:vD}{m:EntryM}(h:EntryIn w e m)(hk:KeepR w w'):EntryIn w' e m:=
  ⟨h.time,own_keepR h.deps yj hk,own_keepR h.ops yj hk,own_keepR h.makes yj hk,h.idsOk,h.opsOk,h.keys⟩
section
variable {w w':World} {B s:Nat} {S:kj} {q:kV}
theorem StateAt.mapD_obj(h:StateAt w B s S q):∃a b,w.heap[q.bd]?=some (.map a b):=by
  obtain⟨D,⟨E,A,C,_⟩,_⟩:=h.mapD;exact⟨_,_,C⟩
theorem StateAt.mapC_obj(h:StateAt w B s S q):∃a b,w.heap[q.bc]?=some (.map a b):=by
  obtain⟨D,⟨E,A,C,_⟩,_⟩:=h.mapC;exact⟨_,_,C⟩
theorem DocAt.tagged{p:Nat}{v:Value}{d:List kQ}(h:DocAt w B p v d){k:Nat}(hk:DocX p v k):∃A t,(t=192∨t=177)∧w.heap[k]?=some (.cells A t (0,0)):=by
  rcases hk with rfl|hk
  ·obtain⟨s,t,C⟩:=h.box;exact⟨_,_,.inl rfl,C⟩
  ·obtain⟨F,_,_,D⟩:=h.rows;obtain⟨A,E⟩:=kH D hk;exact⟨A,_,.inr rfl,E⟩
theorem StateAt.keep(h:StateAt w B s S q)(hb:Below w.heap.size w w'):StateAt w' B s S q:=
  have D:=KeepR.below hb
  ⟨(hb.block s (qX h.box)).trans h.box,h.low,h.mapD.below hb,h.mapC.below hb,h.ne,(But.of_below (X:=NoB) hb).own h.claims fun _ _ q=>q,h.claimsOk,fun k d A=>⟨(h.docs k d A).1,(h.docs k d A).2.keep hb⟩,h.apart,fun i e C=>⟨(h.entries i e C).1,(h.entries i e C).2.keep D⟩⟩
theorem StateAt.turn(h:StateAt w B s S q){k:kE}{d d':List kQ}{v':Value}(hd:jv S k=some d)(hb:But (DocX (q.ptr k) (q.row k)) w w')(hn:DocAt w' B (q.ptr k) v' d')
    (hw:∀j,v'.ownBlock=some j→(q.row k).ownBlock=some j∨w.heap.size≤j):
    StateAt w' B s (zQ S.1 k d',S.2) { q with row:=fun x=>if x=k then v' else q.row x}:=by
  have O:=(h.docs k d hd).2;have X:=KeepR.but hb O.noRunes;have T:∀{b:Nat} {c:Array Value} {t:TypeId} {f:Nat×Nat},w.heap[b]?=some (.cells c t f)→t≠192→t≠177→¬DocX (q.ptr k) (q.row k) b:=fun P H M A=>by
    obtain⟨Q,a,Y,I⟩:=O.tagged A;exact ji P I (by rcases Y with rfl|rfl<;>assumption) rfl
  have U:∀{b:Nat},(∃x y,w.heap[b]?=some (.map x y))→¬DocX (q.ptr k) (q.row k) b:=fun P A=>by
    obtain⟨Q,a,Y,I⟩:=O.tagged A;exact JV I P rfl
  have F:(jv S k).isSome=true:=by rw[hd];rfl
  have J:∀x,jv (zQ S.1 k d',S.2) x=if x=k then some d' else jv S x:=fun x=>uu S k d' S.2 x
  refine⟨(hb.block s (qX h.box) (T h.box yj yj)).trans h.box,h.low,?_,?_,h.ne,?_,h.claimsOk,?_,?_,?_⟩
  ·have:=hb.map h.mapD (U h.mapD_obj);have e:(fun x=>(jv (zQ S.1 k d',S.2) x).map fun _=>Value.pointer (some ⟨q.ptr x,0,none⟩))=fun x=>(jv S x).map fun _=>Value.pointer (some ⟨q.ptr x,0,none⟩):=by
     funext x
     rw[J]
     split
     ·rename_i e;subst e;rw[hd];rfl
     ·rfl
   show MapV w' _ _ _ _ _ q.nd _;rw[e];exact this
  ·exact hb.map h.mapC (U h.mapC_obj)
  ·refine hb.own h.claims fun g l=>?_
   obtain⟨Q,I⟩:=kH h.claims l;exact T I yj yj
  ·intro x y A;rw[J] at A
   split at A
   ·rename_i e;subst e;cases A
    exact⟨(h.docs _ _ hd).1,by simpa using hn⟩
   ·rename_i e;have:=h.docs x y A;refine⟨this.1,?_⟩;simp only[if_neg e];exact this.2.but hb (fun j N D=>h.apart x k (by rw[A];rfl) F e j N D) X
  ·intro x y A G L j N D;rw[J] at A G;have K:∀{z:kE},z≠k→(jv S z).isSome=true→DocX (q.ptr z) (if z=k then v' else q.row z) j→DocX (q.ptr z) (q.row z) j:=fun W _ C=>by rw[if_neg W] at C;exact C
   have R:DocX (q.ptr k) v' j→DocX (q.ptr k) (q.row k) j∨w.heap.size≤j:=fun C=>by
     rcases C with C|C
     ·exact .inl (.inl C)
     ·rcases hw j C with C|C
      ·exact .inl (.inr C)
      ·exact .inr C
   have V:∀{z:kE},(jv S z).isSome=true→DocX (q.ptr z) (q.row z) j→j<w.heap.size:=fun W C=>by
     obtain⟨n,Z⟩:=Option.isSome_iff_exists.1 W;obtain⟨Q,t,_,I⟩:=((h.docs _ _ Z).2).tagged C;exact qX I
   simp only at N D;by_cases hxk:x=k
   ·have E:y≠k:=fun e=>L (hxk.trans e.symm)
    rw[if_neg E] at G;subst hxk;rw[if_pos rfl] at N;have M:=K E G D;rcases R N with H|H
    ·exact h.apart x y F G L j H M
    ·have:=V G M;omega
   ·rw[if_neg hxk] at A;have H:=K hxk A N;by_cases E:y=k
    ·subst E;rw[if_pos rfl] at D;rcases R D with M|M
     ·exact h.apart x y A F L j H M
     ·have:=V A H;omega
    ·rw[if_neg E] at G;exact h.apart x y A G L j H (K E G D)
  ·intro i e m;have:=h.entries i e m;exact⟨this.1,this.2.keep X⟩
theorem StateAt.apartDoc(h:StateAt w B s S q){k:kE}(hk:(jv S k).isSome=true){j:Nat}(hj:DocX (q.ptr k) (q.row k) j):j<w.heap.size∧j≠s∧j≠q.bd∧j≠q.bc∧q.vc.ownBlock≠some j:=by
  obtain⟨d,D⟩:=Option.isSome_iff_exists.1 hk;obtain⟨F,t,C,A⟩:=(h.docs k d D).2.tagged hj;refine⟨qX A,ji A h.box (by rcases C with rfl|rfl<;>decide),JV A h.mapD_obj,JV A h.mapC_obj,fun e=>?_⟩;obtain⟨G,E⟩:=kH h.claims e;exact ji A E (by rcases C with rfl|rfl<;>decide) rfl
theorem StateAt.keepX(h:StateAt w B s S q){X:Nat→Prop}(hb:But X w w')(hx:∀j,X j→j=s∨j=q.bd∨j=q.bc∨q.vc.ownBlock=some j):KeepR w w'∧∀k d,jv S k=some d→DocAt w' B (q.ptr k) (q.row k) d:=by
  have E:KeepR w w':=KeepR.but hb fun j A L t M F C=>by
    rcases hx j A with rfl|rfl|rfl|A
    ·exact ji C h.box (by rintro rfl;exact absurd F yj) rfl
    ·exact JV C h.mapD_obj rfl
    ·exact JV C h.mapC_obj rfl
    ·obtain⟨N,D⟩:=kH h.claims A;exact ji C D (by rintro rfl;exact absurd F yj) rfl
  refine⟨E,fun k d G=>(h.docs k d G).2.but hb (fun j A H=>?_) E⟩;obtain⟨_,I,D,J,K⟩:=h.apartDoc (k:=k) (by rw[G];rfl) A;rcases hx j H with q|q|q|q
  ·exact I q
  ·exact D q
  ·exact J q
  ·exact K q
theorem StateAt.sep(h:StateAt w B s S q):s≠q.bd∧s≠q.bc∧q.vc.ownBlock≠some s∧q.vc.ownBlock≠some q.bd∧q.vc.ownBlock≠some q.bc:=by
  refine⟨JV h.box h.mapD_obj,JV h.box h.mapC_obj,fun e=>?_,fun e=>?_,fun e=>?_⟩
  ·obtain⟨C,A⟩:=kH h.claims e;exact ji A h.box yj rfl
  ·obtain⟨C,A⟩:=kH h.claims e;exact JV A h.mapD_obj rfl
  ·obtain⟨C,A⟩:=kH h.claims e;exact JV A h.mapC_obj rfl
theorem StateAt.putClaim(h:StateAt w B s S q){c:kN}{v':Value}(hc:Kx c)(ho:w'.ownsRow B 135 70 v' (S.2.1.length+1) (kf kT S.2.1++kT c))
    (hbx:w'.heap[s]?=some (.cells [.map (some q.bd),v',.map (some q.bc)].toArray 87 (0,0))) (hb:But (fun j=>j=s∨q.vc.ownBlock=some j) w w'):StateAt w' B s (S.1,S.2.1++[c],S.2.2) { q with vc:=v'}:=by
  obtain⟨F,G⟩:=h.keepX hb fun j C=>C.elim .inl fun C=>.inr (.inr (.inr C))
  obtain⟨H,I,L,J,K⟩:=h.sep;refine⟨hbx,h.low,hb.map h.mapD (fun e=>e.elim (fun e=>H e.symm) J),hb.map h.mapC (fun e=>e.elim (fun e=>I e.symm) K),h.ne,?_,fun x A=>?_,fun k d D=>⟨(h.docs k d D).1,G k d D⟩,h.apart,fun i e E=>⟨(h.entries i e E).1,(h.entries i e E).2.keep F⟩⟩
  ·show w'.ownsRow B _ 70 v' (S.2.1++[c]).length (kf kT (S.2.1++[c]));rw[yV,xQ,show kf kT (S.2.1++[c])=kf kT S.2.1++kT c by simp [kf]];exact ho
  ·rcases xJ.1 A with A|A
   ·exact h.claimsOk x A
   ·rw[xZ.1 A];exact hc
theorem StateAt.putEntry(h:StateAt w B s S q){i:List UInt8}{e:vD}{m:EntryM}(hi:jr i)(hn:kC S i=none)(he:EntryIn w e m)
    (hm:MapV w' prog 41 jr idL q.bc (S.2.2.length+1) (fun x=>if x=i then some (.agg (Kk e m).toArray) else (kC S x).map fun e=>.agg (Kk e (q.em x)).toArray)) (hb:But (fun j=>j=q.bc) w w'):
    StateAt w' B s (S.1,S.2.1,S.2.2++[(i,e)]) { q with em:=fun x=>if x=i then m else q.em x}:=by
  obtain⟨D,G⟩:=h.keepX hb fun j H=>.inr (.inr (.inl H))
  obtain⟨L,I,M,N,J⟩:=h.sep;have E:∀x,kC (S.1,S.2.1,S.2.2++[(i,e)]) x=if x=i then some e else kC S x:=fun x=>by
    unfold kC;rw[List.find?_append];by_cases hx:x=i
    ·subst hx;unfold kC at hn;rw[Option.map_eq_none_iff] at hn;rw[if_pos rfl,hn];simp
    ·rw[if_neg hx];have:decide (i=x)=false:=decide_eq_false fun e=>hx e.symm
     simp [this]
  refine⟨(hb.block s (qX h.box) I).trans h.box,h.low,hb.map h.mapD h.ne,?_,h.ne,hb.own h.claims fun g K e=>J (by rw[K,e]),h.claimsOk,fun k d F=>⟨(h.docs k d F).1,G k d F⟩,h.apart,fun x y C=>?_⟩
  ·show MapV w' _ _ _ _ _ (S.2.2++[(i,e)]).length _;rw[yV,xQ];have A:(fun x=>(kC (S.1,S.2.1,S.2.2++[(i,e)]) x).map fun e=>Value.agg (Kk e (if x=i then m else q.em x)).toArray)=fun x=>if x=i then some (.agg (Kk e m).toArray) else (kC S x).map fun e=>.agg (Kk e (q.em x)).toArray:=by
     funext x
     rw[E]
     split<;>rfl
   rw[A];exact hm
  ·rw[E] at C
   split at C
   ·rename_i A;subst A;cases C
    exact⟨hi,by simpa using he.keep D⟩
   ·rename_i A;have:=h.entries x y C;simp only[if_neg A];exact⟨this.1,this.2.keep D⟩
theorem StateAt.putDoc(h:StateAt w B s S q){k:kE}{p:Nat}(hk:kJ k)(hp:DocAt w B p (.slice none 0 0) [])(hf:∀x,(jv S x).isSome=true→¬DocX (q.ptr x) (q.row x) p)
    (hm:MapV w' prog 89 kJ Um q.bd (q.nd+1) (fun x=>if x=k then some (.pointer (some ⟨p,0,none⟩)) else (jv S x).map fun _=>.pointer (some ⟨q.ptr x,0,none⟩))) (hb:But (fun j=>j=q.bd) w w'):
    StateAt w' B s (zQ S.1 k [],S.2) { q with nd:=q.nd+1,ptr:=fun x=>if x=k then p else q.ptr x,row:=fun x=>if x=k then .slice none 0 0 else q.row x}:=by
  obtain⟨I,N⟩:=h.keepX hb fun j A=>.inr (.inl A)
  obtain⟨O,T,U,P,V⟩:=h.sep;have F:∀x,jv (zQ S.1 k [],S.2) x=if x=k then some [] else jv S x:=fun x=>uu S k [] S.2 x
  have J:p≠q.bd:=by
    obtain⟨a,b,K⟩:=hp.box;exact JV K h.mapD_obj
  refine⟨(hb.block s (qX h.box) O).trans h.box,h.low,?_,hb.map h.mapC (fun e=>h.ne e.symm),h.ne,hb.own h.claims fun g Q e=>P (by rw[Q,e]),h.claimsOk,?_,?_,fun i e L=>⟨(h.entries i e L).1,(h.entries i e L).2.keep I⟩⟩
  ·have R:(fun x=>(jv (zQ S.1 k [],S.2) x).map fun _=>Value.pointer (some ⟨if x=k then p else q.ptr x,0,none⟩))=fun x=>if x=k then some (.pointer (some ⟨p,0,none⟩)) else (jv S x).map fun _=>.pointer (some ⟨q.ptr x,0,none⟩):=by
     funext x
     rw[F]
     split
     ·rfl
     ·rfl
   show MapV w' _ _ _ _ _ (q.nd+1) _;rw[R];exact hm
  ·intro x y E;rw[F] at E
   split at E
   ·rename_i e;subst e;cases E
    refine⟨hk,?_⟩;simp only[if_pos];exact hp.but hb (fun j A e=>by
      rcases A with A|A
      ·exact J (A.symm.trans e)
      ·cases A) I
   ·rename_i e;refine⟨(h.docs x y E).1,?_⟩;simp only[if_neg e];exact N x y E
  ·intro x y E G H j A D;rw[F] at E G;have M:∀{j},DocX p (.slice none 0 0) j→j=p:=fun A=>by
     rcases A with A|A
     ·exact A
     ·cases A
   simp only at A D;by_cases hxk:x=k
   ·have C:y≠k:=fun e=>H (hxk.trans e.symm)
    rw[if_pos hxk,if_pos hxk] at A;rw[if_neg C] at G;rw[if_neg C,if_neg C] at D;rw[M A] at D;exact hf y G D
   ·rw[if_neg hxk] at E;rw[if_neg hxk,if_neg hxk] at A;by_cases C:y=k
    ·rw[if_pos C,if_pos C] at D;rw[M D] at A;exact hf x E A
    ·rw[if_neg C] at G;rw[if_neg C,if_neg C] at D;exact h.apart x y E G H j A D
end
theorem run_bytesOf{P:Program}{w:World}{b off:Nat}{l:List UInt8}(cap:Nat)(hc:Lib.Bytes w b off ⟨l.toArray⟩):(Extern.Bytes.bytesOf (.slice (some ⟨b,off,none⟩) l.length cap)).run P w=.ok ⟨l.toArray⟩ w:=by
  have h:=Lib.run_loadBytesX (P:=P) (w:=w) (l.map fun c=>(c.toNat:Int)) ⟨b,off,none⟩ .empty (fun j x A=>by
    rw[List.getElem?_map] at A;rcases hl:l[j]? with _ |c
    ·rw[hl] at A;cases A
    ·rw[hl] at A;obtain⟨B,C⟩:=yJ.1 hl;have D:(⟨b,off,none⟩:Addr).add j=⟨b,off+j,none⟩:=by unfold Addr.add;split<;>simp_all
     have E:j<(⟨l.toArray⟩:ByteArray).size:=by simpa [ByteArray.size] using B
     have F:(⟨l.toArray⟩:ByteArray)[j]=l[j]:=by
       show (l.toArray)[j]=l[j];simp
     simp only[Option.map_some,Option.some.injEq] at A;rw[D,hc j E,F,C,A])
  rw[Yv] at h;show (Extern.Bytes.loadBytes ⟨b,off,none⟩ l.length .empty).run P w=_;rw[h]
  congr 2
  have G:Lib.bytesOf (l.map fun c=>(c.toNat:Int))=l:=by
    unfold Lib.bytesOf;rw[List.map_map]
    conv=>rhs;rw[←List.map_id l]
    apply List.map_congr_left;intro c _;simp
  rw[G];simp [ByteArray.empty,ByteArray.emptyWithCapacity];rfl
theorem bytesCompare_any(a b:List UInt8)(ga oa ca gb ob cb:Nat)(w:World)(ha:Lib.Bytes w ga oa ⟨a.toArray⟩)(hb:Lib.Bytes w gb ob ⟨b.toArray⟩):
    Calls prog 177 #[.slice (some ⟨ga,oa,none⟩) a.length ca,.slice (some ⟨gb,ob,none⟩) b.length cb] w fun e w'=>e=.returned (.int .i64 (jJ a b))∧w'=w:=by
  have A:(Extern.BytealgCompare.compare #[.slice (some ⟨ga,oa,none⟩) a.length ca,.slice (some ⟨gb,ob,none⟩) b.length cb]).run prog w=.ok (.int .i64 (jJ a b)) w:=by
    change Sem.run prog (do pure (goInt (Extern.BytealgCompare.cmp (←Extern.Bytes.bytesOf (.slice (some ⟨ga,oa,none⟩) a.length ca)) (←Extern.Bytes.bytesOf (.slice (some ⟨gb,ob,none⟩) b.length cb))))) w=_;simp only[Sem.run_bind,Sem.run_pure,run_bytesOf ca ha,run_bytesOf cb hb,Result.andThen];rw[Lib.cmp_eq];rfl
  go_enter func177,ntmps177
  go_wp2
  rw[run_callFunc_extern func221 yq yq yq (e:=Extern.BytealgCompare.compare) yq,A];simp only[Result.andThen];rw[Oper.upon_value]
  go_wp2
  go_ret;exact⟨rfl,rfl⟩
theorem bytes_box{w:World}{g:Nat}{l:List UInt8}{t:TypeId}{fr:Nat×Nat}(h:w.heap[g]?=some (.cells (idV l).toArray t fr)):Lib.Bytes w g 0 ⟨l.toArray⟩:=by
  intro i B;have A:i<l.length:=by simpa [ByteArray.size] using B
  rw[Nat.zero_add,cell_of_row w g i _ t fr h];have C:(⟨l.toArray⟩:ByteArray)[i]=l[i]:=by
    show (l.toArray)[i]=l[i];simp
  rw[C];simp [idV,A]
theorem compare_gr(a b:List UInt8)(w:World)(ha:jr a)(hb:jr b):
    Calls prog 129 #[.agg (idV a).toArray,.agg (idV b).toArray] w fun e w'=>Gr w w'∧e=.returned (.int .i64 (jJ a b)):=by
  have H:(w.alloc (.cells (idV a).toArray 41)).heap[w.heap.size]?=some (.cells (idV a).toArray 41 (0,0)):=heap_alloc_new _ _;go_enter func129,ntmps129
  go_upto_region 1 with fail
  obtain⟨W,C⟩:=Xy ((w.alloc (.cells (idV a).toArray 41)).alloc (.cells (idV b).toArray 41));have D:Lib.Bytes W w.heap.size 0 ⟨a.toArray⟩:=by
    rw[←C];exact bytes_box (t:=41) (fr:=(0,0)) ((heap_alloc_old (w.alloc (.cells (idV a).toArray 41)) _ yZ).trans H)
  have E:Lib.Bytes W (w.heap.size+1) 0 ⟨b.toArray⟩:=by
    rw[←C];have:=heap_alloc_new (w.alloc (.cells (idV a).toArray 41)) (.cells (idV b).toArray 41);rw[World.size_alloc] at this;exact bytes_box (t:=41) (fr:=(0,0)) this
  have I:Gr w W:=by rw[←C];exact((Gr.refl _).alloc _).alloc _
  rw[C];clear C H;have F:=Lib.hid D;clear D;have G:=Lib.hid E;clear E;have B:=fun q=>bytesCompare_any a b w.heap.size 0 32 (w.heap.size+1) 0 32 (W.drewN q) (F.drewN q) (G.drewN q)
  rw[show a.length=32 from ha,show b.length=32 from hb] at B;have A:=Lib.hid B;clear B
  go_quiet ((go_at_call 177;exact Calls.quiet_of_same (A _)))
  go_wp2_with fail;go_ret;exact⟨I.drewN _,rfl⟩
theorem compare_any(a b:List UInt8)(w:World)(ha:jr a)(hb:jr b):
    Calls prog 129 #[.agg (idV a).toArray,.agg (idV b).toArray] w fun e w'=>Below w.heap.size w w'∧e=.returned (.int .i64 (jJ a b)):=
  (compare_gr a b w ha hb).mono fun _ _ ⟨h,e⟩=>⟨h.below,e⟩
def JH(listed:Array Bool):Nat→Nat
  | 0=>0
  |k+1=>JH listed k+(if listed.getD k true=false then 1 else 0)
theorem Un{listed:Array Bool}:∀{k:Nat},JH listed k=0→∀j,j<k→listed.getD j true=true
  | 0,_,_,h=>by omega
  |k+1,h,j,hj=>by
   unfold JH at h;by_cases hk:listed.getD k true=false
   ·rw[if_pos hk] at h;omega
   ·rw[if_neg hk] at h;rcases (by omega:j<k∨j=k) with q|rfl
    ·exact Un yv j q
    ·simpa using hk
theorem Qz{listed:Array Bool}:∀{k:Nat},JH listed k≠0→∃j,j<k∧listed.getD j true=false∧∀i,i<j→listed.getD i true=true
  | 0,h=>absurd rfl h
  |k+1,h=>by
   by_cases h0:JH listed k=0
   ·refine⟨k,by omega,?_,Un h0⟩;unfold JH at h;by_cases hk:listed.getD k true=false
    ·exact hk
    ·rw[if_neg hk,h0] at h;exact absurd rfl h
   ·obtain⟨j,hj,h1,h2⟩:=Qz h0;exact⟨j,by omega,h1,h2⟩
theorem qw{listed:Array Bool}{i:Nat}:∀{k:Nat},k≤i→JH (listed.setIfInBounds i true) k=JH listed k
  | 0,_=>rfl
  |k+1,h=>by
   unfold JH;rw[qw yv,getD_set_ne true yv]
theorem toCome_set{listed:Array Bool}{i:Nat}(hi:listed.getD i true=false):∀{k:Nat},i<k→JH (listed.setIfInBounds i true) k+1=JH listed k
  | 0,h=>by omega
  |k+1,h=>by
   rcases (by omega:i<k∨i=k) with q|rfl
   ·have:=toCome_set hi q;unfold JH;rw[getD_set_ne true yv];omega
   ·unfold JH;rw[qw (xY _),if_pos hi];have:(listed.setIfInBounds i true).getD i true=true:=by
       have A:i<listed.size:=by
         rcases Nat.lt_or_ge i listed.size with q|q
         ·exact q
         ·simp [Array.getElem?_eq_none q] at hi
       simp [A]
    rw[if_neg (by rw[this];simp)]
theorem getD_rep{m j:Nat}(b:Bool)(h:j<m):(Array.replicate m false).getD j b=false:=by simp [h]
theorem toCome_all(n:Nat):∀k,k≤n→JH (Array.replicate n false) k=k
  | 0,_=>rfl
  |k+1,h=>by
   unfold JH;rw[toCome_all n k yv,if_pos (getD_rep true yv)]
def backB(md:Region.Mode)(H:Array Oper):Bool:=
  (List.range H.size).all fun j=>match H[j]? with
    |some o=>(o.after.all fun e=> !Region.binds md e || decide (e.on<j)) && (match o.guard with|some (k,_)=>decide (k<H.size)|none=>true)
    |none=>true
theorem qW{md:Region.Mode}{H:Array Oper}(h:backB md H=true){j:Nat}{o:Oper}(ho:H[j]?=some o):(∀e∈o.after,Region.binds md e=true→e.on<j)∧∀k b,o.guard=some (k,b)→k<H.size:=by
  have B:=(Array.getElem?_eq_some_iff.1 ho).1;have A:=List.all_eq_true.1 h j (List.mem_range.2 B);simp only[ho,xy] at A;refine⟨fun e C D=>?_,fun k b E=>?_⟩
  ·have:=Array.all_eq_true'.1 A.1 e C
   simpa [D] using this
  ·have:=A.2;rw[E] at this
   simpa using this
section
variable {P:Program} {md:Region.Mode} {H ops:Array Oper} {C:World→Prop}
structure Agree (H ops:Array Oper) (done listed:Array Bool):Prop where
  size:done.size=H.size
  same:∀j b,j<H.size→done.getD j b=listed.getD j b
theorem Agree.set{done listed:Array Bool}(h:Agree H ops done listed){i:Nat}(hl:H.size≤listed.size):Agree H ops (done.setIfInBounds i true) (listed.setIfInBounds i true):=by
  refine⟨by simpa using h.size,fun j b A=>?_⟩;by_cases e:i=j
  ·subst e;have B:i<done.size:=by rw[h.size];exact A
   have C:i<listed.size:=yv;simp [B,C]
  ·rw[getD_set_ne b e,getD_set_ne b e];exact h.same j b A
theorem wanted_ahead(hH:∀j,j<H.size→H[j]?=ops[j]?)(hb:backB md H=true){j:Nat}{o:Oper}(ho:H[j]?=some o)(tmps:Array Value):Region.wanted o (yielded H tmps)=Region.wanted o (yielded ops tmps):=by
  have A:=(qW hb ho).2;unfold Region.wanted;cases hgd:o.guard with
  |none=>rfl
  |some g=>
   obtain⟨k,b⟩:=g;have B:=A k b hgd;have:yielded H tmps k=yielded ops tmps k:=by unfold yielded;rw[hH k B]
   simp only[this]
theorem wpAny_ahead{n g:Nat}{Q:Act→Prop}{Q':Exit→Act→World→Prop}(hn:n<ops.size)(hHn:H.size=n)(hH:∀j,j<H.size→H[j]?=ops[j]?)(hb:backB md H=true)(hs:Region.sinkB md ops n=true)(hc:Region.chainB md ops n=true)
    (hT:∀(listed:Array Bool) (a:Act) (w:World),HeadInv md ops n listed→(∀j,j<n→listed.getD j true=true)→Q a→C w→wpAny P md ops Q' g listed a w):
    ∀(f:Nat) (done listed:Array Bool) (a:Act) (w:World),JH listed n=f→HeadInv md ops n listed→Agree H ops done listed→C w→wpAnyQ P md H C Q f done a→wpAny P md ops Q' (f+g) listed a w
  | 0,done,listed,a,w,hf,inv,ag,hw,h=>by
    rw[Nat.zero_add];exact hT listed a w inv (Un hf) h.2 hw
  |f+1,done,listed,a,w,hf,inv,ag,hw,h=>by
   obtain⟨j0,hj0,hu0,hl0⟩:=Qz (listed:=listed) (k:=n) yv;have D:∀j,j<n→(j∈Region.ready md H done↔j∈Region.ready md ops listed):=by
      intro j Y;rw[mem_ready,mem_ready,hH j yv,ag.same j true yv];refine and_congr Iff.rfl (exists_congr fun o=>and_congr_right fun A=>?_);have N:=(qW hb ((hH j yv).trans A)).1;refine forall_congr' fun e=>forall_congr' fun L=>forall_congr' fun E=>?_
      rw[ag.same e.on false (by have:=N e L E;omega)]
   have O:Region.ready md ops listed≠[]:=by
      intro M;obtain⟨o,A⟩:∃o,ops[j0]?=some o:=⟨_,Array.getElem?_eq_getElem yv⟩;have:j0∈Region.ready md ops listed:=mem_ready.2 ⟨hu0,o,A,fun e L E=>by
        have R:=(qW hb ((hH j0 yv).trans A)).1 e L E;have W:=hl0 e.on R;have S:e.on<listed.size:=by rw[inv.size];omega
        simpa [S] using W⟩
      rw[M] at this;cases this
   rw[show f+1+g=(f+g)+1 by omega];refine⟨fun M=>absurd M O,fun i I=>?_⟩;have F:i<n:=by
      rcases Nat.lt_or_ge i n with q|q
      ·exact q
      ·exact absurd I (tail_waits hs hc hn inv _ j0 rfl hj0 hu0 i q)
   have T:=(mem_ready.1 I).1;have B:=h.2 i ((D i F).2 I);obtain⟨o,A⟩:∃o,ops[i]?=some o:=⟨_,Array.getElem?_eq_getElem yv⟩;have K:H[i]?=some o:=(hH i yv).trans A;have U:∀(J:Act) (w':World),C w'→wpAnyQ P md H C Q f (done.setIfInBounds i true) J→wpAny P md ops Q' (f+g) (listed.setIfInBounds i true) J w':=fun J w' V X=>
      wpAny_ahead hn hHn hH hb hs hc hT f _ _ J w' (by have:=toCome_set T F;omega) (inv.set I F) (ag.set (by rw[inv.size];omega)) V X
   unfold qOp at B;simp only[K] at B;rw[wanted_ahead hH hb K] at B;unfold wpOp;simp only[A]
   split
   ·rename_i G;rw[if_pos G] at B;exact .inl (Oper.wp_of_quiet hw U B)
   ·rename_i G;rw[if_neg G] at B;exact U _ _ hw B
end
theorem Uo{P:Program}{id:Nat}{Q:Exit→Act→World→Prop}{a:Act}{w:World}{l:List Oper}(n:Nat)(C:World→Prop)(hC:C w.drew)(hm:P.follows .mixedOrders=true)
    (h1:Region.lexB .any (l.take n).toArray=true) (h2:backB .any (l.take n).toArray=true) (h3:(decide (n<l.length) && Region.sinkB .any l.toArray n && Region.chainB .any l.toArray n)=true)
    (h4:Region.seqB .any l.toArray (l.length - n) n (Array.replicate n true++Array.replicate (l.length - n) false)=true)
    (h:wpQuiet P (l.take n).toArray C (fun D=>∀w',C w'→wpList P l.toArray Q (l.drop n) D w') (l.take n) a):(Code.region id l.toArray true).wp P Q a w:=by
  simp only[xy,decide_eq_true_eq] at h3;obtain⟨⟨O,R⟩,S⟩:=h3;have F:(l.take n).length=n:=by simp;omega
  refine wp_region_any hm ?_;have K:HeadInv .any l.toArray n (Array.replicate l.toArray.size false):=
    ⟨by simp,fun j c _ M=>(by rw[getD_replicate_false] at M;cases M),fun t _ T=>getD_in (by simpa using T) (getD_replicate_false _ _)⟩
  simp only[Region.lexB,xy] at h1;have U:=wpAnyQ_lex (P:=P) (C:=C) (md:=.any) (Q:=fun D=>∀w',C w'→wpList P l.toArray Q (l.drop n) D w') h1.1 (l.take n) 0 (Array.replicate (l.take n).toArray.size false) a yZ (by simpa using h1.2) h;have:=wpAny_ahead (P:=P) (md:=.any) (H:=(l.take n).toArray) (ops:=l.toArray) (C:=C) (n:=n) (g:=l.length - n) (Q:=fun D=>∀w',C w'→wpList P l.toArray Q (l.drop n) D w') (Q':=Q) (by simpa using O) (by simpa using F)
    (fun j B=>by
      have G:j<n:=by simp at B;omega
      simp [G])
    h2 R S
    (fun A D w' I L V N=>by
      have W:A=Array.replicate n true++Array.replicate (l.length - n) false:=by
        apply Array.ext_getElem?;intro j;have Z:A.size=l.length:=by simpa using I.size
        by_cases B:j<n
        ·have:=L j B;have E:j<A.size:=yv;rw[Array.getElem?_append_left (by simpa using B)];simp [E,B] at this ⊢;exact this
        ·by_cases hj2:j<l.length
         ·have:=I.tail j yv (by simpa using hj2);have E:j<A.size:=yv;have X:A[j]?=some false:=by
            rw[Array.getElem?_eq_getElem E]
            simpa [E] using this
          have Y:j - (Array.replicate n true).size<l.length - n:=by rw[Array.size_replicate];omega
          rw[X,Array.getElem?_append_right (by rw[Array.size_replicate];omega),Array.getElem?_replicate,if_pos Y]
         ·rw[Array.getElem?_eq_none yv,Array.getElem?_eq_none yX]
      have J:(l.drop n).length=l.length - n:=by simp
      have:=wpAny_of_seq (md:=.any) (Q':=Q) (l.drop n) n A D w' (fun j=>by simp [List.getElem?_drop]) (by rw[J,W];exact h4) (V w' N)
      rwa [J] at this)
    (l.take n).length (Array.replicate (l.take n).toArray.size false) (Array.replicate l.toArray.size false) a w.drew (by rw[F];exact toCome_all _ _ yX) K
    ⟨by simp,fun j b B=>by
      have h2:j<l.toArray.size:=by
        have G:j<(l.take n).length:=B;rw[xz];omega
      rw[getD_rep b B,getD_rep b h2]⟩ hC U
  rw[F,show n+(l.length - n)=l.toArray.size by simp;omega] at this;exact this
def Wg(w:World):Type:={ w':World // Gr w w'}
instance (w:World):Nonempty (Wg w):=⟨⟨w,Gr.refl _⟩⟩
theorem Wg.cell{w:World}{b o:Nat}{v:Value}(hc:w.cell? ⟨b,o,none⟩=some v)(hb:b<w.heap.size):∀n:Wg w,n.val.cell? ⟨b,o,none⟩=some v:=fun n=>(n.2.below.cell (p:=⟨b,o,none⟩) hb).trans hc
theorem Wg.row{w:World}{b o:Nat}{cs:List Value}(hc:∀j u,cs[j]?=some u→w.cell? ⟨b,o+j,none⟩=some u)(hb:b<w.heap.size):∀w',(∃n:Wg w,w'=n.val)→∀j u,cs[j]?=some u→w'.cell? ⟨b,o+j,none⟩=some u:=by
  rintro w' ⟨n,rfl⟩ j u A;exact Wg.cell (hc j u A) hb n
theorem Wg.call{w:World}{P:Program}{f:FuncId}{args:Array Value}{v:Value}(h:∀w',Calls P f args w' fun e A=>Gr w' A∧e=.returned v)(n:Wg w):
    Calls P f args n.val fun e A=>e=.returned v∧∃m:Wg w,A=m.val:=
  (h n.val).mono fun e A ⟨B,C⟩=>⟨C,⟨A,n.2.trans B⟩,rfl⟩
theorem jp{P:Program}{id:Nat}{Q:Exit→Act→World→Prop}{a:Act}{w:World}{l:List Oper}(n:Nat)(hm:P.follows .mixedOrders=true)
    (h1:Region.lexB .any (l.take n).toArray=true) (h2:backB .any (l.take n).toArray=true) (h3:(decide (n<l.length) && Region.sinkB .any l.toArray n && Region.chainB .any l.toArray n)=true)
    (h4:Region.seqB .any l.toArray (l.length - n) n (Array.replicate n true++Array.replicate (l.length - n) false)=true)
    (h:wpQuiet P (l.take n).toArray (fun w'=>∃k:Wg w,w'=k.val) (fun a'=>∀w',(∃k:Wg w,w'=k.val)→wpList P l.toArray Q (l.drop n) a' w') (l.take n) a):(Code.region id l.toArray true).wp P Q a w:=
  Uo n (fun w'=>∃k:Wg w,w'=k.val) ⟨⟨_,(Gr.refl w).drew⟩,rfl⟩ hm h1 h2 h3 h4 h
theorem isNaN_int(x:Int)(w:World):Calls prog 176 #[.int .i64 x] w fun e w'=>e=.returned (.bool false)∧w'=w:=by
  go_enter func176,ntmps176;go_wp2_with fail;go_ret;exact⟨rfl,rfl⟩
theorem cmpInt_any(x y:Int)(w:World):Calls prog 128 #[.int .i64 x,.int .i64 y] w fun e w'=>e=.returned (.int .i64 (Uf x y))∧w'=w:=by
  have A:Hid (Uf x y=if x<y then -1 else if y<x then 1 else 0):=rfl;go_enter func128,ntmps128;rcases (by omega:x<y∨(¬x<y∧y<x)∨(¬x<y∧¬y<x)) with h|⟨h,B⟩|⟨h,B⟩
  all_goals
    go_wp2_with (go_at_call 176;refine(isNaN_int _ _).mono ?_;rintro e w' ⟨rfl,rfl⟩)
    go_ret
  ·exact⟨by rw[A.out,if_pos h];rfl,rfl⟩
  ·exact⟨by rw[A.out,if_neg yv,if_pos B];rfl,rfl⟩
  ·exact⟨by rw[A.out,if_neg yv,if_neg yv];rfl,rfl⟩
def or3(x y z:Int):Int:=if x≠0 then x else if y≠0 then y else z
def at3(x y z:Int)(i:Nat):Int:=if i=0 then x else if i=1 then y else z
theorem cmpOr_any(x y z:Int)(g:Nat)(w:World)(h0:w.cell? ⟨g,0,none⟩=some (.int .i64 x))(h1:w.cell? ⟨g,1,none⟩=some (.int .i64 y))(h2:w.cell? ⟨g,2,none⟩=some (.int .i64 z)):
    Calls prog 127 #[.slice (some ⟨g,0,none⟩) 3 3] w fun e w'=>e=.returned (.int .i64 (or3 x y z))∧w'=w:=by
  have D:Hid (∀i:Nat,i<3→w.cell? ⟨g,i,none⟩=some (.int .i64 (at3 x y z i))):=by
    intro i K;rcases (by omega:i=0∨i=1∨i=2) with rfl|rfl|rfl
    ·exact h0
    ·exact h1
    ·exact h2
  have B:Hid (∀i:Nat,i<3→(∀j,j<i→at3 x y z j=0)→at3 x y z i≠0→or3 x y z=at3 x y z i):=by
    intro i K E L;rcases (by omega:i=0∨i=1∨i=2) with rfl|rfl|rfl
    ·unfold or3;rw[if_pos (by simpa [at3] using L)];rfl
    ·have:=E 0 yv;unfold or3;rw[if_neg (by simpa [at3] using this),if_pos (by simpa [at3] using L)];rfl
    ·have F:=E 0 yv;have G:=E 1 yv;unfold or3;rw[if_neg (by simpa [at3] using F),if_neg (by simpa [at3] using G)];rfl
  have H:Hid ((∀j,j<3→at3 x y z j=0)→or3 x y z=0):=by
    intro h;have F:=h 0 yv;have G:=h 1 yv;have O:=h 2 yv;unfold or3;rw[if_neg (by simpa [at3] using F),if_neg (by simpa [at3] using G)];simpa [at3] using O
  generalize or3 x y z=r at *;generalize at3 x y z=f at *;clear h0 h1 h2;go_enter func127,ntmps127;go_wp2_with fail
  go_loopw [8] (fun t wr=>∃i:Nat,t=.int .i64 i∧wr=w∧i≤3∧Hid (∀j,j<i→f j=0)) (fun t _=>3 - (intOf t).toNat)
  case atStart=>exact⟨0,rfl,rfl,by omega,fun j I=>absurd I yv⟩
  case round=>
    obtain⟨i,rfl,rfl,K,J⟩:=hrel;by_cases hlt:i<3
    ·have R:=D.out i hlt;have S:(0:Int)≤(i:Int):=yv;have P:(i:Int)<3:=yv;have C:=Lib.hid (B i hlt J);have M:Hid (f i=0→∀j,j<i+1→f j=0):=by
       intro h j I;rcases (by omega:j<i∨j=i) with q|rfl
       ·exact J.out j q
       ·exact h
     generalize f i=v at *;rcases (by omega:v<0∨0<v∨v=0) with Q|Q|rfl
     ·have N:decide (v=0)=false:=by simp;omega
      have A:¬v=0:=yv;go_wp2_with fail;go_ret;exact⟨by rw[C.out A];rfl,rfl⟩
     ·have N:decide (v=0)=false:=by simp;omega
      have A:¬v=0:=yv;go_wp2_with fail;go_ret;exact⟨by rw[C.out A];rfl,rfl⟩
     ·go_wp2_with fail
      go_roundw
      case rel=>exact⟨i+1,by go_num,by first|rfl|trivial,by omega,M.out rfl⟩
      case measure=>simp [intOf];omega
    ·have P:¬(i:Int)<3:=yv;go_wp2_with fail;go_ret;exact⟨by rw[H.out (fun j I=>J j yv)];rfl,rfl⟩
theorem cmpK_or(a b:kE):or3 (Uf a.1 b.1) (jJ a.2.1 b.2.1) (Uf a.2.2 b.2.2)=Kh a b:=by
  unfold or3 Kh;rfl
theorem Jd{k:kE}(h:kJ k):(kc k)[0]?=some (.int .i64 k.1)∧(kc k)[33]?=some (.int .i64 k.2.2)∧∀j u,(idV k.2.1)[j]?=some u→(kc k)[1+j]?=some u:=by
  have A:(idV k.2.1).length=32:=by rw[kn];exact h.2.1
  refine⟨rfl,?_,?_⟩
  ·unfold kc;rw[show 33=32+1 from rfl,List.getElem?_cons_succ,xx yv,A];rfl
  ·intro j u B;unfold kc;rw[Nat.add_comm,List.getElem?_cons_succ,xv (yJ.1 B).1];exact B
theorem jo{w:World}{g:Nat}{cs:List Value}{t:TypeId}{fr:Nat×Nat}(h:w.heap[g]?=some (.cells cs.toArray t fr))(j:Nat):w.cell? ⟨g,j,none⟩=cs[j]?:=by
  rw[cell_of_row w g j _ t fr h];simp
theorem keys_gr(a b:kE)(w:World)(ha:kJ a)(hb:kJ b):
    Calls prog 78 #[.agg (kc a).toArray,.agg (kc b).toArray] w fun e w'=>Gr w w'∧e=.returned (.int .i64 (Kh a b)):=by
  obtain⟨S,T,U⟩:=Jd ha;obtain⟨V,X,Y⟩:=Jd hb;have Z:(w.alloc (.cells (kc a).toArray 89)).heap[w.heap.size]?=some (.cells (kc a).toArray 89 (0,0)):=heap_alloc_new _ _;go_enter func78,ntmps78
  go_upto_region 1 with fail
  obtain⟨W,A⟩:=Xy ((w.alloc (.cells (kc a).toArray 89)).alloc (.cells (kc b).toArray 89));have E:W.heap[w.heap.size]?=some (.cells (kc a).toArray 89 (0,0)):=by
    rw[←A];exact(heap_alloc_old (w.alloc (.cells (kc a).toArray 89)) _ yZ).trans Z
  have F:W.heap[w.heap.size+1]?=some (.cells (kc b).toArray 89 (0,0)):=by
    rw[←A];have:=heap_alloc_new (w.alloc (.cells (kc a).toArray 89)) (.cells (kc b).toArray 89);rw[World.size_alloc] at this;exact this
  have G:Gr w W:=by rw[←A];exact((Gr.refl _).alloc _).alloc _
  have H:W.heap.size=w.heap.size+2:=by rw[←A];simp
  rw[A];clear A Z;have I:=(jo E 0).trans S;have J:=(jo E 33).trans T;have K:W.rangeAt w.heap.size 1 (idV a.2.1):=fun j v Q=>(jo E (1+j)).trans (U j v Q)
  have L:=(jo F 0).trans V;have M:=(jo F 33).trans X;have N:W.rangeAt (w.heap.size+1) 1 (idV b.2.1):=fun j v Q=>(jo F (1+j)).trans (Y j v Q)
  clear E F S T U V X Y;have f:(prog.info? 41).map (·.size)=some (idV a.2.1).length:=by rw[kn,show a.2.1.length=32 from ha.2.1];kernel_rfl
  have g:(prog.info? 41).map (·.size)=some (idV b.2.1).length:=by rw[kn,show b.2.1.length=32 from hb.2.1];kernel_rfl
  have c:=fun (q:World)=>compare_gr a.2.1 b.2.1 q ha.2.1 hb.2.1
  have P:=Lib.hid (cmpK_or a b);have h:=Wg.cell I (show w.heap.size<W.heap.size by omega);have i:=Wg.cell J (show w.heap.size<W.heap.size by omega);have l:=Wg.cell L (show w.heap.size+1<W.heap.size by omega);have m:=Wg.cell M (show w.heap.size+1<W.heap.size by omega);have n:=Lib.hid (Wg.row K (show w.heap.size<W.heap.size by omega));have o:=Lib.hid (Wg.row N (show w.heap.size+1<W.heap.size by omega));have B:=Lib.hid G;have r:=Lib.hid c;have R:=Lib.hid H;clear I J K L M N ha hb H G c;refine jp 15 yq yq yq yq yq ?_;simp only[List.take_succ_cons,List.take_zero,List.drop_succ_cons,List.drop_zero]
  repeat (first
    |go_big_quiet_skip
    |(go_big_quiet_want
      first
         |(refine kP (fun w' D=>kg 41 _ rfl (p:=⟨w.heap.size,1,none⟩) rfl (run_loadVar_mid w' _ _ _ (idV a.2.1) _ (n w' D) underlying41 rfl f)) ?_
           go_big_quiet_on
           simp only[Act.put,List.setIfInBounds_toArray,List.set_cons_zero,List.set_cons_succ])
         |(refine kP (fun w' D=>kg 41 _ rfl (p:=⟨w.heap.size+1,1,none⟩) rfl (run_loadVar_mid w' _ _ _ (idV b.2.1) _ (o w' D) underlying41 rfl g)) ?_
           go_big_quiet_on
           simp only[Act.put,List.setIfInBounds_toArray,List.set_cons_zero,List.set_cons_succ])
         |(go_big_quiet_op
           first
              |go_big_quiet_on
              |go_big_quiet_call (first
                  |(go_at_call 128;exact(cmpInt_any _ _ _).mono fun e u ⟨s,t⟩=>⟨s,⟨_,t⟩⟩)
                  |(go_at_call 129;exact Wg.call (fun w'=>r w') _)))))
  refine wpQuiet_nil ?_;rintro w' ⟨k,rfl⟩;have d:=k.2;generalize k.val=w2 at *;have O:Gr w w2:=B.trans d;have C:=Lib.hid O;clear h i l m O d k
  go_wp2_with (go_at_call 127;refine(cmpOr_any _ _ _ _ _ (by rw[World.cell?_alloc_new];rfl) (by rw[World.cell?_alloc_new];rfl) (by rw[World.cell?_alloc_new];rfl)).mono ?_;rintro e w' ⟨rfl,rfl⟩)
  go_ret;exact⟨C.alloc _,by rw[P.out];rfl⟩
theorem QA(a b:kE)(w:World)(ha:kJ a)(hb:kJ b):
    Calls prog 78 #[.agg (kc a).toArray,.agg (kc b).toArray] w fun e w'=>Below w.heap.size w w'∧e=.returned (.int .i64 (Kh a b)):=
  (keys_gr a b w ha hb).mono fun _ _ ⟨h,e⟩=>⟨h.below,e⟩
end
section
variable {P:Program} {ops:Array Oper} {Q:Exit→Act→World→Prop} {rest:List Oper} {a:Act} {w:World} {d:Option Tmp} {t:TypeId} {p:String} {af:Array Edge} {g:Option (Nat×Bool)}
theorem k8{ty:TypeId}{x:Operand}(h:wpList P ops Q ({ dst:=d,op:=.load ty x,type:=t,pos:=p,after:=af,guard:=g}::rest) a w):wpList P ops Q ({ dst:=d,op:=.load ty x,type:=t,pos:=p,after:=af,guard:=g}::rest) a w:=h
theorem kD{ty:TypeId}{x y:Operand}(h:wpList P ops Q ({ dst:=d,op:=.store ty x y,type:=t,pos:=p,after:=af,guard:=g}::rest) a w):wpList P ops Q ({ dst:=d,op:=.store ty x y,type:=t,pos:=p,after:=af,guard:=g}::rest) a w:=h
theorem kF{ty:TypeId}(h:wpList P ops Q ({ dst:=d,op:=.alloc ty,type:=t,pos:=p,after:=af,guard:=g}::rest) a w):wpList P ops Q ({ dst:=d,op:=.alloc ty,type:=t,pos:=p,after:=af,guard:=g}::rest) a w:=h
theorem kG{ty:TypeId}{x:Operand}(h:wpList P ops Q ({ dst:=d,op:=.box ty x,type:=t,pos:=p,after:=af,guard:=g}::rest) a w):wpList P ops Q ({ dst:=d,op:=.box ty x,type:=t,pos:=p,after:=af,guard:=g}::rest) a w:=h
theorem kL{ty:TypeId}{xs:Array (Nat×Operand)}(h:wpList P ops Q ({ dst:=d,op:=.build ty xs,type:=t,pos:=p,after:=af,guard:=g}::rest) a w):wpList P ops Q ({ dst:=d,op:=.build ty xs,type:=t,pos:=p,after:=af,guard:=g}::rest) a w:=h
theorem kU{b:BinOp}{ty tz:TypeId}{x y:Operand}(h:wpList P ops Q ({ dst:=d,op:=.binOp b ty x y tz,type:=t,pos:=p,after:=af,guard:=g}::rest) a w):wpList P ops Q ({ dst:=d,op:=.binOp b ty x y tz,type:=t,pos:=p,after:=af,guard:=g}::rest) a w:=h
end
section
open Go.RowKit Go.Maps
def ug:List Oper→Nat→Option Oper
  | [],_=>none
  |o:: _,0=>some o
  | _ ::l,n+1=>ug l n
theorem opAt_list:∀(l:List Oper) (i:Nat),ug l i=l[i]?
  | [],i=>by simp [ug]
  |o::l,0=>by simp [ug]
  |o::l,i+1=>by simp [ug,opAt_list l i]
theorem Z5{ops:Array Oper}{i:Nat}{o:Oper}(h:ug ops.toList i=some o):ops[i]?=some o:=by
  rw[opAt_list,Array.getElem?_toList] at h;exact h
theorem oper_wp_val{P:Program}{o:Oper}{a:Act}{w w':World}{v:Value}{K:Act→World→Prop}{Q:Exit→Act→World→Prop}(h:(execOp a.eval o).run P w=.ok (.value v) w')(hk:K (a.put o.dst v) w'):o.wp P a w K Q:=by
  unfold Oper.wp;rw[h];exact hk
theorem oper_wp_skip{P:Program}{o:Oper}{a:Act}{w w':World}{K:Act→World→Prop}{Q:Exit→Act→World→Prop}(h:(execOp a.eval o).run P w=.ok .skip w')(hk:K (a.put o.dst undef) w'):o.wp P a w K Q:=by
  unfold Oper.wp;rw[h];exact hk
theorem zP{P:Program}{ops:Array Oper}{Q:Exit→Act→World→Prop}{i:Nat}{K:Act→World→Prop}{a:Act}{w w':World}{v:Value}(o:Oper)(hi:ug ops.toList i=some o)(hw:Region.wanted o (yielded ops a.tmps)=true)
    (h:(execOp a.eval o).run P w=.ok (.value v) w') (hk:K (a.put o.dst v) w'):wpOp P ops Q i K a w:=by
  unfold wpOp;simp only[Z5 hi,if_pos hw];exact .inl (oper_wp_val h hk)
theorem ZA{P:Program}{ops:Array Oper}{Q:Exit→Act→World→Prop}{i:Nat}{K:Act→World→Prop}{a:Act}{w w':World}(o:Oper)(hi:ug ops.toList i=some o)(hw:Region.wanted o (yielded ops a.tmps)=true)
    (h:(execOp a.eval o).run P w=.ok .skip w') (hk:K (a.put o.dst undef) w'):wpOp P ops Q i K a w:=by
  unfold wpOp;simp only[Z5 hi,if_pos hw];exact .inl (oper_wp_skip h hk)
theorem wpOp_call{P:Program}{ops:Array Oper}{Q:Exit→Act→World→Prop}{i:Nat}{K:Act→World→Prop}{a:Act}{w:World}{f:FuncId}{args:Array Value}(o:Oper)(hi:ug ops.toList i=some o)(hw:Region.wanted o (yielded ops a.tmps)=true)
    (h:(execOp a.eval o).run P w=.ok (.enter f args) w) (hc:Calls P f args w fun e w'=>∃v,e=.returned v∧K (a.put o.dst v) w'):wpOp P ops Q i K a w:=by
  unfold wpOp;simp only[Z5 hi,if_pos hw];refine .inl ?_;unfold Oper.wp;rw[h];exact hc.mono fun e w' ⟨v,A,B⟩=>by subst A;exact B
section
variable {P:Program} {ρ:Operand→Value} {o:Oper} {w:World}
theorem UQ{f:FuncId}{xs:Array Operand}{ts:Array TypeId}{args:Array Value}(ho:o.op=.call { callee:=.value (.func f),args:=xs,argTypes:=ts})(hf:ρ (.func f)=.func (.func f) #[] #[])(hE:∀args w,(callFunc f args).run P w=.ok (.enter f args) w)(ha:xs.map ρ=args):
    (execOp ρ o).run P w=.ok (.enter f args) w:=by
  unfold execOp;simp only[ho,resolve,hf,Deferred.ofValue,ha,Array.empty_append,Sem.run_bind,Sem.run_pure,Result.andThen_ok,invoke,Array.append_empty,hE]
theorem ex_alloc{t:TypeId}{cs:Array Value}(ho:o.op=.alloc t)(hz:(zeroValue t).run P w=.ok (.agg cs) w):(execOp ρ o).run P w=.ok (.value (.pointer (some ⟨w.heap.size,0,none⟩))) (w.alloc (.cells cs t)):=by
  unfold execOp;simp [ho,Instr.alloc,newVar,newRow,hz,Result.andThen,Sem.run_bind,Value.cells]
theorem qY(t:TypeId)(x ix:Operand)(ho:o.op=.lookup t x ix true){vm vk v:Value}{w':World}(hx:ρ x=vm)(hk:ρ ix=vk)(h:(Instr.lookup t vm vk true).run P w=.ok v w'):(execOp ρ o).run P w=.ok (.value v) w':=by
  unfold execOp;simp only[ho,hx,hk,Sem.run_bind,h,Result.andThen_ok,Sem.run_pure]
end
theorem MapV.look2{P:Program}{K t e:TypeId}{κ:Type}{ok:κ→Prop}{val:κ→Value}{kl:κ→Lit}{w:World}{b n:Nat}{m:κ→Option Value}(E:KeyEnc P K ok val kl)(ht:P.underlying t=some (.map K e)){z:Value}(hz:∀u:World,(zeroValue e).run P u=.ok z u)(h:MapV w P K ok kl b n m){k0:κ}(hk:ok k0):
    (Instr.lookup t (.map (some b)) (val k0) true).run P w=.ok (.tuple #[(m k0).getD z,.bool (m k0).isSome]) w:=by
  obtain⟨D,G,L,C,H⟩:=h;obtain⟨v,M,B,I⟩:=G.look_ok E.keyed ht (hz w) (zd:=.held z) (zp:=[]) rfl (E.of k0 hk);have F:v=(m k0).getD z:=by
    have A:(DataW.held v:DataW Value)=D.atKey (kl k0) (.held z):=congrArg Prod.fst (Option.some.inj I);rcases hmk:m k0 with _ |u
    ·have J:has D (kl k0)=false:=by rw[C k0 hk,hmk];rfl
     rw[atKey_of_not_has J] at A;injection A
    ·rw[H k0 u hk hmk] at A;injection A
  rw[B,F,C k0 hk]
theorem Jy{P:Program}{ops:Array Oper}{Q:Exit→Act→World→Prop}{i:Nat}{K:Act→World→Prop}{a:Act}{w:World}(o:Oper)(hi:ug ops.toList i=some o)(hw:Region.wanted o (yielded ops a.tmps)=true)
    (h:o.wp P a w K Q):wpOp P ops Q i K a w:=by
  unfold wpOp;simp only[Z5 hi,if_pos hw];exact .inl h
section
variable {P:Program} {w:World}
theorem own_made0(w:World)(base:Nat)(e:TypeId)(size:Nat)(hb:base≤w.heap.size):(w.alloc (.cells #[] e)).ownsRow base e size (.slice (some ⟨w.heap.size,0,none⟩) 0 0) 0 []:=
  ⟨by simp,.inr ⟨w.heap.size,0,#[],rfl,hb,heap_alloc_new _ _,xY _,by decide,by simp,by simp⟩⟩
theorem Jz{o:Oper}{a:Act}{K:Act→World→Prop}{Q:Exit→Act→World→Prop}(s x:Operand)(t:TypeId)
    (ho:o.op=.call { callee:=.builtin .append,args:=#[s,x],argTypes:=#[t,t]})
    (base:Nat) (e:TypeId) (i:TypeInfo) (z:Value) (size bytes:Nat) (ht:P.underlying t=some (.slice e)) (hi:P.info? e=some i) (hz:i.zero=some z)
    (hsize:i.size=size) (hby:i.bytes=bytes) (hzs:z.cells.size=size) (hsz:0<size)
    (v:Value) (n:Nat) (xs:List Value) (hs:a.eval s=v) (hown:w.ownsRow base e size v n xs)
    (A:Option Addr) (m c B:Nat) (news:List Value) (hx:a.eval x=.slice A m c) (hsl:Sl w B A m size news) (h1:∀u∈news,u.oneCell'=true)
    (h63:n+m≤maxLen) (hbytes:(n+m)*bytes≤140737488355328) (hbase:base≤w.heap.size)
    (h:∀H w',w'.ownsRow base e size H (n+m) (xs++news)→w.grownBy w' v.ownBlock→K (a.put o.dst H) w'):o.wp P a w K Q:=by
  have D:m=0→news=[]:=fun E=>List.eq_nil_of_length_eq_zero (by rw[hsl.1,E,Nat.zero_mul])
  rcases A with _ |R
  ·have S:m=0:=by
     rcases Nat.eq_zero_or_pos m with E|I
     ·exact E
     ·obtain⟨b,M,J,_⟩:=hsl.2 I;cases J
   subst S;obtain rfl:=D rfl;have N:w.grownBy w v.ownBlock:=⟨rfl,rfl,rfl,xY _,fun _ _ _=>rfl⟩;have O:∃F G,v=.slice F n G∧n≤G:=by
     rcases hown.2 with⟨rfl,rfl⟩|⟨g,X,Y,rfl,_,_,C,_⟩
     ·exact⟨_,_,rfl,xY _⟩
     ·exact⟨_,_,rfl,C⟩
   obtain⟨F,G,rfl,C⟩:=O;have T:(Builtin.append_ #[t,t] o.type #[.slice F n G,.slice none 0 c]).run P w=.ok (.slice F n G) w:=by
     rcases F with _ |Z
     ·simp [Builtin.append_,run_underlying ht,sizeOf,typeInfo,hi,Builtin.lenOf,Builtin.firstCells,C]
     ·simp [Builtin.append_,run_underlying ht,sizeOf,typeInfo,hi,Builtin.lenOf,Builtin.firstCells,C,storeCells]
   unfold Oper.wp execOp;simp only[ho,resolve,invoke,builtin,Sem.run_bind,Sem.run_pure,Result.andThen_ok,xV,xX,Yy,hs,hx,T];exact h _ w (by simpa using hown) N
  ·refine wp_append_own w s x t ho base e i z size bytes ht hi hz hsize hby hzs hsz v n xs hs hown R m c news hx hsl.1 ?_ h1 h63 hbytes hbase fun H w' U V _=>h H w' U V
   intro j u L;rcases Nat.eq_zero_or_pos m with E|I
   ·rw[D E] at L;cases L
   ·obtain⟨b,M,J,_,W⟩:=hsl.2 I;obtain rfl:=Option.some.inj J;rw[Addr.add_mid];exact W j u L
end
theorem UR{P:Program}{o:Oper}{w:World}{ρ:Operand→Value}(ty:TypeId)(x y:Operand)(ho:o.op=.store ty x y)(g j:Nat)(v:Value)(hx:ρ x=.pointer (some ⟨g,j,none⟩))(hy:ρ y=v)(h1:v.oneCell'=true)(hv:v.cells=#[v])
    (hi:(P.info? ty).map (·.size)=some 1) {u:Value} (hc:w.cell? ⟨g,j,none⟩=some u) (hf:w.frozen? ⟨g,j,none⟩=false):(execOp ρ o).run P w=.ok .skip (w.setCell ⟨g,j,none⟩ v):=by
  have h:=run_storeCells_cells (P:=P) g j [v] 0 w (fun i hi=>by
      have:i=0:=by simpa using hi
      subst this;simp [hc]) (fun i hi=>by
      have:i=0:=by simpa using hi
      subst this;simpa using hf) (fun q A=>by rw[xZ.1 A];exact h1)
  have B:w.setCells g (j+0) [v]=w.setCell ⟨g,j,none⟩ v:=rfl;rw[B] at h;unfold execOp;cases A:P.info? ty with
  |none=>simp [A] at hi
  |some i=>
   have C:i.size=1:=by simpa [A] using hi
   simp only[ho,hx,hy,Instr.storeAt,Instr.sureAddr,Sem.run_bind,Sem.run_pure,Result.andThen_ok];simp [storeVar,sizeOf,typeInfo,A,hv,C,h]
end
section
open Go.RowKit
theorem uh{T:TypeId}{fr:Nat×Nat}{g:Nat}:∀(cs pre mid post:List Value) (w:World),mid.length=cs.length→w.heap[g]?=some (.cells (pre++(mid++post)).toArray T fr)→(w.setCells g pre.length cs).heap[g]?=some (.cells (pre++(cs++post)).toArray T fr)
  | [],pre,mid,post,w,hl,hg=>by
    obtain rfl:mid=[]:=List.eq_nil_of_length_eq_zero hl;exact hg
  |v::cs,pre,[],post,w,hl,hg=>by cases hl
  |v::cs,pre,u::mid,post,w,hl,hg=>by
   have B:(w.setCell ⟨g,pre.length,none⟩ v).heap[g]?=some (.cells ((pre++[v])++(mid++post)).toArray T fr):=by
      simp [World.setCell,Array.getElem?_modify,hg]
   have A:=uh cs (pre++[v]) mid post _ (by simpa using hl) B;rw[World.setCells];have e:(pre++[v]).length=pre.length+1:=by simp
   rw[e] at A;rw[A];simp
theorem uS{X:Nat→Prop}{g:Nat}(hX:X g):∀(cs:List Value) (o:Nat) (w:World),But X w (w.setCells g o cs)
  | [],_,_=>But.refl _ _
  |v::cs,o,w=>(But.setCell (X:=X) (But.refl X w) (p:=⟨g,o,none⟩) (fun _=>hX) v).trans (uS hX cs (o+1) _) fun _ _ h=>h
theorem ui{g:Nat}:∀(cs:List Value) (o:Nat) (w:World),(w.setCells g o cs).heap.size=w.heap.size
  | [],_,_=>rfl
  |v::cs,o,w=>(ui cs (o+1) _).trans (by simp [World.setCell])
section
variable {P:Program} {o:Oper} {w:World}
theorem ex_storeM{ρ:Operand→Value}(ty:TypeId)(x y:Operand)(ho:o.op=.store ty x y)(g k:Nat)(pre mid post cs:List Value)(T:TypeId)(V:Value)(hx:ρ x=.pointer (some ⟨g,k,none⟩))(hk:k=pre.length)(hy:ρ y=V)(hV:V.cells=cs.toArray)
    (hg:w.heap[g]?=some (.cells (pre++(mid++post)).toArray T (0,0))) (hl:mid.length=cs.length) (hi:(P.info? ty).map (·.size)=some cs.length) (h1:∀u∈cs,u.oneCell'=true):(execOp ρ o).run P w=.ok .skip (w.setCells g pre.length cs):=by
  subst hk;have A:∀j,j<cs.length→(w.cell? ⟨g,pre.length+0+j,none⟩).isSome=true:=fun j D=>by
    rw[k6 hg];have:pre.length+0+j<(pre++(mid++post)).length:=by simp;omega
    rw[yK this];rfl
  have B:∀j,j<cs.length→w.frozen? ⟨g,pre.length+0+j,none⟩=false:=fun j _=>by simp [World.frozen?,hg]
  have h:=run_storeCells_cells (P:=P) g pre.length cs 0 w A B h1;unfold execOp;cases hq:P.info? ty with
  |none=>simp [hq] at hi
  |some i=>
   have C:i.size=cs.length:=by simpa [hq] using hi
   simp only[ho,hx,hy,Instr.storeAt,Instr.sureAddr,Sem.run_bind,Sem.run_pure,Result.andThen_ok];simp [storeVar,sizeOf,typeInfo,hq,hV,C,h]
theorem kr{ops:Array Oper}{rest:List Oper}{a:Act}{Q:Exit→Act→World→Prop}(hw:Region.wanted o (yielded ops a.tmps)=true)(ty:TypeId)(x y:Operand)(ho:o.op=.store ty x y)(g k:Nat)(pre mid post cs:List Value)(T:TypeId)(V:Value)(hx:a.eval x=.pointer (some ⟨g,k,none⟩))(hk:k=pre.length)(hy:a.eval y=V)(hV:V.cells=cs.toArray)
    (hg:w.heap[g]?=some (.cells (pre++(mid++post)).toArray T (0,0))) (hl:mid.length=cs.length) (hi:(P.info? ty).map (·.size)=some cs.length) (h1:∀u∈cs,u.oneCell'=true)
    (h:∀W:World,Hid (But (fun k=>k=g) w W)→Hid (W.heap[g]?=some (.cells (pre++(cs++post)).toArray T (0,0)))→Hid (W.heap.size=w.heap.size)→wpList P ops Q rest (a.put o.dst undef) W):wpList P ops Q (o::rest) a w:=by
  refine BigFrame.wpList_want hw fun K A=>?_
  have B:=ex_storeM (P:=P) ty x y ho g k pre mid post cs T V hx hk hy hV hg hl hi h1;unfold Oper.wp;rw[B];exact A _ _ (h _ (uS (X:=fun k=>k=g) rfl _ _ _) (uh cs pre mid post w hl hg) (ui _ _ _))
theorem kv{ops:Array Oper}{rest:List Oper}{a:Act}{Q:Exit→Act→World→Prop}(hw:Region.wanted o (yielded ops a.tmps)=true)(t:TypeId)(ho:o.op=.alloc t)(cs:List Value)(hz:(zeroValue t).run P w=.ok (.agg cs.toArray) w)
    (h:∀W:World,Hid (Below w.heap.size w W)→Hid (W.heap[w.heap.size]?=some (.cells cs.toArray t (0,0)))→Hid (W.heap.size=w.heap.size+1)→wpList P ops Q rest (a.put o.dst (.pointer (some ⟨w.heap.size,0,none⟩))) W):wpList P ops Q (o::rest) a w:=by
  refine BigFrame.wpList_want hw fun K A=>?_
  have B:(execOp a.eval o).run P w=.ok (.value (.pointer (some ⟨w.heap.size,0,none⟩))) (w.alloc (.cells cs.toArray t)):=by
    unfold execOp;simp [ho,Instr.alloc,newVar,newRow,hz,Result.andThen,Sem.run_bind,Value.cells]
  unfold Oper.wp;rw[B];exact A _ _ (h _ ((Below.refl _ _).alloc (xY _) _) (heap_alloc_new _ _) (Lib.hid yZ))
theorem kz{ops:Array Oper}{rest:List Oper}{a:Act}{Q:Exit→Act→World→Prop}(hw:Region.wanted o (yielded ops a.tmps)=true)(t:TypeId)(x:Operand)(ho:o.op=.box t x)(cs:List Value)(V:Value)(hx:a.eval x=V)(hV:V.cells=cs.toArray)(hi:(P.info? t).map (·.size)=some cs.length)
    (h:∀W:World,Hid (Below w.heap.size w W)→Hid (W.heap[w.heap.size]?=some (.cells cs.toArray t (0,0)))→Hid (W.heap.size=w.heap.size+1)→wpList P ops Q rest (a.put o.dst (.pointer (some ⟨w.heap.size,0,none⟩))) W):wpList P ops Q (o::rest) a w:=by
  refine BigFrame.wpList_want hw fun K A=>?_
  have B:(execOp a.eval o).run P w=.ok (.value (.pointer (some ⟨w.heap.size,0,none⟩))) (w.alloc (.cells cs.toArray t)):=by
    unfold execOp;cases hq:P.info? t with
    |none=>simp [hq] at hi
    |some i=>
     have C:i.size=cs.length:=by simpa [hq] using hi
     simp [ho,hx,Instr.box,newVar,newRow,hV,Result.andThen]
  unfold Oper.wp;rw[B];exact A _ _ (h _ ((Below.refl _ _).alloc (xY _) _) (heap_alloc_new _ _) (Lib.hid yZ))
end
theorem kR{P:Program}{ops:Array Oper}{Q:Exit→Act→World→Prop}{i:Nat}{K:Act→World→Prop}{a:Act}{w:World}(o:Oper)(hi:ug ops.toList i=some o)(hw:Region.wanted o (yielded ops a.tmps)=true)
    (ty:TypeId) (x y:Operand) (ho:o.op=.store ty x y) (g k:Nat) (pre mid post cs:List Value) (T:TypeId) (V:Value) (hx:a.eval x=.pointer (some ⟨g,k,none⟩)) (hk:k=pre.length) (hy:a.eval y=V) (hV:V.cells=cs.toArray)
    (hg:w.heap[g]?=some (.cells (pre++(mid++post)).toArray T (0,0))) (hl:mid.length=cs.length) (hi2:(P.info? ty).map (·.size)=some cs.length) (h1:∀u∈cs,u.oneCell'=true)
    (h:∀W:World,But (fun k=>k=g) w W→W.heap[g]?=some (.cells (pre++(cs++post)).toArray T (0,0))→W.heap.size=w.heap.size→K (a.put o.dst undef) W):wpOp P ops Q i K a w:=
  ZA o hi hw (ex_storeM ty x y ho g k pre mid post cs T V hx hk hy hV hg hl hi2 h1) (h _ (uS (X:=fun k=>k=g) rfl _ _ _) (uh cs pre mid post w hl hg) (ui _ _ _))
theorem zJ{P:Program}{ops:Array Oper}{Q:Exit→Act→World→Prop}{i:Nat}{K:Act→World→Prop}{a:Act}{w:World}(o:Oper)(hi:ug ops.toList i=some o)(hw:Region.wanted o (yielded ops a.tmps)=true)
    (t:TypeId) (ho:o.op=.alloc t) (cs:List Value) (hz:(zeroValue t).run P w=.ok (.agg cs.toArray) w)
    (h:∀W:World,Below w.heap.size w W→W.heap[w.heap.size]?=some (.cells cs.toArray t (0,0))→W.heap.size=w.heap.size+1→K (a.put o.dst (.pointer (some ⟨w.heap.size,0,none⟩))) W):wpOp P ops Q i K a w:=
  zP o hi hw (ex_alloc (cs:=cs.toArray) ho hz) (h _ ((Below.refl _ _).alloc (xY _) _) (heap_alloc_new _ _) yZ)
theorem jx{P:Program}{fn:Func}{p:Tmp}{ty:TypeId}(h:fn.results=#[.cell p ty])(tmps:Array Value)(w:World){a:Addr}{r:Value}(hp:tmps.getD p undef=.pointer (some a))(hl:(loadVar ty a).run P w=.ok r w):(results fn tmps).run P w=.ok r w:=by
  have A:tmps[p]?.getD undef=.pointer (some a):=by simpa using hp
  simp only[results,h];simp [A,asAddr,hl]
end
section
open Go.RowKit Go.Maps
def behindB(md:Region.Mode)(ops:Array Oper):Nat→Nat→Nat→Bool
  | 0,_,_=>false
  |f+1,j,i=>match ops[j]? with
   |some o=>o.after.any fun e=>Region.binds md e && (decide (e.on=i) || behindB md ops f e.on i)
   |none=>false
def lateB(md:Region.Mode)(ops:Array Oper)(n i:Nat):Bool:=(List.range ops.size).all fun j=>decide (j<n) || behindB md ops 6 j i
def Shut(md:Region.Mode)(ops:Array Oper)(listed:Array Bool):Prop:=∀j o,ops[j]?=some o→listed.getD j false=true→∀e∈o.after,Region.binds md e=true→listed.getD e.on false=true
def shutB(md:Region.Mode)(ops:Array Oper)(listed:Array Bool):Bool:=(List.range ops.size).all fun j=> !listed.getD j false || (match ops[j]? with
  |some o=>o.after.all fun e=> !Region.binds md e || listed.getD e.on false
  |none=>true)
theorem shutB_spec{md:Region.Mode}{ops:Array Oper}{listed:Array Bool}(h:shutB md ops listed=true):Shut md ops listed:=by
  intro j o A D e E F;have B:=List.all_eq_true.1 h j (List.mem_range.2 (Array.getElem?_eq_some_iff.1 A).1);rw[A,D] at B;have G:(o.after.all fun e=> !Region.binds md e || listed.getD e.on false)=true:=by simpa only[Bool.not_true,Bool.false_or] using B
  have C:=Array.all_eq_true'.1 G e E;rw[F] at C
  simpa only[Bool.not_true,Bool.false_or] using C
theorem QB{md:Region.Mode}{ops:Array Oper}{listed:Array Bool}(hs:Shut md ops listed):∀(f j i:Nat),behindB md ops f j i=true→(∀o,ops[j]?=some o→∀e∈o.after,Region.binds md e=true→listed.getD e.on false=true)→listed.getD i false=true
  | 0,_,_,h,_=>by cases h
  |f+1,j,i,h,hr=>by
   unfold behindB at h
   split at h
   ·rename_i o ho;obtain⟨e,he,h2⟩:=Array.any_eq_true'.1 h;rw[xy,Bool.or_eq_true,decide_eq_true_eq] at h2;have A:=hr o ho e he h2.1;rcases h2.2 with q|q
    ·rw[←q];exact A
    ·exact QB hs f e.on i q fun E B F C D=>hs e.on E B A F C D
   ·cases h
theorem Shut.set{md:Region.Mode}{ops:Array Oper}{listed:Array Bool}(h:Shut md ops listed){j:Nat}(hj:j∈Region.ready md ops listed):Shut md ops (listed.setIfInBounds j true):=by
  intro k o C D e E F;by_cases hjk:j=k
  ·subst hjk;obtain⟨_,G,A,B⟩:=mem_ready.1 hj;rw[C] at A;obtain rfl:=Option.some.inj A;exact getD_set_true (B e E F)
  ·rw[getD_set_ne false hjk] at D;exact getD_set_true (h k o C D e E F)
def zq(P:Program)(md:Region.Mode)(ops:Array Oper)(Q:Exit→Act→World→Prop)(n:Nat)(F:World→Prop):Nat→Array Bool→Act→World→Prop
  | 0,listed,a,w=>Region.ready md ops listed=[]∧Q .normal a w
  |fuel+1,listed,a,w=>
   (Region.ready md ops listed=[]→Q .normal a w)∧
   ∀i∈Region.ready md ops listed,wpOp P ops Q i (fun a' w'=>(i<n→F w→F w')∧zq P md ops Q n F fuel (listed.setIfInBounds i true) a' w') a w
section
variable {P:Program} {md:Region.Mode} {ops:Array Oper} {Q:Exit→Act→World→Prop} {n:Nat} {F:World→Prop}
theorem wpAny_of_N:∀(fuel:Nat) (listed:Array Bool) (a:Act) (w:World),zq P md ops Q n F fuel listed a w→wpAny P md ops Q fuel listed a w
  | 0,_,_,_,h=>h
  |fuel+1,_,_,_,h=>⟨h.1,fun i hi=>wpOp_mono (fun a' w' h'=>wpAny_of_N fuel _ a' w' h'.2) (h.2 i hi)⟩
theorem QC{G:World→Prop}{i:Nat}{oi:Oper}{v:Value}(hi:ops[i]?=some oi)(hsel:∀(j:Nat) (o:Oper) E b,ops[j]?=some o→o.op≠ .select E b)
    (hQ:∀c a w,Q (.panic c) (a.put oi.dst v) w→Q (.panic c) a w)
    (hG:∀(listed:Array Bool) j,Shut md ops listed→j∈Region.ready md ops listed→listed.getD i true=false→∀w w',G w→(j<n→F w→F w')→G w'):
    ∀(fuel:Nat) (listed:Array Bool) (a:Act) (w:World),Shut md ops listed→
     (∀j A,ops[j]?=some A→j≠i→listed.getD j true=false→(∀e∈A.after,Region.binds md e=true→e.on≠i)→oi.apart ops A=true)→
     i∈Region.ready md ops listed→YieldsIf P ops G oi v a→G w→
     zq P md ops Q n F fuel (listed.setIfInBounds i true) (a.put oi.dst v) w→zq P md ops Q n F (fuel+1) listed a w:=by
  intro fuel
  induction fuel with
  |zero=>
   intro listed a w _ _ B N O H;refine⟨fun h=>(by rw[h] at B;cases B),fun j D=>?_⟩;by_cases hji:j=i
   ·subst hji;exact N.wpOp hi O ⟨fun _ h=>h,H⟩
   ·have:=ready_mono D hji;rw[H.1] at this;cases this
  |succ fuel ih=>
   intro listed a w T C B N O H;refine⟨fun h=>(by rw[h] at B;cases B),fun j D=>?_⟩;by_cases hji:j=i
   ·subst hji;exact N.wpOp hi O ⟨fun _ h=>h,H⟩
   ·have d:=H.2 j (ready_mono D hji);obtain⟨I,A,J,V⟩:=mem_ready.1 D;have K:=(mem_ready.1 B).1;have W:∀e∈A.after,Region.binds md e=true→e.on≠i:=fun e f g X=>by
       have R:=V e f g;rw[X,getD_both K] at R;cases R
    have R:=wpOp_putIf J (C j A J hji I W) (fun E b=>hsel i oi E b hi) (fun E b=>hsel j A E b J) hQ N d;have L:∀k M,ops[k]?=some M→k≠i→(listed.setIfInBounds j true).getD k true=false→
         (∀e∈M.after,Region.binds md e=true→e.on≠i)→oi.apart ops M=true:=fun k M l Y U Z=>by
       refine C k M l Y ?_ Z;by_cases hjk:j=k
       ·subst hjk;exact I
       ·rw[getD_set_ne true hjk] at U;exact U
    refine wpOp_mono (fun m w' S=>⟨S.2.1,ih (listed.setIfInBounds j true) m w' (T.set D) L (ready_mono B (Ne.symm hji)) S.1 (hG listed j T D K w w' O S.2.1) ?_⟩) R;rw[Array.setIfInBounds_comm _ _ hji];exact S.2.2
theorem wpAnyN_take{i:Nat}{oi:Oper}{v:Value}{fuel:Nat}{listed:Array Bool}{a:Act}{w:World}(hL:lateB md ops n i=true)(hsh:shutB md ops listed=true)(hi:ops[i]?=some oi)
    (hs:Region.noSelect ops=true) (hf:Region.free md ops listed i=true) (hr:(Region.ready md ops listed).contains i=true)
    (hQ:∀c a w,Q (.panic c) (a.put oi.dst v) w→Q (.panic c) a w) (hy:YieldsIf P ops F oi v a) (hF:F w)
    (h:zq P md ops Q n F fuel (listed.setIfInBounds i true) (a.put oi.dst v) w):zq P md ops Q n F (fuel+1) listed a w:=
  QC (G:=F) hi (Region.noSelect_spec hs) hQ (fun E j H M C w w' N I=>by
    obtain⟨_,S,B,D⟩:=mem_ready.1 M;have J:j<n:=by
      have A:=List.all_eq_true.1 hL j (List.mem_range.2 (Array.getElem?_eq_some_iff.1 B).1);rw[Bool.or_eq_true,decide_eq_true_eq] at A;rcases A with A|A
      ·exact A
      ·have K:=QB H 6 j i A (fun o L e O R=>by
         rw[B] at L;obtain rfl:=Option.some.inj L;exact D e O R)
       rw[getD_both C] at K;cases K
    exact I J N) fuel listed a w (shutB_spec hsh) (Region.free_spec hi hf) (by simpa using hr) hy hF h
theorem QD{i:Nat}{oi:Oper}{v:Value}{fuel:Nat}{listed:Array Bool}{a:Act}{w:World}(hsh:shutB md ops listed=true)(hi:ops[i]?=some oi)
    (hs:Region.noSelect ops=true) (hf:Region.free md ops listed i=true) (hr:(Region.ready md ops listed).contains i=true)
    (hQ:∀c a w,Q (.panic c) (a.put oi.dst v) w→Q (.panic c) a w) (hy:YieldsIf P ops (fun _=>True) oi v a)
    (h:zq P md ops Q n F fuel (listed.setIfInBounds i true) (a.put oi.dst v) w):zq P md ops Q n F (fuel+1) listed a w:=
  QC (G:=fun _=>True) hi (Region.noSelect_spec hs) hQ (fun _ _ _ _ _ _ _ _ _=>trivial) fuel listed a w (shutB_spec hsh) (Region.free_spec hi hf) (by simpa using hr) hy trivial h
def tkB(md:Region.Mode)(ops:Array Oper)(listed:Array Bool)(i:Nat):Bool:=shutB md ops listed && Region.noSelect ops && Region.free md ops listed i && (Region.ready md ops listed).contains i
theorem tkW(i:Nat)(v:Value){oi:Oper}{fuel:Nat}{listed:Array Bool}{a:Act}{w:World}(hB:tkB md ops listed i=true)(hi:ug ops.toList i=some oi)
    (hQ:∀c a w,Q (.panic c) (a.put oi.dst v) w→Q (.panic c) a w) (hw:Region.wanted oi (yielded ops a.tmps)=true) (hv:∀w':World,True→(execOp a.eval oi).run P w'=.ok (.value v) w')
    (h:zq P md ops Q n F fuel (listed.setIfInBounds i true) (a.put oi.dst v) w):zq P md ops Q n F (fuel+1) listed a w:=by
  simp only[tkB,xy] at hB;exact QD hB.1.1.1 (Z5 hi) hB.1.1.2 hB.1.2 hB.2 hQ (.inl ⟨hw,hv⟩) h
theorem tkN(i:Nat){oi:Oper}{fuel:Nat}{listed:Array Bool}{a:Act}{w:World}(hB:tkB md ops listed i=true)(hi:ug ops.toList i=some oi)
    (hQ:∀c a w,Q (.panic c) (a.put oi.dst undef) w→Q (.panic c) a w) (hw:Region.wanted oi (yielded ops a.tmps)=false)
    (h:zq P md ops Q n F fuel (listed.setIfInBounds i true) (a.put oi.dst undef) w):zq P md ops Q n F (fuel+1) listed a w:=by
  simp only[tkB,xy] at hB;exact QD hB.1.1.1 (Z5 hi) hB.1.1.2 hB.1.2 hB.2 hQ (.inr ⟨hw,rfl⟩) h
theorem tkF(i:Nat)(v:Value){oi:Oper}{fuel:Nat}{listed:Array Bool}{a:Act}{w:World}(hB:(lateB md ops n i && tkB md ops listed i)=true)(hi:ug ops.toList i=some oi)
    (hQ:∀c a w,Q (.panic c) (a.put oi.dst v) w→Q (.panic c) a w) (hw:Region.wanted oi (yielded ops a.tmps)=true) (hF:F w) (hv:∀w':World,F w'→(execOp a.eval oi).run P w'=.ok (.value v) w')
    (h:zq P md ops Q n F fuel (listed.setIfInBounds i true) (a.put oi.dst v) w):zq P md ops Q n F (fuel+1) listed a w:=by
  simp only[tkB,xy] at hB;exact wpAnyN_take hB.1 hB.2.1.1.1 (Z5 hi) hB.2.1.1.2 hB.2.1.2 hB.2.2 hQ (.inl ⟨hw,hv⟩) hF h
theorem uT{rs:List Nat}{fuel:Nat}{listed:Array Bool}{a:Act}{w:World}(hr:Region.ready md ops listed=rs)(hne:rs≠[])
    (h:∀i∈rs,wpOp P ops Q i (fun a' w'=>(i<n→F w→F w')∧zq P md ops Q n F fuel (listed.setIfInBounds i true) a' w') a w):zq P md ops Q n F (fuel+1) listed a w:=
  ⟨fun A=>absurd (hr▸A) hne,hr▸h⟩
theorem tkA(i:Nat){fuel:Nat}{listed:Array Bool}{a:Act}{w:World}(hr:Region.ready md ops listed=[i])
    (h:wpOp P ops Q i (fun a' w'=>(i<n→F w→F w')∧zq P md ops Q n F fuel (listed.setIfInBounds i true) a' w') a w):zq P md ops Q n F (fuel+1) listed a w:=
  uT hr yZ fun q A=>by
    obtain rfl:q=i:=by simpa using A
    exact h
theorem ku{listed:Array Bool}{a:Act}{w:World}(hr:Region.ready md ops listed=[])(h:Q .normal a w):∀fuel,zq P md ops Q n F fuel listed a w
  | 0=>⟨hr,h⟩
  | _+1=>⟨fun _=>h,by rw[hr];simp⟩
theorem tw(i:Nat)(v:Value){oi:Oper}{fuel:Nat}{listed:Array Bool}{a:Act}{w:World}(h:zq P md ops Q n F fuel (listed.setIfInBounds i true) (a.put oi.dst v) w)(hB:tkB md ops listed i=true:=by kernel_rfl)(hi:ug ops.toList i=some oi:=by rfl)
    (hQ:∀c a w,Q (.panic c) (a.put oi.dst v) w→Q (.panic c) a w:=by exact fun _ _ _ h=>h) (hw:Region.wanted oi (yielded ops a.tmps)=true:=by rfl) (hv:∀w':World,True→(execOp a.eval oi).run P w'=.ok (.value v) w':=by exact fun _ _=>rfl):zq P md ops Q n F (fuel+1) listed a w:=tkW i v hB hi hQ hw hv h
theorem tn(i:Nat){oi:Oper}{fuel:Nat}{listed:Array Bool}{a:Act}{w:World}(h:zq P md ops Q n F fuel (listed.setIfInBounds i true) (a.put oi.dst undef) w)(hi:ug ops.toList i=some oi:=by rfl)(hB:tkB md ops listed i=true:=by kernel_rfl)
    (hQ:∀c a w,Q (.panic c) (a.put oi.dst undef) w→Q (.panic c) a w:=by exact fun _ _ _ h=>h) (hw:Region.wanted oi (yielded ops a.tmps)=false:=by rfl):zq P md ops Q n F (fuel+1) listed a w:=tkN i hB hi hQ hw h
theorem ta(i:Nat){fuel:Nat}{listed:Array Bool}{a:Act}{w:World}(h:wpOp P ops Q i (fun a' w'=>(i<n→F w→F w')∧zq P md ops Q n F fuel (listed.setIfInBounds i true) a' w') a w)(hr:Region.ready md ops listed=[i]:=by kernel_rfl):zq P md ops Q n F (fuel+1) listed a w:=tkA i hr h
theorem wp_region_N{id:Nat}{a:Act}{w:World}(n:Nat)(F:World→Prop)(hm:P.follows .mixedOrders=true)
    (h:zq P .any ops Q n F ops.size (Array.replicate ops.size false) a w.drew):(Code.region id ops true).wp P Q a w:=
  wp_region_any hm (wpAny_of_N _ _ _ _ h)
end
section
variable {P:Program} {ρ:Operand→Value} {o:Oper} {w:World}
theorem Kf(ty:TypeId)(x:Operand)(ho:o.op=.load ty x){p:Addr}(hx:ρ x=.pointer (some p)){d:TypeDesc}(hu:P.underlying ty=some d)(hd:(match d with| .struct _ | .array _ _=>true| _=>false)=false){v:Value}(hc:w.cell? p=some v):
    (execOp ρ o).run P w=.ok (.value v) w:=by
  refine kg ty x ho hx ?_;unfold loadVar isAgg;simp only[Sem.run_bind,run_underlying hu,Result.andThen_ok];cases d<;>first|(cases hd;done)|simp [Result.andThen,hc]
theorem Q3(t:TypeId)(x:Operand)(ho:o.op=.call { callee:=.builtin .len,args:=#[x],argTypes:=#[t]}){A:Option Addr}{n c:Nat}(hx:ρ x=.slice A n c){e:TypeId}(ht:P.underlying t=some (.slice e)):(execOp ρ o).run P w=.ok (.value (.int .i64 (n:Int))) w:=by
  unfold execOp;simp [ho,resolve,invoke,builtin,Builtin.len_,run_underlying ht,Result.andThen,hx];rfl
end
end
section
open Go.RowKit
section
variable {P:Program} {md:Region.Mode} {ops:Array Oper} {Q:Exit→Act→World→Prop} {n:Nat} {F:World→Prop}
theorem tk(i:Nat)(v:Value){oi:Oper}{fuel:Nat}{listed:Array Bool}{a:Act}{w:World}(hi:ug ops.toList i=some oi)(hv:∀w':World,True→(execOp a.eval oi).run P w'=.ok (.value v) w')
    (h:zq P md ops Q n F fuel (listed.setIfInBounds i true) (a.put oi.dst v) w) (hB:tkB md ops listed i=true:=by kernel_rfl) (hQ:∀c a w,Q (.panic c) (a.put oi.dst v) w→Q (.panic c) a w:=by exact fun _ _ _ h=>h)
    (hw:Region.wanted oi (yielded ops a.tmps)=true:=by rfl):zq P md ops Q n F (fuel+1) listed a w:=tkW i v hB hi hQ hw hv h
theorem tl(i:Nat)(v:Value){oi:Oper}{fuel:Nat}{listed:Array Bool}{a:Act}{w:World}(hi:ug ops.toList i=some oi)(hF:F w)(hv:∀w':World,F w'→(execOp a.eval oi).run P w'=.ok (.value v) w')
    (h:zq P md ops Q n F fuel (listed.setIfInBounds i true) (a.put oi.dst v) w) (hB:(lateB md ops n i && tkB md ops listed i)=true:=by kernel_rfl) (hQ:∀c a w,Q (.panic c) (a.put oi.dst v) w→Q (.panic c) a w:=by exact fun _ _ _ h=>h)
    (hw:Region.wanted oi (yielded ops a.tmps)=true:=by rfl):zq P md ops Q n F (fuel+1) listed a w:=tkF i v hB hi hQ hw hF hv h
theorem tc{i:Nat}{K:Act→World→Prop}{a:Act}{w:World}{f:FuncId}{o:Oper}{xs:Array Operand}{ts:Array TypeId}(args:Array Value)(hE:∀(u:World) (args:Array Value),(callFunc f args).run P u=.ok (.enter f args) u)(hi:ug ops.toList i=some o)
    (hc:Calls P f args w fun e w'=>∃v,e=.returned v∧K (a.put o.dst v) w') (ho:o.op=.call { callee:=.value (.func f),args:=xs,argTypes:=ts}:=by rfl) (hf:a.eval (.func f)=.func (.func f) #[] #[]:=by rfl)
    (hw:Region.wanted o (yielded ops a.tmps)=true:=by kernel_rfl) (ha:xs.map a.eval=args:=by simp only[xV,xX,Yy];rfl):wpOp P ops Q i K a w:=
  wpOp_call o hi hw (UQ ho hf (fun args w=>hE w args) ha) hc
end
theorem l1{P:Program}{ρ:Operand→Value}{o:Oper}{w:World}{ty:TypeId}{x:Operand}{p:Addr}{d:TypeDesc}{v:Value}(hu:P.underlying ty=some d)(hc:w.cell? p=some v)(ho:o.op=.load ty x:=by rfl)(hx:ρ x=.pointer (some p):=by rfl)(hd:(match d with| .struct _ | .array _ _=>true| _=>false)=false:=by rfl):(execOp ρ o).run P w=.ok (.value v) w:=Kf ty x ho hx hu hd hc
theorem rN{P:Program}{ops:Array Oper}{Q:Exit→Act→World→Prop}{id:Nat}{a:Act}{w:World}(n:Nat)(F:World→Prop)(hF:F w.drew)(h:F w.drew→zq P .any ops Q n F ops.size (Array.replicate ops.size false) a w.drew)(hm:P.follows .mixedOrders=true:=by kernel_rfl):(Code.region id ops true).wp P Q a w:=wp_region_N n F hm (h hF)
theorem nTF:(!true)=false∧(!false)=true:=⟨rfl,rfl⟩
theorem enE{P : Program}{f : FuncId}{fn : Func}{c : Code}(hf : P.funcs[f]? = some fn)(hb : fn.body = some c)(hn : (fn.name == "runtime.NumGoroutine") = false := by kernel_rfl): ∀ (u : World) (args : Array Value), (callFunc f args).run P u = .ok (.enter f args) u := fun u args => enters_of hf hn hb args u
theorem zR{P:Program}{ρ:Operand→Value}{o:Oper}{w:World}(t:TypeId)(x y:Operand)(ho:o.op=.indexAddr t x y){b off n c q size:Nat}(hx:ρ x=.slice (some ⟨b,off,none⟩) n c)(hy:ρ y=.int .i64 (q:Int))(hq:q<n){e:TypeId}(ht:P.underlying t=some (.slice e))(hi:(P.info? e).map (·.size)=some size):
    (execOp ρ o).run P w=.ok (.value (.pointer (some ⟨b,off+q*size,none⟩))) w:=by
  cases hp:P.info? e with
  |none=>simp [hp] at hi
  |some i=>
   have A:i.size=size:=by simpa [hp] using hi
   unfold execOp;simp [ho,hx,hy,Instr.indexAt,asIntOf,run_underlying ht,sizeOf,typeInfo,hp,A,Sem.run_bind,Result.andThen,hq,Addr.add]
   try omega
theorem jk{P:Program}{id:Nat}{Q:Exit→Act→World→Prop}{a:Act}{w:World}{l:List Oper}(hm:P.follows .mixedOrders=true)(hB:Region.lexB .any l.toArray=true)
    (h:wpQuiet P l.toArray (fun w'=>∃n:Wg w,w'=n.val) (fun a'=>∀w',(∃n:Wg w,w'=n.val)→Q .normal a' w') l a):(Code.region id l.toArray true).wp P Q a w:=
  wp_region_quiet (C:=fun w'=>∃n:Wg w,w'=n.val) hm hB ⟨⟨_,(Gr.refl w).drew⟩,rfl⟩ (by simpa using h)
end
section
open Go.RowKit Go.Maps
open Lib (hid)
def Ix(n:Int):Prop:= -2305843009213693952≤n∧n≤2305843009213693952
theorem KS{r:zk}(h:kJ r.1):(kY r)[0]?=some (.int .i64 r.1.1)∧(kY r)[33]?=some (.int .i64 r.1.2.2)∧(∀j u,(idV r.1.2.1)[j]?=some u→(kY r)[1+j]?=some u)∧(kY r)[34]?=some r.2.1∧(kY r)[35]?=some (.bool r.2.2.2)∧∀j u,(kc r.1)[j]?=some u→(kY r)[0+j]?=some u:=by
  obtain⟨D,E,F⟩:=Jd h;have C:=ke h;have A:∀j u,(kc r.1)[j]?=some u→(kY r)[j]?=some u:=fun j u B=>by
    unfold kY;rw[xv (yJ.1 B).1];exact B
  refine⟨A _ _ D,A _ _ E,fun j u B=>A _ _ (F j u B),?_,?_,fun j u B=>by rw[qZ];exact A _ _ B⟩
  ·unfold kY;rw[xx yv,C];rfl
  ·unfold kY;rw[xx yv,C];rfl
section
variable {ρ:Operand→Value} {o:Oper} {w:World} {b f:Nat} {x:Operand}
theorem ldK{k:kE}(hk:kJ k)(hc:w.rangeAt b f (kc k))(ho:o.op=.load 89 x:=by rfl)(hx:ρ x=.pointer (some ⟨b,f,none⟩):=by rfl):(execOp ρ o).run prog w=.ok (.value (.agg (kc k).toArray)) w:=
  kg 89 x ho hx (qV w b f _ (kc k) _ hc underlying89 rfl (by rw[ke hk];kernel_rfl))
theorem ldD{i:List UInt8}(hi:jr i)(hc:w.rangeAt b f (idV i))(ho:o.op=.load 41 x:=by rfl)(hx:ρ x=.pointer (some ⟨b,f,none⟩):=by rfl):(execOp ρ o).run prog w=.ok (.value (.agg (idV i).toArray)) w:=
  kg 41 x ho hx (qV w b f _ (idV i) _ hc underlying41 rfl (by rw[kn,hi];kernel_rfl))
theorem ldU{r:zk}(hr:(kY r).length=36)(hc:w.rangeAt b f (kY r))(ho:o.op=.load 177 x:=by rfl)(hx:ρ x=.pointer (some ⟨b,f,none⟩):=by rfl):(execOp ρ o).run prog w=.ok (.value (.agg (kY r).toArray)) w:=
  kg 177 x ho hx (qV w b f _ (kY r) _ hc underlying177 rfl (by rw[hr];kernel_rfl))
theorem eqD{y:Operand}{t':TypeId}{i j:List UInt8}(hi:jr i)(hj:jr j){q:Bool}(hq:decide (i=j)=q)(ho:o.op=.binOp .eql 41 x y t':=by rfl)(hx:ρ x=.agg (idV i).toArray:=by rfl)(hy:ρ y=.agg (idV j).toArray:=by rfl):(execOp ρ o).run prog w=.ok (.value (.bool q)) w:=
  Kc 41 t' x y ho hx hy eqId.noGuard (hq▸Ke hi hj w)
end
theorem holds_any(r:zk)(k:kE)(w:World)(hr:RunIn w r)(hk:kJ k)(hx1:Ix r.1.2.2)(hx2:Ix k.2.2):
    Calls prog 199 #[.agg (kY r).toArray,.agg (kc k).toArray] w fun e w'=>Below w.heap.size w w'∧e=.returned (.tuple #[.int .i64 (k.2.2 - r.1.2.2),.bool (J0 (kA r) k)]):=by
  have N:=hid hk;have O:=hid hr
  obtain⟨l,m,a⟩:∃l m,r.2.1=.slice l r.2.2.1.length m:=by
    obtain⟨g,A2,A3,_,_,S,_⟩:=hr.2.1;exact⟨_,_,S⟩
  have Z:=hid a;obtain⟨⟨b,V,L⟩,rv,W,rd⟩:=r;obtain⟨c,X,M⟩:=k;dsimp only at a;subst a;obtain⟨t,v,x,y,_,_⟩:=KS O.1;obtain⟨z,q1,q2⟩:=Jd N.out;have P0:=hid t;have P1:=hid v;have P2:=hid x;have P3:=hid y;have Q0:=hid z;have Q1:=hid q1;have Q2:=hid q2
  clear hk hr t v x y z q1 q2;dsimp only at hx1 hx2;go_enter func199,ntmps199
  go_upto_region 1 with (first
    |(with_reducible refine kG ?_
      refine kz yk 177 _ rfl (kY ((b,V,L),.slice l W.length m,W,rd)) _ rfl rfl (by rw[jw O.out];kernel_rfl) ?_;intro W0 Q I R)
    |(with_reducible refine kG ?_
      refine kz yk 89 _ rfl (kc (c,X,M)) _ rfl rfl (by rw[ke N.out];kernel_rfl) ?_;intro P J F K))
  obtain⟨d,o⟩:=Xy w.heap.size;obtain⟨n,p⟩:=Xy W0.heap.size;have B:=hid (Xx Q.out J.out);have f:=qX I.out;have E:=hid ((J.block w.heap.size f).trans I);rw[o] at E ⊢;rw[p] at F ⊢;have c0:P.cell? ⟨d,0,none⟩=some (.int .i64 b):=(k6 E 0).trans P0.out;have c1:P.cell? ⟨d,33,none⟩=some (.int .i64 L):=(k6 E 33).trans P1.out;have c2:P.cell? ⟨d,34,none⟩=some (.slice l W.length m):=(k6 E 34).trans P3.out;have c3:P.cell? ⟨n,0,none⟩=some (.int .i64 c):=(k6 F 0).trans Q0.out;have c4:P.cell? ⟨n,33,none⟩=some (.int .i64 M):=(k6 F 33).trans Q1.out;have R0:=hid (show P.rangeAt d 1 (idV V) from fun j u s=>(k6 E (1+j)).trans (P2 j u s));have R1:=hid (show P.rangeAt n 1 (idV X) from fun j u s=>(k6 F (1+j)).trans (Q2 j u s));clear Q J f E I F P0 P1 P2 P3 Q0 Q1 Q2;have T:d<P.heap.size:=by have:=K.out;have:=R.out;omega
  have U:n<P.heap.size:=by have:=K.out;omega
  have C0:=Wg.cell c0 T;have C1:=Wg.cell c1 T;have C2:=Wg.cell c2 T;have C3:=Wg.cell c3 U;have C4:=Wg.cell c4 U
  have h:=hid (Wg.row R0 T);have i:=hid (Wg.row R1 U)
  have C:Hid (jr V):=hid O.1.2.1;have D:Hid (jr X):=hid N.2.1;clear o p O N Z R K T U;unfold Ix at hx1 hx2;have ew:IntKind.i64.wrap (M - L)=M - L:=IntWalk.i64_in _ yv
  go_upto_region 2 with fail
  by_cases h0:b=c
  ·have e0:(b == c)=true:=beq_iff_eq.2 h0;by_cases S:V=X
   ·have Y:Hid (decide (V=X)=true):=hid (dT S);by_cases h2:L≤M
    ·have e2:decide ((0:Int)≤M - L)=true:=dT yv;by_cases h3:M<L+(W.length:Int)
     ·have e3:decide (M - L<(W.length:Int))=true:=dT yv;refine jk yq yq ?_
      repeat (first
        |go_big_quiet_skip
        |(go_big_quiet_want
          first
             |(refine kP (fun w' A=>ldD C (h w' A)) ?_
               go_big_quiet_on
               go_frame)
             |(refine kP (fun w' A=>ldD D (i w' A)) ?_
               go_big_quiet_on
               go_frame)
             |(refine kP (fun w' A=>eqD C D Y) ?_
               go_big_quiet_on
               go_frame)
             |(go_big_quiet_op
               first
                  |go_big_quiet_on)))
      refine wpQuiet_nil ?_;rintro w' ⟨G,rfl⟩;have H:=G.2;generalize G.val=w2 at *;go_wp2_with fail;go_ret2;exact⟨B.trans (H.below.mono B.size),by simp [J0,Jj,kA,h0,S,h2,h3]<;>first|exact decide_eq_false yv|exact fun q=>absurd (of_decide_eq_true q) yv⟩
     have e3:decide (M - L<(W.length:Int))=false:=dF yv;refine jk yq yq ?_
     repeat (first
       |go_big_quiet_skip
       |(go_big_quiet_want
         first
            |(refine kP (fun w' A=>ldD C (h w' A)) ?_
              go_big_quiet_on
              go_frame)
            |(refine kP (fun w' A=>ldD D (i w' A)) ?_
              go_big_quiet_on
              go_frame)
            |(refine kP (fun w' A=>eqD C D Y) ?_
              go_big_quiet_on
              go_frame)
            |(go_big_quiet_op
              first
                 |go_big_quiet_on)))
     refine wpQuiet_nil ?_;rintro w' ⟨G,rfl⟩;have H:=G.2;generalize G.val=w2 at *;go_wp2_with fail;go_ret2;exact⟨B.trans (H.below.mono B.size),by simp [J0,Jj,kA,h0,S,h2,h3]<;>first|exact decide_eq_false yv|exact fun q=>absurd (of_decide_eq_true q) yv⟩
    have e2:decide ((0:Int)≤M - L)=false:=dF yv;refine jk yq yq ?_
    repeat (first
      |go_big_quiet_skip
      |(go_big_quiet_want
        first
           |(refine kP (fun w' A=>ldD C (h w' A)) ?_
             go_big_quiet_on
             go_frame)
           |(refine kP (fun w' A=>ldD D (i w' A)) ?_
             go_big_quiet_on
             go_frame)
           |(refine kP (fun w' A=>eqD C D Y) ?_
             go_big_quiet_on
             go_frame)
           |(go_big_quiet_op
             first
                |go_big_quiet_on)))
    refine wpQuiet_nil ?_;rintro w' ⟨G,rfl⟩;have H:=G.2;generalize G.val=w2 at *;go_wp2_with fail;go_ret2;exact⟨B.trans (H.below.mono B.size),by simp [J0,Jj,kA,h0,S,h2]<;>first|exact decide_eq_false yv|exact fun q=>absurd (of_decide_eq_true q) yv⟩
   have Y:Hid (decide (V=X)=false):=hid (dF S);refine jk yq yq ?_
   repeat (first
     |go_big_quiet_skip
     |(go_big_quiet_want
       first
          |(refine kP (fun w' A=>ldD C (h w' A)) ?_
            go_big_quiet_on
            go_frame)
          |(refine kP (fun w' A=>ldD D (i w' A)) ?_
            go_big_quiet_on
            go_frame)
          |(refine kP (fun w' A=>eqD C D Y) ?_
            go_big_quiet_on
            go_frame)
          |(go_big_quiet_op
            first
               |go_big_quiet_on)))
   refine wpQuiet_nil ?_;rintro w' ⟨G,rfl⟩;have H:=G.2;generalize G.val=w2 at *;go_wp2_with fail;go_ret2;exact⟨B.trans (H.below.mono B.size),by simp [J0,Jj,kA,h0,S]<;>first|exact decide_eq_false yv|exact fun q=>absurd (of_decide_eq_true q) yv⟩
  have e0:(b == c)=false:=beq_eq_false_iff_ne.2 h0;refine jk yq yq ?_
  repeat (first
    |go_big_quiet_skip
    |(go_big_quiet_want
      first
         |(refine kP (fun w' A=>ldD C (h w' A)) ?_
           go_big_quiet_on
           go_frame)
         |(refine kP (fun w' A=>ldD D (i w' A)) ?_
           go_big_quiet_on
           go_frame)
         |(refine kP (fun w' A=>eqD C D Y) ?_
           go_big_quiet_on
           go_frame)
         |(go_big_quiet_op
           first
              |go_big_quiet_on)))
  refine wpQuiet_nil ?_;rintro w' ⟨G,rfl⟩;have H:=G.2;generalize G.val=w2 at *;go_wp2_with fail;go_ret2;exact⟨B.trans (H.below.mono B.size),by simp [J0,Jj,kA,h0]<;>first|exact decide_eq_false yv|exact fun q=>absurd (of_decide_eq_true q) yv⟩
theorem uA(r:zk)(k:kE)(n:Int)(w:World)(hr:RunIn w r)(hk:kJ k)(hx1:Ix r.1.2.2)(hx2:Ix k.2.2)(hx3:Ix n)(hln:r.2.2.1.length≤2305843009213693952):
    Calls prog 160 #[.agg (kY r).toArray,.agg (kc k).toArray,.int .i64 n] w fun e w'=>Below w.heap.size w w'∧e=.returned (.bool (jz (kA r) k n)):=by
  have K:=hid hk;have L:=hid hr
  obtain⟨f,h,Z⟩:∃f h,r.2.1=.slice f r.2.2.1.length h:=by
    obtain⟨g,A2,A3,_,_,P,_⟩:=hr.2.1;exact⟨_,_,P⟩
  have Y:=hid Z;obtain⟨⟨a,T,I⟩,rv,Q,rd⟩:=r;obtain⟨b,U,J⟩:=k;dsimp only at Z;subst Z;obtain⟨p,s,t,v,_,_⟩:=KS L.1;obtain⟨x,y,z⟩:=Jd K.out;have P0:=hid p;have P1:=hid s;have P2:=hid t;have P3:=hid v;have Q0:=hid x;have Q1:=hid y;have Q2:=hid z
  clear hk hr p s t v x y z;dsimp only at hx1 hx2;go_enter func160,ntmps160
  go_upto_region 1 with (first
    |(with_reducible refine kG ?_
      refine kz yk 177 _ rfl (kY ((a,T,I),.slice f Q.length h,Q,rd)) _ rfl rfl (by rw[jw L.out];kernel_rfl) ?_;intro W0 N F O)
    |(with_reducible refine kG ?_
      refine kz yk 89 _ rfl (kc (b,U,J)) _ rfl rfl (by rw[ke K.out];kernel_rfl) ?_;intro M G D H))
  obtain⟨c,l⟩:=Xy w.heap.size;obtain⟨i,m⟩:=Xy W0.heap.size;have E:=hid (Xx N.out G.out);have d:=qX F.out;have C:=hid ((G.block w.heap.size d).trans F);rw[l] at C ⊢;rw[m] at D ⊢;have c0:M.cell? ⟨c,0,none⟩=some (.int .i64 a):=(k6 C 0).trans P0.out;have c1:M.cell? ⟨c,33,none⟩=some (.int .i64 I):=(k6 C 33).trans P1.out;have c2:M.cell? ⟨c,34,none⟩=some (.slice f Q.length h):=(k6 C 34).trans P3.out;have c3:M.cell? ⟨i,0,none⟩=some (.int .i64 b):=(k6 D 0).trans Q0.out;have c4:M.cell? ⟨i,33,none⟩=some (.int .i64 J):=(k6 D 33).trans Q1.out;have V:=hid (show M.rangeAt c 1 (idV T) from fun j u o=>(k6 C (1+j)).trans (P2 j u o));have W:=hid (show M.rangeAt i 1 (idV U) from fun j u o=>(k6 D (1+j)).trans (Q2 j u o));clear N G d C F D P0 P1 P2 P3 Q0 Q1 Q2;have R:c<M.heap.size:=by have:=H.out;have:=O.out;omega
  have S:i<M.heap.size:=by have:=H.out;omega
  have C0:=Wg.cell c0 R;have C1:=Wg.cell c1 R;have C2:=Wg.cell c2 R;have C3:=Wg.cell c3 S;have C4:=Wg.cell c4 S
  have A0:=hid (Wg.row V R);have A1:=hid (Wg.row W S)
  have A:Hid (jr T):=hid L.1.2.1;have B:Hid (jr U):=hid K.2.1;clear l m L K Y O H R S;unfold Ix at hx1 hx2;dsimp only at hln;unfold Ix at hx3;have ew:IntKind.i64.wrap (J+n)=J+n:=IntWalk.i64_in _ yv;have A4:IntKind.i64.wrap (I+(Q.length:Int))=I+(Q.length:Int):=IntWalk.i64_in _ yv;by_cases h0:a=b
  ·have e0:(a == b)=true:=beq_iff_eq.2 h0;by_cases P:T=U
   ·have X:Hid (decide (T=U)=true):=hid (dT P);by_cases h2:I<J+n
    ·have e2:decide (I<J+n)=true:=dT h2;by_cases h3:J<I+(Q.length:Int)
     ·have e3:decide (J<I+(Q.length:Int))=true:=dT h3
      go_wp2_with (first
        |(with_reducible refine k8 ?_
          refine k7 yk (ldD A V) ?_;go_frame)
        |(with_reducible refine k8 ?_
          refine k7 yk (ldD B W) ?_;go_frame)
        |(with_reducible refine kU ?_
          refine k7 yk (eqD A B X) ?_;go_frame;try simp only[nTF]))
      go_ret;exact⟨E,by simp [jz,Jj,kA,h0,P,h2,h3]<;>first|exact decide_eq_false yv|exact fun q=>absurd (of_decide_eq_true q) yv⟩
     have e3:decide (J<I+(Q.length:Int))=false:=dF h3
     go_wp2_with (first
       |(with_reducible refine k8 ?_
         refine k7 yk (ldD A V) ?_;go_frame)
       |(with_reducible refine k8 ?_
         refine k7 yk (ldD B W) ?_;go_frame)
       |(with_reducible refine kU ?_
         refine k7 yk (eqD A B X) ?_;go_frame;try simp only[nTF]))
     go_ret;exact⟨E,by simp [jz,Jj,kA,h0,P,h2,h3]<;>first|exact decide_eq_false yv|exact fun q=>absurd (of_decide_eq_true q) yv⟩
    have e2:decide (I<J+n)=false:=dF h2
    go_wp2_with (first
      |(with_reducible refine k8 ?_
        refine k7 yk (ldD A V) ?_;go_frame)
      |(with_reducible refine k8 ?_
        refine k7 yk (ldD B W) ?_;go_frame)
      |(with_reducible refine kU ?_
        refine k7 yk (eqD A B X) ?_;go_frame;try simp only[nTF]))
    go_ret;exact⟨E,by simp [jz,Jj,kA,h0,P,h2]<;>first|exact decide_eq_false yv|exact fun q=>absurd (of_decide_eq_true q) yv⟩
   have X:Hid (decide (T=U)=false):=hid (dF P)
   go_wp2_with (first
     |(with_reducible refine k8 ?_
       refine k7 yk (ldD A V) ?_;go_frame)
     |(with_reducible refine k8 ?_
       refine k7 yk (ldD B W) ?_;go_frame)
     |(with_reducible refine kU ?_
       refine k7 yk (eqD A B X) ?_;go_frame;try simp only[nTF]))
   go_ret;exact⟨E,by simp [jz,Jj,kA,h0,P]<;>first|exact decide_eq_false yv|exact fun q=>absurd (of_decide_eq_true q) yv⟩
  have e0:(a == b)=false:=beq_eq_false_iff_ne.2 h0
  go_wp2_with (first
    |(with_reducible refine k8 ?_
      refine k7 yk (ldD A V) ?_;go_frame)
    |(with_reducible refine k8 ?_
      refine k7 yk (ldD B W) ?_;go_frame)
    |(with_reducible refine kU ?_
      refine k7 yk (eqD A B X) ?_;go_frame;try simp only[nTF]))
  go_ret;exact⟨E,by simp [jz,Jj,kA,h0]<;>first|exact decide_eq_false yv|exact fun q=>absurd (of_decide_eq_true q) yv⟩
theorem zG(w:World):(zeroValue 89).run prog w=.ok (.agg (kc (0,k9,0)).toArray) w:=yq
theorem later_any(k:kE)(n:Int)(w:World)(hk:kJ k)(hx:Ix k.2.2)(hn:Ix n):
    Calls prog 89 #[.agg (kc k).toArray,.int .i64 n] w fun e w'=>Below w.heap.size w w'∧e=.returned (.agg (kc (vy k n)).toArray):=by
  obtain⟨J,I,C⟩:=k;have p:=hid hk;have g:=ke hk;obtain⟨q,h,r⟩:=Jd hk;have Q1:=hid h;have P:Hid (jr I):=hid hk.2.1;have d:=hid hk.1;clear hk q h r;dsimp only at hx;unfold Ix at hx hn;go_enter func89,ntmps89
  go_upto_region 1 with (first
    |(with_reducible refine kG ?_
      refine kz yk 89 _ rfl (kc (J,I,C)) _ rfl rfl (by rw[g];kernel_rfl) ?_;intro s K D E)
    |(with_reducible refine kF ?_
      refine kv yk 89 rfl (kc (0,k9,0)) (zG _) ?_;intro i F G Q))
  obtain⟨N,Y⟩:=Xy w.heap.size;obtain⟨O,a⟩:=Xy s.heap.size;have H:=hid (Xx K.out F.out);have Z:=qX D.out;have L:Hid (i.heap[N]?=some (.cells ((Value.int .i64 J::idV I)++([Value.int .i64 C]++[])).toArray 89 (0,0))):=hid (by rw[←Y];simpa [kc] using (F.block w.heap.size Z).trans D.out);rw[Y];rw[a] at G ⊢;have R:=hid (show N≠O by have:=E.out;omega);have S:=hid (show w.heap.size≤N by omega);have T:=hid (show w.heap.size≤O by have:=E.out;omega);have b:(Value.int .i64 J::idV I).length=33:=by simp [kn,show I.length=32 from P.out]
  have c1:i.cell? ⟨N,33,none⟩=some (.int .i64 C):=by
    have:=k6 L.out 33;rw[this,xx yv,b];rfl
  have ew:IntKind.i64.wrap (C+n)=C+n:=IntWalk.i64_in _ yv;have A:Hid (kJ (J,I,C+n)):=hid ⟨d,P,by
    simp only[Lit.wf,IntKind.min,IntKind.max,IntKind.signed,IntKind.bits,xy];simp;omega⟩
  clear K F Z D E Q Y a
  go_wp2_with (first
    |(with_reducible refine kD ?_
      refine kr yk 3 _ _ rfl N 33 (Value.int .i64 J::idV I) [.int .i64 C] [] [.int .i64 (C+n)] 89 _ rfl b.symm rfl rfl L.out rfl yq (by intro u t;rw[xZ.1 t];rfl) ?_;intro v c l y;have U:Hid (v.rangeAt N 0 (kc (J,I,C+n))):=hid (fun j u f=>by rw[qZ];exact(k6 l j).trans (by simpa [kc] using f));have V:=hid ((c.block O (qX G) (fun e=>R e.symm)).trans G);have M:=hid (c.below (B:=w.heap.size) H.size (fun k hk e=>by have:=S.out;omega)))
    |(refine k7 yk (ldK A U) ?_)
    |(with_reducible refine kD ?_
      refine kr yk 89 _ _ rfl O 0 [] (kc (0,k9,0)) [] (kc (J,I,C+n)) 89 _ rfl rfl rfl rfl (by simpa using V.out) (by rw[ke A.out];rfl) (by rw[ke A.out];kernel_rfl) (j8 _) ?_;intro x m o z;have W:Hid (x.rangeAt O 0 (kc (J,I,C+n))):=hid (fun j u f=>by rw[qZ];exact(k6 o j).trans (by simpa using f));have X:=hid (m.below (B:=w.heap.size) (qT H.size M.size) (fun k hk e=>by have:=T.out;omega))))
  refine bodyPost_ret (jx results89 _ _ rfl (qV _ O 0 89 (kc (J,I,C+n)) _ W underlying89 rfl (by rw[ke A.out];kernel_rfl))) rfl ?_;exact⟨H.trans (M.trans X),rfl⟩
def runZ:List Value:=kc (0,k9,0)++([.slice none 0 0]++[.bool false])
theorem JL(w:World):(zeroValue 177).run prog w=.ok (.agg runZ.toArray) w:=yq
def findV(q:Option (Nat×Nat)):Value:=match q with
  |none=>.tuple #[.int .i64 0,.int .i64 0,.bool false]
  |some x=>.tuple #[.int .i64 (x.1:Int),.int .i64 (x.2:Int),.bool true]
theorem runZ_one:∀u∈runZ,u.oneCell'=true:=by
  intro u A;unfold runZ at A;simp only[xJ,xZ] at A;rcases A with A|rfl|rfl
  ·exact j8 _ u A
  ·rfl
  ·rfl
theorem holds_le{r:kQ}{k:kE}(h:J0 r k=true):r.1.2.2≤k.2.2:=by
  simp only[J0,xy,decide_eq_true_eq] at h;exact h.2.1
def Q4(d:List kQ)(k:kE)(n:Int):Int:=if uL d k n=true then 0 else 11
theorem jX:(prog.info? 177).map (·.size)=some 36:=yq
theorem find_run(rs:List zk)(k:kE)(B p:Nat)(v:Value)(w:World)(h:DocRows w B p v rs)(hk:kJ k)(hix:∀r∈rs,Ix r.1.2.2)(hx2:Ix k.2.2)(hl:rs.length≤1099511627776):
    Calls prog 156 #[.pointer (some ⟨p,0,none⟩),.agg (kc k).toArray] w fun e w'=>Below w.heap.size w w'∧e=.returned (findV (Ud (rs.map kA) k)):=by
  obtain⟨A,c,rfl⟩:=kX h.own;have Y:=hid h;have f:=hid hk;have l:=hid hix;have m:=hid hx2
  have A9:=h.lt;have Aa:=ke hk;clear h hk hix hx2;go_enter func156,ntmps156
  go_upto_region 1 with (first
    |(with_reducible refine kG ?_
      refine kz yk 89 _ rfl (kc k) _ rfl rfl (by rw[Aa];kernel_rfl) ?_;intro X G N O))
  obtain⟨b0,A1⟩:=Xy w.heap.size;have P:=hid (show b0<X.heap.size by have:=O.out;omega);have c0:X.cell? ⟨p,0,none⟩=some (.slice A rs.length c):=by
    obtain⟨s,t,hb⟩:=Y.box;exact(G.cell (p:=⟨p,0,none⟩) A9).trans (k6 hb 0)
  have n:=hid (show X.rangeAt b0 0 (kc k) from fun j u J=>by rw[qZ,←A1];exact(k6 N j).trans J);have o:Hid (Below w.heap.size w X):=hid G.out;have A8:=hid (qT G.size (qR _));rw[A1];clear G N O A1
  go_upto_region 2 with fail
  go_loopw [16] (fun t wr=>∃i:Nat,i≤rs.length∧t=.int .i64 (i:Int)∧Hid (Below w.heap.size w wr)∧Hid (Below X.heap.size X wr)∧Hid (∀j (J:j<rs.length),j<i→J0 (kA rs[j]) k=false)) (fun t _=>rs.length - (intOf t).toNat)
  case atStart=>exact⟨0,YX _,rfl,o,hid (qB _ _),hid (fun j _ h=>absurd h yv)⟩
  case round=>
    obtain⟨i,hi,rfl,H,D,E⟩:=hrel;by_cases hlt2:i<rs.length
    ·have Ab:(i:Int)<(rs.length:Int):=yv;have i0:(0:Int)≤(i:Int):=yv;obtain⟨g,c',Ac,A2,Ad,Ae⟩:=Y.row hlt2;injection Ac with hA _ hc';subst hA hc';have Z:=hid (Y.ins _ (yQ hlt2));have x:=hid (l _ (yQ hlt2));have K:=hid (show wr.rangeAt g (i*36) (kY rs[i]) from fun j u J=>(H.cell (p:=⟨g,i*36+j,none⟩) Ad).trans (A2 j u J));have Q:=hid (yK hlt2);clear A2 Ae;generalize rs[i]=r at *;have I:=hid (jw Z);have y:=hid (KQ r Z.2.1.one);have R:=hid (Z.keep (KeepR.below (H.mono (xY _))))
     go_upto_region 4 with (first
       |(with_reducible refine k8 ?_
         refine kZ rfl 177 _ rfl g _ rfl (kY r) _ K.out underlying177 rfl (by rw[I.out];exact jX) ?_)
       |(with_reducible refine kF ?_
         refine kv yk 177 rfl runZ (JL _) ?_;intro W6 S T U)
       |(with_reducible refine kD ?_
         refine kr yk 177 _ _ rfl wr.heap.size 0 [] runZ [] (kY r) 177 _ rfl rfl rfl rfl (by simpa using T.out) (by rw[I.out];rfl) (by rw[I.out];exact jX) y.out ?_;intro b V Af Ai;have W:Hid (b.heap[wr.heap.size]?=some (.cells (kY r).toArray 177 (0,0))):=hid (by simpa using Af.out)))
     have C:Hid (Below wr.heap.size wr b):=hid (S.trans (V.below (by have:=U.out;omega) (fun k hk e=>by omega)));have HU:=hid (show b.rangeAt wr.heap.size 0 (kY r) from fun j u J=>by rw[qZ];exact(k6 W j).trans J);have z:=hid (show b.rangeAt b0 0 (kc k) from fun j u J=>(C.cell (p:=⟨b0,0+j,none⟩) (qL P D.size)).trans ((D.cell (p:=⟨b0,0+j,none⟩) P).trans (n j u J)));have A0:=hid (R.keep (KeepR.below C));have F:Hid (Below w.heap.size w b):=hid (Xx H.out C.out);have a:Hid (Below X.heap.size X b):=hid (Xx D.out C.out);clear S T U V W K R
     go_upto_region 5 with (first
       |(refine k7 yk (ldU I HU) ?_)
       |(refine k7 yk (ldK f z) ?_)
       |(go_at_call 199;refine(holds_any r k b A0 f x m).mono ?_;rintro e w8 ⟨A5,rfl⟩;have L:=hid A5;clear A5))
     cases hh:J0 (kA r) k
     ·have M:=hid hh;clear hh;go_wp2_with fail
      go_roundw
      case rel=>
        refine⟨i+1,by omega,by go_num,hid (Xx F.out L.out),hid (Xx a.out L.out),hid (fun j J A6=>?_)⟩;rcases (by omega:j<i∨j=i) with q|q
        ·exact E.out j J q
        ·subst q;have A3:=Q.out;obtain⟨A4,e3⟩:=yJ.1 A3;rw[e3];exact M.out
      case measure=>exact Xz
     ·have M:=hid hh;clear hh;go_wp2_with fail;go_ret3;refine⟨F.trans (L.mono F.size),?_⟩;have Ag:Ud (rs.map kA) k=some (i,(k.2.2 - r.1.2.2).toNat):=by
        have A3:=Q.out;obtain⟨A4,e3⟩:=yJ.1 A3;have hm:(rs.map kA)[i]'(by simpa using A4)=kA r:=by rw[List.getElem_map,e3]
        rw[findR_hit (d:=rs.map kA) (i:=i) (k:=k) (by simpa using A4) (fun j J A6=>by rw[List.getElem_map];exact E.out j (by simpa using J) A6) (by rw[hm];exact M.out),hm];rfl
      rw[Ag];have A7:0≤k.2.2 - r.1.2.2:=by
        have h1:r.1.2.2≤k.2.2:=holds_le M.out;omega
      show _=Ending.returned (.tuple #[.int .i64 (i:Int),.int .i64 (((k.2.2 - r.1.2.2).toNat:Nat):Int),.bool true]);rw[Int.toNat_of_nonneg A7];rfl
    ·have Ab:¬(i:Int)<(rs.length:Int):=yv;go_wp2_with fail;go_ret3;refine⟨H,?_⟩;rw[findR_none (d:=rs.map kA) (k:=k) fun j J=>by
       have Ah:j<rs.length:=by simpa using J
       rw[List.getElem_map];exact E.out j Ah yv]
     rfl
theorem US(rs:List zk)(k:kE)(n:Int)(B p:Nat)(v:Value)(w:World)(h:DocRows w B p v rs)(hk:kJ k)(hix:∀r∈rs,Ix r.1.2.2)(hx2:Ix k.2.2)(hx3:Ix n)(hln:∀r∈rs,r.2.2.1.length≤2305843009213693952)(hl:rs.length≤1099511627776):
    Calls prog 157 #[.pointer (some ⟨p,0,none⟩),.agg (kc k).toArray,.int .i64 n] w fun e w'=>Below w.heap.size w w'∧e=.returned (.int .i64 (Q4 (rs.map kA) k n)):=by
  have d:=hid hx3;have f:=hid hln
  clear hx3 hln;obtain⟨A,c,rfl⟩:=kX h.own;have X:=hid h;have l:=hid hk;have m:=hid hix;have o:=hid hx2
  have Aa:=h.lt;have Ab:=ke hk;clear h hk hix hx2;go_enter func157,ntmps157
  go_upto_region 1 with (first
    |(with_reducible refine kG ?_
      refine kz yk 89 _ rfl (kc k) _ rfl rfl (by rw[Ab];kernel_rfl) ?_;intro W F N O))
  obtain⟨b0,A5⟩:=Xy w.heap.size;have P:=hid (show b0<W.heap.size by have:=O.out;omega);have c0:W.cell? ⟨p,0,none⟩=some (.slice A rs.length c):=by
    obtain⟨s,t,hb⟩:=X.box;exact(F.cell (p:=⟨p,0,none⟩) Aa).trans (k6 hb 0)
  have z:=hid (show W.rangeAt b0 0 (kc k) from fun j u I=>by rw[qZ,←A5];exact(k6 N j).trans I);have A0:Hid (Below w.heap.size w W):=hid F.out;have A9:=hid (qT F.size (qR _));rw[A5];clear F N O A5
  go_upto_region 2 with fail
  go_loopw [14] (fun t wr=>∃i:Nat,i≤rs.length∧t=.int .i64 (i:Int)∧Hid (Below w.heap.size w wr)∧Hid (Below W.heap.size W wr)∧Hid (∀j (I:j<rs.length),j<i→jz (kA rs[j]) k n=false)) (fun t _=>rs.length - (intOf t).toNat)
  case atStart=>exact⟨0,YX _,rfl,A0,hid (qB _ _),hid (fun j _ h=>absurd h yv)⟩
  case round=>
    obtain⟨i,hi,rfl,G,D,J⟩:=hrel;by_cases hlt2:i<rs.length
    ·have Ac:(i:Int)<(rs.length:Int):=yv;have i0:(0:Int)≤(i:Int):=yv;obtain⟨g,c',Ad,A6,Ae,Af⟩:=X.row hlt2;injection Ad with hA _ hc';subst hA hc';have Y:=hid (X.ins _ (yQ hlt2));have A1:=hid (m _ (yQ hlt2));have K:=hid (show wr.rangeAt g (i*36) (kY rs[i]) from fun j u I=>(G.cell (p:=⟨g,i*36+j,none⟩) Ae).trans (A6 j u I));have L:=hid (yK hlt2);clear A6 Af;generalize rs[i]=r at *;have H:=hid (jw Y);have A2:=hid (KQ r Y.2.1.one);have Q:=hid (Y.keep (KeepR.below (G.mono (xY _))))
     go_upto_region 4 with (first
       |(with_reducible refine k8 ?_
         refine kZ rfl 177 _ rfl g _ rfl (kY r) _ K.out underlying177 rfl (by rw[H.out];exact jX) ?_)
       |(with_reducible refine kF ?_
         refine kv yk 177 rfl runZ (JL _) ?_;intro W6 R S T)
       |(with_reducible refine kD ?_
         refine kr yk 177 _ _ rfl wr.heap.size 0 [] runZ [] (kY r) 177 _ rfl rfl rfl rfl (by simpa using S.out) (by rw[H.out];rfl) (by rw[H.out];exact jX) A2.out ?_;intro b U Ag Ai;have V:Hid (b.heap[wr.heap.size]?=some (.cells (kY r).toArray 177 (0,0))):=hid (by simpa using Ag.out)))
     have C:Hid (Below wr.heap.size wr b):=hid (R.trans (U.below (by have:=T.out;omega) (fun k hk e=>by omega)));have HU:=hid (show b.rangeAt wr.heap.size 0 (kY r) from fun j u I=>by rw[qZ];exact(k6 V j).trans I);have A3:=hid (show b.rangeAt b0 0 (kc k) from fun j u I=>(C.cell (p:=⟨b0,0+j,none⟩) (qL P D.size)).trans ((D.cell (p:=⟨b0,0+j,none⟩) P).trans (z j u I)));have A4:=hid (Q.keep (KeepR.below C));have E:Hid (Below w.heap.size w b):=hid (Xx G.out C.out);have Z:Hid (Below W.heap.size W b):=hid (Xx D.out C.out);clear R S T U V K Q;cases hh:jz (kA r) k n
     all_goals
       have a:=hid hh;clear hh
       go_wp2_with (first
         |(refine k7 yk (ldU H HU) ?_)
         |(refine k7 yk (ldK l A3) ?_)
         |(go_at_call 160;refine(uA r k n b A4 l A1 o d (f _ (List.mem_of_getElem? L))).mono ?_;rintro e w8 ⟨A8,rfl⟩;rw[a.out];have M:=hid A8;clear A8))
     ·go_roundw
      case rel=>
        refine⟨i+1,by omega,by go_num,hid (Xx E.out M.out),hid (Xx Z.out M.out),hid (fun j I Aj=>?_)⟩;rcases (by omega:j<i∨j=i) with q|q
        ·exact J.out j I q
        ·subst q;have Ah:=L.out;obtain⟨Ak,e3⟩:=yJ.1 Ah;rw[e3];exact a.out
      case measure=>exact Xz
     ·go_ret;refine⟨E.trans (M.mono E.size),?_⟩;have A7:uL (rs.map kA) k n=false:=by
        unfold uL;rw[List.all_eq_false];exact⟨kA r,List.mem_map.2 ⟨r,List.mem_of_getElem? L,rfl⟩,by rw[a.out];decide⟩
      unfold Q4;rw[A7];rfl
    ·have Ac:¬(i:Int)<(rs.length:Int):=yv;go_wp2_with fail;go_ret;refine⟨G,?_⟩;have A7:uL (rs.map kA) k n=true:=by
       unfold uL;rw[List.all_eq_true];intro y hy;obtain⟨x,hx,rfl⟩:=List.mem_map.1 hy;obtain⟨j,I,rfl⟩:=List.getElem_of_mem hx;rw[J.out j I yv];rfl
     unfold Q4;rw[A7];rfl
end
section
open Go.RowKit
section
variable {ρ:Operand→Value} {o:Oper} {w:World} {b f:Nat} {x:Operand}
theorem ldR{r:zy}(hr:zz r)(hc:w.rangeAt b f (kw r))(ho:o.op=.load 110 x:=by rfl)(hx:ρ x=.pointer (some ⟨b,f,none⟩):=by rfl):(execOp ρ o).run prog w=.ok (.value (.agg (kw r).toArray)) w:=
  kg 110 x ho hx (run_loadVar_mid w b f _ (kw r) _ hc underlying110 rfl (by rw[kq hr];kernel_rfl))
theorem ldO{y:OpD}(hy:KR y)(hc:w.rangeAt b f (opV y))(ho:o.op=.load 112 x:=by rfl)(hx:ρ x=.pointer (some ⟨b,f,none⟩):=by rfl):(execOp ρ o).run prog w=.ok (.value (.agg (opV y).toArray)) w:=
  kg 112 x ho hx (run_loadVar_mid w b f _ (opV y) _ hc underlying112 rfl (by rw[kI hy];kernel_rfl))
end
end
end Go.Proofs.YtdgbjhfkmembdaaGreatDoor