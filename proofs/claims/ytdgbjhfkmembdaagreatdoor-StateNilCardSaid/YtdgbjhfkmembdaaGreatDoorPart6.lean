/-
  Plain facts, and contracts of the functions that the claim's walk comes to, one behind the other. Conditions: as each says.
-/
import Derived.Test.YtdgbjhfkmembdaaGreatDoorPart5
import Derived.Test.YtdgbjhfkmembdaaGreatDoorPart4
import Derived.Test.YtdgbjhfkmembdaaGreatDoorProg
import Derived.Lib.SlBytesRow
import Derived.Lib.BytesEntry
import Derived.Handy
import Derived.PlainAid
import Derived.Lib.Hide
import Derived.Deep.QuietTactic
import Derived.BigQuiet
import Derived.StillTailTactics
import Derived.Deep.CutRange
import Derived.StillTail
import Derived.Deep.MidRow
import Derived.Deep.RegionHeld
import Derived.OrdersHeld
import Derived.Laws.AppendOwn
import Derived.Maps.RangeWalk
import Derived.Shelf.Abstract
set_option linter.unusedVariables false
set_option linter.unusedSimpArgs false
set_option maxHeartbeats 4000000
set_option maxRecDepth 100000
open Go.Proofs.Tryz
namespace Go.Proofs.YtdgbjhfkmembdaaGreatDoor
section
open Go.RowKit
def opV(x:OpD):List Value:=.int .u8 (x.1.toNat:Int)::(kn x.2.1++(kn x.2.2.1++[.string x.2.2.2.1,.int .i64 x.2.2.2.2.1,.string x.2.2.2.2.2]))
def KR(x:OpD):Prop:=OpOk x∧x.2.2.2.1.size≤maxLen∧x.2.2.2.2.2.size≤maxLen
theorem kH{x:OpD}(h:KR x):(opV x).length=70:=by
  have A:=kq h.1.1;have B:=kq h.1.2.1;simp [opV,A,B]
theorem Ud(x:OpD):∀u∈opV x,u.oneCell'=true:=by
  intro u A;unfold opV at A;rcases List.mem_cons.1 A with rfl|A
  ·rfl
  ·rcases List.mem_append.1 A with A|A
   ·exact qm _ u A
   ·rcases List.mem_append.1 A with A|A
    ·exact qm _ u A
    ·simp at A;rcases A with rfl|rfl|rfl<;>rfl
theorem kp{x:OpD}(h:KR x):(opV x)[0]?=some (.int .u8 (x.1.toNat:Int))∧(∀(j:Nat) (u:Value),(kn x.2.1)[j]?=some u→(opV x)[1+j]?=some u)∧(∀(j:Nat) (u:Value),(kn x.2.2.1)[j]?=some u→(opV x)[34+j]?=some u)∧
    (opV x)[67]?=some (.string x.2.2.2.1)∧(opV x)[68]?=some (.int .i64 x.2.2.2.2.1)∧(opV x)[69]?=some (.string x.2.2.2.2.2):=by
  have C:=kq h.1.1;have E:=kq h.1.2.1;have e:opV x=[.int .u8 (x.1.toNat:Int)]++kn x.2.1++kn x.2.2.1++[.string x.2.2.2.1,.int .i64 x.2.2.2.2.1,.string x.2.2.2.2.2]:=by simp [opV]
  have F:([.int .u8 (x.1.toNat:Int)]++kn x.2.1:List Value).length=34:=by simp [C]
  have B:([.int .u8 (x.1.toNat:Int)]++kn x.2.1++kn x.2.2.1:List Value).length=67:=by simp [C,E]
  refine⟨rfl,fun j u A=>?_,fun j u A=>?_,?_,?_,?_⟩
  ·have D:=(List.getElem?_eq_some_iff.1 A).1;rw[e,List.append_assoc,List.append_assoc,List.getElem?_append_right yq,List.getElem?_append_left (by simp<;>omega)]
   simpa using A
  ·have D:=(List.getElem?_eq_some_iff.1 A).1;rw[e,List.append_assoc,List.getElem?_append_right yz,F,List.getElem?_append_left yz,Nat.add_sub_cancel_left];exact A
  ·rw[e,List.getElem?_append_right yz,B];rfl
  ·rw[e,List.getElem?_append_right yz,B];rfl
  ·rw[e,List.getElem?_append_right yz,B];rfl
theorem kL{r:zC}(h:za r):(∀(j:Nat) (u:Value),(idV r.1)[j]?=some u→(kn r)[j]?=some u)∧(kn r)[32]?=some (.int .i64 r.2):=by
  have B:(idV r.1).length=32:=by rw[kf];exact h.1
  refine⟨fun j u A=>?_,?_⟩
  ·unfold kn;rw[List.getElem?_append_left (List.getElem?_eq_some_iff.1 A).1];exact A
  ·unfold kn;rw[List.getElem?_append_right yz,B];rfl
theorem vY:prog.cellsOf 110=33:=by kernel_rfl
theorem eqRef:EqT prog 110 3:=⟨by kernel_rfl,of_decide_eq_true yy,of_decide_eq_true yy,by kernel_rfl,by kernel_rfl,of_decide_eq_true yy,by kernel_rfl⟩
theorem kbRef{r:zC}(hr:za r):Kb prog 3 110 (kn r):=by
  have B:=kq hr;have A:(idV r.1).length=32:=by rw[kf];exact hr.1
  refine kb_struct underlying110 (by rw[B,vY]) yy fun f C=>?_
  simp only[List.mem_cons,List.not_mem_nil,or_false] at C;rcases C with rfl|rfl
  ·simp only[ZG,List.drop_zero];rw[show (kn r).take 32=idV r.1 by unfold kn;rw[←A,List.take_left]];exact kbId hr.1
  ·simp only[vQ];rw[show ((kn r).drop 32).take 1=[.int .i64 r.2] from cut_end A rfl];exact fun d D=>kb_int underlying3 hr.2 d yz
theorem j7{a b:zC}(ha:za a)(hb:za b)(w:World):(Op.equalIn 10000 110 (.agg (kn a).toArray) (.agg (kn b).toArray)).run prog w=.ok (decide (a=b)) w:=
  eqRef.run kn (fun _ _=>refV_inj) (by rw[kq ha,vY]) (by rw[kq hb,vY]) (kbRef ha) (kbRef hb) w
theorem kI:za kg:=⟨jL,by decide⟩
structure ObjIn (w:World) (B:Nat) (v:Value) (o:ZT):Prop where
  ok:ObjOk o
  ops:∀x∈o.2.1.2.2.2,KR x
  author:o.2.1.2.2.1.size≤maxLen
  author2:o.2.2.2.2.1.size≤maxLen
  note:o.2.2.2.2.2.1.size≤maxLen
  cells:∃Ad cd Ao co Ap cp Ac cc,v=.agg #[.int .u8 (o.1.toNat:Int),.int .i64 o.2.1.1,.slice Ad o.2.1.2.1.length cd,.string o.2.1.2.2.1,.slice Ao o.2.1.2.2.2.length co,.slice Ap o.2.2.1.length cp,.slice Ac o.2.2.2.1.length cc,.string o.2.2.2.2.1,.string o.2.2.2.2.2.1,.int .i64 o.2.2.2.2.2.2]∧
    Sl w B Ad o.2.1.2.1.length 32 (zf o.2.1.2.1)∧Sl w B Ao o.2.1.2.2.2.length 70 (ke opV o.2.1.2.2.2)∧Sl w B Ap o.2.2.1.length 32 (zf o.2.2.1)∧Sl w B Ac o.2.2.2.1.length 32 (zf o.2.2.2.1)
structure ChIn (w:World) (B:Nat) (v:Value) (c:kQ):Prop where
  ok:Zt c
  ops:∀x∈c.2.2.2,KR x
  author:c.2.2.1.size≤maxLen
  cells:∃Ad cd Ao co,v=.agg #[.int .i64 c.1,.slice Ad c.2.1.length cd,.string c.2.2.1,.slice Ao c.2.2.2.length co]∧Sl w B Ad c.2.1.length 32 (zf c.2.1)∧Sl w B Ao c.2.2.2.length 70 (ke opV c.2.2.2)
structure CmIn (w:World) (B:Nat) (v:Value) (c:Zi):Prop where
  ok:CommitOk c
  author:c.2.2.1.size≤maxLen
  note:c.2.2.2.1.size≤maxLen
  cells:∃Ap cp Ac cc,v=.agg #[.slice Ap c.1.length cp,.slice Ac c.2.1.length cc,.string c.2.2.1,.string c.2.2.2.1,.int .i64 c.2.2.2.2]∧Sl w B Ap c.1.length 32 (zf c.1)∧Sl w B Ac c.2.1.length 32 (zf c.2.1)
section
variable {w w':World} {B B':Nat} {v:Value}
theorem ObjIn.keep{o:ZT}(h:ObjIn w B v o)(hb:Below B w w'):ObjIn w' B v o:=by
  obtain⟨A,C,D,E,F,Ad,G,Ao,H,Ap,I,Ac,J,K,L,M,N,O⟩:=h;exact⟨A,C,D,E,F,Ad,G,Ao,H,Ap,I,Ac,J,K,L.keep hb,M.keep hb,N.keep hb,O.keep hb⟩
theorem ObjIn.more{o:ZT}(h:ObjIn w B v o)(hB:B≤B'):ObjIn w B' v o:=by
  obtain⟨A,C,D,E,F,Ad,G,Ao,H,Ap,I,Ac,J,K,L,M,N,O⟩:=h;exact⟨A,C,D,E,F,Ad,G,Ao,H,Ap,I,Ac,J,K,L.more hB,M.more hB,N.more hB,O.more hB⟩
theorem ChIn.keep{o:kQ}(h:ChIn w B v o)(hb:Below B w w'):ChIn w' B v o:=by
  obtain⟨A,C,D,Ad,E,Ao,F,G,H,I⟩:=h;exact⟨A,C,D,Ad,E,Ao,F,G,H.keep hb,I.keep hb⟩
theorem ChIn.more{o:kQ}(h:ChIn w B v o)(hB:B≤B'):ChIn w B' v o:=by
  obtain⟨A,C,D,Ad,E,Ao,F,G,H,I⟩:=h;exact⟨A,C,D,Ad,E,Ao,F,G,H.more hB,I.more hB⟩
theorem CmIn.keep{o:Zi}(h:CmIn w B v o)(hb:Below B w w'):CmIn w' B v o:=by
  obtain⟨A,C,D,Ad,E,Ao,F,G,H,I⟩:=h;exact⟨A,C,D,Ad,E,Ao,F,G,H.keep hb,I.keep hb⟩
theorem CmIn.more{o:Zi}(h:CmIn w B v o)(hB:B≤B'):CmIn w B' v o:=by
  obtain⟨A,C,D,Ad,E,Ao,F,G,H,I⟩:=h;exact⟨A,C,D,Ad,E,Ao,F,G,H.more hB,I.more hB⟩
end
def kY(m:zE):List Value:=.bool m.1::k8 m.2
abbrev Ql:=Value×Value×Value
def Kl(e:vE)(m:Ql):List Value:=[.int .i64 e.1.1,m.1,.string e.1.2.2.1,m.2.1,m.2.2]
structure EntryIn (w:World) (e:vE) (m:Ql):Prop where
  time:(Lit.int .i64 e.1.1).wf=true
  deps:w.ownsRow 0 41 32 m.1 e.1.2.1.length (zf e.1.2.1)
  ops:w.ownsRow 0 112 70 m.2.1 e.1.2.2.2.length (ke opV e.1.2.2.2)
  makes:w.ownsRow 0 199 35 m.2.2 e.2.length (ke kY e.2)
  idsOk:IdsOk e.1.2.1
  opsOk:∀x∈e.1.2.2.2,KR x
  keys:∀m∈e.2,kN m.2
structure j5 where
  bd:Nat
  bc:Nat
  nd:Nat
  vc:Value
  ptr:kF→Nat
  row:kF→Value
  em:List UInt8→Ql
structure StateAt (w:World) (B s:Nat) (S:kz) (q:j5):Prop where
  box:w.heap[s]?=some (.cells [.map (some q.bd),q.vc,.map (some q.bc)].toArray 87 (0,0))
  low:B≤s∧B≤q.bd∧B≤q.bc
  mapD:MapV w prog 89 kN uP q.bd q.nd (fun k=>(jR S k).map fun _=>.pointer (some ⟨q.ptr k,0,none⟩))
  mapC:MapV w prog 41 jp idL q.bc S.2.2.length (fun i=>(kC S i).map fun e=>.agg (Kl e (q.em i)).toArray)
  ne:q.bd≠q.bc
  claims:w.ownsRow B 135 70 q.vc S.2.1.length (ke kT S.2.1)
  claimsOk:∀c∈S.2.1,Kf c
  docs:∀k d,jR S k=some d→kN k∧DocAt w B (q.ptr k) (q.row k) d
  apart:∀k k',(jR S k).isSome=true→(jR S k').isSome=true→k≠k'→∀j,DocX (q.ptr k) (q.row k) j→¬DocX (q.ptr k') (q.row k') j
  entries:∀i e,kC S i=some e→jp i∧EntryIn w e (q.em i)
theorem Qm{w w':World}{base n sz:Nat}{e:TypeId}{v:Value}{xs:List Value}(h:w.ownsRow base e sz v n xs)(he:immB e=true)(hk:KeepR w w'):w'.ownsRow base e sz v n xs:=by
  refine⟨h.1,?_⟩;rcases h.2 with D|⟨g,B,A,rfl,E,C,r⟩
  ·exact .inl D
  ·exact .inr ⟨g,B,A,rfl,E,(hk g A e (0,0) he C).trans C,r⟩
theorem EntryIn.keep{w w':World}{e:vE}{m:Ql}(h:EntryIn w e m)(hk:KeepR w w'):EntryIn w' e m:=
  ⟨h.time,Qm h.deps yv hk,Qm h.ops yv hk,Qm h.makes yv hk,h.idsOk,h.opsOk,h.keys⟩
section
variable {w w':World} {B s:Nat} {S:kz} {q:j5}
theorem StateAt.mapD_obj(h:StateAt w B s S q):∃a b,w.heap[q.bd]?=some (.map a b):=by
  obtain⟨D,⟨E,A,C,_⟩,_⟩:=h.mapD;exact⟨_,_,C⟩
theorem StateAt.mapC_obj(h:StateAt w B s S q):∃a b,w.heap[q.bc]?=some (.map a b):=by
  obtain⟨D,⟨E,A,C,_⟩,_⟩:=h.mapC;exact⟨_,_,C⟩
theorem DocAt.tagged{p:Nat}{v:Value}{d:List kX}(h:DocAt w B p v d){k:Nat}(hk:DocX p v k):∃A t,(t=192∨t=177)∧w.heap[k]?=some (.cells A t (0,0)):=by
  rcases hk with rfl|hk
  ·obtain⟨s,t,C⟩:=h.box;exact⟨_,_,.inl rfl,C⟩
  ·obtain⟨F,_,_,D⟩:=h.rows;obtain⟨A,E⟩:=kE D hk;exact⟨A,_,.inr rfl,E⟩
theorem StateAt.keep(h:StateAt w B s S q)(hb:Below w.heap.size w w'):StateAt w' B s S q:=
  have D:=KeepR.below hb
  ⟨(hb.block s (qX h.box)).trans h.box,h.low,h.mapD.below hb,h.mapC.below hb,h.ne,(But.of_below (X:=NoB) hb).own h.claims fun _ _ q=>q,h.claimsOk,fun k d A=>⟨(h.docs k d A).1,(h.docs k d A).2.keep hb⟩,h.apart,fun i e C=>⟨(h.entries i e C).1,(h.entries i e C).2.keep D⟩⟩
theorem StateAt.turn(h:StateAt w B s S q){k:kF}{d d':List kX}{v':Value}(hd:jR S k=some d)(hb:But (DocX (q.ptr k) (q.row k)) w w')(hn:DocAt w' B (q.ptr k) v' d')
    (hw:∀j,v'.ownBlock=some j→(q.row k).ownBlock=some j∨w.heap.size≤j):
    StateAt w' B s (zN S.1 k d',S.2) { q with row:=fun x=>if x=k then v' else q.row x}:=by
  have O:=(h.docs k d hd).2;have X:=KeepR.but hb O.noRunes;have T:∀{b:Nat} {c:Array Value} {t:TypeId} {f:Nat×Nat},w.heap[b]?=some (.cells c t f)→t≠192→t≠177→¬DocX (q.ptr k) (q.row k) b:=fun P H M A=>by
    obtain⟨Q,a,Y,I⟩:=O.tagged A;exact jr P I (by rcases Y with rfl|rfl<;>assumption) rfl
  have U:∀{b:Nat},(∃x y,w.heap[b]?=some (.map x y))→¬DocX (q.ptr k) (q.row k) b:=fun P A=>by
    obtain⟨Q,a,Y,I⟩:=O.tagged A;exact Jt I P rfl
  have F:(jR S k).isSome=true:=by rw[hd];rfl
  have J:∀x,jR (zN S.1 k d',S.2) x=if x=k then some d' else jR S x:=fun x=>U8 S k d' S.2 x
  refine⟨(hb.block s (qX h.box) (T h.box yv yv)).trans h.box,h.low,?_,?_,h.ne,?_,h.claimsOk,?_,?_,?_⟩
  ·have:=hb.map h.mapD (U h.mapD_obj);have e:(fun x=>(jR (zN S.1 k d',S.2) x).map fun _=>Value.pointer (some ⟨q.ptr x,0,none⟩))=fun x=>(jR S x).map fun _=>Value.pointer (some ⟨q.ptr x,0,none⟩):=by
     funext x
     rw[J]
     split
     ·rename_i e;subst e;rw[hd];rfl
     ·rfl
   show MapV w' _ _ _ _ _ q.nd _;rw[e];exact this
  ·exact hb.map h.mapC (U h.mapC_obj)
  ·refine hb.own h.claims fun g l=>?_
   obtain⟨Q,I⟩:=kE h.claims l;exact T I yv yv
  ·intro x y A;rw[J] at A
   split at A
   ·rename_i e;subst e;cases A
    exact⟨(h.docs _ _ hd).1,by simpa using hn⟩
   ·rename_i e;have:=h.docs x y A;refine⟨this.1,?_⟩;simp only[if_neg e];exact this.2.but hb (fun j N D=>h.apart x k (by rw[A];rfl) F e j N D) X
  ·intro x y A G L j N D;rw[J] at A G;have K:∀{z:kF},z≠k→(jR S z).isSome=true→DocX (q.ptr z) (if z=k then v' else q.row z) j→DocX (q.ptr z) (q.row z) j:=fun W _ C=>by rw[if_neg W] at C;exact C
   have R:DocX (q.ptr k) v' j→DocX (q.ptr k) (q.row k) j∨w.heap.size≤j:=fun C=>by
     rcases C with C|C
     ·exact .inl (.inl C)
     ·rcases hw j C with C|C
      ·exact .inl (.inr C)
      ·exact .inr C
   have V:∀{z:kF},(jR S z).isSome=true→DocX (q.ptr z) (q.row z) j→j<w.heap.size:=fun W C=>by
     obtain⟨n,Z⟩:=Option.isSome_iff_exists.1 W;obtain⟨Q,t,_,I⟩:=((h.docs _ _ Z).2).tagged C;exact qX I
   simp only at N D;by_cases hxk:x=k
   ·have E:y≠k:=fun e=>L (hxk.trans e.symm)
    rw[if_neg E] at G;subst hxk;rw[if_pos rfl] at N;have M:=K E G D;rcases R N with H|H
    ·exact h.apart x y F G L j H M
    ·have:=V G M;omega
   ·rw[if_neg hxk] at A;have H:=K hxk A N;by_cases E:y=k
    ·subst E;rw[if_pos rfl] at D;rcases R D with M|M
     ·exact h.apart x y A F L j H M
     ·have:=V A H;omega
    ·rw[if_neg E] at G;exact h.apart x y A G L j H (K E G D)
  ·intro i e m;have:=h.entries i e m;exact⟨this.1,this.2.keep X⟩
theorem StateAt.apartDoc(h:StateAt w B s S q){k:kF}(hk:(jR S k).isSome=true){j:Nat}(hj:DocX (q.ptr k) (q.row k) j):j<w.heap.size∧j≠s∧j≠q.bd∧j≠q.bc∧q.vc.ownBlock≠some j:=by
  obtain⟨d,D⟩:=Option.isSome_iff_exists.1 hk;obtain⟨F,t,C,A⟩:=(h.docs k d D).2.tagged hj;refine⟨qX A,jr A h.box (by rcases C with rfl|rfl<;>decide),Jt A h.mapD_obj,Jt A h.mapC_obj,fun e=>?_⟩;obtain⟨G,E⟩:=kE h.claims e;exact jr A E (by rcases C with rfl|rfl<;>decide) rfl
theorem StateAt.keepX(h:StateAt w B s S q){X:Nat→Prop}(hb:But X w w')(hx:∀j,X j→j=s∨j=q.bd∨j=q.bc∨q.vc.ownBlock=some j):KeepR w w'∧∀k d,jR S k=some d→DocAt w' B (q.ptr k) (q.row k) d:=by
  have E:KeepR w w':=KeepR.but hb fun j A L t M F C=>by
    rcases hx j A with rfl|rfl|rfl|A
    ·exact jr C h.box (by rintro rfl;exact absurd F yv) rfl
    ·exact Jt C h.mapD_obj rfl
    ·exact Jt C h.mapC_obj rfl
    ·obtain⟨N,D⟩:=kE h.claims A;exact jr C D (by rintro rfl;exact absurd F yv) rfl
  refine⟨E,fun k d G=>(h.docs k d G).2.but hb (fun j A H=>?_) E⟩;obtain⟨_,I,D,J,K⟩:=h.apartDoc (k:=k) (by rw[G];rfl) A;rcases hx j H with q|q|q|q
  ·exact I q
  ·exact D q
  ·exact J q
  ·exact K q
theorem StateAt.sep(h:StateAt w B s S q):s≠q.bd∧s≠q.bc∧q.vc.ownBlock≠some s∧q.vc.ownBlock≠some q.bd∧q.vc.ownBlock≠some q.bc:=by
  refine⟨Jt h.box h.mapD_obj,Jt h.box h.mapC_obj,fun e=>?_,fun e=>?_,fun e=>?_⟩
  ·obtain⟨C,A⟩:=kE h.claims e;exact jr A h.box yv rfl
  ·obtain⟨C,A⟩:=kE h.claims e;exact Jt A h.mapD_obj rfl
  ·obtain⟨C,A⟩:=kE h.claims e;exact Jt A h.mapC_obj rfl
theorem StateAt.putClaim(h:StateAt w B s S q){c:kS}{v':Value}(hc:Kf c)(ho:w'.ownsRow B 135 70 v' (S.2.1.length+1) (ke kT S.2.1++kT c))
    (hbx:w'.heap[s]?=some (.cells [.map (some q.bd),v',.map (some q.bc)].toArray 87 (0,0))) (hb:But (fun j=>j=s∨q.vc.ownBlock=some j) w w'):StateAt w' B s (S.1,S.2.1++[c],S.2.2) { q with vc:=v'}:=by
  obtain⟨F,G⟩:=h.keepX hb fun j C=>C.elim .inl fun C=>.inr (.inr (.inr C))
  obtain⟨H,I,L,J,K⟩:=h.sep;refine⟨hbx,h.low,hb.map h.mapD (fun e=>e.elim (fun e=>H e.symm) J),hb.map h.mapC (fun e=>e.elim (fun e=>I e.symm) K),h.ne,?_,fun x A=>?_,fun k d D=>⟨(h.docs k d D).1,G k d D⟩,h.apart,fun i e E=>⟨(h.entries i e E).1,(h.entries i e E).2.keep F⟩⟩
  ·show w'.ownsRow B _ 70 v' (S.2.1++[c]).length (ke kT (S.2.1++[c]));rw[List.length_append,List.length_singleton,show ke kT (S.2.1++[c])=ke kT S.2.1++kT c by simp [ke]];exact ho
  ·rcases List.mem_append.1 A with A|A
   ·exact h.claimsOk x A
   ·rw[List.mem_singleton.1 A];exact hc
theorem StateAt.putEntry(h:StateAt w B s S q){i:List UInt8}{e:vE}{m:Ql}(hi:jp i)(hn:kC S i=none)(he:EntryIn w e m)
    (hm:MapV w' prog 41 jp idL q.bc (S.2.2.length+1) (fun x=>if x=i then some (.agg (Kl e m).toArray) else (kC S x).map fun e=>.agg (Kl e (q.em x)).toArray)) (hb:But (fun j=>j=q.bc) w w'):
    StateAt w' B s (S.1,S.2.1,S.2.2++[(i,e)]) { q with em:=fun x=>if x=i then m else q.em x}:=by
  obtain⟨D,G⟩:=h.keepX hb fun j H=>.inr (.inr (.inl H))
  obtain⟨L,I,M,N,J⟩:=h.sep;have E:∀x,kC (S.1,S.2.1,S.2.2++[(i,e)]) x=if x=i then some e else kC S x:=fun x=>by
    unfold kC;rw[List.find?_append];by_cases hx:x=i
    ·subst hx;unfold kC at hn;rw[Option.map_eq_none_iff] at hn;rw[if_pos rfl,hn];simp
    ·rw[if_neg hx];have:decide (i=x)=false:=decide_eq_false fun e=>hx e.symm
     simp [this]
  refine⟨(hb.block s (qX h.box) I).trans h.box,h.low,hb.map h.mapD h.ne,?_,h.ne,hb.own h.claims fun g K e=>J (by rw[K,e]),h.claimsOk,fun k d F=>⟨(h.docs k d F).1,G k d F⟩,h.apart,fun x y C=>?_⟩
  ·show MapV w' _ _ _ _ _ (S.2.2++[(i,e)]).length _;rw[List.length_append,List.length_singleton];have A:(fun x=>(kC (S.1,S.2.1,S.2.2++[(i,e)]) x).map fun e=>Value.agg (Kl e (if x=i then m else q.em x)).toArray)=fun x=>if x=i then some (.agg (Kl e m).toArray) else (kC S x).map fun e=>.agg (Kl e (q.em x)).toArray:=by
     funext x
     rw[E]
     split<;>rfl
   rw[A];exact hm
  ·rw[E] at C
   split at C
   ·rename_i A;subst A;cases C
    exact⟨hi,by simpa using he.keep D⟩
   ·rename_i A;have:=h.entries x y C;simp only[if_neg A];exact⟨this.1,this.2.keep D⟩
theorem StateAt.putDoc(h:StateAt w B s S q){k:kF}{p:Nat}(hk:kN k)(hp:DocAt w B p (.slice none 0 0) [])(hf:∀x,(jR S x).isSome=true→¬DocX (q.ptr x) (q.row x) p)
    (hm:MapV w' prog 89 kN uP q.bd (q.nd+1) (fun x=>if x=k then some (.pointer (some ⟨p,0,none⟩)) else (jR S x).map fun _=>.pointer (some ⟨q.ptr x,0,none⟩))) (hb:But (fun j=>j=q.bd) w w'):
    StateAt w' B s (zN S.1 k [],S.2) { q with nd:=q.nd+1,ptr:=fun x=>if x=k then p else q.ptr x,row:=fun x=>if x=k then .slice none 0 0 else q.row x}:=by
  obtain⟨I,N⟩:=h.keepX hb fun j A=>.inr (.inl A)
  obtain⟨O,T,U,P,V⟩:=h.sep;have F:∀x,jR (zN S.1 k [],S.2) x=if x=k then some [] else jR S x:=fun x=>U8 S k [] S.2 x
  have J:p≠q.bd:=by
    obtain⟨a,b,K⟩:=hp.box;exact Jt K h.mapD_obj
  refine⟨(hb.block s (qX h.box) O).trans h.box,h.low,?_,hb.map h.mapC (fun e=>h.ne e.symm),h.ne,hb.own h.claims fun g Q e=>P (by rw[Q,e]),h.claimsOk,?_,?_,fun i e L=>⟨(h.entries i e L).1,(h.entries i e L).2.keep I⟩⟩
  ·have R:(fun x=>(jR (zN S.1 k [],S.2) x).map fun _=>Value.pointer (some ⟨if x=k then p else q.ptr x,0,none⟩))=fun x=>if x=k then some (.pointer (some ⟨p,0,none⟩)) else (jR S x).map fun _=>.pointer (some ⟨q.ptr x,0,none⟩):=by
     funext x
     rw[F]
     split
     ·rfl
     ·rfl
   show MapV w' _ _ _ _ _ (q.nd+1) _;rw[R];exact hm
  ·intro x y E;rw[F] at E
   split at E
   ·rename_i e;subst e;cases E
    refine⟨hk,?_⟩;simp only[if_pos];exact hp.but hb (fun j A e=>by
      rcases A with A|A
      ·exact J (A.symm.trans e)
      ·cases A) I
   ·rename_i e;refine⟨(h.docs x y E).1,?_⟩;simp only[if_neg e];exact N x y E
  ·intro x y E G H j A D;rw[F] at E G;have M:∀{j},DocX p (.slice none 0 0) j→j=p:=fun A=>by
     rcases A with A|A
     ·exact A
     ·cases A
   simp only at A D;by_cases hxk:x=k
   ·have C:y≠k:=fun e=>H (hxk.trans e.symm)
    rw[if_pos hxk,if_pos hxk] at A;rw[if_neg C] at G;rw[if_neg C,if_neg C] at D;rw[M A] at D;exact hf y G D
   ·rw[if_neg hxk] at E;rw[if_neg hxk,if_neg hxk] at A;by_cases C:y=k
    ·rw[if_pos C,if_pos C] at D;rw[M D] at A;exact hf x E A
    ·rw[if_neg C] at G;rw[if_neg C,if_neg C] at D;exact h.apart x y E G H j A D
end
theorem QN{P:Program}{w:World}{b off:Nat}{l:List UInt8}(cap:Nat)(hc:Lib.Bytes w b off ⟨l.toArray⟩):(Extern.Bytes.bytesOf (.slice (some ⟨b,off,none⟩) l.length cap)).run P w=.ok ⟨l.toArray⟩ w:=by
  have h:=Lib.run_loadBytesX (P:=P) (w:=w) (l.map fun c=>(c.toNat:Int)) ⟨b,off,none⟩ .empty (fun j x A=>by
    rw[List.getElem?_map] at A;rcases hl:l[j]? with _ |c
    ·rw[hl] at A;cases A
    ·rw[hl] at A;obtain⟨B,C⟩:=List.getElem?_eq_some_iff.1 hl;have D:(⟨b,off,none⟩:Addr).add j=⟨b,off+j,none⟩:=by unfold Addr.add;split<;>simp_all
     have E:j<(⟨l.toArray⟩:ByteArray).size:=by simpa [ByteArray.size] using B
     have F:(⟨l.toArray⟩:ByteArray)[j]=l[j]:=by
       show (l.toArray)[j]=l[j];simp
     simp only[Option.map_some,Option.some.injEq] at A;rw[D,hc j E,F,C,A])
  rw[List.length_map] at h;show (Extern.Bytes.loadBytes ⟨b,off,none⟩ l.length .empty).run P w=_;rw[h]
  congr 2
  have G:Lib.bytesOf (l.map fun c=>(c.toNat:Int))=l:=by
    unfold Lib.bytesOf;rw[List.map_map]
    conv=>rhs;rw[←List.map_id l]
    apply List.map_congr_left;intro c _;simp
  rw[G];simp [ByteArray.empty,ByteArray.emptyWithCapacity];rfl
theorem Qn(a b:List UInt8)(ga oa ca gb ob cb:Nat)(w:World)(ha:Lib.Bytes w ga oa ⟨a.toArray⟩)(hb:Lib.Bytes w gb ob ⟨b.toArray⟩):
    Calls prog 177 #[.slice (some ⟨ga,oa,none⟩) a.length ca,.slice (some ⟨gb,ob,none⟩) b.length cb] w fun e w'=>e=.returned (.int .i64 (jK a b))∧w'=w:=by
  have A:(Extern.BytealgCompare.compare #[.slice (some ⟨ga,oa,none⟩) a.length ca,.slice (some ⟨gb,ob,none⟩) b.length cb]).run prog w=.ok (.int .i64 (jK a b)) w:=by
    change Sem.run prog (do pure (goInt (Extern.BytealgCompare.cmp (←Extern.Bytes.bytesOf (.slice (some ⟨ga,oa,none⟩) a.length ca)) (←Extern.Bytes.bytesOf (.slice (some ⟨gb,ob,none⟩) b.length cb))))) w=_;simp only[Sem.run_bind,Sem.run_pure,QN ca ha,QN cb hb,Result.andThen];rw[Lib.cmp_eq];rfl
  go_enter func177,ntmps177
  go_wp2
  rw[run_callFunc_extern func221 yy yy yy (e:=Extern.BytealgCompare.compare) yy,A];simp only[Result.andThen];rw[Oper.upon_value]
  go_wp2
  go_ret;exact⟨rfl,rfl⟩
theorem bytes_box{w:World}{g:Nat}{l:List UInt8}{t:TypeId}{fr:Nat×Nat}(h:w.heap[g]?=some (.cells (idV l).toArray t fr)):Lib.Bytes w g 0 ⟨l.toArray⟩:=by
  intro i B;have A:i<l.length:=by simpa [ByteArray.size] using B
  rw[Nat.zero_add,cell_of_row w g i _ t fr h];have C:(⟨l.toArray⟩:ByteArray)[i]=l[i]:=by
    show (l.toArray)[i]=l[i];simp
  rw[C];simp [idV,A]
theorem compare_gr(a b:List UInt8)(w:World)(ha:jp a)(hb:jp b):
    Calls prog 129 #[.agg (idV a).toArray,.agg (idV b).toArray] w fun e w'=>Gr w w'∧e=.returned (.int .i64 (jK a b)):=by
  have H:(w.alloc (.cells (idV a).toArray 41)).heap[w.heap.size]?=some (.cells (idV a).toArray 41 (0,0)):=heap_alloc_new _ _;go_enter func129,ntmps129
  go_upto_region 1 with fail
  obtain⟨W,C⟩:∃W,(w.alloc (.cells (idV a).toArray 41)).alloc (.cells (idV b).toArray 41)=W:=⟨_,rfl⟩;have D:Lib.Bytes W w.heap.size 0 ⟨a.toArray⟩:=by
    rw[←C];exact bytes_box (t:=41) (fr:=(0,0)) ((heap_alloc_old (w.alloc (.cells (idV a).toArray 41)) _ yq).trans H)
  have E:Lib.Bytes W (w.heap.size+1) 0 ⟨b.toArray⟩:=by
    rw[←C];have:=heap_alloc_new (w.alloc (.cells (idV a).toArray 41)) (.cells (idV b).toArray 41);rw[World.size_alloc] at this;exact bytes_box (t:=41) (fr:=(0,0)) this
  have I:Gr w W:=by rw[←C];exact((Gr.refl _).alloc _).alloc _
  rw[C];clear C H;have F:=Lib.hid D;clear D;have G:=Lib.hid E;clear E;have B:=fun q=>Qn a b w.heap.size 0 32 (w.heap.size+1) 0 32 (W.drewN q) (F.drewN q) (G.drewN q)
  rw[show a.length=32 from ha,show b.length=32 from hb] at B;have A:=Lib.hid B;clear B
  go_quiet ((go_at_call 177;exact Calls.quiet_of_same (A.out _)))
  go_wp2_with fail;go_ret;exact⟨I.drewN _,rfl⟩
theorem QO(a b:List UInt8)(w:World)(ha:jp a)(hb:jp b):
    Calls prog 129 #[.agg (idV a).toArray,.agg (idV b).toArray] w fun e w'=>Below w.heap.size w w'∧e=.returned (.int .i64 (jK a b)):=
  (compare_gr a b w ha hb).mono fun _ _ ⟨h,e⟩=>⟨h.below,e⟩
def Je(listed:Array Bool):Nat→Nat
  | 0=>0
  |k+1=>Je listed k+(if listed.getD k true=false then 1 else 0)
theorem uQ{listed:Array Bool}:∀{k:Nat},Je listed k=0→∀j,j<k→listed.getD j true=true
  | 0,_,_,h=>by omega
  |k+1,h,j,hj=>by
   unfold Je at h;by_cases hk:listed.getD k true=false
   ·rw[if_pos hk] at h;omega
   ·rw[if_neg hk] at h;rcases (by omega:j<k∨j=k) with q|rfl
    ·exact uQ yz j q
    ·simpa using hk
theorem qC{listed:Array Bool}:∀{k:Nat},Je listed k≠0→∃j,j<k∧listed.getD j true=false∧∀i,i<j→listed.getD i true=true
  | 0,h=>absurd rfl h
  |k+1,h=>by
   by_cases h0:Je listed k=0
   ·refine⟨k,by omega,?_,uQ h0⟩;unfold Je at h;by_cases hk:listed.getD k true=false
    ·exact hk
    ·rw[if_neg hk,h0] at h;exact absurd rfl h
   ·obtain⟨j,hj,h1,h2⟩:=qC h0;exact⟨j,by omega,h1,h2⟩
theorem UF{listed:Array Bool}{i:Nat}:∀{k:Nat},k≤i→Je (listed.setIfInBounds i true) k=Je listed k
  | 0,_=>rfl
  |k+1,h=>by
   unfold Je;rw[UF yz,getD_set_ne true yz]
theorem toCome_set{listed:Array Bool}{i:Nat}(hi:listed.getD i true=false):∀{k:Nat},i<k→Je (listed.setIfInBounds i true) k+1=Je listed k
  | 0,h=>by omega
  |k+1,h=>by
   rcases (by omega:i<k∨i=k) with q|rfl
   ·have:=toCome_set hi q;unfold Je;rw[getD_set_ne true yz];omega
   ·unfold Je;rw[UF (Nat.le_refl _),if_pos hi];have:(listed.setIfInBounds i true).getD i true=true:=by
       have A:i<listed.size:=by
         rcases Nat.lt_or_ge i listed.size with q|q
         ·exact q
         ·simp [Array.getElem?_eq_none q] at hi
       simp [A]
    rw[if_neg (by rw[this];simp)]
theorem getD_rep{m j:Nat}(b:Bool)(h:j<m):(Array.replicate m false).getD j b=false:=by simp [h]
theorem toCome_all(n:Nat):∀k,k≤n→Je (Array.replicate n false) k=k
  | 0,_=>rfl
  |k+1,h=>by
   unfold Je;rw[toCome_all n k yz,if_pos (getD_rep true yz)]
def backB(md:Region.Mode)(H:Array Oper):Bool:=
  (List.range H.size).all fun j=>match H[j]? with
    |some o=>(o.after.all fun e=> !Region.binds md e || decide (e.on<j)) && (match o.guard with|some (k,_)=>decide (k<H.size)|none=>true)
    |none=>true
theorem UU{md:Region.Mode}{H:Array Oper}(h:backB md H=true){j:Nat}{o:Oper}(ho:H[j]?=some o):(∀e∈o.after,Region.binds md e=true→e.on<j)∧∀k b,o.guard=some (k,b)→k<H.size:=by
  have B:=(Array.getElem?_eq_some_iff.1 ho).1;have A:=List.all_eq_true.1 h j (List.mem_range.2 B);simp only[ho,Bool.and_eq_true] at A;refine⟨fun e C D=>?_,fun k b E=>?_⟩
  ·have:=Array.all_eq_true'.1 A.1 e C
   simpa [D] using this
  ·have:=A.2;rw[E] at this
   simpa using this
section
variable {P:Program} {md:Region.Mode} {H ops:Array Oper} {C:World→Prop}
structure Agree (H ops:Array Oper) (done listed:Array Bool):Prop where
  size:done.size=H.size
  same:∀j b,j<H.size→done.getD j b=listed.getD j b
theorem Agree.set{done listed:Array Bool}(h:Agree H ops done listed){i:Nat}(hl:H.size≤listed.size):Agree H ops (done.setIfInBounds i true) (listed.setIfInBounds i true):=by
  refine⟨by simpa using h.size,fun j b A=>?_⟩;by_cases e:i=j
  ·subst e;have B:i<done.size:=by rw[h.size];exact A
   have C:i<listed.size:=by omega
   simp [B,C]
  ·rw[getD_set_ne b e,getD_set_ne b e];exact h.same j b A
theorem wanted_ahead(hH:∀j,j<H.size→H[j]?=ops[j]?)(hb:backB md H=true){j:Nat}{o:Oper}(ho:H[j]?=some o)(tmps:Array Value):Region.wanted o (yielded H tmps)=Region.wanted o (yielded ops tmps):=by
  have A:=(UU hb ho).2;unfold Region.wanted;cases hgd:o.guard with
  |none=>rfl
  |some g=>
   obtain⟨k,b⟩:=g;have B:=A k b hgd;have:yielded H tmps k=yielded ops tmps k:=by unfold yielded;rw[hH k B]
   simp only[this]
theorem QP{n g:Nat}{Q:Act→Prop}{Q':Exit→Act→World→Prop}(hn:n<ops.size)(hHn:H.size=n)(hH:∀j,j<H.size→H[j]?=ops[j]?)(hb:backB md H=true)(hs:Region.sinkB md ops n=true)(hc:Region.chainB md ops n=true)
    (hT:∀(listed:Array Bool) (a:Act) (w:World),HeadInv md ops n listed→(∀j,j<n→listed.getD j true=true)→Q a→C w→wpAny P md ops Q' g listed a w):
    ∀(f:Nat) (done listed:Array Bool) (a:Act) (w:World),Je listed n=f→HeadInv md ops n listed→Agree H ops done listed→C w→wpAnyQ P md H C Q f done a→wpAny P md ops Q' (f+g) listed a w
  | 0,done,listed,a,w,hf,inv,ag,hw,h=>by
    rw[Nat.zero_add];exact hT listed a w inv (uQ hf) h.2 hw
  |f+1,done,listed,a,w,hf,inv,ag,hw,h=>by
   obtain⟨j0,hj0,hu0,hl0⟩:=qC (listed:=listed) (k:=n) yz;have D:∀j,j<n→(j∈Region.ready md H done↔j∈Region.ready md ops listed):=by
      intro j Y;rw[mem_ready,mem_ready,hH j yz,ag.same j true yz];refine and_congr Iff.rfl (exists_congr fun o=>and_congr_right fun A=>?_);have N:=(UU hb ((hH j yz).trans A)).1;refine forall_congr' fun e=>forall_congr' fun L=>forall_congr' fun E=>?_
      rw[ag.same e.on false (by have:=N e L E;omega)]
   have O:Region.ready md ops listed≠[]:=by
      intro M;obtain⟨o,A⟩:∃o,ops[j0]?=some o:=⟨_,Array.getElem?_eq_getElem yz⟩;have:j0∈Region.ready md ops listed:=mem_ready.2 ⟨hu0,o,A,fun e L E=>by
        have R:=(UU hb ((hH j0 yz).trans A)).1 e L E;have W:=hl0 e.on R;have S:e.on<listed.size:=by rw[inv.size];omega
        simpa [S] using W⟩
      rw[M] at this;cases this
   rw[show f+1+g=(f+g)+1 by omega];refine⟨fun M=>absurd M O,fun i I=>?_⟩;have F:i<n:=by
      rcases Nat.lt_or_ge i n with q|q
      ·exact q
      ·exact absurd I (tail_waits hs hc hn inv _ j0 rfl hj0 hu0 i q)
   have T:=(mem_ready.1 I).1;have B:=h.2 i ((D i F).2 I);obtain⟨o,A⟩:∃o,ops[i]?=some o:=⟨_,Array.getElem?_eq_getElem yz⟩;have K:H[i]?=some o:=(hH i yz).trans A;have U:∀(J:Act) (w':World),C w'→wpAnyQ P md H C Q f (done.setIfInBounds i true) J→wpAny P md ops Q' (f+g) (listed.setIfInBounds i true) J w':=fun J w' V X=>
      QP hn hHn hH hb hs hc hT f _ _ J w' (by have:=toCome_set T F;omega) (inv.set I F) (ag.set (by rw[inv.size];omega)) V X
   unfold qOp at B;simp only[K] at B;rw[wanted_ahead hH hb K] at B;unfold wpOp;simp only[A]
   split
   ·rename_i G;rw[if_pos G] at B;exact .inl (Oper.wp_of_quiet hw U B)
   ·rename_i G;rw[if_neg G] at B;exact U _ _ hw B
end
theorem uR{P:Program}{id:Nat}{Q:Exit→Act→World→Prop}{a:Act}{w:World}{l:List Oper}(n:Nat)(C:World→Prop)(hC:C w.drew)(hm:P.follows .mixedOrders=true)
    (h1:Region.lexB .any (l.take n).toArray=true) (h2:backB .any (l.take n).toArray=true) (h3:(decide (n<l.length) && Region.sinkB .any l.toArray n && Region.chainB .any l.toArray n)=true)
    (h4:Region.seqB .any l.toArray (l.length - n) n (Array.replicate n true++Array.replicate (l.length - n) false)=true)
    (h:wpQuiet P (l.take n).toArray C (fun D=>∀w',C w'→wpList P l.toArray Q (l.drop n) D w') (l.take n) a):(Code.region id l.toArray true).wp P Q a w:=by
  simp only[Bool.and_eq_true,decide_eq_true_eq] at h3;obtain⟨⟨O,R⟩,S⟩:=h3;have F:(l.take n).length=n:=by simp;omega
  refine wp_region_any hm ?_;have K:HeadInv .any l.toArray n (Array.replicate l.toArray.size false):=
    ⟨by simp,fun j c _ M=>(by rw[getD_replicate_false] at M;cases M),fun t _ T=>getD_in (by simpa using T) (getD_replicate_false _ _)⟩
  simp only[Region.lexB,Bool.and_eq_true] at h1;have U:=wpAnyQ_lex (P:=P) (C:=C) (md:=.any) (Q:=fun D=>∀w',C w'→wpList P l.toArray Q (l.drop n) D w') h1.1 (l.take n) 0 (Array.replicate (l.take n).toArray.size false) a yq (by simpa using h1.2) h;have:=QP (P:=P) (md:=.any) (H:=(l.take n).toArray) (ops:=l.toArray) (C:=C) (n:=n) (g:=l.length - n) (Q:=fun D=>∀w',C w'→wpList P l.toArray Q (l.drop n) D w') (Q':=Q) (by simpa using O) (by simpa using F)
    (fun j B=>by
      have G:j<n:=by simp at B;omega
      simp [G])
    h2 R S
    (fun A D w' I L V N=>by
      have W:A=Array.replicate n true++Array.replicate (l.length - n) false:=by
        apply Array.ext_getElem?;intro j;have Z:A.size=l.length:=by simpa using I.size
        by_cases B:j<n
        ·have:=L j B;have E:j<A.size:=by omega
         rw[Array.getElem?_append_left (by simpa using B)];simp [E,B] at this ⊢;exact this
        ·by_cases hj2:j<l.length
         ·have:=I.tail j yz (by simpa using hj2);have E:j<A.size:=by omega
          have X:A[j]?=some false:=by
            rw[Array.getElem?_eq_getElem E]
            simpa [E] using this
          have Y:j - (Array.replicate n true).size<l.length - n:=by rw[Array.size_replicate];omega
          rw[X,Array.getElem?_append_right (by rw[Array.size_replicate];omega),Array.getElem?_replicate,if_pos Y]
         ·rw[Array.getElem?_eq_none yz,Array.getElem?_eq_none yj]
      have J:(l.drop n).length=l.length - n:=by simp
      have:=wpAny_of_seq (md:=.any) (Q':=Q) (l.drop n) n A D w' (fun j=>by simp [List.getElem?_drop]) (by rw[J,W];exact h4) (V w' N)
      rwa [J] at this)
    (l.take n).length (Array.replicate (l.take n).toArray.size false) (Array.replicate l.toArray.size false) a w.drew (by rw[F];exact toCome_all _ _ yj) K
    ⟨by simp,fun j b B=>by
      have h2:j<l.toArray.size:=by
        have G:j<(l.take n).length:=B;rw[List.size_toArray];omega
      rw[getD_rep b B,getD_rep b h2]⟩ hC U
  rw[F,show n+(l.length - n)=l.toArray.size by simp;omega] at this;exact this
def Wg(w:World):Type:={ w':World // Gr w w'}
instance (w:World):Nonempty (Wg w):=⟨⟨w,Gr.refl _⟩⟩
theorem Wg.cell{w:World}{b o:Nat}{v:Value}(hc:w.cell? ⟨b,o,none⟩=some v)(hb:b<w.heap.size):∀n:Wg w,n.val.cell? ⟨b,o,none⟩=some v:=fun n=>(n.2.below.cell (p:=⟨b,o,none⟩) hb).trans hc
theorem Wg.row{w:World}{b o:Nat}{cs:List Value}(hc:∀j u,cs[j]?=some u→w.cell? ⟨b,o+j,none⟩=some u)(hb:b<w.heap.size):∀w',(∃n:Wg w,w'=n.val)→∀j u,cs[j]?=some u→w'.cell? ⟨b,o+j,none⟩=some u:=by
  rintro w' ⟨n,rfl⟩ j u A;exact Wg.cell (hc j u A) hb n
theorem Wg.call{w:World}{P:Program}{f:FuncId}{args:Array Value}{v:Value}(h:∀w',Calls P f args w' fun e A=>Gr w' A∧e=.returned v)(n:Wg w):
    Calls P f args n.val fun e A=>e=.returned v∧∃m:Wg w,A=m.val:=
  (h n.val).mono fun e A ⟨B,C⟩=>⟨C,⟨A,n.2.trans B⟩,rfl⟩
theorem zn{P:Program}{id:Nat}{Q:Exit→Act→World→Prop}{a:Act}{w:World}{l:List Oper}(n:Nat)(hm:P.follows .mixedOrders=true)
    (h1:Region.lexB .any (l.take n).toArray=true) (h2:backB .any (l.take n).toArray=true) (h3:(decide (n<l.length) && Region.sinkB .any l.toArray n && Region.chainB .any l.toArray n)=true)
    (h4:Region.seqB .any l.toArray (l.length - n) n (Array.replicate n true++Array.replicate (l.length - n) false)=true)
    (h:wpQuiet P (l.take n).toArray (fun w'=>∃k:Wg w,w'=k.val) (fun a'=>∀w',(∃k:Wg w,w'=k.val)→wpList P l.toArray Q (l.drop n) a' w') (l.take n) a):(Code.region id l.toArray true).wp P Q a w:=
  uR n (fun w'=>∃k:Wg w,w'=k.val) ⟨⟨_,(Gr.refl w).drew⟩,rfl⟩ hm h1 h2 h3 h4 h
theorem isNaN_int(x:Int)(w:World):Calls prog 176 #[.int .i64 x] w fun e w'=>e=.returned (.bool false)∧w'=w:=by
  go_enter func176,ntmps176;go_wp2_with fail;go_ret;exact⟨rfl,rfl⟩
theorem cmpInt_any(x y:Int)(w:World):Calls prog 128 #[.int .i64 x,.int .i64 y] w fun e w'=>e=.returned (.int .i64 (uG x y))∧w'=w:=by
  have A:Hid (uG x y=if x<y then -1 else if y<x then 1 else 0):=rfl;go_enter func128,ntmps128;rcases (by omega:x<y∨(¬x<y∧y<x)∨(¬x<y∧¬y<x)) with h|⟨h,B⟩|⟨h,B⟩
  all_goals
    go_wp2_with (go_at_call 176;refine(isNaN_int _ _).mono ?_;rintro e w' ⟨rfl,rfl⟩)
    go_ret
  ·exact⟨by rw[A.out,if_pos h];rfl,rfl⟩
  ·exact⟨by rw[A.out,if_neg yz,if_pos B];rfl,rfl⟩
  ·exact⟨by rw[A.out,if_neg yz,if_neg yz];rfl,rfl⟩
def or3(x y z:Int):Int:=if x≠0 then x else if y≠0 then y else z
def at3(x y z:Int)(i:Nat):Int:=if i=0 then x else if i=1 then y else z
theorem cmpOr_any(x y z:Int)(g:Nat)(w:World)(h0:w.cell? ⟨g,0,none⟩=some (.int .i64 x))(h1:w.cell? ⟨g,1,none⟩=some (.int .i64 y))(h2:w.cell? ⟨g,2,none⟩=some (.int .i64 z)):
    Calls prog 127 #[.slice (some ⟨g,0,none⟩) 3 3] w fun e w'=>e=.returned (.int .i64 (or3 x y z))∧w'=w:=by
  have D:Hid (∀i:Nat,i<3→w.cell? ⟨g,i,none⟩=some (.int .i64 (at3 x y z i))):=by
    intro i K;rcases (by omega:i=0∨i=1∨i=2) with rfl|rfl|rfl
    ·exact h0
    ·exact h1
    ·exact h2
  have B:Hid (∀i:Nat,i<3→(∀j,j<i→at3 x y z j=0)→at3 x y z i≠0→or3 x y z=at3 x y z i):=by
    intro i K E L;rcases (by omega:i=0∨i=1∨i=2) with rfl|rfl|rfl
    ·unfold or3;rw[if_pos (by simpa [at3] using L)];rfl
    ·have:=E 0 yz;unfold or3;rw[if_neg (by simpa [at3] using this),if_pos (by simpa [at3] using L)];rfl
    ·have F:=E 0 yz;have G:=E 1 yz;unfold or3;rw[if_neg (by simpa [at3] using F),if_neg (by simpa [at3] using G)];rfl
  have H:Hid ((∀j,j<3→at3 x y z j=0)→or3 x y z=0):=by
    intro h;have F:=h 0 yz;have G:=h 1 yz;have O:=h 2 yz;unfold or3;rw[if_neg (by simpa [at3] using F),if_neg (by simpa [at3] using G)];simpa [at3] using O
  generalize or3 x y z=r at *;generalize at3 x y z=f at *;clear h0 h1 h2;go_enter func127,ntmps127;go_wp2_with fail
  go_loopw [8] (fun t wr=>∃i:Nat,t=.int .i64 i∧wr=w∧i≤3∧Hid (∀j,j<i→f j=0)) (fun t _=>3 - (intOf t).toNat)
  case atStart=>exact⟨0,rfl,rfl,by omega,fun j I=>absurd I yz⟩
  case round=>
    obtain⟨i,rfl,rfl,K,J⟩:=hrel;by_cases hlt:i<3
    ·have R:=D.out i hlt;have S:(0:Int)≤(i:Int):=by omega
     have P:(i:Int)<3:=by omega
     have C:=Lib.hid (B.out i hlt J.out);have M:Hid (f i=0→∀j,j<i+1→f j=0):=by
       intro h j I;rcases (by omega:j<i∨j=i) with q|rfl
       ·exact J.out j q
       ·exact h
     generalize f i=v at *;rcases (by omega:v<0∨0<v∨v=0) with Q|Q|rfl
     ·have N:decide (v=0)=false:=by simp;omega
      have A:¬v=0:=by omega
      go_wp2_with fail;go_ret;exact⟨by rw[C.out A];rfl,rfl⟩
     ·have N:decide (v=0)=false:=by simp;omega
      have A:¬v=0:=by omega
      go_wp2_with fail;go_ret;exact⟨by rw[C.out A];rfl,rfl⟩
     ·go_wp2_with fail
      go_roundw
      case rel=>exact⟨i+1,by go_num,by first|rfl|trivial,by omega,M.out rfl⟩
      case measure=>simp [intOf];omega
    ·have P:¬(i:Int)<3:=by omega
     go_wp2_with fail;go_ret;exact⟨by rw[H.out (fun j I=>J.out j yz)];rfl,rfl⟩
theorem cmpK_or(a b:kF):or3 (uG a.1 b.1) (jK a.2.1 b.2.1) (uG a.2.2 b.2.2)=zG a b:=by
  unfold or3 zG;rfl
theorem J7{k:kF}(h:kN k):(k8 k)[0]?=some (.int .i64 k.1)∧(k8 k)[33]?=some (.int .i64 k.2.2)∧∀j u,(idV k.2.1)[j]?=some u→(k8 k)[1+j]?=some u:=by
  have A:(idV k.2.1).length=32:=by rw[kf];exact h.2.1
  refine⟨rfl,?_,?_⟩
  ·unfold k8;rw[show 33=32+1 from rfl,List.getElem?_cons_succ,List.getElem?_append_right yz,A];rfl
  ·intro j u B;unfold k8;rw[Nat.add_comm,List.getElem?_cons_succ,List.getElem?_append_left (List.getElem?_eq_some_iff.1 B).1];exact B
theorem jt{w:World}{g:Nat}{cs:List Value}{t:TypeId}{fr:Nat×Nat}(h:w.heap[g]?=some (.cells cs.toArray t fr))(j:Nat):w.cell? ⟨g,j,none⟩=cs[j]?:=by
  rw[cell_of_row w g j _ t fr h];simp
theorem keys_gr(a b:kF)(w:World)(ha:kN a)(hb:kN b):
    Calls prog 78 #[.agg (k8 a).toArray,.agg (k8 b).toArray] w fun e w'=>Gr w w'∧e=.returned (.int .i64 (zG a b)):=by
  obtain⟨S,T,U⟩:=J7 ha;obtain⟨V,X,Y⟩:=J7 hb;have Z:(w.alloc (.cells (k8 a).toArray 89)).heap[w.heap.size]?=some (.cells (k8 a).toArray 89 (0,0)):=heap_alloc_new _ _;go_enter func78,ntmps78
  go_upto_region 1 with fail
  obtain⟨W,A⟩:∃W,(w.alloc (.cells (k8 a).toArray 89)).alloc (.cells (k8 b).toArray 89)=W:=⟨_,rfl⟩;have E:W.heap[w.heap.size]?=some (.cells (k8 a).toArray 89 (0,0)):=by
    rw[←A];exact(heap_alloc_old (w.alloc (.cells (k8 a).toArray 89)) _ yq).trans Z
  have F:W.heap[w.heap.size+1]?=some (.cells (k8 b).toArray 89 (0,0)):=by
    rw[←A];have:=heap_alloc_new (w.alloc (.cells (k8 a).toArray 89)) (.cells (k8 b).toArray 89);rw[World.size_alloc] at this;exact this
  have G:Gr w W:=by rw[←A];exact((Gr.refl _).alloc _).alloc _
  have H:W.heap.size=w.heap.size+2:=by rw[←A];simp
  rw[A];clear A Z;have I:=(jt E 0).trans S;have J:=(jt E 33).trans T;have K:W.rangeAt w.heap.size 1 (idV a.2.1):=fun j v Q=>(jt E (1+j)).trans (U j v Q)
  have L:=(jt F 0).trans V;have M:=(jt F 33).trans X;have N:W.rangeAt (w.heap.size+1) 1 (idV b.2.1):=fun j v Q=>(jt F (1+j)).trans (Y j v Q)
  clear E F S T U V X Y;have f:(prog.info? 41).map (·.size)=some (idV a.2.1).length:=by rw[kf,show a.2.1.length=32 from ha.2.1];kernel_rfl
  have g:(prog.info? 41).map (·.size)=some (idV b.2.1).length:=by rw[kf,show b.2.1.length=32 from hb.2.1];kernel_rfl
  have c:=fun (q:World)=>compare_gr a.2.1 b.2.1 q ha.2.1 hb.2.1
  have P:=Lib.hid (cmpK_or a b);have h:=Wg.cell I (show w.heap.size<W.heap.size by omega);have i:=Wg.cell J (show w.heap.size<W.heap.size by omega);have l:=Wg.cell L (show w.heap.size+1<W.heap.size by omega);have m:=Wg.cell M (show w.heap.size+1<W.heap.size by omega);have n:=Lib.hid (Wg.row K (show w.heap.size<W.heap.size by omega));have o:=Lib.hid (Wg.row N (show w.heap.size+1<W.heap.size by omega));have B:=Lib.hid G;have r:=Lib.hid c;have R:=Lib.hid H;clear I J K L M N ha hb H G c;refine zn 15 yy yy yy yy yy ?_;simp only[List.take_succ_cons,List.take_zero,List.drop_succ_cons,List.drop_zero]
  repeat (first
    |go_big_quiet_skip
    |(go_big_quiet_want
      first
         |(refine kR (fun w' D=>kc 41 _ rfl (p:=⟨w.heap.size,1,none⟩) rfl (run_loadVar_mid w' _ _ _ (idV a.2.1) _ (n.out w' D) underlying41 rfl f)) ?_
           go_big_quiet_on
           simp only[Act.put,List.setIfInBounds_toArray,List.set_cons_zero,List.set_cons_succ])
         |(refine kR (fun w' D=>kc 41 _ rfl (p:=⟨w.heap.size+1,1,none⟩) rfl (run_loadVar_mid w' _ _ _ (idV b.2.1) _ (o.out w' D) underlying41 rfl g)) ?_
           go_big_quiet_on
           simp only[Act.put,List.setIfInBounds_toArray,List.set_cons_zero,List.set_cons_succ])
         |(go_big_quiet_op
           first
              |go_big_quiet_on
              |go_big_quiet_call (first
                  |(go_at_call 128;exact(cmpInt_any _ _ _).mono fun e u ⟨s,t⟩=>⟨s,⟨_,t⟩⟩)
                  |(go_at_call 129;exact Wg.call (fun w'=>r.out w') _)))))
  refine wpQuiet_nil ?_;rintro w' ⟨k,rfl⟩;have d:=k.2;generalize k.val=w2 at *;have O:Gr w w2:=B.trans d;have C:=Lib.hid O;clear h i l m O d k
  go_wp2_with (go_at_call 127;refine(cmpOr_any _ _ _ _ _ (by rw[World.cell?_alloc_new];rfl) (by rw[World.cell?_alloc_new];rfl) (by rw[World.cell?_alloc_new];rfl)).mono ?_;rintro e w' ⟨rfl,rfl⟩)
  go_ret;exact⟨C.alloc _,by rw[P.out];rfl⟩
theorem uS(a b:kF)(w:World)(ha:kN a)(hb:kN b):
    Calls prog 78 #[.agg (k8 a).toArray,.agg (k8 b).toArray] w fun e w'=>Below w.heap.size w w'∧e=.returned (.int .i64 (zG a b)):=
  (keys_gr a b w ha hb).mono fun _ _ ⟨h,e⟩=>⟨h.below,e⟩
end
section
variable {P:Program} {ops:Array Oper} {Q:Exit→Act→World→Prop} {rest:List Oper} {a:Act} {w:World} {d:Option Tmp} {t:TypeId} {p:String} {af:Array Edge} {g:Option (Nat×Bool)}
theorem k6{ty:TypeId}{x:Operand}(h:wpList P ops Q ({ dst:=d,op:=.load ty x,type:=t,pos:=p,after:=af,guard:=g}::rest) a w):wpList P ops Q ({ dst:=d,op:=.load ty x,type:=t,pos:=p,after:=af,guard:=g}::rest) a w:=h
theorem kw{ty:TypeId}{x y:Operand}(h:wpList P ops Q ({ dst:=d,op:=.store ty x y,type:=t,pos:=p,after:=af,guard:=g}::rest) a w):wpList P ops Q ({ dst:=d,op:=.store ty x y,type:=t,pos:=p,after:=af,guard:=g}::rest) a w:=h
theorem kA{ty:TypeId}(h:wpList P ops Q ({ dst:=d,op:=.alloc ty,type:=t,pos:=p,after:=af,guard:=g}::rest) a w):wpList P ops Q ({ dst:=d,op:=.alloc ty,type:=t,pos:=p,after:=af,guard:=g}::rest) a w:=h
theorem kB{ty:TypeId}{x:Operand}(h:wpList P ops Q ({ dst:=d,op:=.box ty x,type:=t,pos:=p,after:=af,guard:=g}::rest) a w):wpList P ops Q ({ dst:=d,op:=.box ty x,type:=t,pos:=p,after:=af,guard:=g}::rest) a w:=h
theorem kJ{ty:TypeId}{xs:Array (Nat×Operand)}(h:wpList P ops Q ({ dst:=d,op:=.build ty xs,type:=t,pos:=p,after:=af,guard:=g}::rest) a w):wpList P ops Q ({ dst:=d,op:=.build ty xs,type:=t,pos:=p,after:=af,guard:=g}::rest) a w:=h
theorem kG{b:BinOp}{ty tz:TypeId}{x y:Operand}(h:wpList P ops Q ({ dst:=d,op:=.binOp b ty x y tz,type:=t,pos:=p,after:=af,guard:=g}::rest) a w):wpList P ops Q ({ dst:=d,op:=.binOp b ty x y tz,type:=t,pos:=p,after:=af,guard:=g}::rest) a w:=h
end
section
open Go.RowKit Go.Maps
def vH:List Oper→Nat→Option Oper
  | [],_=>none
  |o:: _,0=>some o
  | _ ::l,n+1=>vH l n
theorem opAt_list:∀(l:List Oper) (i:Nat),vH l i=l[i]?
  | [],i=>by simp [vH]
  |o::l,0=>by simp [vH]
  |o::l,i+1=>by simp [vH,opAt_list l i]
theorem JC{ops:Array Oper}{i:Nat}{o:Oper}(h:vH ops.toList i=some o):ops[i]?=some o:=by
  rw[opAt_list,Array.getElem?_toList] at h;exact h
theorem oper_wp_val{P:Program}{o:Oper}{a:Act}{w w':World}{v:Value}{K:Act→World→Prop}{Q:Exit→Act→World→Prop}(h:(execOp a.eval o).run P w=.ok (.value v) w')(hk:K (a.put o.dst v) w'):o.wp P a w K Q:=by
  unfold Oper.wp;rw[h];exact hk
theorem oper_wp_skip{P:Program}{o:Oper}{a:Act}{w w':World}{K:Act→World→Prop}{Q:Exit→Act→World→Prop}(h:(execOp a.eval o).run P w=.ok .skip w')(hk:K (a.put o.dst undef) w'):o.wp P a w K Q:=by
  unfold Oper.wp;rw[h];exact hk
theorem zB{P:Program}{ops:Array Oper}{Q:Exit→Act→World→Prop}{i:Nat}{K:Act→World→Prop}{a:Act}{w w':World}{v:Value}(o:Oper)(hi:vH ops.toList i=some o)(hw:Region.wanted o (yielded ops a.tmps)=true)
    (h:(execOp a.eval o).run P w=.ok (.value v) w') (hk:K (a.put o.dst v) w'):wpOp P ops Q i K a w:=by
  unfold wpOp;simp only[JC hi,if_pos hw];exact .inl (oper_wp_val h hk)
theorem Z8{P:Program}{ops:Array Oper}{Q:Exit→Act→World→Prop}{i:Nat}{K:Act→World→Prop}{a:Act}{w w':World}(o:Oper)(hi:vH ops.toList i=some o)(hw:Region.wanted o (yielded ops a.tmps)=true)
    (h:(execOp a.eval o).run P w=.ok .skip w') (hk:K (a.put o.dst undef) w'):wpOp P ops Q i K a w:=by
  unfold wpOp;simp only[JC hi,if_pos hw];exact .inl (oper_wp_skip h hk)
theorem Qo{P:Program}{ops:Array Oper}{Q:Exit→Act→World→Prop}{i:Nat}{K:Act→World→Prop}{a:Act}{w:World}{f:FuncId}{args:Array Value}(o:Oper)(hi:vH ops.toList i=some o)(hw:Region.wanted o (yielded ops a.tmps)=true)
    (h:(execOp a.eval o).run P w=.ok (.enter f args) w) (hc:Calls P f args w fun e w'=>∃v,e=.returned v∧K (a.put o.dst v) w'):wpOp P ops Q i K a w:=by
  unfold wpOp;simp only[JC hi,if_pos hw];refine .inl ?_;unfold Oper.wp;rw[h];exact hc.mono fun e w' ⟨v,A,B⟩=>by subst A;exact B
section
variable {P:Program} {ρ:Operand→Value} {o:Oper} {w:World}
theorem Ue{f:FuncId}{xs:Array Operand}{ts:Array TypeId}{args:Array Value}(ho:o.op=.call { callee:=.value (.func f),args:=xs,argTypes:=ts})(hf:ρ (.func f)=.func (.func f) #[] #[])(hE:∀args w,(callFunc f args).run P w=.ok (.enter f args) w)(ha:xs.map ρ=args):
    (execOp ρ o).run P w=.ok (.enter f args) w:=by
  unfold execOp;simp only[ho,resolve,hf,Deferred.ofValue,ha,Array.empty_append,Sem.run_bind,Sem.run_pure,Result.andThen_ok,invoke,Array.append_empty,hE]
theorem ex_alloc{t:TypeId}{cs:Array Value}(ho:o.op=.alloc t)(hz:(zeroValue t).run P w=.ok (.agg cs) w):(execOp ρ o).run P w=.ok (.value (.pointer (some ⟨w.heap.size,0,none⟩))) (w.alloc (.cells cs t)):=by
  unfold execOp;simp [ho,Instr.alloc,newVar,newRow,hz,Result.andThen,Sem.run_bind,Value.cells]
theorem UV(t:TypeId)(x ix:Operand)(ho:o.op=.lookup t x ix true){vm vk v:Value}{w':World}(hx:ρ x=vm)(hk:ρ ix=vk)(h:(Instr.lookup t vm vk true).run P w=.ok v w'):(execOp ρ o).run P w=.ok (.value v) w':=by
  unfold execOp;simp only[ho,hx,hk,Sem.run_bind,h,Result.andThen_ok,Sem.run_pure]
end
theorem MapV.look2{P:Program}{K t e:TypeId}{κ:Type}{ok:κ→Prop}{val:κ→Value}{kl:κ→Lit}{w:World}{b n:Nat}{m:κ→Option Value}(E:KeyEnc P K ok val kl)(ht:P.underlying t=some (.map K e)){z:Value}(hz:∀u:World,(zeroValue e).run P u=.ok z u)(h:MapV w P K ok kl b n m){k0:κ}(hk:ok k0):
    (Instr.lookup t (.map (some b)) (val k0) true).run P w=.ok (.tuple #[(m k0).getD z,.bool (m k0).isSome]) w:=by
  obtain⟨D,G,L,C,H⟩:=h;obtain⟨v,M,B,I⟩:=G.look_ok E.keyed ht (hz w) (zd:=.held z) (zp:=[]) rfl (E.of k0 hk);have F:v=(m k0).getD z:=by
    have A:(DataW.held v:DataW Value)=D.atKey (kl k0) (.held z):=congrArg Prod.fst (Option.some.inj I);rcases hmk:m k0 with _ |u
    ·have J:has D (kl k0)=false:=by rw[C k0 hk,hmk];rfl
     rw[atKey_of_not_has J] at A;injection A
    ·rw[H k0 u hk hmk] at A;injection A
  rw[B,F,C k0 hk]
theorem J8{P:Program}{ops:Array Oper}{Q:Exit→Act→World→Prop}{i:Nat}{K:Act→World→Prop}{a:Act}{w:World}(o:Oper)(hi:vH ops.toList i=some o)(hw:Region.wanted o (yielded ops a.tmps)=true)
    (h:o.wp P a w K Q):wpOp P ops Q i K a w:=by
  unfold wpOp;simp only[JC hi,if_pos hw];exact .inl h
section
variable {P:Program} {w:World}
theorem Qp(w:World)(base:Nat)(e:TypeId)(size:Nat)(hb:base≤w.heap.size):(w.alloc (.cells #[] e)).ownsRow base e size (.slice (some ⟨w.heap.size,0,none⟩) 0 0) 0 []:=
  ⟨by simp,.inr ⟨w.heap.size,0,#[],rfl,hb,heap_alloc_new _ _,Nat.le_refl _,by decide,by simp,by simp⟩⟩
theorem JQ{o:Oper}{a:Act}{K:Act→World→Prop}{Q:Exit→Act→World→Prop}(s x:Operand)(t:TypeId)
    (ho:o.op=.call { callee:=.builtin .append,args:=#[s,x],argTypes:=#[t,t]})
    (base:Nat) (e:TypeId) (i:TypeInfo) (z:Value) (size bytes:Nat) (ht:P.underlying t=some (.slice e)) (hi:P.info? e=some i) (hz:i.zero=some z)
    (hsize:i.size=size) (hby:i.bytes=bytes) (hzs:z.cells.size=size) (hsz:0<size)
    (v:Value) (n:Nat) (xs:List Value) (hs:a.eval s=v) (hown:w.ownsRow base e size v n xs)
    (A:Option Addr) (m c B:Nat) (news:List Value) (hx:a.eval x=.slice A m c) (hsl:Sl w B A m size news) (h1:∀u∈news,u.oneCell'=true)
    (h63:n+m≤maxLen) (hbytes:(n+m)*bytes≤140737488355328) (hbase:base≤w.heap.size)
    (h:∀H w',w'.ownsRow base e size H (n+m) (xs++news)→w.grownBy w' v.ownBlock→K (a.put o.dst H) w'):o.wp P a w K Q:=by
  have D:m=0→news=[]:=fun E=>List.eq_nil_of_length_eq_zero (by rw[hsl.1,E,Nat.zero_mul])
  rcases A with _ |R
  ·have S:m=0:=by
     rcases Nat.eq_zero_or_pos m with E|I
     ·exact E
     ·obtain⟨b,M,J,_⟩:=hsl.2 I;cases J
   subst S;obtain rfl:=D rfl;have N:w.grownBy w v.ownBlock:=⟨rfl,rfl,rfl,Nat.le_refl _,fun _ _ _=>rfl⟩;have O:∃F G,v=.slice F n G∧n≤G:=by
     rcases hown.2 with⟨rfl,rfl⟩|⟨g,X,Y,rfl,_,_,C,_⟩
     ·exact⟨_,_,rfl,Nat.le_refl _⟩
     ·exact⟨_,_,rfl,C⟩
   obtain⟨F,G,rfl,C⟩:=O;have T:(Builtin.append_ #[t,t] o.type #[.slice F n G,.slice none 0 c]).run P w=.ok (.slice F n G) w:=by
     rcases F with _ |Z
     ·simp [Builtin.append_,run_underlying ht,sizeOf,typeInfo,hi,Builtin.lenOf,Builtin.firstCells,C]
     ·simp [Builtin.append_,run_underlying ht,sizeOf,typeInfo,hi,Builtin.lenOf,Builtin.firstCells,C,storeCells]
   unfold Oper.wp execOp;simp only[ho,resolve,invoke,builtin,Sem.run_bind,Sem.run_pure,Result.andThen_ok,List.map_toArray,List.map_cons,List.map_nil,hs,hx,T];exact h _ w (by simpa using hown) N
  ·refine wp_append_own w s x t ho base e i z size bytes ht hi hz hsize hby hzs hsz v n xs hs hown R m c news hx hsl.1 ?_ h1 h63 hbytes hbase fun H w' U V _=>h H w' U V
   intro j u L;rcases Nat.eq_zero_or_pos m with E|I
   ·rw[D E] at L;cases L
   ·obtain⟨b,M,J,_,W⟩:=hsl.2 I;obtain rfl:=Option.some.inj J;rw[Addr.add_mid];exact W j u L
end
theorem Uf{P:Program}{o:Oper}{w:World}{ρ:Operand→Value}(ty:TypeId)(x y:Operand)(ho:o.op=.store ty x y)(g j:Nat)(v:Value)(hx:ρ x=.pointer (some ⟨g,j,none⟩))(hy:ρ y=v)(h1:v.oneCell'=true)(hv:v.cells=#[v])
    (hi:(P.info? ty).map (·.size)=some 1) {u:Value} (hc:w.cell? ⟨g,j,none⟩=some u) (hf:w.frozen? ⟨g,j,none⟩=false):(execOp ρ o).run P w=.ok .skip (w.setCell ⟨g,j,none⟩ v):=by
  have h:=run_storeCells_cells (P:=P) g j [v] 0 w (fun i hi=>by
      have:i=0:=by simpa using hi
      subst this;simp [hc]) (fun i hi=>by
      have:i=0:=by simpa using hi
      subst this;simpa using hf) (fun q A=>by rw[List.mem_singleton.1 A];exact h1)
  have B:w.setCells g (j+0) [v]=w.setCell ⟨g,j,none⟩ v:=rfl;rw[B] at h;unfold execOp;cases A:P.info? ty with
  |none=>simp [A] at hi
  |some i=>
   have C:i.size=1:=by simpa [A] using hi
   simp only[ho,hx,hy,Instr.storeAt,Instr.sureAddr,Sem.run_bind,Sem.run_pure,Result.andThen_ok];simp [storeVar,sizeOf,typeInfo,A,hv,C,h]
end
section
open Go.RowKit
theorem vI{T:TypeId}{fr:Nat×Nat}{g:Nat}:∀(cs pre mid post:List Value) (w:World),mid.length=cs.length→w.heap[g]?=some (.cells (pre++(mid++post)).toArray T fr)→(w.setCells g pre.length cs).heap[g]?=some (.cells (pre++(cs++post)).toArray T fr)
  | [],pre,mid,post,w,hl,hg=>by
    obtain rfl:mid=[]:=List.eq_nil_of_length_eq_zero hl;exact hg
  |v::cs,pre,[],post,w,hl,hg=>by cases hl
  |v::cs,pre,u::mid,post,w,hl,hg=>by
   have B:(w.setCell ⟨g,pre.length,none⟩ v).heap[g]?=some (.cells ((pre++[v])++(mid++post)).toArray T fr):=by
      simp [World.setCell,Array.getElem?_modify,hg]
   have A:=vI cs (pre++[v]) mid post _ (by simpa using hl) B;rw[World.setCells];have e:(pre++[v]).length=pre.length+1:=by simp
   rw[e] at A;rw[A];simp
theorem ul{X:Nat→Prop}{g:Nat}(hX:X g):∀(cs:List Value) (o:Nat) (w:World),But X w (w.setCells g o cs)
  | [],_,_=>But.refl _ _
  |v::cs,o,w=>(But.setCell (X:=X) (But.refl X w) (p:=⟨g,o,none⟩) (fun _=>hX) v).trans (ul hX cs (o+1) _) fun _ _ h=>h
theorem vJ{g:Nat}:∀(cs:List Value) (o:Nat) (w:World),(w.setCells g o cs).heap.size=w.heap.size
  | [],_,_=>rfl
  |v::cs,o,w=>(vJ cs (o+1) _).trans (by simp [World.setCell])
section
variable {P:Program} {o:Oper} {w:World}
theorem ex_storeM{ρ:Operand→Value}(ty:TypeId)(x y:Operand)(ho:o.op=.store ty x y)(g k:Nat)(pre mid post cs:List Value)(T:TypeId)(V:Value)(hx:ρ x=.pointer (some ⟨g,k,none⟩))(hk:k=pre.length)(hy:ρ y=V)(hV:V.cells=cs.toArray)
    (hg:w.heap[g]?=some (.cells (pre++(mid++post)).toArray T (0,0))) (hl:mid.length=cs.length) (hi:(P.info? ty).map (·.size)=some cs.length) (h1:∀u∈cs,u.oneCell'=true):(execOp ρ o).run P w=.ok .skip (w.setCells g pre.length cs):=by
  subst hk;have A:∀j,j<cs.length→(w.cell? ⟨g,pre.length+0+j,none⟩).isSome=true:=fun j D=>by
    rw[k4 hg];have:pre.length+0+j<(pre++(mid++post)).length:=by simp;omega
    rw[List.getElem?_eq_getElem this];rfl
  have B:∀j,j<cs.length→w.frozen? ⟨g,pre.length+0+j,none⟩=false:=fun j _=>by simp [World.frozen?,hg]
  have h:=run_storeCells_cells (P:=P) g pre.length cs 0 w A B h1;unfold execOp;cases hq:P.info? ty with
  |none=>simp [hq] at hi
  |some i=>
   have C:i.size=cs.length:=by simpa [hq] using hi
   simp only[ho,hx,hy,Instr.storeAt,Instr.sureAddr,Sem.run_bind,Sem.run_pure,Result.andThen_ok];simp [storeVar,sizeOf,typeInfo,hq,hV,C,h]
theorem ko{ops:Array Oper}{rest:List Oper}{a:Act}{Q:Exit→Act→World→Prop}(hw:Region.wanted o (yielded ops a.tmps)=true)(ty:TypeId)(x y:Operand)(ho:o.op=.store ty x y)(g k:Nat)(pre mid post cs:List Value)(T:TypeId)(V:Value)(hx:a.eval x=.pointer (some ⟨g,k,none⟩))(hk:k=pre.length)(hy:a.eval y=V)(hV:V.cells=cs.toArray)
    (hg:w.heap[g]?=some (.cells (pre++(mid++post)).toArray T (0,0))) (hl:mid.length=cs.length) (hi:(P.info? ty).map (·.size)=some cs.length) (h1:∀u∈cs,u.oneCell'=true)
    (h:∀W:World,But (fun k=>k=g) w W→W.heap[g]?=some (.cells (pre++(cs++post)).toArray T (0,0))→W.heap.size=w.heap.size→wpList P ops Q rest (a.put o.dst undef) W):wpList P ops Q (o::rest) a w:=by
  refine BigFrame.wpList_want hw fun K A=>?_
  have B:=ex_storeM (P:=P) ty x y ho g k pre mid post cs T V hx hk hy hV hg hl hi h1;unfold Oper.wp;rw[B];exact A _ _ (h _ (ul (X:=fun k=>k=g) rfl _ _ _) (vI cs pre mid post w hl hg) (vJ _ _ _))
theorem ks{ops:Array Oper}{rest:List Oper}{a:Act}{Q:Exit→Act→World→Prop}(hw:Region.wanted o (yielded ops a.tmps)=true)(t:TypeId)(ho:o.op=.alloc t)(cs:List Value)(hz:(zeroValue t).run P w=.ok (.agg cs.toArray) w)
    (h:∀W:World,Below w.heap.size w W→W.heap[w.heap.size]?=some (.cells cs.toArray t (0,0))→W.heap.size=w.heap.size+1→wpList P ops Q rest (a.put o.dst (.pointer (some ⟨w.heap.size,0,none⟩))) W):wpList P ops Q (o::rest) a w:=by
  refine BigFrame.wpList_want hw fun K A=>?_
  have B:(execOp a.eval o).run P w=.ok (.value (.pointer (some ⟨w.heap.size,0,none⟩))) (w.alloc (.cells cs.toArray t)):=by
    unfold execOp;simp [ho,Instr.alloc,newVar,newRow,hz,Result.andThen,Sem.run_bind,Value.cells]
  unfold Oper.wp;rw[B];exact A _ _ (h _ ((Below.refl _ _).alloc (Nat.le_refl _) _) (heap_alloc_new _ _) yq)
theorem kr{ops:Array Oper}{rest:List Oper}{a:Act}{Q:Exit→Act→World→Prop}(hw:Region.wanted o (yielded ops a.tmps)=true)(t:TypeId)(x:Operand)(ho:o.op=.box t x)(cs:List Value)(V:Value)(hx:a.eval x=V)(hV:V.cells=cs.toArray)(hi:(P.info? t).map (·.size)=some cs.length)
    (h:∀W:World,Below w.heap.size w W→W.heap[w.heap.size]?=some (.cells cs.toArray t (0,0))→W.heap.size=w.heap.size+1→wpList P ops Q rest (a.put o.dst (.pointer (some ⟨w.heap.size,0,none⟩))) W):wpList P ops Q (o::rest) a w:=by
  refine BigFrame.wpList_want hw fun K A=>?_
  have B:(execOp a.eval o).run P w=.ok (.value (.pointer (some ⟨w.heap.size,0,none⟩))) (w.alloc (.cells cs.toArray t)):=by
    unfold execOp;cases hq:P.info? t with
    |none=>simp [hq] at hi
    |some i=>
     have C:i.size=cs.length:=by simpa [hq] using hi
     simp [ho,hx,Instr.box,newVar,newRow,hV,Result.andThen]
  unfold Oper.wp;rw[B];exact A _ _ (h _ ((Below.refl _ _).alloc (Nat.le_refl _) _) (heap_alloc_new _ _) yq)
end
theorem kW{P:Program}{ops:Array Oper}{Q:Exit→Act→World→Prop}{i:Nat}{K:Act→World→Prop}{a:Act}{w:World}(o:Oper)(hi:vH ops.toList i=some o)(hw:Region.wanted o (yielded ops a.tmps)=true)
    (ty:TypeId) (x y:Operand) (ho:o.op=.store ty x y) (g k:Nat) (pre mid post cs:List Value) (T:TypeId) (V:Value) (hx:a.eval x=.pointer (some ⟨g,k,none⟩)) (hk:k=pre.length) (hy:a.eval y=V) (hV:V.cells=cs.toArray)
    (hg:w.heap[g]?=some (.cells (pre++(mid++post)).toArray T (0,0))) (hl:mid.length=cs.length) (hi2:(P.info? ty).map (·.size)=some cs.length) (h1:∀u∈cs,u.oneCell'=true)
    (h:∀W:World,But (fun k=>k=g) w W→W.heap[g]?=some (.cells (pre++(cs++post)).toArray T (0,0))→W.heap.size=w.heap.size→K (a.put o.dst undef) W):wpOp P ops Q i K a w:=
  Z8 o hi hw (ex_storeM ty x y ho g k pre mid post cs T V hx hk hy hV hg hl hi2 h1) (h _ (ul (X:=fun k=>k=g) rfl _ _ _) (vI cs pre mid post w hl hg) (vJ _ _ _))
theorem zV{P:Program}{ops:Array Oper}{Q:Exit→Act→World→Prop}{i:Nat}{K:Act→World→Prop}{a:Act}{w:World}(o:Oper)(hi:vH ops.toList i=some o)(hw:Region.wanted o (yielded ops a.tmps)=true)
    (t:TypeId) (ho:o.op=.alloc t) (cs:List Value) (hz:(zeroValue t).run P w=.ok (.agg cs.toArray) w)
    (h:∀W:World,Below w.heap.size w W→W.heap[w.heap.size]?=some (.cells cs.toArray t (0,0))→W.heap.size=w.heap.size+1→K (a.put o.dst (.pointer (some ⟨w.heap.size,0,none⟩))) W):wpOp P ops Q i K a w:=
  zB o hi hw (ex_alloc (cs:=cs.toArray) ho hz) (h _ ((Below.refl _ _).alloc (Nat.le_refl _) _) (heap_alloc_new _ _) yq)
theorem jk{P:Program}{fn:Func}{p:Tmp}{ty:TypeId}(h:fn.results=#[.cell p ty])(tmps:Array Value)(w:World){a:Addr}{r:Value}(hp:tmps.getD p undef=.pointer (some a))(hl:(loadVar ty a).run P w=.ok r w):(results fn tmps).run P w=.ok r w:=by
  have A:tmps[p]?.getD undef=.pointer (some a):=by simpa using hp
  simp only[results,h];simp [A,asAddr,hl]
end
section
open Go.RowKit Go.Maps
def behindB(md:Region.Mode)(ops:Array Oper):Nat→Nat→Nat→Bool
  | 0,_,_=>false
  |f+1,j,i=>match ops[j]? with
   |some o=>o.after.any fun e=>Region.binds md e && (decide (e.on=i) || behindB md ops f e.on i)
   |none=>false
def lateB(md:Region.Mode)(ops:Array Oper)(n i:Nat):Bool:=(List.range ops.size).all fun j=>decide (j<n) || behindB md ops 6 j i
def Shut(md:Region.Mode)(ops:Array Oper)(listed:Array Bool):Prop:=∀j o,ops[j]?=some o→listed.getD j false=true→∀e∈o.after,Region.binds md e=true→listed.getD e.on false=true
def shutB(md:Region.Mode)(ops:Array Oper)(listed:Array Bool):Bool:=(List.range ops.size).all fun j=> !listed.getD j false || (match ops[j]? with
  |some o=>o.after.all fun e=> !Region.binds md e || listed.getD e.on false
  |none=>true)
theorem shutB_spec{md:Region.Mode}{ops:Array Oper}{listed:Array Bool}(h:shutB md ops listed=true):Shut md ops listed:=by
  intro j o A D e E F;have B:=List.all_eq_true.1 h j (List.mem_range.2 (Array.getElem?_eq_some_iff.1 A).1);rw[A,D] at B;have G:(o.after.all fun e=> !Region.binds md e || listed.getD e.on false)=true:=by simpa only[Bool.not_true,Bool.false_or] using B
  have C:=Array.all_eq_true'.1 G e E;rw[F] at C
  simpa only[Bool.not_true,Bool.false_or] using C
theorem qE{md:Region.Mode}{ops:Array Oper}{listed:Array Bool}(hs:Shut md ops listed):∀(f j i:Nat),behindB md ops f j i=true→(∀o,ops[j]?=some o→∀e∈o.after,Region.binds md e=true→listed.getD e.on false=true)→listed.getD i false=true
  | 0,_,_,h,_=>by cases h
  |f+1,j,i,h,hr=>by
   unfold behindB at h
   split at h
   ·rename_i o ho;obtain⟨e,he,h2⟩:=Array.any_eq_true'.1 h;rw[Bool.and_eq_true,Bool.or_eq_true,decide_eq_true_eq] at h2;have A:=hr o ho e he h2.1;rcases h2.2 with q|q
    ·rw[←q];exact A
    ·exact qE hs f e.on i q fun E B F C D=>hs e.on E B A F C D
   ·cases h
theorem Shut.set{md:Region.Mode}{ops:Array Oper}{listed:Array Bool}(h:Shut md ops listed){j:Nat}(hj:j∈Region.ready md ops listed):Shut md ops (listed.setIfInBounds j true):=by
  intro k o C D e E F;by_cases hjk:j=k
  ·subst hjk;obtain⟨_,G,A,B⟩:=mem_ready.1 hj;rw[C] at A;obtain rfl:=Option.some.inj A;exact getD_set_true (B e E F)
  ·rw[getD_set_ne false hjk] at D;exact getD_set_true (h k o C D e E F)
def jX(P:Program)(md:Region.Mode)(ops:Array Oper)(Q:Exit→Act→World→Prop)(n:Nat)(F:World→Prop):Nat→Array Bool→Act→World→Prop
  | 0,listed,a,w=>Region.ready md ops listed=[]∧Q .normal a w
  |fuel+1,listed,a,w=>
   (Region.ready md ops listed=[]→Q .normal a w)∧
   ∀i∈Region.ready md ops listed,wpOp P ops Q i (fun a' w'=>(i<n→F w→F w')∧jX P md ops Q n F fuel (listed.setIfInBounds i true) a' w') a w
section
variable {P:Program} {md:Region.Mode} {ops:Array Oper} {Q:Exit→Act→World→Prop} {n:Nat} {F:World→Prop}
theorem wpAny_of_N:∀(fuel:Nat) (listed:Array Bool) (a:Act) (w:World),jX P md ops Q n F fuel listed a w→wpAny P md ops Q fuel listed a w
  | 0,_,_,_,h=>h
  |fuel+1,_,_,_,h=>⟨h.1,fun i hi=>wpOp_mono (fun a' w' h'=>wpAny_of_N fuel _ a' w' h'.2) (h.2 i hi)⟩
theorem qF{G:World→Prop}{i:Nat}{oi:Oper}{v:Value}(hi:ops[i]?=some oi)(hsel:∀(j:Nat) (o:Oper) E b,ops[j]?=some o→o.op≠ .select E b)
    (hQ:∀c a w,Q (.panic c) (a.put oi.dst v) w→Q (.panic c) a w)
    (hG:∀(listed:Array Bool) j,Shut md ops listed→j∈Region.ready md ops listed→listed.getD i true=false→∀w w',G w→(j<n→F w→F w')→G w'):
    ∀(fuel:Nat) (listed:Array Bool) (a:Act) (w:World),Shut md ops listed→
     (∀j A,ops[j]?=some A→j≠i→listed.getD j true=false→(∀e∈A.after,Region.binds md e=true→e.on≠i)→oi.apart ops A=true)→
     i∈Region.ready md ops listed→YieldsIf P ops G oi v a→G w→
     jX P md ops Q n F fuel (listed.setIfInBounds i true) (a.put oi.dst v) w→jX P md ops Q n F (fuel+1) listed a w:=by
  intro fuel
  induction fuel with
  |zero=>
   intro listed a w _ _ B N O H;refine⟨fun h=>(by rw[h] at B;cases B),fun j D=>?_⟩;by_cases hji:j=i
   ·subst hji;exact N.wpOp hi O ⟨fun _ h=>h,H⟩
   ·have:=ready_mono D hji;rw[H.1] at this;cases this
  |succ fuel ih=>
   intro listed a w T C B N O H;refine⟨fun h=>(by rw[h] at B;cases B),fun j D=>?_⟩;by_cases hji:j=i
   ·subst hji;exact N.wpOp hi O ⟨fun _ h=>h,H⟩
   ·have d:=H.2 j (ready_mono D hji);obtain⟨I,A,J,V⟩:=mem_ready.1 D;have K:=(mem_ready.1 B).1;have W:∀e∈A.after,Region.binds md e=true→e.on≠i:=fun e f g X=>by
       have R:=V e f g;rw[X,getD_both K] at R;cases R
    have R:=wpOp_putIf J (C j A J hji I W) (fun E b=>hsel i oi E b hi) (fun E b=>hsel j A E b J) hQ N d;have L:∀k M,ops[k]?=some M→k≠i→(listed.setIfInBounds j true).getD k true=false→
         (∀e∈M.after,Region.binds md e=true→e.on≠i)→oi.apart ops M=true:=fun k M l Y U Z=>by
       refine C k M l Y ?_ Z;by_cases hjk:j=k
       ·subst hjk;exact I
       ·rw[getD_set_ne true hjk] at U;exact U
    refine wpOp_mono (fun m w' S=>⟨S.2.1,ih (listed.setIfInBounds j true) m w' (T.set D) L (ready_mono B (Ne.symm hji)) S.1 (hG listed j T D K w w' O S.2.1) ?_⟩) R;rw[Array.setIfInBounds_comm _ _ hji];exact S.2.2
theorem wpAnyN_take{i:Nat}{oi:Oper}{v:Value}{fuel:Nat}{listed:Array Bool}{a:Act}{w:World}(hL:lateB md ops n i=true)(hsh:shutB md ops listed=true)(hi:ops[i]?=some oi)
    (hs:Region.noSelect ops=true) (hf:Region.free md ops listed i=true) (hr:(Region.ready md ops listed).contains i=true)
    (hQ:∀c a w,Q (.panic c) (a.put oi.dst v) w→Q (.panic c) a w) (hy:YieldsIf P ops F oi v a) (hF:F w)
    (h:jX P md ops Q n F fuel (listed.setIfInBounds i true) (a.put oi.dst v) w):jX P md ops Q n F (fuel+1) listed a w:=
  qF (G:=F) hi (Region.noSelect_spec hs) hQ (fun E j H M C w w' N I=>by
    obtain⟨_,S,B,D⟩:=mem_ready.1 M;have J:j<n:=by
      have A:=List.all_eq_true.1 hL j (List.mem_range.2 (Array.getElem?_eq_some_iff.1 B).1);rw[Bool.or_eq_true,decide_eq_true_eq] at A;rcases A with A|A
      ·exact A
      ·have K:=qE H 6 j i A (fun o L e O R=>by
         rw[B] at L;obtain rfl:=Option.some.inj L;exact D e O R)
       rw[getD_both C] at K;cases K
    exact I J N) fuel listed a w (shutB_spec hsh) (Region.free_spec hi hf) (by simpa using hr) hy hF h
theorem qG{i:Nat}{oi:Oper}{v:Value}{fuel:Nat}{listed:Array Bool}{a:Act}{w:World}(hsh:shutB md ops listed=true)(hi:ops[i]?=some oi)
    (hs:Region.noSelect ops=true) (hf:Region.free md ops listed i=true) (hr:(Region.ready md ops listed).contains i=true)
    (hQ:∀c a w,Q (.panic c) (a.put oi.dst v) w→Q (.panic c) a w) (hy:YieldsIf P ops (fun _=>True) oi v a)
    (h:jX P md ops Q n F fuel (listed.setIfInBounds i true) (a.put oi.dst v) w):jX P md ops Q n F (fuel+1) listed a w:=
  qF (G:=fun _=>True) hi (Region.noSelect_spec hs) hQ (fun _ _ _ _ _ _ _ _ _=>trivial) fuel listed a w (shutB_spec hsh) (Region.free_spec hi hf) (by simpa using hr) hy trivial h
def tkB(md:Region.Mode)(ops:Array Oper)(listed:Array Bool)(i:Nat):Bool:=shutB md ops listed && Region.noSelect ops && Region.free md ops listed i && (Region.ready md ops listed).contains i
theorem tkW(i:Nat)(v:Value){oi:Oper}{fuel:Nat}{listed:Array Bool}{a:Act}{w:World}(hB:tkB md ops listed i=true)(hi:vH ops.toList i=some oi)
    (hQ:∀c a w,Q (.panic c) (a.put oi.dst v) w→Q (.panic c) a w) (hw:Region.wanted oi (yielded ops a.tmps)=true) (hv:∀w':World,True→(execOp a.eval oi).run P w'=.ok (.value v) w')
    (h:jX P md ops Q n F fuel (listed.setIfInBounds i true) (a.put oi.dst v) w):jX P md ops Q n F (fuel+1) listed a w:=by
  simp only[tkB,Bool.and_eq_true] at hB;exact qG hB.1.1.1 (JC hi) hB.1.1.2 hB.1.2 hB.2 hQ (.inl ⟨hw,hv⟩) h
theorem tkN(i:Nat){oi:Oper}{fuel:Nat}{listed:Array Bool}{a:Act}{w:World}(hB:tkB md ops listed i=true)(hi:vH ops.toList i=some oi)
    (hQ:∀c a w,Q (.panic c) (a.put oi.dst undef) w→Q (.panic c) a w) (hw:Region.wanted oi (yielded ops a.tmps)=false)
    (h:jX P md ops Q n F fuel (listed.setIfInBounds i true) (a.put oi.dst undef) w):jX P md ops Q n F (fuel+1) listed a w:=by
  simp only[tkB,Bool.and_eq_true] at hB;exact qG hB.1.1.1 (JC hi) hB.1.1.2 hB.1.2 hB.2 hQ (.inr ⟨hw,rfl⟩) h
theorem tkF(i:Nat)(v:Value){oi:Oper}{fuel:Nat}{listed:Array Bool}{a:Act}{w:World}(hB:(lateB md ops n i && tkB md ops listed i)=true)(hi:vH ops.toList i=some oi)
    (hQ:∀c a w,Q (.panic c) (a.put oi.dst v) w→Q (.panic c) a w) (hw:Region.wanted oi (yielded ops a.tmps)=true) (hF:F w) (hv:∀w':World,F w'→(execOp a.eval oi).run P w'=.ok (.value v) w')
    (h:jX P md ops Q n F fuel (listed.setIfInBounds i true) (a.put oi.dst v) w):jX P md ops Q n F (fuel+1) listed a w:=by
  simp only[tkB,Bool.and_eq_true] at hB;exact wpAnyN_take hB.1 hB.2.1.1.1 (JC hi) hB.2.1.1.2 hB.2.1.2 hB.2.2 hQ (.inl ⟨hw,hv⟩) hF h
theorem um{rs:List Nat}{fuel:Nat}{listed:Array Bool}{a:Act}{w:World}(hr:Region.ready md ops listed=rs)(hne:rs≠[])
    (h:∀i∈rs,wpOp P ops Q i (fun a' w'=>(i<n→F w→F w')∧jX P md ops Q n F fuel (listed.setIfInBounds i true) a' w') a w):jX P md ops Q n F (fuel+1) listed a w:=
  ⟨fun A=>absurd (hr▸A) hne,hr▸h⟩
theorem tkA(i:Nat){fuel:Nat}{listed:Array Bool}{a:Act}{w:World}(hr:Region.ready md ops listed=[i])
    (h:wpOp P ops Q i (fun a' w'=>(i<n→F w→F w')∧jX P md ops Q n F fuel (listed.setIfInBounds i true) a' w') a w):jX P md ops Q n F (fuel+1) listed a w:=
  um hr yq fun q A=>by
    obtain rfl:q=i:=by simpa using A
    exact h
theorem ku{listed:Array Bool}{a:Act}{w:World}(hr:Region.ready md ops listed=[])(h:Q .normal a w):∀fuel,jX P md ops Q n F fuel listed a w
  | 0=>⟨hr,h⟩
  | _+1=>⟨fun _=>h,by rw[hr];simp⟩
theorem tw(i:Nat)(v:Value){oi:Oper}{fuel:Nat}{listed:Array Bool}{a:Act}{w:World}(h:jX P md ops Q n F fuel (listed.setIfInBounds i true) (a.put oi.dst v) w)(hB:tkB md ops listed i=true:=by kernel_rfl)(hi:vH ops.toList i=some oi:=by rfl)
    (hQ:∀c a w,Q (.panic c) (a.put oi.dst v) w→Q (.panic c) a w:=by exact fun _ _ _ h=>h) (hw:Region.wanted oi (yielded ops a.tmps)=true:=by rfl) (hv:∀w':World,True→(execOp a.eval oi).run P w'=.ok (.value v) w':=by exact fun _ _=>rfl):jX P md ops Q n F (fuel+1) listed a w:=tkW i v hB hi hQ hw hv h
theorem tn(i:Nat){oi:Oper}{fuel:Nat}{listed:Array Bool}{a:Act}{w:World}(h:jX P md ops Q n F fuel (listed.setIfInBounds i true) (a.put oi.dst undef) w)(hi:vH ops.toList i=some oi:=by rfl)(hB:tkB md ops listed i=true:=by kernel_rfl)
    (hQ:∀c a w,Q (.panic c) (a.put oi.dst undef) w→Q (.panic c) a w:=by exact fun _ _ _ h=>h) (hw:Region.wanted oi (yielded ops a.tmps)=false:=by rfl):jX P md ops Q n F (fuel+1) listed a w:=tkN i hB hi hQ hw h
theorem ta(i:Nat){fuel:Nat}{listed:Array Bool}{a:Act}{w:World}(h:wpOp P ops Q i (fun a' w'=>(i<n→F w→F w')∧jX P md ops Q n F fuel (listed.setIfInBounds i true) a' w') a w)(hr:Region.ready md ops listed=[i]:=by kernel_rfl):jX P md ops Q n F (fuel+1) listed a w:=tkA i hr h
theorem wp_region_N{id:Nat}{a:Act}{w:World}(n:Nat)(F:World→Prop)(hm:P.follows .mixedOrders=true)
    (h:jX P .any ops Q n F ops.size (Array.replicate ops.size false) a w.drew):(Code.region id ops true).wp P Q a w:=
  wp_region_any hm (wpAny_of_N _ _ _ _ h)
end
section
variable {P:Program} {ρ:Operand→Value} {o:Oper} {w:World}
theorem zQ(ty:TypeId)(x:Operand)(ho:o.op=.load ty x){p:Addr}(hx:ρ x=.pointer (some p)){d:TypeDesc}(hu:P.underlying ty=some d)(hd:(match d with| .struct _ | .array _ _=>true| _=>false)=false){v:Value}(hc:w.cell? p=some v):
    (execOp ρ o).run P w=.ok (.value v) w:=by
  refine kc ty x ho hx ?_;unfold loadVar isAgg;simp only[Sem.run_bind,run_underlying hu,Result.andThen_ok];cases d<;>first|(cases hd;done)|simp [Result.andThen,hc]
theorem un(t:TypeId)(x:Operand)(ho:o.op=.call { callee:=.builtin .len,args:=#[x],argTypes:=#[t]}){A:Option Addr}{n c:Nat}(hx:ρ x=.slice A n c){e:TypeId}(ht:P.underlying t=some (.slice e)):(execOp ρ o).run P w=.ok (.value (.int .i64 (n:Int))) w:=by
  unfold execOp;simp [ho,resolve,invoke,builtin,Builtin.len_,run_underlying ht,Result.andThen,hx];rfl
end
end
section
open Go.RowKit
section
variable {P:Program} {md:Region.Mode} {ops:Array Oper} {Q:Exit→Act→World→Prop} {n:Nat} {F:World→Prop}
theorem tk(i:Nat)(v:Value){oi:Oper}{fuel:Nat}{listed:Array Bool}{a:Act}{w:World}(hi:vH ops.toList i=some oi)(hv:∀w':World,True→(execOp a.eval oi).run P w'=.ok (.value v) w')
    (h:jX P md ops Q n F fuel (listed.setIfInBounds i true) (a.put oi.dst v) w) (hB:tkB md ops listed i=true:=by kernel_rfl) (hQ:∀c a w,Q (.panic c) (a.put oi.dst v) w→Q (.panic c) a w:=by exact fun _ _ _ h=>h)
    (hw:Region.wanted oi (yielded ops a.tmps)=true:=by rfl):jX P md ops Q n F (fuel+1) listed a w:=tkW i v hB hi hQ hw hv h
theorem tl(i:Nat)(v:Value){oi:Oper}{fuel:Nat}{listed:Array Bool}{a:Act}{w:World}(hi:vH ops.toList i=some oi)(hF:F w)(hv:∀w':World,F w'→(execOp a.eval oi).run P w'=.ok (.value v) w')
    (h:jX P md ops Q n F fuel (listed.setIfInBounds i true) (a.put oi.dst v) w) (hB:(lateB md ops n i && tkB md ops listed i)=true:=by kernel_rfl) (hQ:∀c a w,Q (.panic c) (a.put oi.dst v) w→Q (.panic c) a w:=by exact fun _ _ _ h=>h)
    (hw:Region.wanted oi (yielded ops a.tmps)=true:=by rfl):jX P md ops Q n F (fuel+1) listed a w:=tkF i v hB hi hQ hw hF hv h
theorem tc{i:Nat}{K:Act→World→Prop}{a:Act}{w:World}{f:FuncId}{o:Oper}{xs:Array Operand}{ts:Array TypeId}(args:Array Value)(hE:∀(u:World) (args:Array Value),(callFunc f args).run P u=.ok (.enter f args) u)(hi:vH ops.toList i=some o)
    (hc:Calls P f args w fun e w'=>∃v,e=.returned v∧K (a.put o.dst v) w') (ho:o.op=.call { callee:=.value (.func f),args:=xs,argTypes:=ts}:=by rfl) (hf:a.eval (.func f)=.func (.func f) #[] #[]:=by rfl)
    (hw:Region.wanted o (yielded ops a.tmps)=true:=by kernel_rfl) (ha:xs.map a.eval=args:=by simp only[List.map_toArray,List.map_cons,List.map_nil];rfl):wpOp P ops Q i K a w:=
  Qo o hi hw (Ue ho hf (fun args w=>hE w args) ha) hc
end
theorem l1{P:Program}{ρ:Operand→Value}{o:Oper}{w:World}{ty:TypeId}{x:Operand}{p:Addr}{d:TypeDesc}{v:Value}(hu:P.underlying ty=some d)(hc:w.cell? p=some v)(ho:o.op=.load ty x:=by rfl)(hx:ρ x=.pointer (some p):=by rfl)(hd:(match d with| .struct _ | .array _ _=>true| _=>false)=false:=by rfl):(execOp ρ o).run P w=.ok (.value v) w:=zQ ty x ho hx hu hd hc
theorem rN{P:Program}{ops:Array Oper}{Q:Exit→Act→World→Prop}{id:Nat}{a:Act}{w:World}(n:Nat)(F:World→Prop)(hF:F w.drew)(h:F w.drew→jX P .any ops Q n F ops.size (Array.replicate ops.size false) a w.drew)(hm:P.follows .mixedOrders=true:=by kernel_rfl):(Code.region id ops true).wp P Q a w:=wp_region_N n F hm (h hF)
theorem nTF:(!true)=false∧(!false)=true:=⟨rfl,rfl⟩
theorem enE{P : Program}{f : FuncId}{fn : Func}{c : Code}(hf : P.funcs[f]? = some fn)(hb : fn.body = some c)(hn : (fn.name == "runtime.NumGoroutine") = false := by kernel_rfl): ∀ (u : World) (args : Array Value), (callFunc f args).run P u = .ok (.enter f args) u := fun u args => enters_of hf hn hb args u
theorem Kc{P:Program}{ρ:Operand→Value}{o:Oper}{w:World}(t:TypeId)(x y:Operand)(ho:o.op=.indexAddr t x y){b off n c q size:Nat}(hx:ρ x=.slice (some ⟨b,off,none⟩) n c)(hy:ρ y=.int .i64 (q:Int))(hq:q<n){e:TypeId}(ht:P.underlying t=some (.slice e))(hi:(P.info? e).map (·.size)=some size):
    (execOp ρ o).run P w=.ok (.value (.pointer (some ⟨b,off+q*size,none⟩))) w:=by
  cases hp:P.info? e with
  |none=>simp [hp] at hi
  |some i=>
   have A:i.size=size:=by simpa [hp] using hi
   unfold execOp;simp [ho,hx,hy,Instr.indexAt,asIntOf,run_underlying ht,sizeOf,typeInfo,hp,A,Sem.run_bind,Result.andThen,hq,Addr.add]
   try omega
theorem j8{P:Program}{id:Nat}{Q:Exit→Act→World→Prop}{a:Act}{w:World}{l:List Oper}(hm:P.follows .mixedOrders=true)(hB:Region.lexB .any l.toArray=true)
    (h:wpQuiet P l.toArray (fun w'=>∃n:Wg w,w'=n.val) (fun a'=>∀w',(∃n:Wg w,w'=n.val)→Q .normal a' w') l a):(Code.region id l.toArray true).wp P Q a w:=
  wp_region_quiet (C:=fun w'=>∃n:Wg w,w'=n.val) hm hB ⟨⟨_,(Gr.refl w).drew⟩,rfl⟩ (by simpa using h)
end
section
open Go.RowKit Go.Maps
open Lib (hid)
def Ix(n:Int):Prop:= -2305843009213693952≤n∧n≤2305843009213693952
theorem J9{r:zz}(h:kN r.1):(ja r)[0]?=some (.int .i64 r.1.1)∧(ja r)[33]?=some (.int .i64 r.1.2.2)∧(∀j u,(idV r.1.2.1)[j]?=some u→(ja r)[1+j]?=some u)∧(ja r)[34]?=some r.2.1∧(ja r)[35]?=some (.bool r.2.2.2)∧∀j u,(k8 r.1)[j]?=some u→(ja r)[0+j]?=some u:=by
  obtain⟨D,E,F⟩:=J7 h;have C:=k9 h;have A:∀j u,(k8 r.1)[j]?=some u→(ja r)[j]?=some u:=fun j u B=>by
    unfold ja;rw[List.getElem?_append_left (List.getElem?_eq_some_iff.1 B).1];exact B
  refine⟨A _ _ D,A _ _ E,fun j u B=>A _ _ (F j u B),?_,?_,fun j u B=>by rw[qZ];exact A _ _ B⟩
  ·unfold ja;rw[List.getElem?_append_right yz,C];rfl
  ·unfold ja;rw[List.getElem?_append_right yz,C];rfl
section
variable {ρ:Operand→Value} {o:Oper} {w:World} {b f:Nat} {x:Operand}
theorem ldK{k:kF}(hk:kN k)(hc:w.rangeAt b f (k8 k))(ho:o.op=.load 89 x:=by rfl)(hx:ρ x=.pointer (some ⟨b,f,none⟩):=by rfl):(execOp ρ o).run prog w=.ok (.value (.agg (k8 k).toArray)) w:=
  kc 89 x ho hx (qV w b f _ (k8 k) _ hc underlying89 rfl (by rw[k9 hk];kernel_rfl))
theorem ldD{i:List UInt8}(hi:jp i)(hc:w.rangeAt b f (idV i))(ho:o.op=.load 41 x:=by rfl)(hx:ρ x=.pointer (some ⟨b,f,none⟩):=by rfl):(execOp ρ o).run prog w=.ok (.value (.agg (idV i).toArray)) w:=
  kc 41 x ho hx (qV w b f _ (idV i) _ hc underlying41 rfl (by rw[kf,hi];kernel_rfl))
theorem ldU{r:zz}(hr:(ja r).length=36)(hc:w.rangeAt b f (ja r))(ho:o.op=.load 177 x:=by rfl)(hx:ρ x=.pointer (some ⟨b,f,none⟩):=by rfl):(execOp ρ o).run prog w=.ok (.value (.agg (ja r).toArray)) w:=
  kc 177 x ho hx (qV w b f _ (ja r) _ hc underlying177 rfl (by rw[hr];kernel_rfl))
theorem eqD{y:Operand}{t':TypeId}{i j:List UInt8}(hi:jp i)(hj:jp j){q:Bool}(hq:decide (i=j)=q)(ho:o.op=.binOp .eql 41 x y t':=by rfl)(hx:ρ x=.agg (idV i).toArray:=by rfl)(hy:ρ y=.agg (idV j).toArray:=by rfl):(execOp ρ o).run prog w=.ok (.value (.bool q)) w:=
  zS 41 t' x y ho hx hy eqId.noGuard (hq▸zY hi hj w)
end
theorem holds_any(r:zz)(k:kF)(w:World)(hr:RunIn w r)(hk:kN k)(hx1:Ix r.1.2.2)(hx2:Ix k.2.2):
    Calls prog 199 #[.agg (ja r).toArray,.agg (k8 k).toArray] w fun e w'=>Below w.heap.size w w'∧e=.returned (.tuple #[.int .i64 (k.2.2 - r.1.2.2),.bool (KD (kZ r) k)]):=by
  have O:=hid hk;have P:=hid hr
  obtain⟨o,p,f⟩:∃o p,r.2.1=.slice o r.2.2.1.length p:=by
    obtain⟨g,A2,A3,_,_,S,_⟩:=hr.2.1;exact⟨_,_,S⟩
  have d:=hid f;obtain⟨⟨h,Y,M⟩,rv,Z,rd⟩:=r;obtain⟨i,a,N⟩:=k;dsimp only at f;subst f;obtain⟨z,p1,p2,p3,_,_⟩:=J9 P.1;obtain⟨q0,q1,q2⟩:=J7 O.out;have P0:=hid z;have P1:=hid p1;have P2:=hid p2;have P3:=hid p3;have Q0:=hid q0;have Q1:=hid q1;have Q2:=hid q2
  clear hk hr z p1 p2 p3 q0 q1 q2;dsimp only at hx1 hx2;go_enter func199,ntmps199
  go_upto_region 1 with (first
    |(with_reducible refine kB ?_
      refine kr yx 177 _ rfl (ja ((h,Y,M),.slice o Z.length p,Z,rd)) _ rfl rfl (by rw[jD P.out];kernel_rfl) ?_;intro W0 T s t;have I:=hid T;have J:=hid s;have R:=hid t
      clear T s t)
    |(with_reducible refine kB ?_
      refine kr yx 89 _ rfl (k8 (i,a,N)) _ rfl rfl (by rw[k9 O.out];kernel_rfl) ?_;intro Q U v x;have K:=hid U;have F:=hid v;have L:=hid x
      clear U v x))
  obtain⟨W,T⟩:∃W,w.heap.size=W:=⟨_,rfl⟩;obtain⟨b,U⟩:∃b,W0.heap.size=b:=⟨_,rfl⟩;have B:=hid (I.trans (K.mono I.size));have l:=qX J.out;have E:=hid ((K.block w.heap.size l).trans J.out);rw[T] at E ⊢;rw[U] at F ⊢;have c0:Q.cell? ⟨W,0,none⟩=some (.int .i64 h):=(k4 E.out 0).trans P0.out;have c1:Q.cell? ⟨W,33,none⟩=some (.int .i64 M):=(k4 E.out 33).trans P1.out;have c2:Q.cell? ⟨W,34,none⟩=some (.slice o Z.length p):=(k4 E.out 34).trans P3.out;have c3:Q.cell? ⟨b,0,none⟩=some (.int .i64 i):=(k4 F.out 0).trans Q0.out;have c4:Q.cell? ⟨b,33,none⟩=some (.int .i64 N):=(k4 F.out 33).trans Q1.out;have R0:=hid (show Q.rangeAt W 1 (idV Y) from fun j u y=>(k4 E.out (1+j)).trans (P2.out j u y));have R1:=hid (show Q.rangeAt b 1 (idV a) from fun j u y=>(k4 F.out (1+j)).trans (Q2.out j u y));clear I K l E J F P0 P1 P2 P3 Q0 Q1 Q2;have V:W<Q.heap.size:=by have:=L.out;have:=R.out;omega
  have X:b<Q.heap.size:=by have:=L.out;omega
  have C0:=Wg.cell c0 V;have C1:=Wg.cell c1 V;have C2:=Wg.cell c2 V;have C3:=Wg.cell c3 X;have C4:=Wg.cell c4 X
  have m:=hid (Wg.row R0.out V);have n:=hid (Wg.row R1.out X)
  have C:Hid (jp Y):=hid P.1.2.1;have D:Hid (jp a):=hid O.2.1;clear T U P O d R L V X;unfold Ix at hx1 hx2;have ew:IntKind.i64.wrap (N - M)=N - M:=IntWalk.i64_in _ yz
  go_upto_region 2 with fail
  by_cases h0:h=i
  ·have e0:(h == i)=true:=beq_iff_eq.2 h0;by_cases S:Y=a
   ·have c:Hid (decide (Y=a)=true):=hid (dT S);by_cases h2:M≤N
    ·have e2:decide ((0:Int)≤N - M)=true:=dT yz;by_cases h3:N<M+(Z.length:Int)
     ·have e3:decide (N - M<(Z.length:Int))=true:=dT yz;refine j8 yy yy ?_
      repeat (first
        |go_big_quiet_skip
        |(go_big_quiet_want
          first
             |(refine kR (fun w' A=>ldD C.out (m.out w' A)) ?_
               go_big_quiet_on
               go_frame)
             |(refine kR (fun w' A=>ldD D.out (n.out w' A)) ?_
               go_big_quiet_on
               go_frame)
             |(refine kR (fun w' A=>eqD C.out D.out c.out) ?_
               go_big_quiet_on
               go_frame)
             |(go_big_quiet_op
               first
                  |go_big_quiet_on)))
      refine wpQuiet_nil ?_;rintro w' ⟨G,rfl⟩;have H:=G.2;generalize G.val=w2 at *;go_wp2_with fail;go_ret2;exact⟨B.trans (H.below.mono B.size),by simp [KD,KS,kZ,h0,S,h2,h3]<;>first|exact decide_eq_false yz|exact fun q=>absurd (of_decide_eq_true q) yz⟩
     have e3:decide (N - M<(Z.length:Int))=false:=dF yz;refine j8 yy yy ?_
     repeat (first
       |go_big_quiet_skip
       |(go_big_quiet_want
         first
            |(refine kR (fun w' A=>ldD C.out (m.out w' A)) ?_
              go_big_quiet_on
              go_frame)
            |(refine kR (fun w' A=>ldD D.out (n.out w' A)) ?_
              go_big_quiet_on
              go_frame)
            |(refine kR (fun w' A=>eqD C.out D.out c.out) ?_
              go_big_quiet_on
              go_frame)
            |(go_big_quiet_op
              first
                 |go_big_quiet_on)))
     refine wpQuiet_nil ?_;rintro w' ⟨G,rfl⟩;have H:=G.2;generalize G.val=w2 at *;go_wp2_with fail;go_ret2;exact⟨B.trans (H.below.mono B.size),by simp [KD,KS,kZ,h0,S,h2,h3]<;>first|exact decide_eq_false yz|exact fun q=>absurd (of_decide_eq_true q) yz⟩
    have e2:decide ((0:Int)≤N - M)=false:=dF yz;refine j8 yy yy ?_
    repeat (first
      |go_big_quiet_skip
      |(go_big_quiet_want
        first
           |(refine kR (fun w' A=>ldD C.out (m.out w' A)) ?_
             go_big_quiet_on
             go_frame)
           |(refine kR (fun w' A=>ldD D.out (n.out w' A)) ?_
             go_big_quiet_on
             go_frame)
           |(refine kR (fun w' A=>eqD C.out D.out c.out) ?_
             go_big_quiet_on
             go_frame)
           |(go_big_quiet_op
             first
                |go_big_quiet_on)))
    refine wpQuiet_nil ?_;rintro w' ⟨G,rfl⟩;have H:=G.2;generalize G.val=w2 at *;go_wp2_with fail;go_ret2;exact⟨B.trans (H.below.mono B.size),by simp [KD,KS,kZ,h0,S,h2]<;>first|exact decide_eq_false yz|exact fun q=>absurd (of_decide_eq_true q) yz⟩
   have c:Hid (decide (Y=a)=false):=hid (dF S);refine j8 yy yy ?_
   repeat (first
     |go_big_quiet_skip
     |(go_big_quiet_want
       first
          |(refine kR (fun w' A=>ldD C.out (m.out w' A)) ?_
            go_big_quiet_on
            go_frame)
          |(refine kR (fun w' A=>ldD D.out (n.out w' A)) ?_
            go_big_quiet_on
            go_frame)
          |(refine kR (fun w' A=>eqD C.out D.out c.out) ?_
            go_big_quiet_on
            go_frame)
          |(go_big_quiet_op
            first
               |go_big_quiet_on)))
   refine wpQuiet_nil ?_;rintro w' ⟨G,rfl⟩;have H:=G.2;generalize G.val=w2 at *;go_wp2_with fail;go_ret2;exact⟨B.trans (H.below.mono B.size),by simp [KD,KS,kZ,h0,S]<;>first|exact decide_eq_false yz|exact fun q=>absurd (of_decide_eq_true q) yz⟩
  have e0:(h == i)=false:=beq_eq_false_iff_ne.2 h0;refine j8 yy yy ?_
  repeat (first
    |go_big_quiet_skip
    |(go_big_quiet_want
      first
         |(refine kR (fun w' A=>ldD C.out (m.out w' A)) ?_
           go_big_quiet_on
           go_frame)
         |(refine kR (fun w' A=>ldD D.out (n.out w' A)) ?_
           go_big_quiet_on
           go_frame)
         |(refine kR (fun w' A=>eqD C.out D.out c.out) ?_
           go_big_quiet_on
           go_frame)
         |(go_big_quiet_op
           first
              |go_big_quiet_on)))
  refine wpQuiet_nil ?_;rintro w' ⟨G,rfl⟩;have H:=G.2;generalize G.val=w2 at *;go_wp2_with fail;go_ret2;exact⟨B.trans (H.below.mono B.size),by simp [KD,KS,kZ,h0]<;>first|exact decide_eq_false yz|exact fun q=>absurd (of_decide_eq_true q) yz⟩
theorem meets_any(r:zz)(k:kF)(n:Int)(w:World)(hr:RunIn w r)(hk:kN k)(hx1:Ix r.1.2.2)(hx2:Ix k.2.2)(hx3:Ix n)(hln:r.2.2.1.length≤2305843009213693952):
    Calls prog 160 #[.agg (ja r).toArray,.agg (k8 k).toArray,.int .i64 n] w fun e w'=>Below w.heap.size w w'∧e=.returned (.bool (z7 (kZ r) k n)):=by
  have L:=hid hk;have M:=hid hr
  obtain⟨l,m,d⟩:∃l m,r.2.1=.slice l r.2.2.1.length m:=by
    obtain⟨g,A2,A3,_,_,P,_⟩:=hr.2.1;exact⟨_,_,P⟩
  have c:=hid d;obtain⟨⟨f,W,J⟩,rv,Q,rd⟩:=r;obtain⟨h,X,K⟩:=k;dsimp only at d;subst d;obtain⟨x,y,z,p3,_,_⟩:=J9 M.1;obtain⟨q0,q1,q2⟩:=J7 L.out;have P0:=hid x;have P1:=hid y;have P2:=hid z;have P3:=hid p3;have Q0:=hid q0;have Q1:=hid q1;have Q2:=hid q2
  clear hk hr x y z p3 q0 q1 q2;dsimp only at hx1 hx2;go_enter func160,ntmps160
  go_upto_region 1 with (first
    |(with_reducible refine kB ?_
      refine kr yx 177 _ rfl (ja ((f,W,J),.slice l Q.length m,Q,rd)) _ rfl rfl (by rw[jD M.out];kernel_rfl) ?_;intro W0 R o p;have F:=hid R;have G:=hid o;have O:=hid p
      clear R o p)
    |(with_reducible refine kB ?_
      refine kr yx 89 _ rfl (k8 (h,X,K)) _ rfl rfl (by rw[k9 L.out];kernel_rfl) ?_;intro N S s t;have H:=hid S;have D:=hid s;have I:=hid t
      clear S s t))
  obtain⟨U,R⟩:∃U,w.heap.size=U:=⟨_,rfl⟩;obtain⟨Y,S⟩:∃Y,W0.heap.size=Y:=⟨_,rfl⟩;have E:=hid (F.trans (H.mono F.size));have i:=qX G.out;have C:=hid ((H.block w.heap.size i).trans G.out);rw[R] at C ⊢;rw[S] at D ⊢;have c0:N.cell? ⟨U,0,none⟩=some (.int .i64 f):=(k4 C.out 0).trans P0.out;have c1:N.cell? ⟨U,33,none⟩=some (.int .i64 J):=(k4 C.out 33).trans P1.out;have c2:N.cell? ⟨U,34,none⟩=some (.slice l Q.length m):=(k4 C.out 34).trans P3.out;have c3:N.cell? ⟨Y,0,none⟩=some (.int .i64 h):=(k4 D.out 0).trans Q0.out;have c4:N.cell? ⟨Y,33,none⟩=some (.int .i64 K):=(k4 D.out 33).trans Q1.out;have Z:=hid (show N.rangeAt U 1 (idV W) from fun j u v=>(k4 C.out (1+j)).trans (P2.out j u v));have a:=hid (show N.rangeAt Y 1 (idV X) from fun j u v=>(k4 D.out (1+j)).trans (Q2.out j u v));clear F H i C G D P0 P1 P2 P3 Q0 Q1 Q2;have T:U<N.heap.size:=by have:=I.out;have:=O.out;omega
  have V:Y<N.heap.size:=by have:=I.out;omega
  have C0:=Wg.cell c0 T;have C1:=Wg.cell c1 T;have C2:=Wg.cell c2 T;have C3:=Wg.cell c3 V;have C4:=Wg.cell c4 V
  have A0:=hid (Wg.row Z.out T);have A1:=hid (Wg.row a.out V)
  have A:Hid (jp W):=hid M.1.2.1;have B:Hid (jp X):=hid L.2.1;clear R S M L c O I T V;unfold Ix at hx1 hx2;dsimp only at hln;unfold Ix at hx3;have ew:IntKind.i64.wrap (K+n)=K+n:=IntWalk.i64_in _ yz;have A4:IntKind.i64.wrap (J+(Q.length:Int))=J+(Q.length:Int):=IntWalk.i64_in _ yz;by_cases h0:f=h
  ·have e0:(f == h)=true:=beq_iff_eq.2 h0;by_cases P:W=X
   ·have b:Hid (decide (W=X)=true):=hid (dT P);by_cases h2:J<K+n
    ·have e2:decide (J<K+n)=true:=dT h2;by_cases h3:K<J+(Q.length:Int)
     ·have e3:decide (K<J+(Q.length:Int))=true:=dT h3
      go_wp2_with (first
        |(with_reducible refine k6 ?_
          refine k5 yx (ldD A.out Z.out) ?_;go_frame)
        |(with_reducible refine k6 ?_
          refine k5 yx (ldD B.out a.out) ?_;go_frame)
        |(with_reducible refine kG ?_
          refine k5 yx (eqD A.out B.out b.out) ?_;go_frame;try simp only[nTF]))
      go_ret;exact⟨E.out,by simp [z7,KS,kZ,h0,P,h2,h3]<;>first|exact decide_eq_false yz|exact fun q=>absurd (of_decide_eq_true q) yz⟩
     have e3:decide (K<J+(Q.length:Int))=false:=dF h3
     go_wp2_with (first
       |(with_reducible refine k6 ?_
         refine k5 yx (ldD A.out Z.out) ?_;go_frame)
       |(with_reducible refine k6 ?_
         refine k5 yx (ldD B.out a.out) ?_;go_frame)
       |(with_reducible refine kG ?_
         refine k5 yx (eqD A.out B.out b.out) ?_;go_frame;try simp only[nTF]))
     go_ret;exact⟨E.out,by simp [z7,KS,kZ,h0,P,h2,h3]<;>first|exact decide_eq_false yz|exact fun q=>absurd (of_decide_eq_true q) yz⟩
    have e2:decide (J<K+n)=false:=dF h2
    go_wp2_with (first
      |(with_reducible refine k6 ?_
        refine k5 yx (ldD A.out Z.out) ?_;go_frame)
      |(with_reducible refine k6 ?_
        refine k5 yx (ldD B.out a.out) ?_;go_frame)
      |(with_reducible refine kG ?_
        refine k5 yx (eqD A.out B.out b.out) ?_;go_frame;try simp only[nTF]))
    go_ret;exact⟨E.out,by simp [z7,KS,kZ,h0,P,h2]<;>first|exact decide_eq_false yz|exact fun q=>absurd (of_decide_eq_true q) yz⟩
   have b:Hid (decide (W=X)=false):=hid (dF P)
   go_wp2_with (first
     |(with_reducible refine k6 ?_
       refine k5 yx (ldD A.out Z.out) ?_;go_frame)
     |(with_reducible refine k6 ?_
       refine k5 yx (ldD B.out a.out) ?_;go_frame)
     |(with_reducible refine kG ?_
       refine k5 yx (eqD A.out B.out b.out) ?_;go_frame;try simp only[nTF]))
   go_ret;exact⟨E.out,by simp [z7,KS,kZ,h0,P]<;>first|exact decide_eq_false yz|exact fun q=>absurd (of_decide_eq_true q) yz⟩
  have e0:(f == h)=false:=beq_eq_false_iff_ne.2 h0
  go_wp2_with (first
    |(with_reducible refine k6 ?_
      refine k5 yx (ldD A.out Z.out) ?_;go_frame)
    |(with_reducible refine k6 ?_
      refine k5 yx (ldD B.out a.out) ?_;go_frame)
    |(with_reducible refine kG ?_
      refine k5 yx (eqD A.out B.out b.out) ?_;go_frame;try simp only[nTF]))
  go_ret;exact⟨E.out,by simp [z7,KS,kZ,h0]<;>first|exact decide_eq_false yz|exact fun q=>absurd (of_decide_eq_true q) yz⟩
theorem zq(w:World):(zeroValue 89).run prog w=.ok (.agg (k8 (0,k7,0)).toArray) w:=by kernel_rfl
theorem later_any(k:kF)(n:Int)(w:World)(hk:kN k)(hx:Ix k.2.2)(hn:Ix n):
    Calls prog 89 #[.agg (k8 k).toArray,.int .i64 n] w fun e w'=>Below w.heap.size w w'∧e=.returned (.agg (k8 (JM k n)).toArray):=by
  obtain⟨L,J,C⟩:=k;have x:=hid hk;have q:=k9 hk;obtain⟨y,r,z⟩:=J7 hk;have Q1:=hid r;have R:Hid (jp J):=hid hk.2.1;have o:=hid hk.1;clear hk y r z;dsimp only at hx;unfold Ix at hx hn;go_enter func89,ntmps89
  go_upto_region 1 with (first
    |(with_reducible refine kB ?_
      refine kr yx 89 _ rfl (k8 (L,J,C)) _ rfl rfl (by rw[q];kernel_rfl) ?_;intro W0 K c d;have D:=hid K;have E:=hid c;have F:=hid d
      clear K c d)
    |(with_reducible refine kA ?_
      refine ks yx 89 rfl (k8 (0,k7,0)) (zq _) ?_;intro s O f g;have G:=hid O;have H:=hid f;have S:=hid g
      clear O f g))
  obtain⟨P,K⟩:∃P,w.heap.size=P:=⟨_,rfl⟩;obtain⟨Q,O⟩:∃Q,W0.heap.size=Q:=⟨_,rfl⟩;have I:=hid (D.trans (G.mono D.size));have a:=qX E.out;have M:Hid (s.heap[P]?=some (.cells ((Value.int .i64 L::idV J)++([Value.int .i64 C]++[])).toArray 89 (0,0))):=hid (by rw[←K];simpa [k8] using (G.block w.heap.size a).trans E.out);rw[K];rw[O] at H ⊢;have T:=hid (show P≠Q by have:=F.out;omega);have U:=hid (show w.heap.size≤P by omega);have V:=hid (show w.heap.size≤Q by have:=F.out;omega);have h:(Value.int .i64 L::idV J).length=33:=by simp [kf,show J.length=32 from R.out]
  have c1:s.cell? ⟨P,33,none⟩=some (.int .i64 C):=by
    have:=k4 M.out 33;rw[this,List.getElem?_append_right yz,h];rfl
  have ew:IntKind.i64.wrap (C+n)=C+n:=IntWalk.i64_in _ yz;have A:Hid (kN (L,J,C+n)):=hid ⟨o.out,R.out,by
    simp only[Lit.wf,IntKind.min,IntKind.max,IntKind.signed,IntKind.bits,Bool.and_eq_true];simp;omega⟩
  clear D G a E F S K O
  go_wp2_with (first
    |(with_reducible refine kw ?_
      refine ko yx 3 _ _ rfl P 33 (Value.int .i64 L::idV J) [.int .i64 C] [] [.int .i64 (C+n)] 89 _ rfl h.symm rfl rfl M.out rfl yy (by intro u hu;rw[List.mem_singleton.1 hu];rfl) ?_;intro W2 b i t;have W:Hid (W2.rangeAt P 0 (k8 (L,J,C+n))):=hid (fun j u p=>by rw[qZ];exact(k4 i j).trans (by simpa [k8] using p));have X:=hid ((b.block Q (qX H.out) (fun e=>T.out e.symm)).trans H.out);have N:=hid (b.below (B:=w.heap.size) I.size (fun k hk e=>by have:=U.out;omega));clear b i t)
    |(refine k5 yx (ldK A.out W.out) ?_)
    |(with_reducible refine kw ?_
      refine ko yx 89 _ _ rfl Q 0 [] (k8 (0,k7,0)) [] (k8 (L,J,C+n)) 89 _ rfl rfl rfl rfl (by simpa using X.out) (by rw[k9 A.out];rfl) (by rw[k9 A.out];kernel_rfl) (j4 _) ?_;intro W3 l m v;have Y:Hid (W3.rangeAt Q 0 (k8 (L,J,C+n))):=hid (fun j u p=>by rw[qZ];exact(k4 m j).trans (by simpa using p));have Z:=hid (l.below (B:=w.heap.size) (qT I.size N.size) (fun k hk e=>by have:=V.out;omega));clear l m v))
  refine bodyPost_ret (jk results89 _ _ rfl (qV _ Q 0 89 (k8 (L,J,C+n)) _ Y.out underlying89 rfl (by rw[k9 A.out];kernel_rfl))) rfl ?_;exact⟨I.trans (N.trans Z.out),rfl⟩
end
end Go.Proofs.YtdgbjhfkmembdaaGreatDoor