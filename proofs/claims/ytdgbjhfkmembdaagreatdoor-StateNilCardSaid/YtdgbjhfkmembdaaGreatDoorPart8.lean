/-
  Plain facts, and contracts of the functions that the claim's walk comes to, one behind the other. Conditions: as each says.
-/
import Derived.Test.YtdgbjhfkmembdaaGreatDoorPart7
import Derived.Test.YtdgbjhfkmembdaaGreatDoorPart6
import Derived.Test.YtdgbjhfkmembdaaGreatDoorPart4
import Derived.Test.YtdgbjhfkmembdaaGreatDoorPart5
set_option linter.unusedVariables false
set_option linter.unusedSimpArgs false
set_option maxHeartbeats 4000000
set_option maxRecDepth 100000
open Go.Proofs.Tryz
namespace Go.Proofs.YtdgbjhfkmembdaaGreatDoor
section
open Go.RowKit Go.Maps
open Lib (hid)
theorem zU{m:zE}(h:kN m.2):(kY m).length=35:=by simp [kY,k9 h]
theorem ZL(m:zE):∀u∈kY m,u.oneCell'=true:=by
  intro u A;rcases List.mem_cons.1 A with rfl|A
  ·rfl
  ·exact j4 _ u A
theorem makeZ_run(w:World):(zeroValue 199).run prog w=.ok (.agg (kY (false,(0,k7,0))).toArray) w:=by kernel_rfl
def WhatGives(S:kz)(mk:List zE)(r:zC)(more:Nat)(w:World)(e:Ending)(w':World):Prop:=
  Below w.heap.size w w'∧((∃m,KP S mk r more=some m∧e=.returned (.agg (kY m).toArray))∨(KP S mk r more=none∧e=.panicked (qM 22)))
theorem WhatGives.yes{S:kz}{mk:List zE}{r:zC}{more:Nat}{w w':World}{e:Ending}{m:zE}(h:KP S mk r more=some m)(hb:Below w.heap.size w w')(he:e=.returned (.agg (kY m).toArray)):WhatGives S mk r more w e w':=⟨hb,.inl ⟨m,h,he⟩⟩
theorem WhatGives.no{S:kz}{mk:List zE}{r:zC}{more:Nat}{w w':World}{e:Ending}(h:KP S mk r more=none)(hb:Below w.heap.size w w')(he:e=.panicked (qM 22)):WhatGives S mk r more w e w':=⟨hb,.inr ⟨h,he⟩⟩
def vK(S:kz)(i:List UInt8):List zE:=((kC S i).map (·.2)).getD []
theorem entryG_made{w:World}{B s:Nat}{S:kz}{q:j5}(h:StateAt w B s S q)(i:List UInt8):∃g1 g2 g3 C D,KZ S q i=[.int .i64 (jM S i),g1,g2,g3,.slice C (vK S i).length D]∧
    w.ownsRow 0 199 35 (.slice C (vK S i).length D) (vK S i).length (ke kY (vK S i))∧∀m∈vK S i,kN m.2:=by
  unfold KZ jM vK;cases he:kC S i with
  |none=>exact⟨_,_,_,none,0,rfl,World.ownsRow_nil _ _ _ _,fun m G=>by cases G⟩
  |some e=>
   obtain⟨_,A⟩:=h.entries i e he;obtain⟨C,D,E⟩:=jd A.makes;refine⟨(q.em i).1,.string e.1.2.2.1,(q.em i).2.1,C,D,?_,?_,A.keys⟩
   ·show Kl e (q.em i)=_;unfold Kl;rw[E];rfl
   ·have F:=A.makes;rw[E] at F;exact F
theorem what_any(B a s:Nat)(S:kz)(q:j5)(i:List UInt8)(c:kQ)(dv ov:Value)(Am:Option Addr)(cm:Nat)(mk:List zE)(r:zC)(more:Nat)(w:World)(h:StateAt w B s S q)(hA:AdderAt w a s i c dv ov (.slice Am mk.length cm))(hM:w.ownsRow 0 199 35 (.slice Am mk.length cm) mk.length (ke kY mk))
    (hk:∀m∈mk,kN m.2) (hr:za r) (hr0:0≤r.2∧r.2≤1099511627776) (hm:more≤1099511627776) (hl:mk.length≤1099511627776) (hl2:(vK S r.1).length≤1099511627776):
    Calls prog 96 #[.pointer (some ⟨a,0,none⟩),.agg (kn r).toArray,.int .i64 (more:Int)] w (WhatGives S mk r more w):=by
  have HS:=hid h;have HA:=hid hA;have HR:=hid hr;have Ab:=hid hM;have Ac:=hid hk
  have Aw:=kq hr;obtain⟨G,rx⟩:=r;have H:Hid (jp G):=hid hr.1;dsimp only at hr0 hl2;obtain⟨D,rfl⟩:∃D:Nat,rx=(D:Int):=⟨rx.toNat,by omega⟩;clear h hA hr hM hk;go_enter func96,ntmps96
  go_upto_region 1 with (first
    |(with_reducible refine kB ?_
      refine kr yx 110 _ rfl (kn (G,(D:Int))) _ rfl rfl (by rw[Aw];kernel_rfl) ?_;intro W0 A5 Ap Aq;have Z:=hid A5;have b:=hid Ap;have A0:=hid Aq
      clear A5 Ap Aq)
    |(with_reducible refine kA ?_
      refine ks yx 199 rfl (kY (false,(0,k7,0))) (makeZ_run _) ?_;intro I A6 Ar As;have d:=hid A6;have f:=hid Ar;have A1:=hid As
      clear A6 Ar As))
  obtain⟨z,A5⟩:∃z,w.heap.size=z:=⟨_,rfl⟩;obtain⟨U,A6⟩:∃U,W0.heap.size=U:=⟨_,rfl⟩;have A:=hid (Z.trans (d.mono Z.size));have Ah:=qX b.out;have Q:=hid ((d.block w.heap.size Ah).trans b.out);rw[A5] at Q ⊢;rw[A6] at f ⊢;have R:=hid (HS.keep A.out);have Ad:=hid (HA.keep A.out);have Ae:=hid ((But.of_below (X:=NoB) A.out).own Ab.out fun _ _ q=>q);have M:Hid (∀u:World,Below I.heap.size I u→(fun u=>u.cell? ⟨z,32,none⟩=some (.int .i64 (D:Int))∧u.rangeAt z 0 (idV G)∧u.cell? ⟨a,0,none⟩=some (.pointer (some ⟨s,0,none⟩))∧u.cell? ⟨s,2,none⟩=some (.map (some q.bc))∧MapV u prog 41 jp idL q.bc S.2.2.length (fun i=>(kC S i).map fun e=>.agg (Kl e (q.em i)).toArray)∧u.cell? ⟨a,37,none⟩=some (.slice Am mk.length cm)) u):=hid fun u hu=>by
    obtain⟨g1,g2⟩:=kL HR.out;have At:=Ad.keep hu;have hZ:=(hu.block z (qX Q.out)).trans Q.out;exact⟨(k4 hZ 32).trans g2,fun j v W=>by rw[qZ];exact(k4 hZ j).trans (g1 j v W),At.st,(hu.cell (p:=⟨s,2,none⟩) (qX R.box)).trans (k4 R.box 2),R.mapC.below hu,At.rest 4⟩
  have A2:=hid (show w.heap.size≤U by have:=A0.out;omega);have Au:I.heap.size=U+1:=by have:=A1.out;omega
  have R0:=hid (M.out I (qB _ _)).2.1;have Ax:I.cell? ⟨a,37,none⟩=some (.slice Am mk.length cm):=(M.out I (qB _ _)).2.2.2.2.2;clear Z d A0 A1 A5 A6 Ah Q b;have A3:=hid Au;clear Au
  go_upto_region 2 with fail
  clear Ax;by_cases hz:G=k7
  ·have EQ:Hid (decide (G=k7)=true):=hid (dT hz);have T:Hid (ZH S mk (G,(D:Int))=mk):=hid (by unfold ZH;rw[if_pos hz]);clear hz
   go_upto_region 4 with (first
     |(with_reducible refine k6 ?_
       refine k5 yx (ldD H.out R0.out) ?_)
     |(with_reducible refine kJ ?_
       refine k5 yx (kj 41 _ rfl (Uk _)) ?_)
     |(with_reducible refine kG ?_
       refine k5 yx (jb 41 _ _ _ rfl (xs:=(idV G).toArray) (ys:=(idV k7).toArray) (r:=true) rfl rfl eqId.noGuard (EQ.out▸zY H.out jL _)) ?_;go_frame;try simp only[nTF]))
   have C:=hid (qB I.heap.size I);have E:=Ac.out;have F:=hl;obtain⟨L,Y⟩:∃L,mk=L:=⟨_,rfl⟩;have J:Hid (ZH S mk (G,(D:Int))=L):=hid (by rw[←Y];exact T.out);have N:Hid (I.ownsRow 0 199 35 (.slice Am L.length cm) L.length (ke kY L)):=hid (by rw[←Y];exact Ae.out);have K:Hid (∀m∈L,kN m.2):=hid (by rw[←Y];exact E);have Ay:L.length≤1099511627776:=by rw[←Y];exact F
   rw[show (mk).length=L.length by rw[Y]];have Az:I.cell? ⟨z,32,none⟩=some (.int .i64 (D:Int)):=(M.out I C.out).1;have O:=hid ((C.block U (by have:=A3.out;omega)).trans f.out);have Ai:=C.size;clear Y M E F;have AA:IntKind.i64.wrap ((L.length:Int) - (more:Int))=(L.length:Int) - (more:Int):=IntWalk.i64_in _ yz;by_cases hlt:(D:Int)<(L.length:Int) - (more:Int)
   ·have AB:IntKind.i64.wrap ((D:Int)+(more:Int))=((D+more:Nat):Int):=by rw[IntWalk.i64_in _ yz];omega
    have W:D+more<L.length:=by omega
    have j0:(0:Int)≤((D+more:Nat):Int):=by omega
    have j1:((D+more:Nat):Int)<(L.length:Int):=by omega
    have P:Hid (KP S mk (G,(D:Int)) more=some (L[D+more])):=hid (by
      unfold KP;dsimp only;rw[J.out,if_pos hlt,Int.toNat_natCast,List.getElem?_eq_getElem W])
    obtain⟨g,c5,Ao,Aj,_,A7,_⟩:=KJ N.out yz;injection Aj with hA5 _ hc5;subst hA5 hc5;have l:=hid (K.out _ (List.getElem_mem W));have n:=hid (show I.rangeAt g ((D+more)*35) (kY L[D+more]) from fun k u hk=>by
      have h2:=K9 (enc:=kY) (sz:=35) (fun x hx=>zU (K.out x hx)) _ W k u hk;rw[k4 A7,List.getElem?_append_left (List.getElem?_eq_some_iff.1 h2).1];exact h2)
    clear A7;generalize L[D+more]=m at *;have V:=zU l.out
    go_wp2_with (first
      |(go_at_call 51;refine(JD 22 _).mono ?_;rintro e w9 ⟨rfl,rfl⟩)
      |(with_reducible refine k6 ?_
        refine j9 rfl 199 _ rfl g _ rfl (kY m) _ n.out underlying199 rfl (by rw[V];kernel_rfl) ?_)
      |(with_reducible refine kw ?_
        refine ko yx 199 _ _ rfl U 0 [] (kY (false,(0,k7,0))) [] (kY m) 199 (.agg (kY m).toArray) rfl rfl rfl rfl (by simpa using O.out) (by rw[V];rfl) (by rw[V];kernel_rfl) (ZL _) ?_;intro W9 A8 A9 Ak;have o:Hid (W9.rangeAt U 0 (kY m)):=hid (fun j u W=>by rw[qZ];exact(k4 A9 j).trans (by simpa using W));have t:=hid (A8.below (B:=w.heap.size) (qT A.size Ai) (fun k hk e=>by
           have e2:k=U:=e;have:=A2.out;omega))
        clear A8 A9 Ak))
    refine bodyPost_ret (jk results96 _ _ rfl (qV _ U 0 199 (kY m) _ o.out underlying199 rfl (by rw[V];kernel_rfl))) rfl ?_;exact WhatGives.yes P.out (A.trans ((C.mono A.size).trans t.out)) rfl
   ·have P:Hid (KP S mk (G,(D:Int)) more=none):=hid (by
      unfold KP;dsimp only;rw[J.out,if_neg hlt])
    go_wp2_with (first
      |(go_at_call 51;refine(JR 22 _).mono ?_;rintro e w9 ⟨rfl,rfl⟩))
    exact⟨rfl,WhatGives.no P.out (A.trans (C.mono A.size)) rfl⟩
  ·have EQ:Hid (decide (G=k7)=false):=hid (dF hz);have T:Hid (ZH S mk (G,(D:Int))=vK S G):=hid (by unfold ZH;rw[if_neg hz];rfl);clear hz;obtain⟨g1,g2,g3,A4,c4,Al,An,E⟩:=entryG_made R.out G;obtain⟨lS,Av⟩:∃lS,vK S G=lS:=⟨_,rfl⟩;rw[Av] at Al An E hl2 T;have Af:=hid Al;have Ag:=hid An
   clear Al An Av
   go_upto_region 3 with (first
     |(with_reducible refine k6 ?_
       refine k5 yx (ldD H.out R0.out) ?_)
     |(with_reducible refine kJ ?_
       refine k5 yx (kj 41 _ rfl (Uk _)) ?_)
     |(with_reducible refine kG ?_
       refine k5 yx (jb 41 _ _ _ rfl (xs:=(idV G).toArray) (ys:=(idV k7).toArray) (r:=false) rfl rfl eqId.noGuard (EQ.out▸zY H.out jL _)) ?_;go_frame;try simp only[nTF]))
   refine rN 11 (fun u=>u.cell? ⟨z,32,none⟩=some (.int .i64 (D:Int))∧u.rangeAt z 0 (idV G)∧u.cell? ⟨a,0,none⟩=some (.pointer (some ⟨s,0,none⟩))∧u.cell? ⟨s,2,none⟩=some (.map (some q.bc))∧MapV u prog 41 jp idL q.bc S.2.2.length (fun i=>(kC S i).map fun e=>.agg (Kl e (q.em i)).toArray)∧u.cell? ⟨a,37,none⟩=some (.slice Am mk.length cm)) (M.out _ (qD _ _)) fun Aa=>?_
   refine tw 0 (.pointer (some ⟨a,0,none⟩)) ?_;go_frame;refine tw 1 (.pointer (some ⟨a,0,none⟩)) ?_;go_frame;refine tw 2 (.pointer (some ⟨a,0,none⟩)) ?_;go_frame;refine tl 3 (.pointer (some ⟨s,0,none⟩)) rfl Aa (fun w' y=>l1 underlying24 y.2.2.1) ?_;go_frame;refine tw 4 (.pointer (some ⟨s,0,none⟩)) ?_;go_frame;refine tw 5 (.pointer (some ⟨s,2,none⟩)) ?_;go_frame;refine tl 6 (.map (some q.bc)) rfl Aa (fun w' y=>l1 underlying85 y.2.2.2.1) ?_;go_frame;refine tw 7 (.pointer (some ⟨z,0,none⟩)) ?_;go_frame;refine tl 8 (.agg (idV G).toArray) rfl Aa (fun w' y=>ldD H.out y.2.1) ?_;go_frame;refine tl 9 (.agg [.int .i64 (jM S G),g1,g2,g3,.slice A4 lS.length c4].toArray) rfl Aa (fun w' y=>KF QM underlying85 (KY _) y.2.2.2.2.1 H.out ((Z9 S q G).trans (by rw[Af.out]))) ?_;go_frame;refine tw 10 (.slice A4 lS.length c4) ?_;go_frame;refine tw 11 (.slice A4 lS.length c4) ?_;go_frame;refine ku yy ?_ _;clear Aa;have C:=hid (qD I.heap.size I);have F:=hl2
   go_upto_region 4 with fail
   obtain⟨L,Y⟩:∃L,lS=L:=⟨_,rfl⟩;have J:Hid (ZH S mk (G,(D:Int))=L):=hid (by rw[←Y];exact T.out);have N:Hid (I.drew.ownsRow 0 199 35 (.slice A4 L.length c4) L.length (ke kY L)):=hid (by rw[←Y];exact(But.of_below (X:=NoB) (qD I.heap.size I)).own Ag.out fun _ _ q=>q);have K:Hid (∀m∈L,kN m.2):=hid (by rw[←Y];exact E);have Ay:L.length≤1099511627776:=by rw[←Y];exact F
   rw[show (lS).length=L.length by rw[Y]];have Az:I.drew.cell? ⟨z,32,none⟩=some (.int .i64 (D:Int)):=(M.out I.drew C.out).1;have O:=hid ((C.block U (by have:=A3.out;omega)).trans f.out);have Ai:=C.size;clear Y M E F;have AA:IntKind.i64.wrap ((L.length:Int) - (more:Int))=(L.length:Int) - (more:Int):=IntWalk.i64_in _ yz;by_cases hlt:(D:Int)<(L.length:Int) - (more:Int)
   ·have AB:IntKind.i64.wrap ((D:Int)+(more:Int))=((D+more:Nat):Int):=by rw[IntWalk.i64_in _ yz];omega
    have W:D+more<L.length:=by omega
    have j0:(0:Int)≤((D+more:Nat):Int):=by omega
    have j1:((D+more:Nat):Int)<(L.length:Int):=by omega
    have P:Hid (KP S mk (G,(D:Int)) more=some (L[D+more])):=hid (by
      unfold KP;dsimp only;rw[J.out,if_pos hlt,Int.toNat_natCast,List.getElem?_eq_getElem W])
    obtain⟨g,c5,Ao,Aj,_,A7,_⟩:=KJ N.out yz;injection Aj with hA5 _ hc5;subst hA5 hc5;have l:=hid (K.out _ (List.getElem_mem W));have n:=hid (show I.drew.rangeAt g ((D+more)*35) (kY L[D+more]) from fun k u hk=>by
      have h2:=K9 (enc:=kY) (sz:=35) (fun x hx=>zU (K.out x hx)) _ W k u hk;rw[k4 A7,List.getElem?_append_left (List.getElem?_eq_some_iff.1 h2).1];exact h2)
    clear A7;generalize L[D+more]=m at *;have V:=zU l.out
    go_wp2_with (first
      |(go_at_call 51;refine(JD 22 _).mono ?_;rintro e w9 ⟨rfl,rfl⟩)
      |(with_reducible refine k6 ?_
        refine j9 rfl 199 _ rfl g _ rfl (kY m) _ n.out underlying199 rfl (by rw[V];kernel_rfl) ?_)
      |(with_reducible refine kw ?_
        refine ko yx 199 _ _ rfl U 0 [] (kY (false,(0,k7,0))) [] (kY m) 199 (.agg (kY m).toArray) rfl rfl rfl rfl (by simpa using O.out) (by rw[V];rfl) (by rw[V];kernel_rfl) (ZL _) ?_;intro W9 A8 A9 Ak;have o:Hid (W9.rangeAt U 0 (kY m)):=hid (fun j u W=>by rw[qZ];exact(k4 A9 j).trans (by simpa using W));have t:=hid (A8.below (B:=w.heap.size) (qT A.size Ai) (fun k hk e=>by
           have e2:k=U:=e;have:=A2.out;omega))
        clear A8 A9 Ak))
    refine bodyPost_ret (jk results96 _ _ rfl (qV _ U 0 199 (kY m) _ o.out underlying199 rfl (by rw[V];kernel_rfl))) rfl ?_;exact WhatGives.yes P.out (A.trans ((C.mono A.size).trans t.out)) rfl
   ·have P:Hid (KP S mk (G,(D:Int)) more=none):=hid (by
      unfold KP;dsimp only;rw[J.out,if_neg hlt])
    go_wp2_with (first
      |(go_at_call 51;refine(JR 22 _).mono ?_;rintro e w9 ⟨rfl,rfl⟩))
    exact⟨rfl,WhatGives.no P.out (A.trans (C.mono A.size)) rfl⟩
end
section
open Go.RowKit
def StX(s:Nat)(S:kz)(q:j5)(j:Nat):Prop:=j=s∨j=q.bd∨j=q.bc∨q.vc.ownBlock=some j∨∃k,(jR S k).isSome=true∧DocX (q.ptr k) (q.row k) j
def NewerX(w:World)(s:Nat)(S S':kz)(q q':j5):Prop:=∀j,StX s S' q' j→StX s S q j∨w.heap.size≤j
theorem NewerX.refl(w:World)(s:Nat)(S:kz)(q:j5):NewerX w s S S q q:=fun _ h=>.inl h
theorem NewerX.trans{w w':World}{s:Nat}{S S' S2:kz}{q q' q2:j5}(h:NewerX w s S S' q q')(k:NewerX w' s S' S2 q' q2)(hs:w.heap.size≤w'.heap.size):NewerX w s S S2 q q2:=fun j A=>by
  rcases k j A with g|g
  ·exact h j g
  ·exact .inr (Nat.le_trans hs g)
def stTag(t:TypeId):Bool:=t == 87 || t == 135 || t == 192 || t == 177
section
variable {w w':World} {B s:Nat} {S:kz} {q:j5}
theorem StateAt.tag(h:StateAt w B s S q){j:Nat}(hj:StX s S q j):(∃cur t,stTag t=true∧w.heap[j]?=some (.cells cur t (0,0)))∨∃x y,w.heap[j]?=some (.map x y):=by
  rcases hj with rfl|rfl|rfl|hj|⟨k,C,hj⟩
  ·exact .inl ⟨_,_,by decide,h.box⟩
  ·exact .inr h.mapD_obj
  ·exact .inr h.mapC_obj
  ·obtain⟨c,A⟩:=kE h.claims hj;exact .inl ⟨c,_,by decide,A⟩
  ·obtain⟨d,D⟩:=Option.isSome_iff_exists.1 C;obtain⟨c,t,E,A⟩:=(h.docs k d D).2.tagged hj;exact .inl ⟨c,t,by rcases E with rfl|rfl<;>decide,A⟩
theorem StateAt.notX(h:StateAt w B s S q){k:Nat}{cur:Array Value}{t:TypeId}{fr:Nat×Nat}(hc:w.heap[k]?=some (.cells cur t fr))(ht:stTag t=false):¬StX s S q k:=fun D=>by
  rcases h.tag D with⟨c,E,C,A⟩|⟨x,y,A⟩
  ·rw[hc] at A;injection A with A;injection A with _ A;subst A;rw[ht] at C;cases C
  ·rw[hc] at A;cases A
theorem StateAt.keepCells(h:StateAt w B s S q)(hb:But (StX s S q) w w'){k:Nat}{cur:Array Value}{t:TypeId}{fr:Nat×Nat}(hc:w.heap[k]?=some (.cells cur t fr))(ht:stTag t=false):w'.heap[k]?=some (.cells cur t fr):=
  (hb.block k (qX hc) (h.notX hc ht)).trans hc
theorem StateAt.own(h:StateAt w B s S q)(hb:But (StX s S q) w w'){base n sz:Nat}{e:TypeId}{v:Value}{xs:List Value}(ho:w.ownsRow base e sz v n xs)(he:stTag e=false):w'.ownsRow base e sz v n xs:=hb.own ho fun g A C=>by
  obtain⟨c,D⟩:=kE ho A;exact h.notX D he C
theorem StateAt.lowX(h:StateAt w B s S q){j:Nat}(hj:StX s S q j):B≤j∧j<w.heap.size:=by
  refine⟨?_,?_⟩
  ·rcases hj with rfl|rfl|rfl|hj|⟨k,C,hj⟩
   ·exact h.low.1
   ·exact h.low.2.1
   ·exact h.low.2.2
   ·exact(h.claims.lt j hj).1
   ·obtain⟨d,D⟩:=Option.isSome_iff_exists.1 C;exact(h.docs k d D).2.low' j hj
  ·rcases h.tag hj with⟨c,t,_,A⟩|⟨x,y,A⟩<;>exact qX A
end
end
section
open Go.RowKit Go.Maps
open Lib (hid)
structure ElemAt (w:World) (ba bo bd a:Nat) (x:OpD) (k:kF):Prop where
  pa:w.heap[ba]?=some (.cells [.pointer (some ⟨a,0,none⟩)].toArray 125 (0,0))
  po:w.heap[bo]?=some (.cells (opV x).toArray 112 (0,0))
  pd:w.heap[bd]?=some (.cells (k8 k).toArray 89 (0,0))
theorem ElemAt.keep{w w':World}{ba bo bd a:Nat}{x:OpD}{k:kF}(h:ElemAt w ba bo bd a x k)(hb:Below w.heap.size w w'):ElemAt w' ba bo bd a x k:=⟨(hb.block ba (qX h.pa)).trans h.pa,(hb.block bo (qX h.po)).trans h.po,(hb.block bd (qX h.pd)).trans h.pd⟩
structure MidAt (w:World) (B a s:Nat) (S:kz) (q:j5) (i:List UInt8) (c:kQ) (dv ov:Value) (Am:Option Addr) (cm:Nat) (mk:List zE):Prop where
  st:StateAt w B s S q
  ad:AdderAt w a s i c dv ov (.slice Am mk.length cm)
  row:w.ownsRow 0 199 35 (.slice Am mk.length cm) mk.length (ke kY mk)
  keys:∀m∈mk,kN m.2
  len:mk.length≤1099511627776
theorem MidAt.keep{w w':World}{B a s:Nat}{S:kz}{q:j5}{i:List UInt8}{c:kQ}{dv ov:Value}{Am:Option Addr}{cm:Nat}{mk:List zE}(h:MidAt w B a s S q i c dv ov Am cm mk)(hb:Below w.heap.size w w'):MidAt w' B a s S q i c dv ov Am cm mk:=
  ⟨h.st.keep hb,h.ad.keep hb,(But.of_below (X:=NoB) hb).own h.row fun _ _ q=>q,h.keys,h.len⟩
def RefIx(S:kz)(r:zC):Prop:=za r∧(0≤r.2∧r.2≤1099511627776)∧(vK S r.1).length≤1099511627776
def ElemGives(yes:Bool)(w:World)(e:Ending)(w':World):Prop:=Below w.heap.size w w'∧((yes=true∧e=.returned (.tuple #[]))∨(yes=false∧e=.panicked (qM 22)))
theorem ElemGives.yes{b:Bool}{w w':World}{e:Ending}(h:b=true)(hb:Below w.heap.size w w')(he:e=.returned (.tuple #[])):ElemGives b w e w':=⟨hb,.inl ⟨h,he⟩⟩
theorem ElemGives.no{b:Bool}{w w':World}{e:Ending}(h:b=false)(hb:Below w.heap.size w w')(he:e=.panicked (qM 22)):ElemGives b w e w':=⟨hb,.inr ⟨h,he⟩⟩
theorem made_cells{m:zE}(h:kN m.2):(kY m)[0]?=some (.bool m.1)∧∀j u,(k8 m.2)[j]?=some u→(kY m)[1+j]?=some u:=⟨rfl,fun j u A=>by rw[Nat.add_comm];exact A⟩
theorem what_key{S:kz}{mk:List zE}{r:zC}{more:Nat}{m:zE}{w:World}{B s:Nat}{q:j5}(h:StateAt w B s S q)(hk:∀m∈mk,kN m.2)(hw:KP S mk r more=some m):kN m.2:=by
  unfold KP at hw
  split at hw
  ·have A:=List.mem_of_getElem? hw;unfold ZH at A
   split at A
   ·exact hk m A
   ·cases he:kC S r.1 with
    |none=>rw[he] at A;cases A
    |some e=>
     rw[he] at A;exact(h.entries _ _ he).2.keys m A
  ·cases hw
theorem ua{w:World}{B s:Nat}{S:kz}{q:j5}{i:List UInt8}{t:Int}{r:zC}(h:StateAt w B s S q)(hi:jp i)(ht:(Lit.int .i64 t).wf=true)(hr:za r):kN (jy S i t r):=by
  unfold jy
  split
  ·exact⟨ht,hi,hr.2⟩
  ·refine⟨?_,hr.1,hr.2⟩;unfold jM;cases he:kC S r.1 with
   |none=>exact(by decide:(Lit.int .i64 0).wf=true)
   |some e=>exact(h.entries _ _ he).2.time
theorem elem_any(B a s ba bo bd:Nat)(S:kz)(q:j5)(i:List UInt8)(c:kQ)(dv ov:Value)(Am:Option Addr)(cm:Nat)(mk:List zE)(x:OpD)(more:Nat)(w:World)(h:MidAt w B a s S q i c dv ov Am cm mk)(hE:ElemAt w ba bo bd a x (jy S i c.1 x.2.1))(hx:KR x)(hk:kN (jy S i c.1 x.2.1))(hr:RefIx S x.2.2.1)(hm:more≤1099511627776):
    Calls prog 98 #[.int .i64 (more:Int),.pointer (some ⟨ba,0,none⟩),.pointer (some ⟨bo,0,none⟩),.pointer (some ⟨bd,0,none⟩)] w (ElemGives (ZD S i c.1 mk x more) w):=by
  have N:=hid h;have X:=hid hE;have O:=hid hk;have HX:=hid hx;have HR:=hid hr
  have c0:w.cell? ⟨ba,0,none⟩=some (.pointer (some ⟨a,0,none⟩)):=k4 hE.pa 0;have A0:=kq hr.1;have Y:=hid (show w.rangeAt bo 34 (kn x.2.2.1) from fun j u b=>(k4 hE.po (34+j)).trans ((kp hx).2.2.1 j u b));have H:=hid (fun (u:World) (hu:MidAt u B a s S q i c dv ov Am cm mk)=>what_any B a s S q i c dv ov Am cm mk x.2.2.1 more u hu.st hu.ad hu.row hu.keys hr.1 hr.2.1 hm hu.len hr.2.2);clear h hE hk hx hr;go_enter func98,ntmps98;have f:∀(ρ:Operand→Value) (o:Oper) (y:Operand),o.op=.load 110 y→ρ y=.pointer (some ⟨bo,34,none⟩)→(execOp ρ o).run prog w=.ok (.value (.agg (kn x.2.2.1).toArray)) w:=fun ρ o y ho hx=>kc 110 _ ho hx (qV w bo 34 _ (kn x.2.2.1) _ Y.out underlying110 rfl (by rw[A0];kernel_rfl))
  have I:=hid f;clear f;cases hw:KP S mk x.2.2.1 more with
  |none=>
   have P:=hid hw;have C:Hid (ZD S i c.1 mk x more=false):=hid (by unfold ZD;rw[hw]);clear hw
   go_wp2_with (first
      |(with_reducible refine k6 ?_
        refine k5 yx (I.out _ _ _ rfl rfl) ?_)
      |(go_at_call 96;refine(H.out w N.out).mono ?_;rintro e W ⟨F,⟨m,G,_⟩|⟨_,rfl⟩⟩
        ·rw[P.out] at G;cases G
        have D:=hid F;clear F))
   exact⟨rfl,ElemGives.no C.out D.out rfl⟩
  |some m=>
   have A:=hid (what_key N.st N.keys hw);have g:=zU A.out;have P:=hid hw;have C:Hid (ZD S i c.1 mk x more=(!m.1 && decide (m.2=jy S i c.1 x.2.1))):=hid (by unfold ZD;rw[hw]);clear hw
   go_upto_region 1 with (first
      |(with_reducible refine k6 ?_
        refine k5 yx (I.out _ _ _ rfl rfl) ?_)
      |(go_at_call 96;refine(H.out w N.out).mono ?_;rintro e W ⟨F,⟨M,G,rfl⟩|⟨G,_⟩⟩
        rotate_left
        ·rw[P.out] at G;cases G
        obtain rfl:M=m:=Option.some.inj (G.symm.trans P.out);have D:=hid F;clear F G)
      |(with_reducible refine kA ?_
        refine ks yx 199 rfl (kY (false,(0,k7,0))) (makeZ_run _) ?_;intro W6 l n p;have J:=hid l;have R:=hid n;have Z:=hid p
        clear l n p)
      |(with_reducible refine kw ?_
        refine ko yx 199 _ _ rfl W.heap.size 0 [] (kY (false,(0,k7,0))) [] (kY M) 199 (.agg (kY M).toArray) rfl rfl rfl rfl (by simpa using R.out) (by rw[g];rfl) (by rw[g];kernel_rfl) (ZL _) ?_;intro d t v A1;have T:=hid (t.below (B:=W.heap.size) J.size (fun k hk e=>by have e2:k=W.heap.size:=e;omega));have K:Hid (d.heap[W.heap.size]?=some (.cells (kY M).toArray 199 (0,0))):=hid (by simpa using v);clear t v A1))
   have E:Hid (Below w.heap.size w d):=hid (D.trans ((J.trans T.out).mono D.size));obtain⟨b5,F⟩:∃z,W.heap.size=z:=⟨_,rfl⟩;rw[F] at K ⊢;have c5:d.cell? ⟨b5,0,none⟩=some (.bool M.1):=k4 K.out 0;have U:=hid (show d.rangeAt b5 1 (k8 M.2) from fun j u b=>(k4 K.out (1+j)).trans ((made_cells A.out).2 j u b));have V:=hid (show d.rangeAt bd 0 (k8 (jy S i c.1 x.2.1)) from fun j u b=>by rw[qZ];exact(k4 ((E.block bd (qX X.pd)).trans X.pd) j).trans b);generalize jy S i c.1 x.2.1=k at *;clear D J R Z T F I H;cases hd:M.1
   ·rw[hd] at c5;have Q:=hid hd;clear hd;by_cases he:M.2=k
    ·have EQ:=hid (fun (u:World)=>(Qk A.out O.out u).trans (by rw[dT he]));have L:=hid he;clear he
     go_wp2_with (first
        |(with_reducible refine k6 ?_
          refine k5 yx (ldK A.out U.out) ?_;go_frame)
        |(with_reducible refine k6 ?_
          refine k5 yx (ldK O.out V.out) ?_;go_frame)
        |(with_reducible refine kG ?_
          refine k5 yx (zS 89 _ _ _ rfl (xs:=(k8 M.2).toArray) (ys:=(k8 k).toArray) rfl rfl (r:=true) eqKey.noGuard (EQ.out _)) ?_;go_frame;try simp only[nTF])
        |(go_at_call 51;refine(JD 22 _).mono ?_;rintro e w9 ⟨rfl,rfl⟩))
     go_end0
     exact ElemGives.yes (by rw[C.out,Q.out,dT L.out];rfl) E.out rfl
    ·have EQ:=hid (fun (u:World)=>(Qk A.out O.out u).trans (by rw[dF he]));have L:=hid he;clear he
     go_wp2_with (first
        |(with_reducible refine k6 ?_
          refine k5 yx (ldK A.out U.out) ?_;go_frame)
        |(with_reducible refine k6 ?_
          refine k5 yx (ldK O.out V.out) ?_;go_frame)
        |(with_reducible refine kG ?_
          refine k5 yx (zS 89 _ _ _ rfl (xs:=(k8 M.2).toArray) (ys:=(k8 k).toArray) rfl rfl (r:=false) eqKey.noGuard (EQ.out _)) ?_;go_frame;try simp only[nTF])
        |(go_at_call 51;refine(JR 22 _).mono ?_;rintro e w9 ⟨rfl,rfl⟩))
     exact⟨rfl,ElemGives.no (by rw[C.out,Q.out,dF L.out];rfl) E.out rfl⟩
   ·rw[hd] at c5;have Q:=hid hd;clear hd
    go_wp2_with (first
       |(go_at_call 51;refine(JR 22 _).mono ?_;rintro e w9 ⟨rfl,rfl⟩))
    exact⟨rfl,ElemGives.no (by rw[C.out,Q.out];rfl) E.out rfl⟩
def claimZ:List Value:=kT ((0,k7,0),(0,k7,0),0,kM)
theorem uT:(prog.info? 135).map (fun i=>(i.zero,i.size,i.bytes))=some (some (.agg claimZ.toArray),70,120):=by kernel_rfl
theorem ur{P:Program}{ρ:Operand→Value}{o:Oper}{w:World}(t:TypeId)(x:Operand)(ho:o.op=.buildSlice t 1 #[(0,x)])(e:TypeId)(ht:P.underlying t=some (.slice e))(z:Value)(size bytes:Nat)(hinf:(P.info? e).map (fun i=>(i.zero,i.size,i.bytes))=some (some z,size,bytes))(hz1:z.cells.size=size)(hsz:0<size)(hmax:size≤16777216)
    (us:List Value) (hl:us.length=size) (hx:ρ x=.agg us.toArray):(execOp ρ o).run P w=.ok (.value (.slice (some ⟨w.heap.size,0,none⟩) 1 1)) (w.alloc (.cells us.toArray e)):=by
  have A:=Ka w t e ht z size bytes hinf hz1 hsz [.agg us.toArray] (fun v B=>by rw[List.mem_singleton.1 B];exact hl) yq (by simpa using hmax);simp only[List.flatMap_cons,List.flatMap_nil,List.append_nil,Value.cells] at A;have C:(Instr.buildSlice t 1 #[(0,.agg us.toArray)]).run P w=.ok (.slice (some ⟨w.heap.size,0,none⟩) 1 1) (w.alloc (.cells us.toArray e)):=A;unfold execOp;simp only[ho,List.map_toArray,List.map_cons,List.map_nil,hx,Sem.run_bind,C,Result.andThen_ok,Sem.run_pure]
theorem claim_any(B s:Nat)(S:kz)(q:j5)(c:kS)(w:World)(h:StateAt w B s S q)(hc:Kf c)(hl:S.2.1.length≤1073741824):
    Calls prog 100 #[.pointer (some ⟨s,0,none⟩),.agg (kT c).toArray] w fun e w'=>e=.returned (.tuple #[])∧But (fun j=>j=s∨q.vc.ownBlock=some j) w w'∧∃v',StateAt w' B s (S.1,S.2.1++[c],S.2.2) { q with vc:=v'}∧Newer w q.vc v':=by
  have O:=hid h;have r:=hid hc
  have N:=j2 hc;clear h hc;go_enter func100,ntmps100
  go_upto_region 1 with (first
    |(with_reducible refine kB ?_
      refine kr yx 135 _ rfl (kT c) _ rfl rfl (by rw[N];kernel_rfl) ?_;intro H M b A1;have F:=hid M;have C:=hid b
      clear M b A1))
  obtain⟨G,M⟩:∃G,w.heap.size=G:=⟨_,rfl⟩;rw[M] at C ⊢;have P:=hid (show q.vc.ownBlock≠some G from fun e=>by
    have h1:=(O.claims.lt G e).2;omega)
  clear M;have A:=hid (O.keep F.out);have Q:=hid (show B≤H.heap.size from qT A.low.1 (Nat.le_of_lt (qX A.box)));have I:=hid A.sep.2.2.1;have R:Hid (∀u:World,Below H.heap.size H u→(fun u=>u.cell? ⟨s,1,none⟩=some q.vc∧u.rangeAt G 0 (kT c)) u):=hid fun u Z=>
    ⟨(Z.cell (p:=⟨s,1,none⟩) (qX A.box)).trans (k4 A.box 1),fun j v t=>by rw[qZ];exact(Z.cell (p:=⟨G,j,none⟩) (qX C.out)).trans ((k4 C.out j).trans t)⟩
  refine rN 10 (fun u=>u.cell? ⟨s,1,none⟩=some q.vc∧u.rangeAt G 0 (kT c)) (R.out _ (qD _ _)) fun d=>?_
  refine tw 0 (.pointer (some ⟨s,0,none⟩)) ?_;go_frame;refine tw 1 (.pointer (some ⟨s,0,none⟩)) ?_;go_frame;refine tw 2 (.pointer (some ⟨s,0,none⟩)) ?_;go_frame;refine tw 3 (.pointer (some ⟨s,1,none⟩)) ?_;go_frame;refine tl 4 q.vc rfl d (fun w' W=>l1 underlying82 W.1) ?_;go_frame;refine tl 5 (.agg (kT c).toArray) rfl d (fun w' W=>kc 135 _ rfl (p:=⟨G,0,none⟩) rfl (qV w' G 0 _ (kT c) _ W.2 underlying135 rfl (by rw[N];kernel_rfl))) ?_;go_frame;refine ta 6 ?_;refine zB _ rfl yy (ur 82 _ rfl 135 underlying82 (.agg claimZ.toArray) 70 120 uT rfl yv yv (kT c) N rfl) ?_;have D:=hid ((qD H.heap.size H).alloc (qR _) (.cells (kT c).toArray 135));refine⟨fun _ _=>R.out _ D.out,?_⟩;go_frame;refine ta 7 ?_;refine J8 _ rfl yy ?_;refine vv _ _ 82 rfl B 135 (.agg claimZ.toArray) 70 120 underlying82 uT rfl yv q.vc S.2.1.length (ke kT S.2.1) rfl ((But.of_below (X:=NoB) D.out).own A.claims fun _ _ q=>q) ⟨H.drew.heap.size,0,none⟩ 1 1 (kT c) rfl (by rw[N]) (Km H.drew _ _) (Ju _) yk yz (by have:=Q.out;have:=D.size;omega) ?_;intro v9 w9 Y f l;have E:Hid (But (fun j=>q.vc.ownBlock=some j) H w9):=hid ((But.of_below D.out).grown f fun k e _=>e);have T:Hid ((fun u=>u.cell? ⟨s,1,none⟩=some q.vc∧u.rangeAt G 0 (kT c)) w9):=hid ⟨(E.cell (g:=s) (j:=1) (qX A.box) I.out).trans (k4 A.box 1),fun j v t=>by rw[qZ];exact(E.cell (g:=G) (j:=j) (qX C.out) P.out).trans ((k4 C.out j).trans t)⟩;have J:=hid Y;have K:=hid ((E.block s (qX A.box) I.out).trans A.box);have U:Hid (Newer w q.vc v9):=hid fun k a=>by
    rcases l with e|⟨g,e,hz⟩
    ·left
     rw[←e];exact a
    ·right
     rw[e] at a;have x:g=k:=by simpa using a
     subst x;have h1:=D.size;have h2:=F.size;omega
  obtain⟨y,z,rfl⟩:=jd Y;clear Y f l;refine⟨fun _ _=>T.out,?_⟩;go_frame;refine tw 8 (.pointer (some ⟨s,0,none⟩)) ?_;go_frame;refine tw 9 (.pointer (some ⟨s,1,none⟩)) ?_;go_frame;refine ta 10 ?_;refine kW _ rfl yy 82 _ _ rfl s 1 [.map (some q.bd)] [q.vc] [.map (some q.bc)] [.slice y (S.2.1.length+1) z] 87 (.slice y (S.2.1.length+1) z) rfl rfl rfl rfl K.out rfl yy (by intro u Z;rw[List.mem_singleton.1 Z];rfl) ?_;intro W2 m n A2;have L:=hid m;have V:=hid n
  clear m n A2;refine⟨fun h=>absurd h yv,?_⟩;go_frame;refine ku yy ?_ _;go_wp2_with fail
  go_end0
  have o:But (fun j=>j=s∨q.vc.ownBlock=some j) H W2:=(E.weak fun i _ h=>.inr h).trans L.out fun k a e=>.inl e
  have A3:W2.ownsRow B 135 70 (.slice y (S.2.1.length+1) z) (S.2.1.length+1) (ke kT S.2.1++kT c):=L.own J.out fun g hg e=>by
    obtain⟨A4,A0⟩:=kE J.out hg;have x:g=s:=e;subst x;exact jr A0 K.out yv rfl
  exact⟨rfl,(But.of_below F.out).trans o (fun i hi h=>h),_,A.putClaim r.out A3 V.out o,U.out⟩
theorem JE{w:World}{b b':Nat}{e:TypeId}{sz n:Nat}{v:Value}{xs:List Value}(h:w.ownsRow b e sz v n xs)(hb:b'≤b):w.ownsRow b' e sz v n xs:=by
  refine⟨h.1,?_⟩;rcases h.2 with D|⟨g,A,B,E,C,r⟩
  ·exact .inl D
  ·exact .inr ⟨g,A,B,E,Nat.le_trans hb C,r⟩
def PRunes(s:ByteArray)(w:World)(e:Ending)(w':World):Prop:=
  Below w.heap.size w w'∧((∃l A c,jx s=some l∧e=.returned (.tuple #[.slice A l.length c,.int .i64 0,.int .i64 0])∧w'.ownsRow w.heap.size 21 1 (.slice A l.length c) l.length (qy l))∨
    jx s=none∧∃n:Int,e=.returned (.tuple #[.slice none 0 0,.int .i64 n,.int .i64 5]))
theorem ut(s:ByteArray)(w:World)(hs:s.size≤1099511627776):Calls prog 155 #[.string s] w (PRunes s w):=by
  have Z:s.size≤maxLen:=by unfold maxLen;omega
  rcases Bool.eq_false_or_eq_true (KO s) with I|I
  ·have E:Hid (∀u:World,Calls prog 198 #[.string s] u fun e w'=>u=w'∧e=.returned (.tuple #[.int .i64 0,.int .i64 0])):=hid (fun u=>(Ua s u Z).mono fun e w' ⟨Y,X⟩=>by
     rcases X with⟨_,h⟩|⟨h,_⟩
     ·exact⟨Y,h⟩
     ·rw[I] at h;cases h)
   have M:=hid (show okFrom s 0 from I);obtain⟨J,a⟩:∃J,w.heap.size=J:=⟨_,rfl⟩;have C:=hid a;clear I a;go_enter func155,ntmps155
   go_upto_region 6 with (first
     |(go_at_call 198;refine(E.out _).mono ?_;rintro e u ⟨rfl,rfl⟩))
   go_loopw [7] (fun t7 wr=>∃(B:Nat) (l:List Nat),B≤s.size∧l.length≤B∧Hid (wr.ownsRow (w.heap.size+1) 21 1 t7 l.length (qy l))∧Hid (wr.heap[J]?=some (.stringIter s B))∧Hid (okFrom s B)∧Hid (jx s=(jA s B).map (l++ ·))∧Hid (Below w.heap.size w wr)) (fun _ wr=>s.size - wr.iterPos J)
   case atStart=>
     exact⟨0,[],by omega,by simp,hid (World.ownsRow_nil _ _ _ _),hid (by rw[←C.out];simpa using World.iter_heap w s 0),M,hid (by rw[ZQ];simp),hid ((qB _ _).alloc (qR _) _)⟩
   case round=>
     obtain⟨B,l,k,r,F,D,T,U,L⟩:=hrel;by_cases hlt:B<s.size
     ·have g:∀K,(Instr.next (.pointer (some ⟨w.heap.size,0,none⟩)) true K).run prog wr=_:=fun K=>(congrArg (fun z=>(Instr.next (.pointer (some ⟨z,0,none⟩)) true K).run prog wr) C.out).trans (Lib.run_next_any_at wr J s B K D.out hlt)
      have p:=ZA hlt;obtain⟨i,b⟩:=T.at_ hlt;have d:=hid i;have N:=hid b;have q:=decode_le s B;have G:=hid (Lib.iterAt_heap wr J s B (B+(Utf8.decode s B).2) D.out);have O:=hid (Lib.below_iterAt L.out (by rw[C.out];exact qR _) s (B+(Utf8.decode s B).2));have P:=hid (uk F.out D.out (B+(Utf8.decode s B).2));clear i b;generalize hW2:wr.iterAt J s (B+(Utf8.decode s B).2)=W2 at *;clear hW2
      go_wp2_with (at_builtin;refine J3 rfl _ _ 175 rfl (w.heap.size+1) 21 (.int .i32 0) 4 underlying175 info_i32 rfl _ _ _ rfl P.out _ _ rfl rfl ?c1 ?c2 ?c3 ?_)
      case c1=>unfold maxLen;omega
      case c2=>omega
      case c3=>have Y:=qX G.out;have X:=C.out;omega
      intro m o S R;have V:=hid (R _ _ (Nat.le_succ _) O.out);have H:=hid (((R _ _ (qR _) (qB (w.heap.size+1) W2)).block J (by have X:=C.out;omega)).trans G.out);have Q:Hid (o.ownsRow (w.heap.size+1) 21 1 m (l++[(Utf8.decode s B).1]).length (qy (l++[(Utf8.decode s B).1]))):=hid (by simpa [qy] using S);have W:Hid (jx s=(jA s (B+(Utf8.decode s B).2)).map ((l++[(Utf8.decode s B).1])++ ·)):=hid (by
        rw[U.out,KE hlt d.out];cases jA s (B+(Utf8.decode s B).2)<;>simp)
      clear S R;go_wp2_with fail
      go_roundw
      case rel=>exact⟨B+(Utf8.decode s B).2,l++[(Utf8.decode s B).1],by omega,by simp;omega,Q,H,N,W,V⟩
      case measure=>
        simp only[World.iterPos,H.out,D.out];omega
     ·have g:∀K,(Instr.next (.pointer (some ⟨w.heap.size,0,none⟩)) true K).run prog wr=_:=fun K=>(congrArg (fun z=>(Instr.next (.pointer (some ⟨z,0,none⟩)) true K).run prog wr) C.out).trans (Lib.run_next_end_at wr J s B K D.out hlt)
      go_wp2_with fail;go_ret3;obtain⟨A,c,j⟩:=jd F.out;refine⟨L.out,.inl ⟨l,A,c,by rw[U.out,KB yz];simp,?_,?_⟩⟩
      ·rw[←j];rfl
      ·rw[←j];exact JE F.out (Nat.le_succ _)
  ·have E:Hid (∀u:World,Calls prog 198 #[.string s] u fun e w'=>u=w'∧∃n:Int,e=.returned (.tuple #[.int .i64 n,.int .i64 5])):=hid (fun u=>(Ua s u Z).mono fun e w' ⟨Y,X⟩=>by
     rcases X with⟨h,_⟩|⟨_,h⟩
     ·rw[I] at h;cases h
     ·exact⟨Y,h⟩)
   have f:Hid (jx s=none):=hid (by unfold KO at I;cases hq:jx s with|none=>rfl|some l=>rw[hq] at I;cases I);clear I;go_enter func155,ntmps155
   go_wp2_with (first
     |(go_at_call 198;refine(E.out _).mono ?_;rintro e u ⟨rfl,n,rfl⟩))
   go_ret3;exact⟨qB _ _,.inr ⟨f.out,n,rfl⟩⟩
theorem kP(p:ByteArray):p.toList.isEmpty=decide (p=kM):=by
  rw[ZR,Bool.eq_iff_iff,decide_eq_true_eq,List.isEmpty_iff];constructor
  ·intro h;exact L_inj (h.trans rfl)
  ·rintro rfl;rfl
theorem absent_1(k:UInt8)(d r:zC)(t:ByteArray)(n:Int)(q:ByteArray)(w:World)(hx:KR (k,d,r,t,n,q)):
    Calls prog 249 #[.agg (opV (k,d,r,t,n,q)).toArray,Jc (true,true,true,false,false)] w fun e w'=>Below w.heap.size w w'∧e=.returned (.bool (kv (k,d,r,t,n,q) (true,true,true,false,false))):=by
  have F:=hid hx;clear hx;go_enter func249,ntmps249
  go_upto_region 1 with (first
    |(with_reducible refine kB ?_
      refine kr yx 112 _ rfl (opV (k,d,r,t,n,q)) _ rfl rfl (by rw[kH F.out];exact Kg) ?_;intro I J K O;have A:=hid J;have G:=hid K
      clear J K O)
    |(with_reducible refine kB ?_
      refine kr yx 320 _ rfl (jN (true,true,true,false,false)) _ rfl rfl ju ?_;intro H L M P;have C:=hid L;have B:=hid M
      clear L M P))
  have N:w.heap.size<I.heap.size:=(qX G.out);have D:=hid ((C.block w.heap.size N).trans G.out);have S:H.cell? ⟨I.heap.size,0,none⟩=some (.bool true):=k4 B.out 0;have T:H.cell? ⟨I.heap.size,1,none⟩=some (.bool true):=k4 B.out 1;have U:H.cell? ⟨I.heap.size,2,none⟩=some (.bool true):=k4 B.out 2;have V:H.cell? ⟨I.heap.size,3,none⟩=some (.bool false):=k4 B.out 3;have W:H.cell? ⟨I.heap.size,4,none⟩=some (.bool false):=k4 B.out 4;have X:H.cell? ⟨w.heap.size,67,none⟩=some (.string t):=(k4 D.out 67).trans (kp F.out).2.2.2.1;have Y:H.cell? ⟨w.heap.size,68,none⟩=some (.int .i64 n):=(k4 D.out 68).trans (kp F.out).2.2.2.2.1;have Z:H.cell? ⟨w.heap.size,69,none⟩=some (.string q):=(k4 D.out 69).trans (kp F.out).2.2.2.2.2;clear N;by_cases h4:n=0
  ·by_cases h5:q=kM
   ·have Q:(n == 0)=true:=by rw[h4];rfl
    have R:q.toList.isEmpty=true:=by rw[kP];exact dT h5
    have E:Hid (kv (k,d,r,t,n,q) (true,true,true,false,false)=true):=hid (by unfold kv;simp [h4,h5]);clear h4 h5;go_wp2_with fail;go_ret;exact⟨A.trans (C.mono (by have:=A.size;omega)),by rw[E.out];rfl⟩
   ·have Q:(n == 0)=true:=by rw[h4];rfl
    have R:q.toList.isEmpty=false:=by rw[kP];exact dF h5
    have E:Hid (kv (k,d,r,t,n,q) (true,true,true,false,false)=false):=hid (by unfold kv;simp [h4,h5]);clear h4 h5;go_wp2_with fail;go_ret;exact⟨A.trans (C.mono (by have:=A.size;omega)),by rw[E.out];rfl⟩
  ·have Q:(n == 0)=false:=by rw[beq_eq_false_iff_ne];exact h4
   have E:Hid (kv (k,d,r,t,n,q) (true,true,true,false,false)=false):=hid (by unfold kv;simp [h4]);clear h4;go_wp2_with fail;go_ret;exact⟨A.trans (C.mono (by have:=A.size;omega)),by rw[E.out];rfl⟩
theorem absent_2(k:UInt8)(d r:zC)(t:ByteArray)(n:Int)(q:ByteArray)(w:World)(hx:KR (k,d,r,t,n,q)):
    Calls prog 249 #[.agg (opV (k,d,r,t,n,q)).toArray,Jc (true,true,false,true,false)] w fun e w'=>Below w.heap.size w w'∧e=.returned (.bool (kv (k,d,r,t,n,q) (true,true,false,true,false))):=by
  have F:=hid hx;clear hx;go_enter func249,ntmps249
  go_upto_region 1 with (first
    |(with_reducible refine kB ?_
      refine kr yx 112 _ rfl (opV (k,d,r,t,n,q)) _ rfl rfl (by rw[kH F.out];exact Kg) ?_;intro I J K O;have A:=hid J;have G:=hid K
      clear J K O)
    |(with_reducible refine kB ?_
      refine kr yx 320 _ rfl (jN (true,true,false,true,false)) _ rfl rfl ju ?_;intro H L M P;have C:=hid L;have B:=hid M
      clear L M P))
  have N:w.heap.size<I.heap.size:=(qX G.out);have D:=hid ((C.block w.heap.size N).trans G.out);have S:H.cell? ⟨I.heap.size,0,none⟩=some (.bool true):=k4 B.out 0;have T:H.cell? ⟨I.heap.size,1,none⟩=some (.bool true):=k4 B.out 1;have U:H.cell? ⟨I.heap.size,2,none⟩=some (.bool false):=k4 B.out 2;have V:H.cell? ⟨I.heap.size,3,none⟩=some (.bool true):=k4 B.out 3;have W:H.cell? ⟨I.heap.size,4,none⟩=some (.bool false):=k4 B.out 4;have X:H.cell? ⟨w.heap.size,67,none⟩=some (.string t):=(k4 D.out 67).trans (kp F.out).2.2.2.1;have Y:H.cell? ⟨w.heap.size,68,none⟩=some (.int .i64 n):=(k4 D.out 68).trans (kp F.out).2.2.2.2.1;have Z:H.cell? ⟨w.heap.size,69,none⟩=some (.string q):=(k4 D.out 69).trans (kp F.out).2.2.2.2.2;clear N;by_cases h3:t=kM
  ·have Q:t.toList.isEmpty=true:=by rw[kP];exact dT h3
   by_cases h5:q=kM
   ·have R:q.toList.isEmpty=true:=by rw[kP];exact dT h5
    have E:Hid (kv (k,d,r,t,n,q) (true,true,false,true,false)=true):=hid (by unfold kv;simp [h3,h5]);clear h3 h5;go_wp2_with fail;go_ret;exact⟨A.trans (C.mono (by have:=A.size;omega)),by rw[E.out];rfl⟩
   ·have R:q.toList.isEmpty=false:=by rw[kP];exact dF h5
    have E:Hid (kv (k,d,r,t,n,q) (true,true,false,true,false)=false):=hid (by unfold kv;simp [h3,h5]);clear h3 h5;go_wp2_with fail;go_ret;exact⟨A.trans (C.mono (by have:=A.size;omega)),by rw[E.out];rfl⟩
  ·have Q:t.toList.isEmpty=false:=by rw[kP];exact dF h3
   have E:Hid (kv (k,d,r,t,n,q) (true,true,false,true,false)=false):=hid (by unfold kv;simp [h3]);clear h3;go_wp2_with fail;go_ret;exact⟨A.trans (C.mono (by have:=A.size;omega)),by rw[E.out];rfl⟩
theorem absent_3(k:UInt8)(d r:zC)(t:ByteArray)(n:Int)(q:ByteArray)(w:World)(hx:KR (k,d,r,t,n,q)):
    Calls prog 249 #[.agg (opV (k,d,r,t,n,q)).toArray,Jc (false,false,false,false,true)] w fun e w'=>Below w.heap.size w w'∧e=.returned (.bool (kv (k,d,r,t,n,q) (false,false,false,false,true))):=by
  have A:=hid hx;clear hx;go_enter func249,ntmps249
  go_upto_region 1 with (first
    |(with_reducible refine kB ?_
      refine kr yx 112 _ rfl (opV (k,d,r,t,n,q)) _ rfl rfl (by rw[kH A.out];exact Kg) ?_;intro L M N R;have C:=hid M;have H:=hid N
      clear M N R)
    |(with_reducible refine kB ?_
      refine kr yx 320 _ rfl (jN (false,false,false,false,true)) _ rfl rfl ju ?_;intro I O P S;have D:=hid O;have E:=hid P
      clear O P S))
  have Q:w.heap.size<L.heap.size:=(qX H.out);have B:=hid ((D.block w.heap.size Q).trans H.out);have V:I.cell? ⟨L.heap.size,0,none⟩=some (.bool false):=k4 E.out 0;have W:I.cell? ⟨L.heap.size,1,none⟩=some (.bool false):=k4 E.out 1;have X:I.cell? ⟨L.heap.size,2,none⟩=some (.bool false):=k4 E.out 2;have Y:I.cell? ⟨L.heap.size,3,none⟩=some (.bool false):=k4 E.out 3;have Z:I.cell? ⟨L.heap.size,4,none⟩=some (.bool true):=k4 E.out 4;have a:I.cell? ⟨w.heap.size,67,none⟩=some (.string t):=(k4 B.out 67).trans (kp A.out).2.2.2.1;have c:I.cell? ⟨w.heap.size,68,none⟩=some (.int .i64 n):=(k4 B.out 68).trans (kp A.out).2.2.2.2.1;have g:I.cell? ⟨w.heap.size,69,none⟩=some (.string q):=(k4 B.out 69).trans (kp A.out).2.2.2.2.2;clear Q;by_cases h1:d=kg
  ·have J:=hid (fun (u:World)=>(j7 A.1.1 kI u).trans (by rw[dT h1]));by_cases h2:r=kg
   ·have K:=hid (fun (u:World)=>(j7 A.1.2.1 kI u).trans (by rw[dT h2]));by_cases h3:t=kM
    ·have T:t.toList.isEmpty=true:=by rw[kP];exact dT h3
     by_cases h4:n=0
     focus
       have U:(n == 0)=true:=by rw[h4];rfl
       have F:Hid (kv (k,d,r,t,n,q) (false,false,false,false,true)=true):=hid (by unfold kv;simp [h1,h2,h3,h4])
     rotate_left
     focus
       have U:(n == 0)=false:=by rw[beq_eq_false_iff_ne];exact h4
       have F:Hid (kv (k,d,r,t,n,q) (false,false,false,false,true)=false):=hid (by unfold kv;simp [h1,h2,h3,h4])
     all_goals
       clear h1 h2 h3 h4
       go_wp2_with (first
         |(with_reducible refine k6 ?_
           refine k5 yx (ldR (b:=w.heap.size) (f:=1) (r:=d) A.1.1 (fun j u G=>(k4 B.out (1+j)).trans ((kp A.out).2.1 j u G))) ?_)
         |(with_reducible refine kG ?_
           refine k5 yx (zS 110 _ _ _ rfl (xs:=(kn d).toArray) (ys:=(kn kg).toArray) rfl rfl (r:=true) eqRef.noGuard (J.out _)) ?_)
         |(with_reducible refine k6 ?_
           refine k5 yx (ldR (b:=w.heap.size) (f:=34) (r:=r) A.1.2.1 (fun j u G=>(k4 B.out (34+j)).trans ((kp A.out).2.2.1 j u G))) ?_)
         |(with_reducible refine kG ?_
           refine k5 yx (zS 110 _ _ _ rfl (xs:=(kn r).toArray) (ys:=(kn kg).toArray) rfl rfl (r:=true) eqRef.noGuard (K.out _)) ?_)
         |(with_reducible refine kJ ?_
           refine k5 yx (kj 110 #[] rfl (jS _)) ?_))
       go_ret;exact⟨C.trans (D.mono (by have:=C.size;omega)),by rw[F.out];rfl⟩
    ·have T:t.toList.isEmpty=false:=by rw[kP];exact dF h3
     have F:Hid (kv (k,d,r,t,n,q) (false,false,false,false,true)=false):=hid (by unfold kv;simp [h1,h2,h3]);clear h1 h2 h3
     go_wp2_with (first
       |(with_reducible refine k6 ?_
         refine k5 yx (ldR (b:=w.heap.size) (f:=1) (r:=d) A.1.1 (fun j u G=>(k4 B.out (1+j)).trans ((kp A.out).2.1 j u G))) ?_)
       |(with_reducible refine kG ?_
         refine k5 yx (zS 110 _ _ _ rfl (xs:=(kn d).toArray) (ys:=(kn kg).toArray) rfl rfl (r:=true) eqRef.noGuard (J.out _)) ?_)
       |(with_reducible refine k6 ?_
         refine k5 yx (ldR (b:=w.heap.size) (f:=34) (r:=r) A.1.2.1 (fun j u G=>(k4 B.out (34+j)).trans ((kp A.out).2.2.1 j u G))) ?_)
       |(with_reducible refine kG ?_
         refine k5 yx (zS 110 _ _ _ rfl (xs:=(kn r).toArray) (ys:=(kn kg).toArray) rfl rfl (r:=true) eqRef.noGuard (K.out _)) ?_)
       |(with_reducible refine kJ ?_
         refine k5 yx (kj 110 #[] rfl (jS _)) ?_))
     go_ret;exact⟨C.trans (D.mono (by have:=C.size;omega)),by rw[F.out];rfl⟩
   ·have K:=hid (fun (u:World)=>(j7 A.1.2.1 kI u).trans (by rw[dF h2]));have F:Hid (kv (k,d,r,t,n,q) (false,false,false,false,true)=false):=hid (by unfold kv;simp [h1,h2]);clear h1 h2
    go_wp2_with (first
      |(with_reducible refine k6 ?_
        refine k5 yx (ldR (b:=w.heap.size) (f:=1) (r:=d) A.1.1 (fun j u G=>(k4 B.out (1+j)).trans ((kp A.out).2.1 j u G))) ?_)
      |(with_reducible refine kG ?_
        refine k5 yx (zS 110 _ _ _ rfl (xs:=(kn d).toArray) (ys:=(kn kg).toArray) rfl rfl (r:=true) eqRef.noGuard (J.out _)) ?_)
      |(with_reducible refine k6 ?_
        refine k5 yx (ldR (b:=w.heap.size) (f:=34) (r:=r) A.1.2.1 (fun j u G=>(k4 B.out (34+j)).trans ((kp A.out).2.2.1 j u G))) ?_)
      |(with_reducible refine kG ?_
        refine k5 yx (zS 110 _ _ _ rfl (xs:=(kn r).toArray) (ys:=(kn kg).toArray) rfl rfl (r:=false) eqRef.noGuard (K.out _)) ?_)
      |(with_reducible refine kJ ?_
        refine k5 yx (kj 110 #[] rfl (jS _)) ?_))
    go_ret;exact⟨C.trans (D.mono (by have:=C.size;omega)),by rw[F.out];rfl⟩
  ·have J:=hid (fun (u:World)=>(j7 A.1.1 kI u).trans (by rw[dF h1]));have F:Hid (kv (k,d,r,t,n,q) (false,false,false,false,true)=false):=hid (by unfold kv;simp [h1]);clear h1
   go_wp2_with (first
     |(with_reducible refine k6 ?_
       refine k5 yx (ldR (b:=w.heap.size) (f:=1) (r:=d) A.1.1 (fun j u G=>(k4 B.out (1+j)).trans ((kp A.out).2.1 j u G))) ?_)
     |(with_reducible refine kG ?_
       refine k5 yx (zS 110 _ _ _ rfl (xs:=(kn d).toArray) (ys:=(kn kg).toArray) rfl rfl (r:=false) eqRef.noGuard (J.out _)) ?_)
     |(with_reducible refine kJ ?_
       refine k5 yx (kj 110 #[] rfl (jS _)) ?_))
   go_ret;exact⟨C.trans (D.mono (by have:=C.size;omega)),by rw[F.out];rfl⟩
theorem absent_4(k:UInt8)(d r:zC)(t:ByteArray)(n:Int)(q:ByteArray)(w:World)(hx:KR (k,d,r,t,n,q)):
    Calls prog 249 #[.agg (opV (k,d,r,t,n,q)).toArray,Jc (true,false,false,false,true)] w fun e w'=>Below w.heap.size w w'∧e=.returned (.bool (kv (k,d,r,t,n,q) (true,false,false,false,true))):=by
  have A:=hid hx;clear hx;go_enter func249,ntmps249
  go_upto_region 1 with (first
    |(with_reducible refine kB ?_
      refine kr yx 112 _ rfl (opV (k,d,r,t,n,q)) _ rfl rfl (by rw[kH A.out];exact Kg) ?_;intro J L M Q;have B:=hid L;have G:=hid M
      clear L M Q)
    |(with_reducible refine kB ?_
      refine kr yx 320 _ rfl (jN (true,false,false,false,true)) _ rfl rfl ju ?_;intro H N O R;have E:=hid N;have D:=hid O
      clear N O R))
  have P:w.heap.size<J.heap.size:=(qX G.out);have C:=hid ((E.block w.heap.size P).trans G.out);have U:H.cell? ⟨J.heap.size,0,none⟩=some (.bool true):=k4 D.out 0;have V:H.cell? ⟨J.heap.size,1,none⟩=some (.bool false):=k4 D.out 1;have W:H.cell? ⟨J.heap.size,2,none⟩=some (.bool false):=k4 D.out 2;have X:H.cell? ⟨J.heap.size,3,none⟩=some (.bool false):=k4 D.out 3;have Y:H.cell? ⟨J.heap.size,4,none⟩=some (.bool true):=k4 D.out 4;have Z:H.cell? ⟨w.heap.size,67,none⟩=some (.string t):=(k4 C.out 67).trans (kp A.out).2.2.2.1;have a:H.cell? ⟨w.heap.size,68,none⟩=some (.int .i64 n):=(k4 C.out 68).trans (kp A.out).2.2.2.2.1;have c:H.cell? ⟨w.heap.size,69,none⟩=some (.string q):=(k4 C.out 69).trans (kp A.out).2.2.2.2.2;clear P;by_cases h2:r=kg
  ·have I:=hid (fun (u:World)=>(j7 A.1.2.1 kI u).trans (by rw[dT h2]));by_cases h3:t=kM
   ·have S:t.toList.isEmpty=true:=by rw[kP];exact dT h3
    by_cases h4:n=0
    focus
      have T:(n == 0)=true:=by rw[h4];rfl
      have F:Hid (kv (k,d,r,t,n,q) (true,false,false,false,true)=true):=hid (by unfold kv;simp [h2,h3,h4])
    rotate_left
    focus
      have T:(n == 0)=false:=by rw[beq_eq_false_iff_ne];exact h4
      have F:Hid (kv (k,d,r,t,n,q) (true,false,false,false,true)=false):=hid (by unfold kv;simp [h2,h3,h4])
    all_goals
      clear h2 h3 h4
      go_wp2_with (first
        |(with_reducible refine k6 ?_
          refine k5 yx (ldR (b:=w.heap.size) (f:=34) (r:=r) A.1.2.1 (fun j u K=>(k4 C.out (34+j)).trans ((kp A.out).2.2.1 j u K))) ?_)
        |(with_reducible refine kG ?_
          refine k5 yx (zS 110 _ _ _ rfl (xs:=(kn r).toArray) (ys:=(kn kg).toArray) rfl rfl (r:=true) eqRef.noGuard (I.out _)) ?_)
        |(with_reducible refine kJ ?_
          refine k5 yx (kj 110 #[] rfl (jS _)) ?_))
      go_ret;exact⟨B.trans (E.mono (by have:=B.size;omega)),by rw[F.out];rfl⟩
   ·have S:t.toList.isEmpty=false:=by rw[kP];exact dF h3
    have F:Hid (kv (k,d,r,t,n,q) (true,false,false,false,true)=false):=hid (by unfold kv;simp [h2,h3]);clear h2 h3
    go_wp2_with (first
      |(with_reducible refine k6 ?_
        refine k5 yx (ldR (b:=w.heap.size) (f:=34) (r:=r) A.1.2.1 (fun j u K=>(k4 C.out (34+j)).trans ((kp A.out).2.2.1 j u K))) ?_)
      |(with_reducible refine kG ?_
        refine k5 yx (zS 110 _ _ _ rfl (xs:=(kn r).toArray) (ys:=(kn kg).toArray) rfl rfl (r:=true) eqRef.noGuard (I.out _)) ?_)
      |(with_reducible refine kJ ?_
        refine k5 yx (kj 110 #[] rfl (jS _)) ?_))
    go_ret;exact⟨B.trans (E.mono (by have:=B.size;omega)),by rw[F.out];rfl⟩
  ·have I:=hid (fun (u:World)=>(j7 A.1.2.1 kI u).trans (by rw[dF h2]));have F:Hid (kv (k,d,r,t,n,q) (true,false,false,false,true)=false):=hid (by unfold kv;simp [h2]);clear h2
   go_wp2_with (first
     |(with_reducible refine k6 ?_
       refine k5 yx (ldR (b:=w.heap.size) (f:=34) (r:=r) A.1.2.1 (fun j u K=>(k4 C.out (34+j)).trans ((kp A.out).2.2.1 j u K))) ?_)
     |(with_reducible refine kG ?_
       refine k5 yx (zS 110 _ _ _ rfl (xs:=(kn r).toArray) (ys:=(kn kg).toArray) rfl rfl (r:=false) eqRef.noGuard (I.out _)) ?_)
     |(with_reducible refine kJ ?_
       refine k5 yx (kj 110 #[] rfl (jS _)) ?_))
   go_ret;exact⟨B.trans (E.mono (by have:=B.size;omega)),by rw[F.out];rfl⟩
theorem absent_5(k:UInt8)(d r:zC)(t:ByteArray)(n:Int)(q:ByteArray)(w:World)(hx:KR (k,d,r,t,n,q)):
    Calls prog 249 #[.agg (opV (k,d,r,t,n,q)).toArray,Jc (true,false,false,false,false)] w fun e w'=>Below w.heap.size w w'∧e=.returned (.bool (kv (k,d,r,t,n,q) (true,false,false,false,false))):=by
  have A:=hid hx;clear hx;go_enter func249,ntmps249
  go_upto_region 1 with (first
    |(with_reducible refine kB ?_
      refine kr yx 112 _ rfl (opV (k,d,r,t,n,q)) _ rfl rfl (by rw[kH A.out];exact Kg) ?_;intro K L M Q;have B:=hid L;have G:=hid M
      clear L M Q)
    |(with_reducible refine kB ?_
      refine kr yx 320 _ rfl (jN (true,false,false,false,false)) _ rfl rfl ju ?_;intro H N O R;have D:=hid N;have E:=hid O
      clear N O R))
  have P:w.heap.size<K.heap.size:=(qX G.out);have C:=hid ((D.block w.heap.size P).trans G.out);have V:H.cell? ⟨K.heap.size,0,none⟩=some (.bool true):=k4 E.out 0;have W:H.cell? ⟨K.heap.size,1,none⟩=some (.bool false):=k4 E.out 1;have X:H.cell? ⟨K.heap.size,2,none⟩=some (.bool false):=k4 E.out 2;have Y:H.cell? ⟨K.heap.size,3,none⟩=some (.bool false):=k4 E.out 3;have Z:H.cell? ⟨K.heap.size,4,none⟩=some (.bool false):=k4 E.out 4;have a:H.cell? ⟨w.heap.size,67,none⟩=some (.string t):=(k4 C.out 67).trans (kp A.out).2.2.2.1;have c:H.cell? ⟨w.heap.size,68,none⟩=some (.int .i64 n):=(k4 C.out 68).trans (kp A.out).2.2.2.2.1;have g:H.cell? ⟨w.heap.size,69,none⟩=some (.string q):=(k4 C.out 69).trans (kp A.out).2.2.2.2.2;clear P;by_cases h2:r=kg
  ·have I:=hid (fun (u:World)=>(j7 A.1.2.1 kI u).trans (by rw[dT h2]));by_cases h3:t=kM
   ·have S:t.toList.isEmpty=true:=by rw[kP];exact dT h3
    by_cases h4:n=0
    ·have T:(n == 0)=true:=by rw[h4];rfl
     by_cases h5:q=kM
     focus
       have U:q.toList.isEmpty=true:=by rw[kP];exact dT h5
       have F:Hid (kv (k,d,r,t,n,q) (true,false,false,false,false)=true):=hid (by unfold kv;simp [h2,h3,h4,h5])
     rotate_left
     focus
       have U:q.toList.isEmpty=false:=by rw[kP];exact dF h5
       have F:Hid (kv (k,d,r,t,n,q) (true,false,false,false,false)=false):=hid (by unfold kv;simp [h2,h3,h4,h5])
     all_goals
       clear h2 h3 h4 h5
       go_wp2_with (first
         |(with_reducible refine k6 ?_
           refine k5 yx (ldR (b:=w.heap.size) (f:=34) (r:=r) A.1.2.1 (fun j u J=>(k4 C.out (34+j)).trans ((kp A.out).2.2.1 j u J))) ?_)
         |(with_reducible refine kG ?_
           refine k5 yx (zS 110 _ _ _ rfl (xs:=(kn r).toArray) (ys:=(kn kg).toArray) rfl rfl (r:=true) eqRef.noGuard (I.out _)) ?_)
         |(with_reducible refine kJ ?_
           refine k5 yx (kj 110 #[] rfl (jS _)) ?_))
       go_ret;exact⟨B.trans (D.mono (by have:=B.size;omega)),by rw[F.out];rfl⟩
    ·have T:(n == 0)=false:=by rw[beq_eq_false_iff_ne];exact h4
     have F:Hid (kv (k,d,r,t,n,q) (true,false,false,false,false)=false):=hid (by unfold kv;simp [h2,h3,h4]);clear h2 h3 h4
     go_wp2_with (first
       |(with_reducible refine k6 ?_
         refine k5 yx (ldR (b:=w.heap.size) (f:=34) (r:=r) A.1.2.1 (fun j u J=>(k4 C.out (34+j)).trans ((kp A.out).2.2.1 j u J))) ?_)
       |(with_reducible refine kG ?_
         refine k5 yx (zS 110 _ _ _ rfl (xs:=(kn r).toArray) (ys:=(kn kg).toArray) rfl rfl (r:=true) eqRef.noGuard (I.out _)) ?_)
       |(with_reducible refine kJ ?_
         refine k5 yx (kj 110 #[] rfl (jS _)) ?_))
     go_ret;exact⟨B.trans (D.mono (by have:=B.size;omega)),by rw[F.out];rfl⟩
   ·have S:t.toList.isEmpty=false:=by rw[kP];exact dF h3
    have F:Hid (kv (k,d,r,t,n,q) (true,false,false,false,false)=false):=hid (by unfold kv;simp [h2,h3]);clear h2 h3
    go_wp2_with (first
      |(with_reducible refine k6 ?_
        refine k5 yx (ldR (b:=w.heap.size) (f:=34) (r:=r) A.1.2.1 (fun j u J=>(k4 C.out (34+j)).trans ((kp A.out).2.2.1 j u J))) ?_)
      |(with_reducible refine kG ?_
        refine k5 yx (zS 110 _ _ _ rfl (xs:=(kn r).toArray) (ys:=(kn kg).toArray) rfl rfl (r:=true) eqRef.noGuard (I.out _)) ?_)
      |(with_reducible refine kJ ?_
        refine k5 yx (kj 110 #[] rfl (jS _)) ?_))
    go_ret;exact⟨B.trans (D.mono (by have:=B.size;omega)),by rw[F.out];rfl⟩
  ·have I:=hid (fun (u:World)=>(j7 A.1.2.1 kI u).trans (by rw[dF h2]));have F:Hid (kv (k,d,r,t,n,q) (true,false,false,false,false)=false):=hid (by unfold kv;simp [h2]);clear h2
   go_wp2_with (first
     |(with_reducible refine k6 ?_
       refine k5 yx (ldR (b:=w.heap.size) (f:=34) (r:=r) A.1.2.1 (fun j u J=>(k4 C.out (34+j)).trans ((kp A.out).2.2.1 j u J))) ?_)
     |(with_reducible refine kG ?_
       refine k5 yx (zS 110 _ _ _ rfl (xs:=(kn r).toArray) (ys:=(kn kg).toArray) rfl rfl (r:=false) eqRef.noGuard (I.out _)) ?_)
     |(with_reducible refine kJ ?_
       refine k5 yx (kj 110 #[] rfl (jS _)) ?_))
   go_ret;exact⟨B.trans (D.mono (by have:=B.size;omega)),by rw[F.out];rfl⟩
theorem jF(x:OpD)(p:qo)(k:UInt8)(w:World)(hx:KR x)(hp:kD k=some p):
    Calls prog 249 #[.agg (opV x).toArray,Jc p] w fun e w'=>Below w.heap.size w w'∧e=.returned (.bool (kv x p)):=by
  obtain⟨A,d,r,t,n,q⟩:=x;rcases Zj hp with⟨_,rfl⟩|⟨_,rfl⟩|⟨_,rfl⟩|⟨_,rfl⟩|⟨_,rfl⟩
  ·exact absent_1 A d r t n q w hx
  ·exact absent_2 A d r t n q w hx
  ·exact absent_3 A d r t n q w hx
  ·exact absent_4 A d r t n q w hx
  ·exact absent_5 A d r t n q w hx
def makeZ:List Value:=kY (false,(0,k7,0))
theorem Jw:(prog.info? 199).map (fun i=>(i.zero,i.size,i.bytes))=some (some (.agg makeZ.toArray),35,56):=by kernel_rfl
theorem make_builtT(w:World):(Instr.build 199 #[(0,.bool true)]).run prog w=.ok (.agg (kY (true,(0,k7,0))).toArray) w:=by kernel_rfl
theorem QR(k:kF)(hk:kN k)(w:World):(Instr.build 199 #[(1,.agg (k8 k).toArray)]).run prog w=.ok (.agg (kY (false,k)).toArray) w:=by
  obtain⟨j,B,C,_,_⟩:=info_parts Jw;have h:=zl (P:=prog) B underlying199 C [[.bool false],k8 (0,k7,0)] rfl (places:=[(0,1),(1,34)]) yy yy [(1,.agg (k8 k).toArray)] (by
    intro q A;simp only[List.mem_cons,List.not_mem_nil,or_false] at A;subst A;exact⟨by show 1<2;omega,by show (k8 k).toArray.size=34;rw[List.size_toArray,k9 hk]⟩)
  have D:=run_build (P:=prog) w 199 #[(1,.agg (k8 k).toArray)] _ h;refine D.trans ?_;simp [kY,Value.cells]
theorem ElemAt.grown{w w':World}{ba bo bd a:Nat}{x:OpD}{k:kF}{r:Nat}(h:ElemAt w ba bo bd a x k)(hg:w.grownBy w' (some r))(hr:∀{j:Nat},j=r→∀cur t,w.heap[j]?=some (.cells cur t (0,0))→False):ElemAt w' ba bo bd a x k:=
  ⟨(hg.block ba (qX h.pa) fun e=>hr (Option.some.inj e) _ _ h.pa).trans h.pa,(hg.block bo (qX h.po) fun e=>hr (Option.some.inj e) _ _ h.po).trans h.po,(hg.block bd (qX h.pd) fun e=>hr (Option.some.inj e) _ _ h.pd).trans h.pd⟩
theorem ElemAt.but{X:Nat→Prop}{w w':World}{ba bo bd a:Nat}{x:OpD}{k:kF}(h:ElemAt w ba bo bd a x k)(hb:But X w w')(hx:∀j,X j→∃cur t,w.heap[j]?=some (.cells cur t (0,0))∧(t=127∨t=199)):ElemAt w' ba bo bd a x k:=by
  have A:∀{j:Nat} {cur:Array Value} {t:TypeId},w.heap[j]?=some (.cells cur t (0,0))→t≠127→t≠199→¬X j:=fun B F G C=>by
    obtain⟨H,I,D,E⟩:=hx _ C;exact jr B D (by rcases E with rfl|rfl<;>assumption) rfl
  exact⟨(hb.block ba (qX h.pa) (A h.pa yv yv)).trans h.pa,(hb.block bo (qX h.po) (A h.po yv yv)).trans h.po,(hb.block bd (qX h.pd) (A h.pd yv yv)).trans h.pd⟩
def MkTo(w:World)(a s B0:Nat)(i:List UInt8)(c:kQ)(dv ov vm:Value)(mk2:List zE)(w':World):Prop:=
  But (fun k=>k=a∨vm.ownBlock=some k) w w'∧∃Am cm,AdderAt w' a s i c dv ov (.slice Am mk2.length cm)∧w'.ownsRow B0 199 35 (.slice Am mk2.length cm) mk2.length (ke kY mk2)∧Newer w vm (.slice Am mk2.length cm)
theorem MkTo.same{w w':World}{a s B0:Nat}{i:List UInt8}{c:kQ}{dv ov:Value}{Am:Option Addr}{cm:Nat}{mk:List zE}(hA:AdderAt w a s i c dv ov (.slice Am mk.length cm))(hr:w.ownsRow B0 199 35 (.slice Am mk.length cm) mk.length (ke kY mk))(hb:Below w.heap.size w w'):MkTo w a s B0 i c dv ov (.slice Am mk.length cm) mk w':=
  ⟨But.of_below hb,Am,cm,hA.keep hb,(But.of_below (X:=NoB) hb).own hr (fun _ _ q=>q),Newer.refl _ _⟩
def FitGives(S:kz)(w:World)(a s B0:Nat)(i:List UInt8)(c:kQ)(dv ov vm:Value)(mk:List zE)(x:OpD)(e:Ending)(w':World):Prop:=
  (∃mk2,KU S i c.1 mk x=some mk2∧e=.returned (.tuple #[])∧MkTo w a s B0 i c dv ov vm mk2 w')∨(KU S i c.1 mk x=none∧e=.panicked (qM 22)∧Below w.heap.size w w')
theorem ex_madeDoc{ρ:Operand→Value}{o:Oper}{w:World}{x:Operand}{d:Bool}{l:List Value}(ho:o.op=.field 199 x 0)(hx:ρ x=.agg (.bool d::l).toArray):(execOp ρ o).run prog w=.ok (.value (.bool d)) w:=by
  unfold execOp;simp only[ho,hx]
  kernel_rfl
theorem AdderAt.put{w w':World}{a s:Nat}{i:List UInt8}{c:kQ}{dv ov vm v2:Value}(h:AdderAt w a s i c dv ov vm):∃pre:List Value,pre.length=37∧w.heap[a]?=some (.cells (pre++([vm]++[])).toArray 127 (0,0))∧∀w':World,w'.heap[a]?=some (.cells (pre++([v2]++[])).toArray 127 (0,0))→AdderAt w' a s i c dv ov v2:=by
  have A:(idV i).length=32:=by rw[kf];exact h.id
  refine⟨Value.pointer (some ⟨s,0,none⟩)::(idV i++[.int .i64 c.1,dv,.string c.2.2.1,ov]),by simp [A],?_,fun w' B=>⟨?_,h.id⟩⟩
  ·rw[h.box];simp
  ·rw[B];simp
theorem uU{α:Type}(enc:α→List Value)(l:List α)(x:α):ke enc (l++[x])=ke enc l++enc x:=by simp [ke]
theorem fit_create(B0 B a s:Nat)(S:kz)(q:j5)(i:List UInt8)(c:kQ)(dv ov:Value)(Am:Option Addr)(cm:Nat)(mk:List zE)(x:OpD)(w:World)(h:MidAt w B a s S q i c dv ov Am cm mk)(hrow:w.ownsRow B0 199 35 (.slice Am mk.length cm) mk.length (ke kY mk))(hB0:B0≤w.heap.size)(hx:KR x)(hlm:mk.length≤1073741824)(h3:x.1=3):
    Calls prog 52 #[.pointer (some ⟨a,0,none⟩),.agg (opV x).toArray] w (FitGives S w a s B0 i c dv ov (.slice Am mk.length cm) mk x):=by
  have HM:=hid h;have HX:=hid hx;have N:=hid hrow
  have Af:=kH hx;have An:=qX h.ad.box;clear h hx hrow;go_enter func52,ntmps52
  go_upto_region 1 with (first
    |(with_reducible refine kB ?_
      refine kr yx 125 _ rfl [.pointer (some ⟨a,0,none⟩)] _ rfl rfl yy ?_;intro W0 A0 A1 A2;have E:=hid A0;have F:=hid A1;have Y:=hid A2
      clear A0 A1 A2)
    |(with_reducible refine kB ?_
      refine kr yx 112 _ rfl (opV x) _ rfl rfl (by rw[Af];kernel_rfl) ?_;intro K A3 A4 A5;have G:=hid A3;have O:=hid A4;have Z:=hid A5
      clear A3 A4 A5))
  obtain⟨y,U⟩:∃z,w.heap.size=z:=⟨_,rfl⟩;obtain⟨b3,A6⟩:∃z,W0.heap.size=z:=⟨_,rfl⟩;have C:=hid (E.trans (G.mono E.size));have H:=hid ((G.block w.heap.size (qX F.out)).trans F.out);rw[U] at H ⊢;rw[A6] at O ⊢;have b:=hid (show w.heap.size≤y by omega);have Ae:=hid (show w.heap.size≤b3 by have:=E.size;omega);have A:=hid (HM.keep C.out);have I:=hid ((But.of_below (X:=NoB) C.out).own N.out fun _ _ q=>q);clear E G Y Z U A6 F;have k0:K.cell? ⟨b3,0,none⟩=some (.int .u8 (x.1.toNat:Int)):=(k4 O.out 0).trans (kp HX.out).1;have ek:(x.1.toNat:Int)=3:=by rw[h3];rfl
  rw[ek] at k0;have d:Hid (KU S i c.1 mk x=some (mk++[(true,(0,k7,0))])):=hid (by unfold KU;rw[if_pos h3]);clear ek h3
  go_upto_region 2 with fail
  clear k0;have P:=hid (show (Value.slice Am mk.length cm).ownBlock≠some a from fun e=>by
    obtain⟨cc,Ag⟩:=kE I.out e;exact jr Ag A.ad.box yv rfl)
  have f:=hid (show ∀k,(Value.slice Am mk.length cm).ownBlock=some k→k<w.heap.size from fun k M=>(N.lt k M).2);have l:Hid (B0≤K.heap.size):=hid (qT hB0 C.size);have V:Hid (∀u:World,But (fun k=>(Value.slice Am mk.length cm).ownBlock=some k) K u→u.cell? ⟨y,0,none⟩=some (.pointer (some ⟨a,0,none⟩))∧u.cell? ⟨a,37,none⟩=some (.slice Am mk.length cm)):=hid fun u hu=>by
    refine⟨(hu.cell (g:=y) (j:=0) (qX H.out) fun e=>?_).trans (k4 H.out 0),(hu.cell (g:=a) (j:=37) (qX A.ad.box) P.out).trans (A.ad.rest 4)⟩;have:=f.out y e;have:=b.out;omega
  refine rN 10 (fun u=>But (fun k=>(Value.slice Am mk.length cm).ownBlock=some k) K u) (But.of_below (qD _ _)) fun p=>?_
  refine tl 0 (.pointer (some ⟨a,0,none⟩)) rfl p (fun w' L=>l1 underlying125 (V.out w' L).1) ?_;go_frame;refine tl 1 (.pointer (some ⟨a,0,none⟩)) rfl p (fun w' L=>l1 underlying125 (V.out w' L).1) ?_;go_frame;refine tw 2 (.pointer (some ⟨a,0,none⟩)) ?_;go_frame;refine tw 3 (.pointer (some ⟨a,37,none⟩)) ?_;go_frame;refine tl 4 (.slice Am mk.length cm) rfl p (fun w' L=>l1 underlying103 (V.out w' L).2) ?_;go_frame;refine tk 5 (.agg (kY (true,(0,k7,0))).toArray) rfl (fun w' L=>kj 199 _ rfl (by simp only[List.map_toArray,List.map_cons,List.map_nil];exact make_builtT _)) ?_;go_frame;refine ta 6 ?_;refine zB _ rfl yy (ur 103 _ rfl 199 underlying103 (.agg makeZ.toArray) 35 56 Jw rfl yv yv (kY (true,(0,k7,0))) (show (kY (true,(0,k7,0))).length=35 from rfl) rfl) ?_;have D:=hid ((qD K.heap.size K).alloc (qR _) (.cells (kY (true,(0,k7,0))).toArray 199));refine⟨fun _ _=>But.of_below D.out,?_⟩;go_frame;refine ta 7 ?_;refine J8 _ rfl yy ?_;refine vv _ _ 103 rfl B0 199 (.agg makeZ.toArray) 35 56 underlying103 Jw rfl yv (.slice Am mk.length cm) mk.length (ke kY mk) rfl ((But.of_below (X:=NoB) D.out).own I.out fun _ _ q=>q) ⟨K.drew.heap.size,0,none⟩ 1 1 (kY (true,(0,k7,0))) rfl (by rw[(show (kY (true,(0,k7,0))).length=35 from rfl)]) (Km K.drew _ _) (ZL _) yk yz (by have:=l.out;have:=D.size;omega) ?_;intro v9 w9 r A7 A8;have J:Hid (But (fun k=>(Value.slice Am mk.length cm).ownBlock=some k) K w9):=hid ((But.of_below D.out).grown A7 fun k e _=>e);have Q:=hid r;have m:Hid (Newer K (.slice Am mk.length cm) v9):=hid fun k M=>by
    rcases A8 with e|⟨g,e,hz⟩
    ·left
     rw[←e];exact M
    ·right
     rw[e] at M;have e2:g=k:=by simpa using M
     subst e2;have h1:=D.size;omega
  have R:=hid ((J.block a (qX A.ad.box) P.out).trans A.ad.box);obtain⟨t,v,rfl⟩:=jd r;clear r A7 A8;refine⟨fun _ _=>J.out,?_⟩;go_frame;refine tw 8 (.pointer (some ⟨a,0,none⟩)) ?_;go_frame;refine tw 9 (.pointer (some ⟨a,37,none⟩)) ?_;go_frame;obtain⟨Ah,Ai,Aa,Ab⟩:=(AdderAt.mk (dv:=dv) (ov:=ov) (c:=c) R.out A.ad.id).put (w':=w9) (v2:=.slice t (mk.length+1) v);have n:=hid Aa;have o:=hid Ab
  clear Aa Ab;refine ta 10 ?_;refine kW _ rfl yy 103 _ _ rfl a 37 Ah [.slice Am mk.length cm] [] [.slice t (mk.length+1) v] 127 (.slice t (mk.length+1) v) rfl Ai.symm rfl rfl n.out rfl yy (by intro u hu;rw[List.mem_singleton.1 hu];rfl) ?_;intro W2 U Ac Aj;have T:=hid U;have W:=hid Ac
  clear U Ac Aj;refine⟨fun h=>absurd h yv,?_⟩;go_frame;refine ku yy ?_ _;go_wp2_with fail;refine bodyPost_ret (results_none yy _ _ _) rfl ?_;have Ak:But (fun k=>k=a∨(Value.slice Am mk.length cm).ownBlock=some k) K W2:=(J.weak fun _ _ h=>.inr h).trans T.out fun k M e=>.inl e
  have Al:W2.ownsRow B0 199 35 (.slice t (mk.length+1) v) (mk.length+1) (ke kY mk++kY (true,(0,k7,0))):=T.own Q.out fun g hg e=>by
    obtain⟨Ao,Ad⟩:=kE Q.out hg;have e2:g=a:=e;subst e2;exact jr Ad R.out yv rfl
  refine .inl ⟨_,d.out,rfl,(But.of_below C.out).trans Ak (fun j hj h=>h),t,v,?_,?_,fun k M=>?_⟩
  ·rw[List.length_append,List.length_singleton];exact o.out W2 W.out
  ·rw[List.length_append,List.length_singleton,uU];exact Al
  ·rw[List.length_append,List.length_singleton] at M;rcases m.out k M with e|e
   ·exact .inl e
   ·exact .inr (qT C.size e)
theorem fit_other(B0 B a s:Nat)(S:kz)(q:j5)(i:List UInt8)(c:kQ)(dv ov:Value)(Am:Option Addr)(cm:Nat)(mk:List zE)(x:OpD)(w:World)(h:MidAt w B a s S q i c dv ov Am cm mk)(hrow:w.ownsRow B0 199 35 (.slice Am mk.length cm) mk.length (ke kY mk))(hB0:B0≤w.heap.size)(hx:KR x)(hlm:mk.length≤1073741824)(hn3:x.1≠3)(htm:(Lit.int .i64 c.1).wf=true)(hd:RefIx S x.2.1)(ha:RefIx S x.2.2.1)(htx:x.2.2.2.1.size≤1073741824)(htt:KO x.2.2.2.1=true)(hct:x.2.2.2.2.1≤1099511627776):
    Calls prog 52 #[.pointer (some ⟨a,0,none⟩),.agg (opV x).toArray] w (FitGives S w a s B0 i c dv ov (.slice Am mk.length cm) mk x):=by
  have Ae:=hid hd;have Ba:=hid ha
  have BW:∀(fn:Fn) (first cap:Array Value) (w:World),(Instr.makeFunc fn first cap).run prog w=.ok (.func fn first cap) w:=fun _ _ _ _=>rfl
  clear hd ha;have HM:=hid h;have J:=hid hx;have Ag:=hid hrow
  have BR:=kH hx;have BX:=qX h.ad.box;clear h hx hrow;go_enter func52,ntmps52
  go_upto_region 1 with (first
    |(with_reducible refine kB ?_
      refine kr yx 125 _ rfl [.pointer (some ⟨a,0,none⟩)] _ rfl rfl yy ?_;intro W0 Bw Bx By;have Ax:=hid Bw;have AF:=hid Bx;have Bi:=hid By
      clear Bw Bx By)
    |(with_reducible refine kB ?_
      refine kr yx 112 _ rfl (opV x) _ rfl rfl (by rw[BR];kernel_rfl) ?_;intro W1 Bz BA BB;have AG:=hid Bz;have Aa:=hid BA;have Bj:=hid BB
      clear Bz BA BB))
  obtain⟨b2,AD⟩:∃z,w.heap.size=z:=⟨_,rfl⟩;obtain⟨L,BC⟩:∃z,W0.heap.size=z:=⟨_,rfl⟩;have f:=hid (Ax.trans (AG.mono Ax.size));have Ab:=hid ((AG.block w.heap.size (qX AF.out)).trans AF.out);rw[AD] at Ab ⊢;rw[BC] at Aa ⊢;have BO:=hid (show w.heap.size≤b2 by omega);have BP:=hid (show w.heap.size≤L by have:=Ax.size;omega);have n:=hid (HM.keep f.out);have AH:=hid ((But.of_below (X:=NoB) f.out).own Ag.out fun _ _ q=>q);clear Ax AG Bi Bj AD BC AF;have k0:W1.cell? ⟨L,0,none⟩=some (.int .u8 (x.1.toNat:Int)):=(k4 Aa.out 0).trans (kp J.out).1;have BY:((x.1.toNat:Int) == 3)=false:=by
    rw[beq_eq_false_iff_ne];intro e;exact hn3 (UInt8.toNat_inj.1 (by show x.1.toNat=3;omega))
  have AI:=hid hn3;have Ah:=hid (show W1.rangeAt L 1 (kn x.2.1) from fun j u hj=>(k4 Aa.out (1+j)).trans ((kp J.out).2.1 j u hj));have Bo:W1.cell? ⟨b2,0,none⟩=some (.pointer (some ⟨a,0,none⟩)):=k4 Ab.out 0;have Ay:=hid (what_any B a s S q i c dv ov Am cm mk x.2.1 0 W1 n.st n.ad n.row n.keys Ae.1 Ae.2.1 yz n.len Ae.2.2);clear hn3;cases hw:KP S mk x.2.1 0 with
  |none=>
   have HW:=hid hw;have AJ:Hid (KU S i c.1 mk x=none):=hid (by unfold KU;rw[if_neg AI.out,hw]);clear hw
   go_wp2_with (first
      |(with_reducible refine k6 ?_
        refine k5 yx (kc 110 _ rfl (p:=⟨L,1,none⟩) rfl (qV _ L 1 _ (kn x.2.1) _ Ah.out underlying110 rfl (by rw[kq J.1.1];kernel_rfl))) ?_)
      |(go_at_call 96;refine Ay.mono ?_;rintro e w5 ⟨AE,⟨m,A8,_⟩|⟨_,rfl⟩⟩
        ·rw[HW.out] at A8;cases A8
        have P:=hid AE;clear AE))
   exact⟨rfl,.inr ⟨AJ.out,rfl,f.trans (P.mono f.size)⟩⟩
  |some m=>
   have HW:=hid hw;clear hw;cases hmd:m.1
   ·have AK:=hid hmd;have AJ:Hid (KU S i c.1 mk x=none):=hid (by unfold KU;rw[if_neg AI.out,HW.out];dsimp only;rw[if_pos hmd]);have Be:kY m=.bool false::k8 m.2:=by unfold kY;rw[hmd]
    clear hmd
    go_wp2_with (first
       |(with_reducible refine k6 ?_
         refine k5 yx (kc 110 _ rfl (p:=⟨L,1,none⟩) rfl (qV _ L 1 _ (kn x.2.1) _ Ah.out underlying110 rfl (by rw[kq J.1.1];kernel_rfl))) ?_)
       |(go_at_call 96;refine Ay.mono ?_;rintro e w5 ⟨AE,⟨m',A8,rfl⟩|⟨A8,_⟩⟩
         rotate_left
         ·rw[HW.out] at A8;cases A8
         obtain rfl:m'=m:=Option.some.inj (A8.symm.trans HW.out);rw[Be];have P:=hid AE;clear AE A8)
       |(refine k5 yx (ex_madeDoc rfl rfl) ?_)
       |(go_at_call 51;refine(JR 22 _).mono ?_;rintro e w9 ⟨rfl,rfl⟩))
    exact⟨rfl,.inr ⟨AJ.out,rfl,f.trans (P.mono f.size)⟩⟩
   ·have AK:=hid hmd;have Be:kY m=.bool true::k8 m.2:=by unfold kY;rw[hmd]
    clear hmd;have U:=hid (ua (t:=c.1) (r:=x.2.1) HM.st HM.ad.id htm J.1.1);have BD:=k9 U.out;have AZ:=hid (fun (u:World) (hu:Below W1.heap.size W1 u)=>ZZ B a s S q i c dv ov (.slice Am mk.length cm) x.2.1 u (n.st.keep hu) (n.ad.keep hu) Ae.1)
    go_upto_region 4 with (first
       |(with_reducible refine k6 ?_
         refine k5 yx (kc 110 _ rfl (p:=⟨L,1,none⟩) rfl (qV _ L 1 _ (kn x.2.1) _ Ah.out underlying110 rfl (by rw[kq J.1.1];kernel_rfl))) ?_)
       |(go_at_call 96;refine Ay.mono ?_;rintro e w5 ⟨AE,⟨m',A8,rfl⟩|⟨A8,_⟩⟩
         rotate_left
         ·rw[HW.out] at A8;cases A8
         obtain rfl:m'=m:=Option.some.inj (A8.symm.trans HW.out);rw[Be];have P:=hid AE;clear AE A8)
       |(refine k5 yx (ex_madeDoc rfl rfl) ?_)
       |(go_at_call 51;refine(JD 22 _).mono ?_;rintro e w5 ⟨rfl,rfl⟩))
    clear Bo k0;have Bo:w5.cell? ⟨b2,0,none⟩=some (.pointer (some ⟨a,0,none⟩)):=k4 ((P.block b2 (qX Ab.out)).trans Ab.out) 0;have AL:=hid (show w5.rangeAt L 1 (kn x.2.1) from fun j u hj=>(P.cell (p:=⟨L,1+j,none⟩) (qX Aa.out)).trans (Ah.out j u hj))
    go_upto_region 5 with (first
       |(with_reducible refine k6 ?_
         refine k5 yx (kc 110 _ rfl (p:=⟨L,1,none⟩) rfl (qV _ L 1 _ (kn x.2.1) _ AL.out underlying110 rfl (by rw[kq J.1.1];kernel_rfl))) ?_)
       |(go_at_call 97;refine(AZ.out w5 P.out).mono ?_;rintro e w6 ⟨BE,rfl⟩;have Az:=hid BE;clear BE)
       |(with_reducible refine kA ?_
         refine ks yx 89 rfl (k8 (0,k7,0)) (zq _) ?_;intro W7 BF BG BH;have AM:=hid BF;have B1:=hid BG;have Bk:=hid BH
         clear BF BG BH)
       |(with_reducible refine kw ?_
         refine ko yx 89 _ _ rfl w6.heap.size 0 [] (k8 (0,k7,0)) [] (k8 (jy S i c.1 x.2.1)) 89 (.agg (k8 (jy S i c.1 x.2.1)).toArray) rfl rfl rfl rfl (by simpa using B1.out) (by rw[BD];rfl) (by rw[BD];kernel_rfl) (j4 _) ?_;intro W8 BI BJ BS;have B2:=hid (BI.below (B:=w6.heap.size) AM.size (fun k E e=>by have e2:k=w6.heap.size:=e;omega));have B3:Hid (W8.heap[w6.heap.size]?=some (.cells (k8 (jy S i c.1 x.2.1)).toArray 89 (0,0))):=hid (by simpa using BJ);clear BI BJ BS))
    obtain⟨b4,BK⟩:∃z,w6.heap.size=z:=⟨_,rfl⟩;have W:Hid (Below W1.heap.size W1 W8):=hid (P.trans ((Az.trans ((AM.trans B2.out).mono Az.size)).mono P.size));have G:Hid (Below w.heap.size w W8):=hid (f.trans (W.mono f.size));have BQ:=hid (show w.heap.size≤b4 by have:=f.size;have:=P.size;have:=Az.size;omega);rw[BK] at B3 ⊢;have I:Hid (ElemAt W8 b2 L b4 a x (jy S i c.1 x.2.1)):=hid ⟨(W.block b2 (qX Ab.out)).trans Ab.out,(W.block L (qX Aa.out)).trans Aa.out,B3.out⟩;have Ac:=hid (n.keep W.out);have A2:=hid ((But.of_below (X:=NoB) W.out).own AH.out fun _ _ q=>q);have AA:Hid (KU S i c.1 mk x=(if x.1=2 then (if (List.range x.2.2.2.2.1.toNat).all (ZD S i c.1 mk x) then some mk else none) else if x.1=1 then (if x.2.2.1=x.2.1∨ZD S i c.1 mk x 0=true then some (mk++List.replicate (jV x.2.2.2.1) (false,jy S i c.1 x.2.1)) else none) else some mk)):=hid (by
       unfold KU;rw[if_neg AI.out,HW.out];dsimp only;rw[if_neg (by rw[AK.out];decide)])
    have Ad:=hid (fun (u:World) (more:Nat) (hm:more≤1099511627776) (hu:Below W8.heap.size W8 u)=>elem_any B a s b2 L b4 S q i c dv ov Am cm mk x more u (Ac.keep hu) (I.keep hu) J.out U.out Ba.out hm);generalize jy S i c.1 x.2.1=ky at *;clear Bo P Az AM B1 Bk B2 BK Ay AZ Ah AL n AH HW AK Be;have k0:W8.cell? ⟨L,0,none⟩=some (.int .u8 (x.1.toNat:Int)):=(k4 I.po 0).trans (kp J.out).1;have Bf:W8.cell? ⟨L,67,none⟩=some (.string x.2.2.2.1):=(k4 I.po 67).trans (kp J.out).2.2.2.1;have BL:W8.cell? ⟨L,68,none⟩=some (.int .i64 x.2.2.2.2.1):=(k4 I.po 68).trans (kp J.out).2.2.2.2.1;have Bg:((x.1.toNat:Int) == 1)=decide (x.1=1):=by
       by_cases e:x.1=1
       ·rw[dT e,e];rfl
       ·rw[dF e,beq_eq_false_iff_ne];intro e2;exact e (UInt8.toNat_inj.1 (by show x.1.toNat=1;omega))
    have Bh:((x.1.toNat:Int) == 2)=decide (x.1=2):=by
       by_cases e:x.1=2
       ·rw[dT e,e];rfl
       ·rw[dF e,beq_eq_false_iff_ne];intro e2;exact e (UInt8.toNat_inj.1 (by show x.1.toNat=2;omega))
    by_cases h2:x.1=2
    ·rw[dT h2] at Bh;have Y:=hid (AA.trans (if_pos h2));clear h2;have Bl:=hid (show ∀j:Nat,(j:Int)<x.2.2.2.2.1→j∈List.range x.2.2.2.2.1.toNat from fun j hj=>List.mem_range.2 yz)
     go_upto_region 9 with fail
     go_loopw [37] (fun t37 wr=>∃j:Nat,t37=.int .i64 (j:Int)∧(j=0∨(j:Int)≤x.2.2.2.2.1)∧Hid (Below W8.heap.size W8 wr)∧Hid (∀k:Nat,k<j→ZD S i c.1 mk x k=true)) (fun t37 _=>x.2.2.2.2.1.toNat - (intOf t37).toNat)
     case atStart=>exact⟨0,rfl,.inl rfl,hid (qB _ _),hid fun k E=>absurd E yz⟩
     case round=>
        obtain⟨j,rfl,hj,A3,AN⟩:=hrel;by_cases hlt:(j:Int)<x.2.2.2.2.1
        ·have BV:=hlt;cases hel:ZD S i c.1 mk x j
         ·have A0:=hid hel;have N:Hid (KU S i c.1 mk x=none):=hid (Y.trans (if_neg (fun q=>by
            have:=List.all_eq_true.1 q j (Bl.out j hlt);rw[hel] at this;cases this)))
          clear hel
          go_wp2_with (first
            |(go_at_call 98;refine(Ad.out wr j yz A3.out).mono ?_;rintro e y ⟨Aq,⟨q,_⟩|⟨_,rfl⟩⟩
              ·rw[A0.out] at q;cases q
              have F:=hid Aq;clear Aq))
          exact⟨rfl,.inr ⟨N.out,rfl,G.trans ((A3.trans (F.mono A3.size)).mono G.size)⟩⟩
         ·have A0:=hid hel;clear hel
          go_wp2_with (first
            |(go_at_call 98;refine(Ad.out wr j yz A3.out).mono ?_;rintro e y ⟨Aq,⟨_,rfl⟩|⟨q,_⟩⟩
              rotate_left
              ·rw[A0.out] at q;cases q
              have F:=hid Aq;clear Aq))
          go_roundw
          case rel=>
            refine⟨j+1,by go_num,.inr yz,hid (A3.trans (F.mono A3.size)),hid fun k E=>?_⟩;rcases (by omega:k<j∨k=j) with q|rfl
            ·exact AN.out k q
            ·exact A0.out
          case measure=>(simp [intOf])<;>omega
        ·have N:Hid (KU S i c.1 mk x=some mk):=hid (Y.trans (if_pos (List.all_eq_true.2 fun k E=>AN.out k (by have:=List.mem_range.1 E;omega))));go_wp2_with fail
         go_end0
         exact .inl ⟨mk,N.out,rfl,MkTo.same HM.ad Ag.out (G.trans (A3.mono G.size))⟩
    ·rw[dF h2] at Bh;have Y:=hid (AA.trans (if_neg h2));clear h2;by_cases h1:x.1=1
     ·rw[dT h1] at Bg;have Z:=hid (Y.trans (if_pos h1));clear h1;have A4:=hid (show W8.rangeAt L 34 (kn x.2.2.1) from fun j u hj=>(k4 I.po (34+j)).trans ((kp J.out).2.2.1 j u hj));have A5:=hid (show W8.rangeAt L 1 (kn x.2.1) from fun j u hj=>(k4 I.po (1+j)).trans ((kp J.out).2.1 j u hj));have AO:Hid (okFrom x.2.2.2.1 0):=hid htt;by_cases hat:x.2.2.1=x.2.1
      ·have EQ:=hid (fun (u:World)=>(j7 J.1.2.1 J.1.1 u).trans (by rw[dT hat]));have N:=hid (Z.trans (if_pos (.inl hat)));clear hat
       go_upto_region 17 with (first
          |(with_reducible refine k6 ?_
            refine k5 yx (kc 110 _ rfl (p:=⟨L,34,none⟩) rfl (qV _ L 34 _ (kn x.2.2.1) _ A4.out underlying110 rfl (by rw[kq J.1.2.1];kernel_rfl))) ?_;go_frame)
          |(with_reducible refine k6 ?_
            refine k5 yx (kc 110 _ rfl (p:=⟨L,1,none⟩) rfl (qV _ L 1 _ (kn x.2.1) _ A5.out underlying110 rfl (by rw[kq J.1.1];kernel_rfl))) ?_;go_frame)
          |(with_reducible refine kG ?_
            refine k5 yx (jb 110 _ _ _ rfl (xs:=(kn x.2.2.1).toArray) (ys:=(kn x.2.1).toArray) (r:=true) rfl rfl eqRef.noGuard (EQ.out _)) ?_;go_frame;try simp only[nTF]))
       obtain⟨y,BM⟩:∃z,W8=z:=⟨_,rfl⟩;rw[BM] at Ac A2 I G ⊢;have AP:=hid Ac.out;have As:=hid A2.out;have At:=hid I.out;have b:=hid G.out
       clear BM k0 Bf BL Bg Bh Ad Ac A2 I G A4 A5 W AA Y Z EQ;generalize x.2.2.2.1=str at *;obtain⟨M,AB⟩:∃M,y.heap.size=M:=⟨_,rfl⟩;have AQ:=hid AB;have Af:Hid ((y.iter str 0).heap[M]?=some (.stringIter str 0)):=hid (by rw[←AB];simpa using World.iter_heap y str 0);have o:Hid (Below y.heap.size y (y.iter str 0)):=hid ((qB _ _).alloc (qR _) _);rw[AB];clear AB;generalize y.iter str 0=Wi at *;have Bm:=hid (show ∀k,(Value.slice Am mk.length cm).ownBlock=some k→k<w.heap.size from fun k E=>(Ag.lt k E).2)
       go_loopw [56] (fun _ wr=>∃(A:Nat) (l:List Nat) (Av:Option Addr) (T:Nat),A≤str.size∧l.length≤A∧Hid (wr.heap[M]?=some (.stringIter str A))∧Hid (okFrom str A)∧Hid (jx str=(jA str A).map (l++ ·))∧Hid (But (fun k=>k=a∨(Value.slice Am mk.length cm).ownBlock=some k) y wr)∧Hid (AdderAt wr a s i c dv ov (.slice Av (mk.length+l.length) T))∧Hid (wr.ownsRow B0 199 35 (.slice Av (mk.length+l.length) T) (mk.length+l.length) (ke kY (mk++List.replicate l.length (false,ky))))∧Hid (Newer y (.slice Am mk.length cm) (.slice Av (mk.length+l.length) T))∧Hid (ElemAt wr b2 L b4 a x ky)) (fun _ wr=>str.size - wr.iterPos M)
       case atStart=>
          exact⟨0,[],Am,cm,Nat.zero_le _,Nat.le_refl _,Af,AO,hid (by rw[ZQ];simp),hid (But.of_below o.out),hid (AP.ad.keep o.out),hid (by simpa using (But.of_below (X:=NoB) o.out).own As.out fun _ _ q=>q),hid (Newer.refl _ _),hid (At.keep o.out)⟩
       case round=>
          obtain⟨A,l,Av,T,BN,hl,K,AR,Ai,Aj,Q,Ak,A6,I⟩:=hrel;by_cases hlt:A<str.size
          ·have Bp:∀ty,(Instr.next (.pointer (some ⟨M,0,none⟩)) true ty).run prog wr=_:=fun ty=>Lib.run_next_any_at wr M str A ty K.out hlt
           have BT:=ZA hlt;obtain⟨ho,B4⟩:=AR.at_ hlt;have HO:=hid ho;have Au:=hid B4;have BU:=decode_le str A;have O:=hid (Lib.iterAt_heap wr M str A (A+(Utf8.decode str A).2) K.out);have Ar:wr.grownBy (wr.iterAt M str (A+(Utf8.decode str A).2)) (some M):=⟨rfl,rfl,rfl,by rw[Lib.iterAt_size];exact Nat.le_refl _,fun k E AW=>Lib.iterAt_other _ _ _ _ _ (fun e=>AW (by rw[e]))⟩;have C:Hid (AdderAt (wr.iterAt M str (A+(Utf8.decode str A).2)) a s i c dv ov (.slice Av (mk.length+l.length) T)):=hid ⟨(Ar.block a (qX Q.box) fun e=>(by cases e;have:=Q.box;rw[K.out] at this;cases this)).trans Q.box,Q.id⟩;have H:=hid (uk Ak.out K.out (A+(Utf8.decode str A).2));have D:Hid (ElemAt (wr.iterAt M str (A+(Utf8.decode str A).2)) b2 L b4 a x ky):=hid (I.grown Ar fun e Bq t h=>by subst e;rw[K.out] at h;cases h);have d:Hid (But (fun k=>k=a∨(Value.slice Am mk.length cm).ownBlock=some k) y (wr.iterAt M str (A+(Utf8.decode str A).2))):=hid (Aj.grown Ar fun k e E=>(by cases e;have:=AQ.out;omega));have Bn:Hid (wr.heap.size≤(wr.iterAt M str (A+(Utf8.decode str A).2)).heap.size):=hid Ar.size;clear ho B4 Ar;generalize hW2:wr.iterAt M str (A+(Utf8.decode str A).2)=Wn at *;clear hW2
           go_upto_region 18 with fail
           have Al:=hid (show (Value.slice Av (mk.length+l.length) T).ownBlock≠some a from fun e=>by
             obtain⟨cc,V⟩:=kE H.out e;exact jr V C.box yv rfl)
           have AS:Hid (B0≤Wn.heap.size):=hid (qT hB0 (qT b.size d.size));have HF:Hid (∀u:World,But (fun k=>(Value.slice Av (mk.length+l.length) T).ownBlock=some k) Wn u→u.cell? ⟨b2,0,none⟩=some (.pointer (some ⟨a,0,none⟩))∧u.cell? ⟨a,37,none⟩=some (.slice Av (mk.length+l.length) T)∧u.rangeAt b4 0 (k8 ky)):=hid fun u hu=>by
             refine⟨(hu.cell (g:=b2) (j:=0) (qX D.pa) fun e=>?_).trans (k4 D.pa 0),(hu.cell (g:=a) (j:=37) (qX C.box) Al.out).trans (C.rest 4),fun j v hj=>?_⟩
             ·obtain⟨cc,V⟩:=kE H.out e;exact jr V D.pa yv rfl
             ·rw[qZ];refine(hu.cell (g:=b4) (j:=j) (qX D.pd) fun e=>?_).trans ((k4 D.pd j).trans hj);obtain⟨cc,V⟩:=kE H.out e;exact jr V D.pd yv rfl
           refine rN 11 (fun u=>But (fun k=>(Value.slice Av (mk.length+l.length) T).ownBlock=some k) Wn u) (But.of_below (qD _ _)) fun AC=>?_
           refine tl 0 (.pointer (some ⟨a,0,none⟩)) rfl AC (fun w' A1=>l1 underlying125 (HF.out w' A1).1) ?_;go_frame;refine tl 1 (.pointer (some ⟨a,0,none⟩)) rfl AC (fun w' A1=>l1 underlying125 (HF.out w' A1).1) ?_;go_frame;refine tw 2 (.pointer (some ⟨a,0,none⟩)) ?_;go_frame;refine tw 3 (.pointer (some ⟨a,37,none⟩)) ?_;go_frame;refine tl 4 (.slice Av (mk.length+l.length) T) rfl AC (fun w' A1=>l1 underlying103 (HF.out w' A1).2.1) ?_;go_frame;refine tl 5 (.agg (k8 ky).toArray) rfl AC (fun w' A1=>ldK U.out (HF.out w' A1).2.2) ?_;go_frame;refine tk 6 (.agg (kY (false,ky)).toArray) rfl (fun w' A1=>kj 199 _ rfl (by simp only[List.map_toArray,List.map_cons,List.map_nil];exact QR ky U.out _)) ?_;go_frame;refine ta 7 ?_;refine zB _ rfl yy (ur 103 _ rfl 199 underlying103 (.agg makeZ.toArray) 35 56 Jw rfl yv yv (kY (false,ky)) (zU (m:=(false,ky)) U.out) rfl) ?_;have R:=hid ((qD Wn.heap.size Wn).alloc (qR _) (.cells (kY (false,ky)).toArray 199));refine⟨fun _ _=>But.of_below R.out,?_⟩;go_frame;refine ta 8 ?_;refine J8 _ rfl yy ?_;refine vv _ _ 103 rfl B0 199 (.agg makeZ.toArray) 35 56 underlying103 Jw rfl yv (.slice Av (mk.length+l.length) T) (mk.length+l.length) (ke kY (mk++List.replicate l.length (false,ky))) rfl ((But.of_below (X:=NoB) R.out).own H.out fun _ _ q=>q) ⟨Wn.drew.heap.size,0,none⟩ 1 1 (kY (false,ky)) rfl (by rw[(zU (m:=(false,ky)) U.out)]) (Km Wn.drew _ _) (ZL _) yk yz (by have:=AS.out;have:=R.size;omega) ?_;intro v9 w9 AX B5 B6;have F:Hid (But (fun k=>(Value.slice Av (mk.length+l.length) T).ownBlock=some k) Wn w9):=hid ((But.of_below R.out).grown B5 fun k e _=>e);have An:=hid AX;have AT:Hid (Newer Wn (.slice Av (mk.length+l.length) T) v9):=hid fun k E=>by
             rcases B6 with e|⟨g,e,hz⟩
             ·left
              rw[←e];exact E
             ·right
              rw[e] at E;have e2:g=k:=by simpa using E
              subst e2;have h1:=R.size;omega
           have Ao:=hid ((F.block a (qX C.box) Al.out).trans C.box);obtain⟨A9,c9,rfl⟩:=jd AX;clear AX B5 B6;refine⟨fun _ _=>F.out,?_⟩;go_frame;refine tw 9 (.pointer (some ⟨a,0,none⟩)) ?_;go_frame;refine tw 10 (.pointer (some ⟨a,37,none⟩)) ?_;go_frame;obtain⟨Br,Bs,B7,B8⟩:=(AdderAt.mk (dv:=dv) (ov:=ov) (c:=c) Ao.out C.id).put (w':=w9) (v2:=.slice A9 ((mk.length+l.length)+1) c9);have AU:=hid B7;have AV:=hid B8
           clear B7 B8;refine ta 11 ?_;refine kW _ rfl yy 103 _ _ rfl a 37 Br [.slice Av (mk.length+l.length) T] [] [.slice A9 ((mk.length+l.length)+1) c9] 127 (.slice A9 ((mk.length+l.length)+1) c9) rfl Bs.symm rfl rfl AU.out rfl yy (by intro u hu;rw[List.mem_singleton.1 hu];rfl) ?_;intro W2 AD B9 Bt;have Ap:=hid AD;have Aw:=hid B9
           clear AD B9 Bt;refine⟨fun h=>absurd h yv,?_⟩;go_frame;refine ku yy ?_ _;go_wp2_with fail;have hX:∀k,(k=a∨(Value.slice Av (mk.length+l.length) T).ownBlock=some k)→k<y.heap.size→(k=a∨(Value.slice Am mk.length cm).ownBlock=some k):=fun k E hs=>by
             rcases E with E|E
             ·exact .inl E
             ·rcases A6.out k E with e|e
              ·exact .inr e
              ·omega
           have AY:But (fun k=>k=a∨(Value.slice Av (mk.length+l.length) T).ownBlock=some k) Wn W2:=(F.weak fun _ _ h=>.inr h).trans Ap.out fun k E e=>.inl e
           have Bu:W2.ownsRow B0 199 35 (.slice A9 (mk.length+l.length+1) c9) (mk.length+l.length+1) (ke kY (mk++List.replicate l.length (false,ky))++kY (false,ky)):=Ap.own An.out fun g hg e=>by
             obtain⟨Bq,Bb⟩:=kE An.out hg;have e2:g=a:=e;subst e2;exact jr Bb Ao.out yv rfl
           have AW:M≠a:=fun e=>by
             have h1:=O.out;rw[e,C.box] at h1;cases h1
           have Bc:W2.heap[M]?=some (.stringIter str (A+(Utf8.decode str A).2)):=(AY.block M (qX O.out) fun e=>by
             rcases e with e|e
             ·exact AW e
             ·obtain⟨cc,V⟩:=kE H.out e;rw[O.out] at V;cases V).trans O.out
           have A7:=hid Bc;have Bd:ElemAt W2 b2 L b4 a x ky:=D.but AY fun k E=>by
             rcases E with rfl|E
             ·exact⟨_,_,C.box,.inl rfl⟩
             ·obtain⟨cc,V⟩:=kE H.out E;exact⟨cc,_,V,.inr rfl⟩
           go_roundw
           case rel=>
             refine⟨A+(Utf8.decode str A).2,l++[(Utf8.decode str A).1],A9,c9,by omega,by simp;omega,A7,Au,hid ?_,hid (d.trans AY fun k E hx=>hX k hx E),hid ?_,hid ?_,hid fun k E=>?_,hid Bd⟩
             ·rw[Ai.out,KE hlt HO.out];cases jA str (A+(Utf8.decode str A).2)<;>simp
             ·rw[List.length_append,List.length_singleton,←Nat.add_assoc];exact AV.out W2 Aw.out
             ·rw[List.length_append,List.length_singleton,←Nat.add_assoc,List.replicate_succ',←List.append_assoc,uU];exact Bu
             ·rw[List.length_append,List.length_singleton,←Nat.add_assoc] at E;rcases AT.out k E with e|e
              ·exact A6.out k e
              ·exact .inr (qT d.size e)
           case measure=>
             simp only[World.iterPos,A7.out,K.out];omega
          ·have Bp:∀ty,(Instr.next (.pointer (some ⟨M,0,none⟩)) true ty).run prog wr=_:=fun ty=>Lib.run_next_end_at wr M str A ty K.out hlt
           go_wp2_with fail
           go_end0
           have Bv:jV str=l.length:=by
             unfold jV;rw[Ai.out,KB yz];simp
           refine .inl ⟨mk++List.replicate l.length (false,ky),by rw[←Bv];exact N.out,rfl,(But.of_below b.out).trans Aj.out fun k E hx=>hx,Av,T,?_,?_,fun k E=>?_⟩
           ·rw[List.length_append,List.length_replicate];exact Q.out
           ·rw[List.length_append,List.length_replicate];exact Ak.out
           ·rw[List.length_append,List.length_replicate] at E;rcases A6.out k E with e|e
            ·exact .inl e
            ·exact .inr (qT b.size e)
      ·have EQ:=hid (fun (u:World)=>(j7 J.1.2.1 J.1.1 u).trans (by rw[dF hat]));cases hel:ZD S i c.1 mk x 0
       ·have N:=hid (Z.trans (if_neg (by rintro (q|q);exact hat q;rw[hel] at q;cases q)));have A0:=hid hel;clear hat hel
        go_wp2_with (first
           |(with_reducible refine k6 ?_
             refine k5 yx (kc 110 _ rfl (p:=⟨L,34,none⟩) rfl (qV _ L 34 _ (kn x.2.2.1) _ A4.out underlying110 rfl (by rw[kq J.1.2.1];kernel_rfl))) ?_;go_frame)
           |(with_reducible refine k6 ?_
             refine k5 yx (kc 110 _ rfl (p:=⟨L,1,none⟩) rfl (qV _ L 1 _ (kn x.2.1) _ A5.out underlying110 rfl (by rw[kq J.1.1];kernel_rfl))) ?_;go_frame)
           |(with_reducible refine kG ?_
             refine k5 yx (jb 110 _ _ _ rfl (xs:=(kn x.2.2.1).toArray) (ys:=(kn x.2.1).toArray) (r:=false) rfl rfl eqRef.noGuard (EQ.out _)) ?_;go_frame;try simp only[nTF])
           |(go_at_call 98;refine(Ad.out W8 0 yz (qB _ _)).mono ?_;rintro e y ⟨Aq,⟨q,_⟩|⟨_,rfl⟩⟩
             ·rw[A0.out] at q;cases q
             have F:=hid Aq;clear Aq))
        exact⟨rfl,.inr ⟨N.out,rfl,G.trans (F.mono G.size)⟩⟩
       ·have N:=hid (Z.trans (if_pos (.inr hel)));have A0:=hid hel;clear hat hel
        go_upto_region 16 with (first
           |(with_reducible refine k6 ?_
             refine k5 yx (kc 110 _ rfl (p:=⟨L,34,none⟩) rfl (qV _ L 34 _ (kn x.2.2.1) _ A4.out underlying110 rfl (by rw[kq J.1.2.1];kernel_rfl))) ?_;go_frame)
           |(with_reducible refine k6 ?_
             refine k5 yx (kc 110 _ rfl (p:=⟨L,1,none⟩) rfl (qV _ L 1 _ (kn x.2.1) _ A5.out underlying110 rfl (by rw[kq J.1.1];kernel_rfl))) ?_;go_frame)
           |(with_reducible refine kG ?_
             refine k5 yx (jb 110 _ _ _ rfl (xs:=(kn x.2.2.1).toArray) (ys:=(kn x.2.1).toArray) (r:=false) rfl rfl eqRef.noGuard (EQ.out _)) ?_;go_frame;try simp only[nTF])
           |(go_at_call 98;refine(Ad.out W8 0 yz (qB _ _)).mono ?_;rintro e y ⟨Aq,⟨_,rfl⟩|⟨q,_⟩⟩
             rotate_left
             ·rw[A0.out] at q;cases q
             have F:=hid Aq;clear Aq))
        clear Bf;have Bf:y.cell? ⟨L,67,none⟩=some (.string x.2.2.2.1):=(k4 ((F.block L (qX I.po)).trans I.po) 67).trans (kp J.out).2.2.2.1
        go_upto_region 17 with fail
        have b:Hid (Below w.heap.size w y):=hid (G.trans (F.mono G.size));have AP:=hid (Ac.keep F.out);have As:=hid ((But.of_below (X:=NoB) F.out).own A2.out fun _ _ q=>q);have At:=hid (I.keep F.out);clear k0 Bf BL Bg Bh Ad Ac A2 I G A4 A5 W AA Y Z EQ;generalize x.2.2.2.1=str at *;obtain⟨M,AB⟩:∃M,y.heap.size=M:=⟨_,rfl⟩;have AQ:=hid AB;have Af:Hid ((y.iter str 0).heap[M]?=some (.stringIter str 0)):=hid (by rw[←AB];simpa using World.iter_heap y str 0);have o:Hid (Below y.heap.size y (y.iter str 0)):=hid ((qB _ _).alloc (qR _) _);rw[AB];clear AB;generalize y.iter str 0=Wi at *;have Bm:=hid (show ∀k,(Value.slice Am mk.length cm).ownBlock=some k→k<w.heap.size from fun k E=>(Ag.lt k E).2)
        go_loopw [56] (fun _ wr=>∃(A:Nat) (l:List Nat) (Av:Option Addr) (T:Nat),A≤str.size∧l.length≤A∧Hid (wr.heap[M]?=some (.stringIter str A))∧Hid (okFrom str A)∧Hid (jx str=(jA str A).map (l++ ·))∧Hid (But (fun k=>k=a∨(Value.slice Am mk.length cm).ownBlock=some k) y wr)∧Hid (AdderAt wr a s i c dv ov (.slice Av (mk.length+l.length) T))∧Hid (wr.ownsRow B0 199 35 (.slice Av (mk.length+l.length) T) (mk.length+l.length) (ke kY (mk++List.replicate l.length (false,ky))))∧Hid (Newer y (.slice Am mk.length cm) (.slice Av (mk.length+l.length) T))∧Hid (ElemAt wr b2 L b4 a x ky)) (fun _ wr=>str.size - wr.iterPos M)
        case atStart=>
           exact⟨0,[],Am,cm,Nat.zero_le _,Nat.le_refl _,Af,AO,hid (by rw[ZQ];simp),hid (But.of_below o.out),hid (AP.ad.keep o.out),hid (by simpa using (But.of_below (X:=NoB) o.out).own As.out fun _ _ q=>q),hid (Newer.refl _ _),hid (At.keep o.out)⟩
        case round=>
           obtain⟨A,l,Av,T,BN,hl,K,AR,Ai,Aj,Q,Ak,A6,I⟩:=hrel;by_cases hlt:A<str.size
           ·have Bp:∀ty,(Instr.next (.pointer (some ⟨M,0,none⟩)) true ty).run prog wr=_:=fun ty=>Lib.run_next_any_at wr M str A ty K.out hlt
            have BT:=ZA hlt;obtain⟨ho,B4⟩:=AR.at_ hlt;have HO:=hid ho;have Au:=hid B4;have BU:=decode_le str A;have O:=hid (Lib.iterAt_heap wr M str A (A+(Utf8.decode str A).2) K.out);have Ar:wr.grownBy (wr.iterAt M str (A+(Utf8.decode str A).2)) (some M):=⟨rfl,rfl,rfl,by rw[Lib.iterAt_size];exact Nat.le_refl _,fun k E AW=>Lib.iterAt_other _ _ _ _ _ (fun e=>AW (by rw[e]))⟩;have C:Hid (AdderAt (wr.iterAt M str (A+(Utf8.decode str A).2)) a s i c dv ov (.slice Av (mk.length+l.length) T)):=hid ⟨(Ar.block a (qX Q.box) fun e=>(by cases e;have:=Q.box;rw[K.out] at this;cases this)).trans Q.box,Q.id⟩;have H:=hid (uk Ak.out K.out (A+(Utf8.decode str A).2));have D:Hid (ElemAt (wr.iterAt M str (A+(Utf8.decode str A).2)) b2 L b4 a x ky):=hid (I.grown Ar fun e Bq t h=>by subst e;rw[K.out] at h;cases h);have d:Hid (But (fun k=>k=a∨(Value.slice Am mk.length cm).ownBlock=some k) y (wr.iterAt M str (A+(Utf8.decode str A).2))):=hid (Aj.grown Ar fun k e E=>(by cases e;have:=AQ.out;omega));have Bn:Hid (wr.heap.size≤(wr.iterAt M str (A+(Utf8.decode str A).2)).heap.size):=hid Ar.size;clear ho B4 Ar;generalize hW2:wr.iterAt M str (A+(Utf8.decode str A).2)=Wn at *;clear hW2
            go_upto_region 18 with fail
            have Al:=hid (show (Value.slice Av (mk.length+l.length) T).ownBlock≠some a from fun e=>by
              obtain⟨cc,V⟩:=kE H.out e;exact jr V C.box yv rfl)
            have AS:Hid (B0≤Wn.heap.size):=hid (qT hB0 (qT b.size d.size));have HF:Hid (∀u:World,But (fun k=>(Value.slice Av (mk.length+l.length) T).ownBlock=some k) Wn u→u.cell? ⟨b2,0,none⟩=some (.pointer (some ⟨a,0,none⟩))∧u.cell? ⟨a,37,none⟩=some (.slice Av (mk.length+l.length) T)∧u.rangeAt b4 0 (k8 ky)):=hid fun u hu=>by
              refine⟨(hu.cell (g:=b2) (j:=0) (qX D.pa) fun e=>?_).trans (k4 D.pa 0),(hu.cell (g:=a) (j:=37) (qX C.box) Al.out).trans (C.rest 4),fun j v hj=>?_⟩
              ·obtain⟨cc,V⟩:=kE H.out e;exact jr V D.pa yv rfl
              ·rw[qZ];refine(hu.cell (g:=b4) (j:=j) (qX D.pd) fun e=>?_).trans ((k4 D.pd j).trans hj);obtain⟨cc,V⟩:=kE H.out e;exact jr V D.pd yv rfl
            refine rN 11 (fun u=>But (fun k=>(Value.slice Av (mk.length+l.length) T).ownBlock=some k) Wn u) (But.of_below (qD _ _)) fun AC=>?_
            refine tl 0 (.pointer (some ⟨a,0,none⟩)) rfl AC (fun w' A1=>l1 underlying125 (HF.out w' A1).1) ?_;go_frame;refine tl 1 (.pointer (some ⟨a,0,none⟩)) rfl AC (fun w' A1=>l1 underlying125 (HF.out w' A1).1) ?_;go_frame;refine tw 2 (.pointer (some ⟨a,0,none⟩)) ?_;go_frame;refine tw 3 (.pointer (some ⟨a,37,none⟩)) ?_;go_frame;refine tl 4 (.slice Av (mk.length+l.length) T) rfl AC (fun w' A1=>l1 underlying103 (HF.out w' A1).2.1) ?_;go_frame;refine tl 5 (.agg (k8 ky).toArray) rfl AC (fun w' A1=>ldK U.out (HF.out w' A1).2.2) ?_;go_frame;refine tk 6 (.agg (kY (false,ky)).toArray) rfl (fun w' A1=>kj 199 _ rfl (by simp only[List.map_toArray,List.map_cons,List.map_nil];exact QR ky U.out _)) ?_;go_frame;refine ta 7 ?_;refine zB _ rfl yy (ur 103 _ rfl 199 underlying103 (.agg makeZ.toArray) 35 56 Jw rfl yv yv (kY (false,ky)) (zU (m:=(false,ky)) U.out) rfl) ?_;have R:=hid ((qD Wn.heap.size Wn).alloc (qR _) (.cells (kY (false,ky)).toArray 199));refine⟨fun _ _=>But.of_below R.out,?_⟩;go_frame;refine ta 8 ?_;refine J8 _ rfl yy ?_;refine vv _ _ 103 rfl B0 199 (.agg makeZ.toArray) 35 56 underlying103 Jw rfl yv (.slice Av (mk.length+l.length) T) (mk.length+l.length) (ke kY (mk++List.replicate l.length (false,ky))) rfl ((But.of_below (X:=NoB) R.out).own H.out fun _ _ q=>q) ⟨Wn.drew.heap.size,0,none⟩ 1 1 (kY (false,ky)) rfl (by rw[(zU (m:=(false,ky)) U.out)]) (Km Wn.drew _ _) (ZL _) yk yz (by have:=AS.out;have:=R.size;omega) ?_;intro v9 w9 AX B5 B6;have F:Hid (But (fun k=>(Value.slice Av (mk.length+l.length) T).ownBlock=some k) Wn w9):=hid ((But.of_below R.out).grown B5 fun k e _=>e);have An:=hid AX;have AT:Hid (Newer Wn (.slice Av (mk.length+l.length) T) v9):=hid fun k E=>by
              rcases B6 with e|⟨g,e,hz⟩
              ·left
               rw[←e];exact E
              ·right
               rw[e] at E;have e2:g=k:=by simpa using E
               subst e2;have h1:=R.size;omega
            have Ao:=hid ((F.block a (qX C.box) Al.out).trans C.box);obtain⟨A9,c9,rfl⟩:=jd AX;clear AX B5 B6;refine⟨fun _ _=>F.out,?_⟩;go_frame;refine tw 9 (.pointer (some ⟨a,0,none⟩)) ?_;go_frame;refine tw 10 (.pointer (some ⟨a,37,none⟩)) ?_;go_frame;obtain⟨Br,Bs,B7,B8⟩:=(AdderAt.mk (dv:=dv) (ov:=ov) (c:=c) Ao.out C.id).put (w':=w9) (v2:=.slice A9 ((mk.length+l.length)+1) c9);have AU:=hid B7;have AV:=hid B8
            clear B7 B8;refine ta 11 ?_;refine kW _ rfl yy 103 _ _ rfl a 37 Br [.slice Av (mk.length+l.length) T] [] [.slice A9 ((mk.length+l.length)+1) c9] 127 (.slice A9 ((mk.length+l.length)+1) c9) rfl Bs.symm rfl rfl AU.out rfl yy (by intro u hu;rw[List.mem_singleton.1 hu];rfl) ?_;intro W2 AD B9 Bt;have Ap:=hid AD;have Aw:=hid B9
            clear AD B9 Bt;refine⟨fun h=>absurd h yv,?_⟩;go_frame;refine ku yy ?_ _;go_wp2_with fail;have hX:∀k,(k=a∨(Value.slice Av (mk.length+l.length) T).ownBlock=some k)→k<y.heap.size→(k=a∨(Value.slice Am mk.length cm).ownBlock=some k):=fun k E hs=>by
              rcases E with E|E
              ·exact .inl E
              ·rcases A6.out k E with e|e
               ·exact .inr e
               ·omega
            have AY:But (fun k=>k=a∨(Value.slice Av (mk.length+l.length) T).ownBlock=some k) Wn W2:=(F.weak fun _ _ h=>.inr h).trans Ap.out fun k E e=>.inl e
            have Bu:W2.ownsRow B0 199 35 (.slice A9 (mk.length+l.length+1) c9) (mk.length+l.length+1) (ke kY (mk++List.replicate l.length (false,ky))++kY (false,ky)):=Ap.own An.out fun g hg e=>by
              obtain⟨Bq,Bb⟩:=kE An.out hg;have e2:g=a:=e;subst e2;exact jr Bb Ao.out yv rfl
            have AW:M≠a:=fun e=>by
              have h1:=O.out;rw[e,C.box] at h1;cases h1
            have Bc:W2.heap[M]?=some (.stringIter str (A+(Utf8.decode str A).2)):=(AY.block M (qX O.out) fun e=>by
              rcases e with e|e
              ·exact AW e
              ·obtain⟨cc,V⟩:=kE H.out e;rw[O.out] at V;cases V).trans O.out
            have A7:=hid Bc;have Bd:ElemAt W2 b2 L b4 a x ky:=D.but AY fun k E=>by
              rcases E with rfl|E
              ·exact⟨_,_,C.box,.inl rfl⟩
              ·obtain⟨cc,V⟩:=kE H.out E;exact⟨cc,_,V,.inr rfl⟩
            go_roundw
            case rel=>
              refine⟨A+(Utf8.decode str A).2,l++[(Utf8.decode str A).1],A9,c9,by omega,by simp;omega,A7,Au,hid ?_,hid (d.trans AY fun k E hx=>hX k hx E),hid ?_,hid ?_,hid fun k E=>?_,hid Bd⟩
              ·rw[Ai.out,KE hlt HO.out];cases jA str (A+(Utf8.decode str A).2)<;>simp
              ·rw[List.length_append,List.length_singleton,←Nat.add_assoc];exact AV.out W2 Aw.out
              ·rw[List.length_append,List.length_singleton,←Nat.add_assoc,List.replicate_succ',←List.append_assoc,uU];exact Bu
              ·rw[List.length_append,List.length_singleton,←Nat.add_assoc] at E;rcases AT.out k E with e|e
               ·exact A6.out k e
               ·exact .inr (qT d.size e)
            case measure=>
              simp only[World.iterPos,A7.out,K.out];omega
           ·have Bp:∀ty,(Instr.next (.pointer (some ⟨M,0,none⟩)) true ty).run prog wr=_:=fun ty=>Lib.run_next_end_at wr M str A ty K.out hlt
            go_wp2_with fail
            go_end0
            have Bv:jV str=l.length:=by
              unfold jV;rw[Ai.out,KB yz];simp
            refine .inl ⟨mk++List.replicate l.length (false,ky),by rw[←Bv];exact N.out,rfl,(But.of_below b.out).trans Aj.out fun k E hx=>hx,Av,T,?_,?_,fun k E=>?_⟩
            ·rw[List.length_append,List.length_replicate];exact Q.out
            ·rw[List.length_append,List.length_replicate];exact Ak.out
            ·rw[List.length_append,List.length_replicate] at E;rcases A6.out k E with e|e
             ·exact .inl e
             ·exact .inr (qT b.size e)
     ·rw[dF h1] at Bg;have Z:=hid (Y.trans (if_neg h1));clear h1;go_wp2_with fail
      go_end0
      exact .inl ⟨mk,Z.out,rfl,MkTo.same HM.ad Ag.out G.out⟩
end
theorem Ul(a b:List kX):Kd (a++b)=Kd a+Kd b:=by simp [Kd]
theorem vb(r:kX)(b:List kX):Kd (r::b)=r.2.1.length+Kd b:=by simp [Kd]
theorem sizeR_put(d:List kX)(i:Nat)(r:kX):Kd (qh d i r)=Kd d+r.2.1.length:=by
  unfold qh
  conv=>rhs;rw[←List.take_append_drop i d]
  rw[Ul,vb,Ul];omega
theorem sizeR_cut(d:List kX)(i n:Nat):Kd (Zo d i n)=Kd d:=by
  unfold Zo
  split
  ·rfl
  ·rename_i r A
   split
   ·rename_i D;obtain⟨B,e⟩:=List.getElem?_eq_some_iff.1 A;have C:d=d.take i++r::d.drop (i+1):=by
      conv=>lhs;rw[←List.take_append_drop i d]
      rw[List.drop_eq_getElem_cons B,e]
    conv=>rhs;rw[C]
    simp only[Ul,vb,uI,zP,List.length_take,List.length_drop];omega
   ·rfl
theorem sizeR_insert(d:List kX)(key at':kF)(first:Bool)(rs:List Nat):Kd (jw d key at' first rs).1≤Kd d+rs.length:=by
  unfold jw
  split
  ·simp
  ·split
   ·split
    ·rw[sizeR_put];exact Nat.le_refl _
    ·simp
   ·split
    ·simp
    ·split
     ·simp
     ·split
      ·rw[sizeR_put,sizeR_cut];exact Nat.le_refl _
      ·simp
theorem QS(r:kX)(k:kF)(n:Int)(hlt:¬r.1.2.2<k.2.2):Kd (JN r k n)=r.2.1.length:=by
  by_cases hm:z7 r k n=true
  ·by_cases hb:(k.2.2+n - r.1.2.2).toNat<r.2.1.length
   ·obtain⟨e,B⟩:=kill_cut2 hm hlt hb;have A:z7 (zP r (k.2.2+n - r.1.2.2).toNat) k n=false:=by
      have e:(zP r (k.2.2+n - r.1.2.2).toNat).1.2.2=k.2.2+n:=by show r.1.2.2+((k.2.2+n - r.1.2.2).toNat:Int)=k.2.2+n;omega
      unfold z7;rw[e,decide_eq_false (show ¬k.2.2+n<k.2.2+n by omega)];simp
    rw[e,Z4 A];simp only[zP,Kd,List.map_cons,List.sum_cons,List.length_take,List.length_drop,List.map_nil,List.sum_nil];omega
   ·rw[kill_all hm hlt hb];simp [Kd]
  ·rw[Z4 (by simpa using hm)];simp [Kd]
theorem sizeR_kill(r:kX)(k:kF)(n:Int)(hn:1≤n):Kd (JN r k n)=r.2.1.length:=by
  by_cases hlt:r.1.2.2<k.2.2
  ·by_cases hm:z7 r k n=true
   ·obtain⟨e,B,C⟩:=kill_cut1 hm hn hlt;have A:(zP r (k.2.2 - r.1.2.2).toNat).1.2.2=k.2.2:=by show r.1.2.2+((k.2.2 - r.1.2.2).toNat:Int)=k.2.2;omega
    rw[e,vb,QS _ k n (by rw[A];omega)];simp only[uI,zP,List.length_take,List.length_drop];omega
   ·rw[Z4 (by simpa using hm)];simp [Kd]
  ·exact QS r k n hlt
theorem sizeR_delete(d:List kX)(k:kF)(n:Int):Kd (vo d k n).1=Kd d:=by
  unfold vo
  split
  ·rfl
  ·rename_i B
   split
   ·rfl
   ·rename_i A;clear A;show Kd (d.flatMap fun r=>JN r k n)=Kd d
    induction d with
    |nil=>rfl
    |cons r d ih=>rw[List.flatMap_cons,Ul,sizeR_kill _ _ _ yz,vb,ih]
theorem QT{p:kF→Prop}:∀{d:List kX},RunsOf p d→d.length≤Kd d
  | [],_=>by simp [Kd]
  |r::d,h=>by
   have h1:=List.length_pos_iff.2 (h r yq).2;have B:=QT (d:=d) fun q A=>h q (List.mem_cons_of_mem _ A)
   rw[vb,List.length_cons];omega
end Go.Proofs.YtdgbjhfkmembdaaGreatDoor