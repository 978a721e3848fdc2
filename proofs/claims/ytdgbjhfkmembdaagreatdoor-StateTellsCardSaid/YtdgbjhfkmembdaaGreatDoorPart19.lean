/-
  Facts and contracts that the walk needs. Conditions: as each says.
-/
import Derived.Test.YtdgbjhfkmembdaaGreatDoorPart18
import Derived.Test.YtdgbjhfkmembdaaGreatDoorPart9
import Derived.Test.YtdgbjhfkmembdaaGreatDoorPart15
import Derived.Test.YtdgbjhfkmembdaaGreatDoorLaySortF
import Derived.Test.YtdgbjhfkmembdaaGreatDoorShelfCmp
import Derived.Test.YtdgbjhfkmembdaaGreatDoorPart7
import Derived.Test.YtdgbjhfkmembdaaGreatDoorPart8
import Derived.Test.YtdgbjhfkmembdaaGreatDoorPart14
import Derived.Test.YtdgbjhfkmembdaaGreatDoorShelfItoa
import Derived.Lib.ItoaMem
set_option linter.unusedVariables false
set_option linter.unusedSimpArgs false
set_option maxHeartbeats 4000000
set_option maxRecDepth 100000
open Go.Proofs.Tryz
namespace Go.Proofs.YtdgbjhfkmembdaaGreatDoor
section
open Go.RowKit Go.Maps
open Lib (hid)
def JI(S:kj)(c:ks):kj:=(addF qt idC S (idC c) c).2
def Zv(ord:List ks):Nat→kj
  | 0=>KO
  |n+1=>ord.foldl JI (Zv ord n)
def ul(L:List ks)(back:Bool):List ks:=if back then L.reverse else L
def allS(L:List ks)(back:Bool):kj:=Zv (ul L back) (L.length+1)
theorem StateFew.one{L:List ks}{S:kj}(h:StateFew L S){c:ks}(hc:c∈L):StateFew L (JI S c):=by
  unfold JI addF
  split
  ·exact h
  ·rename_i A;exact h.add hc _ (by simpa using A)
theorem StateFew.fold{L:List ks}:∀{l:List ks} {S:kj},StateFew L S→(∀c∈l,c∈L)→StateFew L (l.foldl JI S)
  | [],S,h,_=>h
  |c::l,S,h,hl=>StateFew.fold (l:=l) (h.one (hl c (List.mem_cons_self ..))) fun x hx=>hl x (List.mem_cons_of_mem _ hx)
theorem ordL_mem(L:List ks)(back:Bool):∀c∈ul L back,c∈L:=fun c A=>by
  unfold ul at A
  split at A
  ·exact List.mem_reverse.1 A
  ·exact A
theorem ordL_len(L:List ks)(back:Bool):(ul L back).length=L.length:=by
  unfold ul
  split
  ·exact List.length_reverse
  ·rfl
theorem StateFew.rounds(L:List ks)(back:Bool):∀n,StateFew L (Zv (ul L back) n)
  | 0=>StateFew.new L
  |n+1=>(StateFew.rounds L back n).fold (ordL_mem L back)
theorem StateFew.all(L:List ks)(back:Bool):StateFew L (allS L back):=StateFew.rounds L back _
def atL(n i:Nat)(back:Bool):Nat:=if back then n - 1 - i else i
theorem ordL_at(L:List ks)(back:Bool){i:Nat}(hi:i<L.length):(ul L back)[i]?=L[atL L.length i back]?:=by
  unfold ul atL;cases back
  ·rfl
  ·simp only[if_true];rw[List.getElem?_reverse hi]
theorem told_few{w:World}{x:ChM}(h:ChMIn w w.heap.size x)(h1:x.1.2.2.2.length≤60)(h2:x.1.2.1.length≤100):
    Calls prog 18 #[.agg (chV x).toArray] w fun e w'=>Below w.heap.size w w'∧e=.returned (.agg (idV (idC x.1)).toArray):=
  told15_any x.1 x.2.1 x.2.2.1 x.2.2.2.1 x.2.2.2.2 w h.ok h.ops h.author h.sd h.so yv yv
theorem add_few{L:List ks}(hL:FewL L)(B s:Nat)(S:kj)(q:kV)(x:ChM)(w:World)(h:StateAt w B s S q)(hS:StateFew L S)(hx:ChMIn w w.heap.size x)(hm:x.1∈L)(hnd:q.nd≤1000000)(hg:Glob w)(hsg:ShaG w):
    Calls prog 17 #[.pointer (some ⟨s,0,none⟩),.agg (idV (idC x.1)).toArray,.agg (chV x).toArray] w fun e w'=>∃n:Int,e=.returned (.int .i64 n)∧∃A,StateAt w' B s (JI S x.1) A∧But (StX s S q) w w'∧A.nd≤q.nd+60:=by
  obtain⟨I,J⟩:=hL.each _ hm;refine(add_any B s S q (idC x.1) x.1 x.2.1 x.2.2.1 x.2.2.2.1 x.2.2.2.2 w h (uH _) hx.sd hx.so (hS.fine hL hm hx.ok hx.ops hx.author hnd) hg hsg).mono fun e w' G=>?_
  rcases G with⟨C,D,A,E,F,_,H⟩|⟨C,D,A,E,F,_,H⟩
  ·refine⟨_,D,A,?_,F,by omega⟩;unfold JI addF;rw[if_pos C];exact E
  ·refine⟨_,D,A,?_,F,by omega⟩;unfold JI addF;rw[if_neg (by simpa using C)];exact E
theorem all15_any(l:List ChM)(A:Option Addr)(cap:Nat)(back:Bool)(w:World)(h:ChsIn w w.heap.size A l)(hL:FewL (l.map (·.1)))(hg:Glob w)(hsg:ShaG w):
    Calls prog 10 #[.slice A l.length cap,.bool back] w fun e w'=>∃s q,e=.returned (.pointer (some ⟨s,0,none⟩))∧StateAt w' w.heap.size s (allS (l.map (·.1)) back) q∧Below w.heap.size w w'∧q.nd≤100000:=by
  have A8:=hL.len;rw[Yv] at A8;have H:=hid h;have z:=hid hL;have HG:=hid hg;have A0:=hid hsg
  clear h hL hg hsg;go_enter func10,ntmps10
  go_upto_region 3 with (first
    |(go_at_call 27;refine(QJ w.heap.size w (qR _)).mono ?_;rintro e W1 ⟨Ab,s,q,rfl,Ac,Ad⟩;have A1:=hid Ab;have r:=hid Ac;have t:=hid Ad
      clear Ab Ac Ad))
  go_loopw [6] (fun t6 wr=>∃(m:Nat) (R:kV),m≤l.length+1∧t6=.int .i64 (m:Int)∧Hid (Below w.heap.size w wr)∧Hid (StateAt wr w.heap.size s (Zv (ul (l.map (·.1)) back) m) R)∧Hid (R.nd≤60*(m*l.length))) (fun t6 _=>l.length+1 - (intOf t6).toNat)
  case atStart=>exact⟨0,q,YX _,rfl,A1,r,hid (by rw[t.out];exact YX _)⟩
  case round=>
    obtain⟨m,R,hm,rfl,S,T,U⟩:=hrel;obtain⟨wo,Ai⟩:=Xv wr;subst Ai;by_cases hml:m≤l.length
    ·have d1:decide ((m:Int)≤(l.length:Int))=true:=dT yv;have Am:decide (m≤l.length)=true:=dT hml
     go_upto_region 6 with fail
     go_loopw [7,8] (fun t7 _ wr=>∃(i:Nat) (y:kV),i≤l.length∧t7=.int .i64 (i:Int)∧Hid (Below w.heap.size w wr)∧Hid (StateAt wr w.heap.size s (((ul (l.map (·.1)) back).take i).foldl JI (Zv (ul (l.map (·.1)) back) m)) y)∧Hid (y.nd≤60*(m*l.length+i))) (fun t7 _ _=>l.length - (intOf t7).toNat)
     case atStart=>exact⟨0,R,YX _,rfl,S,T,U⟩
     case round=>
       obtain⟨i,y,hi,rfl,B,I,J⟩:=hrel;by_cases hlt2:i<l.length
       ·have An:(i:Int)<(l.length:Int):=yv;have i0:(0:Int)≤(i:Int):=yv;have A2:Hid (y.nd≤1000000):=hid (by
          have a:=J.out;have M:m*l.length≤12*11:=Nat.mul_le_mul yv A8;omega)
        obtain⟨k,d⟩:∃k:Nat,atL l.length i back=k:=⟨_,rfl⟩;have L:k<l.length:=by rw[←d];unfold atL;split<;>omega
        obtain⟨g,off,hA,Aj,Ae⟩:=H.sl.2 yv;subst hA;have A9:=Sl.row (fun x _=>Z0 x) Ae L;have A3:Hid ((ul (l.map (·.1)) back)[i]?=some l[k].1):=hid (by
          rw[ordL_at _ _ (by rw[Yv];exact hlt2),Yv,d,List.getElem?_map,yK L];rfl)
        have V:Hid (l[k].1∈l.map (·.1)):=hid (List.mem_map_of_mem (yQ L));have A4:=hid (H.each _ (yQ L));generalize l[k]=x at *;have K:=hid (show ∀u:World,Below wr.heap.size wr u→u.rangeAt g (off+k*4) (chV x) from fun u Q j v hj=>((Xx B.out Q).cell (p:=⟨g,off+k*4+j,none⟩) Aj).trans (A9 j v hj));clear A9 Ae;have W:=hid (show ∀u:World,Below wr.heap.size wr u→ChMIn u u.heap.size x from fun u Q=>by
          have hb:=B.trans (Q.mono B.size);have M:=A4.keep hb;exact⟨M.ok,M.ops,M.author,M.sd.more hb.size,M.so.more hb.size,M.ld,M.lo⟩)
        obtain⟨x1,x2⟩:=z.each _ V.out;have X:=hid (fun (u:World) (Q:Below wr.heap.size wr u)=>told_few (W u Q) x1 x2);have A5:Hid (StateFew (l.map (·.1)) (((ul (l.map (·.1)) back).take i).foldl JI (Zv (ul (l.map (·.1)) back) m))):=hid ((StateFew.rounds _ _ _).fold fun c hc=>ordL_mem _ _ _ (YQ hc));have Y:Hid (((ul (l.map (·.1)) back).take (i+1)).foldl JI (Zv (ul (l.map (·.1)) back) m)=JI (((ul (l.map (·.1)) back).take i).foldl JI (Zv (ul (l.map (·.1)) back) m)) x.1):=hid (by
          obtain⟨h3,e3⟩:=yJ.1 A3.out;rw[xj h3,List.foldl_append,e3];rfl)
        have Z:=hid (fun (u:World) (Q:Below wr.heap.size wr u)=>add_few z w.heap.size s _ y x u (I.keep Q) A5 (W u Q) V A2 (HG.next (Xx B.out Q)) (A0.next (Xx B.out Q)));have Af:=enE func18 rfl;have Ag:=enE func17 rfl;clear x1 x2;cases back
        ·have Aa:k=i:=d.symm;subst Aa;clear d
         go_upto_region 11 with fail
         refine rN 10 (fun u=>Below wr.heap.size wr u) (qD _ _) fun f=>?_
         refine tw 0 _ ?_;go_frame;refine tw 1 _ ?_;go_frame;refine tw 2 _ ?_;go_frame;refine tk 3 (.pointer (some ⟨g,off+k*4,none⟩)) rfl (fun w' D=>zR 22 _ _ rfl (b:=g) (off:=off) (q:=k) (n:=l.length) (c:=cap) rfl rfl L underlying22 yq) ?_;go_frame;refine tl 4 (.agg (chV x).toArray) rfl f (fun w' D=>kg 37 _ rfl (p:=⟨g,off+k*4,none⟩) rfl (qV w' g (off+k*4) _ (chV x) _ (K w' D) underlying37 rfl yq)) ?_;go_frame;refine tw 6 _ ?_;go_frame;refine tw 7 _ ?_;go_frame;refine tk 8 (.pointer (some ⟨g,off+k*4,none⟩)) rfl (fun w' D=>zR 22 _ _ rfl (b:=g) (off:=off) (q:=k) (n:=l.length) (c:=cap) rfl rfl L underlying22 yq) ?_;go_frame;refine tl 9 (.agg (chV x).toArray) rfl f (fun w' D=>kg 37 _ rfl (p:=⟨g,off+k*4,none⟩) rfl (qV w' g (off+k*4) _ (chV x) _ (K w' D) underlying37 rfl yq)) ?_;go_frame;refine ta 5 ?_;refine tc #[.agg (chV x).toArray] Af rfl ?_;refine(X _ (qD _ _)).mono ?_;rintro e u1 ⟨o,rfl⟩;have C:=hid ((qD wr.heap.size wr).trans (o.mono (qD wr.heap.size wr).size));clear o;refine⟨_,rfl,fun _ _=>C,?_⟩;go_frame;refine ta 10 ?_;refine tc #[.pointer (some ⟨s,0,none⟩),.agg (idV (idC x.1)).toArray,.agg (chV x).toArray] Ag rfl ?_;refine(Z _ C).mono ?_;rintro e u2 ⟨n2,rfl,R,N,O,P⟩;have E:=hid N;have F:=hid P
         have G:Hid (Below w.heap.size w u2):=hid ((Xx B.out C.out).trans (O.below (Xx B.out C.out).size fun k d hx=>by have:=(I.lowX hx).1;omega));clear N O P;refine⟨_,rfl,fun h=>absurd h yj,?_⟩;go_frame;refine ku yq ?_ _;go_wp2_with fail;refine⟨⟨k+1,R,by omega,by go_num,G,hid (by rw[Y.out];exact E.out),hid (by have a:=F.out;have M:=J.out;omega)⟩,?_⟩
         (simp [intOf])<;>omega
        ·have Aa:l.length - 1 - i=k:=d;have w1:IntKind.i64.wrap ((l.length:Int) - 1)=(l.length:Int) - 1:=IntWalk.i64_in _ yv;have w2:IntKind.i64.wrap ((l.length:Int) - 1 - (i:Int))=(k:Int):=by rw[show (l.length:Int) - 1 - (i:Int)=(k:Int) by omega];exact IntWalk.i64_in _ yv
         clear d Aa
         go_upto_region 11 with fail
         refine rN 10 (fun u=>Below wr.heap.size wr u) (qD _ _) fun f=>?_
         refine tw 0 _ ?_;go_frame;refine tw 1 _ ?_;go_frame;refine tw 2 _ ?_;go_frame;refine tk 3 (.pointer (some ⟨g,off+k*4,none⟩)) rfl (fun w' D=>zR 22 _ _ rfl (b:=g) (off:=off) (q:=k) (n:=l.length) (c:=cap) rfl rfl L underlying22 yq) ?_;go_frame;refine tl 4 (.agg (chV x).toArray) rfl f (fun w' D=>kg 37 _ rfl (p:=⟨g,off+k*4,none⟩) rfl (qV w' g (off+k*4) _ (chV x) _ (K w' D) underlying37 rfl yq)) ?_;go_frame;refine tw 6 _ ?_;go_frame;refine tw 7 _ ?_;go_frame;refine tk 8 (.pointer (some ⟨g,off+k*4,none⟩)) rfl (fun w' D=>zR 22 _ _ rfl (b:=g) (off:=off) (q:=k) (n:=l.length) (c:=cap) rfl rfl L underlying22 yq) ?_;go_frame;refine tl 9 (.agg (chV x).toArray) rfl f (fun w' D=>kg 37 _ rfl (p:=⟨g,off+k*4,none⟩) rfl (qV w' g (off+k*4) _ (chV x) _ (K w' D) underlying37 rfl yq)) ?_;go_frame;refine ta 5 ?_;refine tc #[.agg (chV x).toArray] Af rfl ?_;refine(X _ (qD _ _)).mono ?_;rintro e u1 ⟨o,rfl⟩;have C:=hid ((qD wr.heap.size wr).trans (o.mono (qD wr.heap.size wr).size));clear o;refine⟨_,rfl,fun _ _=>C,?_⟩;go_frame;refine ta 10 ?_;refine tc #[.pointer (some ⟨s,0,none⟩),.agg (idV (idC x.1)).toArray,.agg (chV x).toArray] Ag rfl ?_;refine(Z _ C).mono ?_;rintro e u2 ⟨n2,rfl,R,N,O,P⟩;have E:=hid N;have F:=hid P
         have G:Hid (Below w.heap.size w u2):=hid ((Xx B.out C.out).trans (O.below (Xx B.out C.out).size fun k d hx=>by have:=(I.lowX hx).1;omega));clear N O P;refine⟨_,rfl,fun h=>absurd h yj,?_⟩;go_frame;refine ku yq ?_ _;go_wp2_with fail;refine⟨⟨i+1,R,by omega,by go_num,G,hid (by rw[Y.out];exact E.out),hid (by have a:=F.out;have M:=J.out;omega)⟩,?_⟩
         (simp [intOf])<;>omega
       ·have Ah:i=l.length:=yv;have d2:decide ((i:Int)<(l.length:Int))=false:=dF yv;have Ak:decide (i<l.length)=false:=dF hlt2;have A6:Hid (((ul (l.map (·.1)) back).take i).foldl JI (Zv (ul (l.map (·.1)) back) m)=Zv (ul (l.map (·.1)) back) (m+1)):=hid (by
          rw[Yq (by rw[ordL_len,Yv];omega)];rfl)
        have A7:Hid (y.nd≤60*((m+1)*l.length)):=hid (by
          have a:=J.out;rw[Ah] at a;have e:(m+1)*l.length=m*l.length+l.length:=Nat.succ_mul _ _;rw[e];exact a)
        clear Ah;go_wp2_with fail;refine⟨⟨m+1,y,by omega,by go_num,B,hid (by rw[←A6.out];exact I.out),A7⟩,?_⟩
        (simp [intOf])<;>omega
    ·have Al:m=l.length+1:=yv;have d2:decide ((m:Int)≤(l.length:Int))=false:=dF yv;have Ak:decide (m≤l.length)=false:=dF hml;go_wp2_with fail;go_ret;have a:=T.out;rw[Al] at a;refine⟨s,R,rfl,?_,S,?_⟩
     ·unfold allS;rw[Yv];exact a
     ·have M:=U.out;have h3:m*l.length≤12*11:=Nat.mul_le_mul yv A8;omega
end
section
open Go.RowKit
def RuO(p:Nat→Prop)(d:List kQ):Prop:=∀r∈d,∀u∈r.2.1,p u
section
variable {p:Nat→Prop} {d:List kQ}
theorem RuO.put(h:RuO p d){i:Nat}{r:kQ}(h1:∀u∈r.2.1,p u):RuO p (Ug d i r):=fun q A=>by
  unfold Ug at A;rcases xJ.1 A with A|A
  ·exact h q (YQ A)
  ·rcases xK.1 A with rfl|A
   ·exact h1
   ·exact h q (List.mem_of_mem_drop A)
theorem RuO.cut(h:RuO p d)(i n:Nat):RuO p (zg d i n):=by
  unfold zg
  split
  ·exact h
  ·rename_i r D;have C:=h r (List.mem_of_getElem? D)
   split
   ·intro q A;rcases xJ.1 A with A|A
    ·exact h q (YQ A)
    ·rcases xK.1 A with rfl|A
     ·exact fun u B=>C u (YQ B)
     ·rcases xK.1 A with rfl|A
      ·exact fun u B=>C u (List.mem_of_mem_drop B)
      ·exact h q (List.mem_of_mem_drop A)
   ·exact h
theorem RuO.insert(h:RuO p d){key at':kE}{first:Bool}{rs:List Nat}(hk:∀u∈rs,p u):RuO p (jG d key at' first rs).1:=by
  unfold jG
  split
  ·exact h
  ·split
   ·split
    ·exact h.put hk
    ·exact h
   ·split
    ·exact h
    ·split
     ·exact h
     ·split
      ·exact(h.cut _ _).put hk
      ·exact h
theorem kill_mem{r q:kQ}{k:kE}{n:Int}(hq:q∈jP r k n):∀u∈q.2.1,u∈r.2.1:=by
  unfold jP at hq
  split at hq
  ·dsimp only at hq;rcases xJ.1 hq with hq|hq
   ·split at hq
    ·rw[xZ] at hq;subst hq;exact fun u A=>YQ A
    ·cases hq
   ·have B:∀t:kQ,t=(if r.1.2.2<k.2.2 then zN r (k.2.2 - r.1.2.2).toNat else r)→∀u∈t.2.1,u∈r.2.1:=by
      rintro t rfl u A
      split at A
      ·exact List.mem_of_mem_drop A
      ·exact A
    have B:=B _ rfl;generalize (if r.1.2.2<k.2.2 then zN r (k.2.2 - r.1.2.2).toNat else r)=t at *
    split at hq
    ·rcases xK.1 hq with rfl|hq
     ·exact fun u A=>B u (YQ A)
     ·rw[xZ] at hq;subst hq;exact fun u A=>B u (List.mem_of_mem_drop A)
    ·rw[xZ] at hq;subst hq;exact B
  ·rw[xZ] at hq;subst hq;exact fun u A=>A
theorem RuO.delete(h:RuO p d)(k:kE)(n:Int):RuO p (K7 d k n).1:=by
  unfold K7
  split
  ·exact h
  ·split
   ·exact h
   ·intro q B;obtain⟨r,C,A⟩:=List.mem_flatMap.1 B;exact fun u D=>h r C u (kill_mem A u D)
end
theorem dec_mayN(s:ByteArray)(i:Nat):mayN (Utf8.decode s i).1=true:=by
  have A:∀r:Nat,Utf8.valid (r:Int)=true→mayN r=true:=by
    intro r h;rw[uq] at h;unfold Kp at h;unfold mayN;simp only[xy,Bool.or_eq_true,decide_eq_true_eq] at h ⊢;omega
  have C:=JE s i;have D:=JE s (i+1);have z:mayN 0xFFFD=true:=by decide
  have B:∀r:Nat,r<55296→mayN r=true:=fun r h=>by unfold mayN;simp [h]
  rw[ve]
  split
  ·exact B _ yv
  ·split
   ·split
    ·exact B _ (by dsimp only;omega)
    ·exact z
   ·split
    ·split
     ·rename_i h;exact A _ ((xy _ _).mp h).2
     ·exact z
    ·split
     ·split
      ·rename_i h;exact A _ ((xy _ _).mp h).2
      ·exact z
     ·exact z
theorem runesGo_may(s:ByteArray):∀(f pos:Nat) (l:List Nat),Jk s f pos=some l→∀u∈l,mayN u=true
  | 0,pos,l,h,u,A=>by
    cases h
    cases A
  |f+1,pos,l,h,u,A=>by
   rw[Jk] at h
   split at h
   ·split at h
    ·obtain⟨m,hm,rfl⟩:=Option.map_eq_some_iff.1 h;rcases xK.1 A with rfl|A
     ·exact dec_mayN _ _
     ·exact runesGo_may s f _ m hm u A
    ·cases h
   ·cases h
    cases A
theorem runes_may(s:ByteArray):∀u∈(jH s).getD [],mayN u=true:=fun u A=>by
  cases h:jH s with
  |none=>rw[h] at A;cases A
  |some l=>rw[h] at A;exact runesGo_may s _ _ l h u A
structure StateSure (S:kj):Prop where
  paths:∀x∈S.2.1,x.2.2.2.size≤1073741824
  runes:∀x∈S.1,RuO (fun u=>mayN u=true) x.2
theorem StateSure.new:StateSure KO:=⟨(fun x A=>by cases A),(fun x A=>by cases A)⟩
theorem StateSure.do{S:kj}(h:StateSure S)(i:List UInt8)(t:Int)(place next:Nat){x:OpD}(hx:x.2.2.2.2.2.size≤1073741824):StateSure (Jh S i t place next x):=by
  have B:∀(l:List kN) (k d:kE) (n:Nat) (y:kN),l=S.2.1→y∈l++[(k,d,n,x.2.2.2.2.2)]→y.2.2.2.size≤1073741824:=fun l k d n y e A=>by
    subst e;rcases xJ.1 A with A|A
    ·exact h.paths y A
    ·rw[xZ.1 A];exact hx
  unfold Jh
  split
  ·refine⟨fun y A=>B _ _ _ _ y rfl A,fun y A=>?_⟩;rcases J1 A with A|rfl
   ·exact h.runes y A
   ·exact fun r D=>by cases D
  ·split
   ·exact⟨fun y A=>B _ _ _ _ y rfl A,h.runes⟩
   ·split
    ·exact h
    ·rename_i d E;have C:=Ku E
     split
     ·refine⟨h.paths,fun y A=>?_⟩;rcases J1 A with A|rfl
      ·exact h.runes y A
      ·exact(h.runes _ C).insert (runes_may _)
     ·split
      ·refine⟨h.paths,fun y A=>?_⟩;rcases J1 A with A|rfl
       ·exact h.runes y A
       ·exact(h.runes _ C).delete _ _
      ·exact h
theorem StateSure.dos(i:List UInt8)(t:Int):∀(l:List OpD) (ns:List Nat) (place:Nat) {S:kj},StateSure S→(∀x∈l,x.2.2.2.2.2.size≤1073741824)→StateSure (J8 i t place S l ns)
  | [],ns,place,S,h,_=>by cases ns<;>exact h
  |x::l,[],place,S,h,_=>h
  |x::l,n::ns,place,S,h,hx=>StateSure.dos i t l ns (place+1) (h.do i t place n (hx x (List.mem_cons_self ..))) fun y hy=>hx y (List.mem_cons_of_mem _ hy)
theorem StateSure.added{S:kj}(h:StateSure S)(is i:List UInt8){c:ks}(hc:∀x∈c.2.2.2,x.2.2.2.2.2.size≤1073741824):StateSure (zX S is i c).2:=by
  unfold zX
  split
  ·exact h
  ·split
   ·exact h
   ·split
    ·exact h
    ·split
     ·exact h
     ·split
      ·exact h
      ·rename_i A B C;exact StateSure.dos i c.1 c.2.2.2 B 0 (S:=(S.1,S.2.1,S.2.2++[(i,c,A)])) ⟨h.paths,h.runes⟩ hc
theorem path_short{deps:List (List UInt8)}{mk:List jL}{x:OpD}(h:opB deps mk x=true):x.2.2.2.2.2.size≤1073741824:=by
  unfold opB at h
  split at h
  ·cases h
  ·rename_i p C;simp only[xy] at h;obtain⟨⟨⟨⟨A,_⟩,B⟩,_⟩,_⟩:=h;unfold kO at A;simp only[xy,Bool.or_eq_true,decide_eq_true_eq] at A B;rcases A.2 with q|q
   ·rcases B with e|e
    ·rw[q] at e;cases e
    ·unfold jZ at e;simp only[xy,decide_eq_true_eq] at e;omega
   ·rw[q];decide
theorem StateSure.add{S:kj}(h:StateSure S)(is i:List UInt8){c:ks}(h0:qt c=0):StateSure (zX S is i c).2:=
  h.added is i fun x A=>by
    obtain⟨C,B,_⟩:=opsB_each (right_ops h0) x A;exact path_short B
theorem StateSure.one{S:kj}(h:StateSure S)(c:ks):StateSure (JI S c):=by
  unfold JI addF
  split
  ·exact h
  ·rename_i A;exact h.add _ _ (by simpa using A)
theorem sure_fold:∀(l:List ks) {S:kj},StateSure S→StateSure (l.foldl JI S)
  | [],S,h=>h
  |c::l,S,h=>sure_fold l (h.one c)
theorem sure_rounds(o:List ks):∀n,StateSure (Zv o n)
  | 0=>StateSure.new
  |n+1=>sure_fold o (sure_rounds o n)
theorem sure_all(L:List ks)(back:Bool):StateSure (allS L back):=sure_rounds _ _
end
section
open Go.RowKit Go.Maps Go.Shelf Go.Sort
abbrev Zd:=ByteArray×ByteArray
def zw(x:Zd):List Value:=[.string x.1,.string x.2]
theorem fileV_len(x:Zd):(zw x).length=2:=rfl
theorem fileV_one(x:Zd):∀u∈zw x,u.oneCell'=true:=by
  intro u A;simp only[zw,xK,YY,or_false] at A;rcases A with rfl|rfl<;>rfl
def cmpF(a b:Zd):Int:=jJ (L a.1) (L b.1)
theorem closureF_gr(a b:Zd)(w:World):
    Calls prog 38 #[.agg (zw a).toArray,.agg (zw b).toArray] w fun e w'=>Gr w w'∧e=.returned (.int .i64 (cmpF a b)):=by
  have A:(w.alloc (.cells (zw a).toArray 33)).heap[w.heap.size]?=some (.cells (zw a).toArray 33 (0,0)):=heap_alloc_new _ _;go_enter func38,ntmps38
  go_upto_region 1 with fail
  have C:((w.alloc (.cells (zw a).toArray 33)).alloc (.cells (zw b).toArray 33)).heap[w.heap.size]?=some (.cells (zw a).toArray 33 (0,0)):=by
    exact(heap_alloc_old (w.alloc (.cells (zw a).toArray 33)) _ yZ).trans A
  have D:((w.alloc (.cells (zw a).toArray 33)).alloc (.cells (zw b).toArray 33)).heap[w.heap.size+1]?=some (.cells (zw b).toArray 33 (0,0)):=by
    have:=heap_alloc_new (w.alloc (.cells (zw a).toArray 33)) (.cells (zw b).toArray 33);rw[World.size_alloc] at this;exact this
  have E:Gr w ((w.alloc (.cells (zw a).toArray 33)).alloc (.cells (zw b).toArray 33)):=((Gr.refl _).alloc _).alloc _;clear A;generalize (w.alloc (.cells (zw a).toArray 33)).alloc (.cells (zw b).toArray 33)=W at *;have F:W.cell? ⟨w.heap.size,0,none⟩=some (.string a.1):=k6 C 0;have G:W.cell? ⟨w.heap.size+1,0,none⟩=some (.string b.1):=k6 D 0;have B:=Lib.hid E;clear E C D
  go_wp2_with (first
    |(go_at_call 39;refine(Tryz.strings_Compare a.1 b.1 W).mono ?_;rintro e H ⟨rfl,rfl⟩))
  go_ret;exact⟨B,rfl⟩
section
variable (F:List Zd)
abbrev InF:={ x:Zd // x∈F}
def cmpA(a b:InF F):Int:=cmpF a.1 b.1
theorem ltA[Inhabited (InF F)](a b:InF F):ltOf (cmpA F) a b=decide (cmpF a.1 b.1<0):=rfl
theorem swoA[Inhabited (InF F)]:SWO (ltOf (cmpA F)) where
  irrefl x:=by
    rw[ltA];unfold cmpF;rw[vt];rfl
  trans x y z h1 h2:=by
    rw[ltA,decide_eq_true_eq] at *;exact KD h1 h2
  ntrans x y z h1 h2:=by
    rw[ltA,decide_eq_false_iff_not] at *;intro h;unfold cmpF at *;rcases Zx (L x.1.1) (L y.1.1) with q|q|q
    ·exact h1 (by rw[q];decide)
    ·rw[Kl.1 q] at h;exact h2 h
    ·refine h2 (KD (b:=L x.1.1) ?_ h);rw[Jr,q];decide
theorem partA[Inhabited (InF F)](hn:∀x∈F,∀y∈F,L x.1=L y.1→x=y)(x y:InF F)(h1:ltOf (cmpA F) x y=false)(h2:ltOf (cmpA F) y x=false):x=y:=by
  rw[ltA,decide_eq_false_iff_not] at *;unfold cmpF at *;rcases Zx (L x.1.1) (L y.1.1) with q|q|q
  ·exact absurd (show jJ (L x.1.1) (L y.1.1)<0 by rw[q];decide) h1
  ·exact Subtype.ext (hn _ x.2 _ y.2 (Kl.1 q))
  ·exact absurd (show jJ (L y.1.1) (L x.1.1)<0 by rw[Jr,q];decide) h2
theorem cmpLaysF[Inhabited (InF F)](blk off size:Nat)(w:World):CmpLays prog 38 #[] (fun x:InF F=>zw x.1) 2 (cmpA F) blk off size w:=
  fun _ _ _ _ x y=>(closureF_gr x.1 y.1 _).mono fun e w' ⟨⟨q,A,h⟩,B⟩=>⟨B,q,A,h⟩
def ordA(l:List (InF F)):List (InF F):=l.mergeSort fun x y=> !(decide (cmpA F y x<0))
theorem ordA_perm(l:List (InF F)):(ordA F l).Perm l:=List.mergeSort_perm _ _
end
def ordF(F:List Zd):List Zd:=(ordA F F.attach).map (·.1)
theorem qn(F:List Zd):(ordF F).Perm F:=by
  have h:=(ordA_perm F F.attach).map (·.1);rw[List.attach_map_subtype_val] at h;exact h
theorem rows_attach(F:List Zd)(l:List (InF F)):kf (fun x:InF F=>zw x.1) l=kf zw (l.map (·.1)):=by simp [kf,List.flatMap_map]
theorem sort_files(F:List Zd)(hn:∀x∈F,∀y∈F,L x.1=L y.1→x=y)(w0:World)(v:Value)(w:World)(hb:Below w0.heap.size w0 w)(ho:w.ownsRow w0.heap.size 33 2 v F.length (kf zw F))(hl:F.length≤1099511627776):
    Calls prog 37 #[v,.func (.func 38) #[] #[]] w fun e w'=>e=.returned (.tuple #[])∧Below w0.heap.size w0 w'∧∃A c,v=.slice A F.length c∧Sl w' w'.heap.size A F.length 2 (kf zw (ordF F)):=by
  rcases ho.2 with⟨rfl,T⟩|⟨g,C,X,rfl,D,E,Y,Z,a,I⟩
  ·have J:F=[]:=List.eq_nil_of_length_eq_zero T;subst J;have B:=AnyF.slices_SortFunc_none { Tryz.laysSortFiles with} (none:Option Addr) 0 (.func (.func 38) #[] #[]) w;change Calls prog 37 _ _ _ at B;refine B.mono ?_;rintro e K ⟨rfl,rfl⟩;exact⟨rfl,hb,none,0,rfl,by rw[(qn []).eq_nil];exact Sl.nil⟩
  ·by_cases hF:F=[]
   ·subst hF;have B:=AnyF.slices_SortFunc_none { Tryz.laysSortFiles with} (some ⟨g,0,none⟩:Option Addr) C (.func (.func 38) #[] #[]) w;change Calls prog 37 _ _ _ at B;refine B.mono ?_;rintro e K ⟨rfl,rfl⟩;refine⟨rfl,hb,some ⟨g,0,none⟩,C,rfl,?_⟩;rw[(qn []).eq_nil];exact Sl.nil
   ·obtain⟨U,M⟩:=List.exists_mem_of_ne_nil F hF
    haveI:Inhabited (InF F):=⟨⟨U,M⟩⟩
    have G:∀x:InF F,(zw x.1).length=2:=fun x=>rfl
    have N:kf zw F=kf (fun x:InF F=>zw x.1) F.attach:=by rw[rows_attach,List.attach_map_subtype_val]
    rw[N,←List.length_attach (l:=F)] at I;have O:HoldsK (fun x:InF F=>zw x.1) 2 w g 0 F.attach.toArray:=Ue G yj E I;have P:g<w.heap.size:=(Array.getElem?_eq_some_iff.1 E).1;have Q:F.attach.toArray.size<4611686018427387904:=by rw[xz,List.length_attach];omega
    have B:=AnyQ.slices_SortFunc_total Tryz.laysSortFiles 2 Tryz.isAgg33 Tryz.sizeOf33 (fun x:InF F=>zw x.1) G (fun x=>fileV_one x.1) (cmpA F) (swoA F) 38 #[] g 0 C F.attach.toArray w
      (enters_of func38 yq rfl) (cmpLaysF F g 0 _ w) O P Q (partA F hn)
    change Calls prog 37 _ _ _ at B;have R:=fun (n:Nat) (H:Array Obj)=>sortedK_sl G yj E O D (t:=ordA F F.attach) ((ordA_perm F F.attach).length_eq) n H w0 hb
    simp only[xz,List.length_attach] at B;refine B.mono ?_;rintro e K ⟨rfl,n,H,rfl⟩;obtain⟨V,W⟩:=R n H;refine⟨rfl,W,some ⟨g,0,none⟩,C,rfl,?_⟩;have S:=V;rw[rows_attach,List.length_attach] at S;exact S
end
section
open Go.RowKit Go.Maps
open Lib (hid)
def fileS(S:kj)(x:Zi):Zd:=(x.2,⟨(Zw ((jv S x.1).getD [])).toArray⟩)
def um(S:kj)(r:List Zi):List Zd:=r.map (fileS S)
def jn(S:kj):List Zd:=(Kj S.2.1).map fun x=>(⟨x.2.toArray⟩,⟨(Zw ((jv S x.1).getD [])).toArray⟩)
theorem filesR_is{S:kj}{r:List Zi}(h:(r.map fun x:Zi=>(x.1,L x.2))=Kj S.2.1):um S r=jn S:=by
  unfold um jn;rw[←h,List.map_map];exact List.map_congr_left fun x _=>by simp [fileS,L]
def fileZ:List Value:=[.string noneS]++[.string noneS]
theorem infoFile:(prog.info? 33).map (fun i=>(i.zero,i.size,i.bytes))=some (some (.agg fileZ.toArray),2,32):=yq
theorem file_built(x:Zd)(w:World):(Instr.build 33 #[(0,.string x.1),(1,.string x.2)]).run prog w=.ok (.agg (zw x).toArray) w:=by
  obtain⟨j,B,C,_,_⟩:=info_parts infoFile;have h:=zl (P:=prog) B underlying33 C [[.string noneS],[.string noneS]] rfl (places:=[(0,1),(1,1)]) yq yq [(0,.string x.1),(1,.string x.2)] (by
    intro q A;simp only[xK,YY,or_false] at A;rcases A with rfl|rfl
    ·exact⟨by show 0<2;omega,rfl⟩
    ·exact⟨by show 1<2;omega,rfl⟩)
  have D:=run_build (P:=prog) w 33 #[(0,.string x.1),(1,.string x.2)] _ h;refine D.trans ?_;simp [zw,Value.cells]
theorem sfiles_core(N:Nat)(hN:N≤900)(B s:Nat)(S:kj)(q:kV)(w:World)(h:StateAt w B s S q)(hl:S.2.1.length≤N)(hsm:∀x∈S.2.1,x.2.2.2.size≤1073741824)(hg:Glob w)(hit:ItoaB (N+2) w)(hd:∀k d,jv S k=some d→uk d)
    (hn:∀x∈jn S,∀y∈jn S,L x.1=L y.1→x=y):
    Calls prog 11 #[.pointer (some ⟨s,0,none⟩)] w fun e w'=>Below w.heap.size w w'∧∃A c,e=.returned (.slice A (jn S).length c)∧Sl w' w'.heap.size A (jn S).length 2 (kf zw (ordF (jn S))):=by
  have HS:=hid h;have HD:=hid hd;have HN:=hid hn
  obtain⟨A,c,hv⟩:=kX h.claims;have HP:=hid (paths_anyN N hN S.2.1 A c w hl h.claimsOk hsm (Sl.of_own (by have:=h.claims;rw[hv] at this;exact this)) hg hit);have c1:w.cell? ⟨s,1,none⟩=some (.slice A S.2.1.length c):=(k6 h.box 1).trans (congrArg some hv);have n:=hid (show (Kj S.2.1).length≤N by
    unfold Kj
    split
    ·have:=KX (Kn S.2.1) (Uk S.2.1) [];have:=Zt S.2.1;omega
    ·simp)
  clear h hd hn hsm hg hit hv;have Aq:=enE (P:=prog) func36 rfl;go_enter func11,ntmps11
  go_wp2_with (first
    |(go_at_call 35;refine HP.mono ?_;rintro e U ⟨Aj,A1,Az,r,rfl,hr,hk,hs⟩;have M:=hid Aj;have o:=hid hr;have t:=hid hk;have A0:=hid hs
      clear Aj hr hk hs))
  clear c1;have E:Hid (r.length≤N):=hid (by have h1:=congrArg List.length o.out;have h2:=n.out;rw[Yv] at h1;omega);have F:=hid (filesR_is o)
  go_loopw [3,15] (fun t3 t15 wr=>∃(i:Nat) (f:Option Addr) (g:Nat),i≤r.length∧t3=.slice f i g∧t15=.int .i64 (i:Int)∧Hid (Below U.heap.size U wr)∧Hid (wr.ownsRow U.heap.size 33 2 (.slice f i g) i (kf zw (um S (r.take i))))) (fun _ t15 _=>r.length - (intOf t15).toNat)
  case atStart=>exact⟨0,none,0,YX _,rfl,rfl,hid (Below.refl _ _),hid (World.ownsRow_nil _ _ _ _)⟩
  case round=>
    obtain⟨i,f,g,hi,rfl,rfl,O,Q⟩:=hrel;by_cases hlt:i<r.length
    ·obtain⟨b,AA,rfl,AB,Ak⟩:=(A0.keep O).2 yv;have i0:(0:Int)≤(i:Int):=yv;have i1:(i:Int)<(r.length:Int):=yv;have Af:∀z∈r,Qw z:=fun z hz=>⟨(t z hz).1,by have:=(t z hz).2;unfold maxLen;omega⟩
     have Ag:=Sl.row (fun z hz=>JK (Af z hz)) Ak hlt;have R:=hid Ag;have G:=hid (Af _ (yQ hlt))
     have A4:Hid (um S (r.take (i+1))=um S (r.take i)++[fileS S r[i]]):=hid (by unfold um;rw[xj hlt,List.map_append];rfl);clear Ag Ak Af;generalize r[i]=z at *;generalize um S (r.take i)=F0 at *;have Al:=JK G.out;have Am:(prog.info? 91).map (·.size)=some (jW z).length:=by rw[Al];kernel_rfl
     go_upto_region 7 with (first
       |(refine kZ rfl 91 _ rfl b _ rfl (jW z) _ R underlying91 rfl Am ?_)
       |(refine Ks (B:=wr.heap.size) (w0:=wr) rfl 91 _ _ rfl wr.heap.size _ rfl rfl 91 _ (heap_alloc_new _ _) (by rw[xz];exact Am) (by rw[xz,xz,Al];rfl) (by simpa using qU z) ((Below.refl _ _).alloc (xY _) _) (xY _) ?_;intro D l Ah _))
     obtain⟨b5,Z⟩:=Xy wr.heap.size;have H:Hid (Below U.heap.size U D):=hid (Xx O.out l);have V:=hid ((But.of_below (X:=NoB) l).own Q fun _ _ e=>e);rw[Z] at Ah ⊢;have I:=hid Ah;have W:Hid (kJ z.1):=hid G.1;have hq:∀u,Below D.heap.size D u→u.cell? ⟨b5,34,none⟩=some (.string z.2)∧u.rangeAt b5 0 (kc z.1)∧StateAt u B s S q:=fun u m=>
       ⟨(m.cell (p:=⟨b5,34,none⟩) (qX I)).trans ((jo I 34).trans (named_cell G)),
        fun j v hj=>(m.cell (p:=⟨b5,0+j,none⟩) (qX I)).trans ((jo I (0+j)).trans (named_doc G j v hj)),
        HS.keep (M.trans ((Xx H.out m).mono M.size))⟩
     have C:=hid hq;have A6:Hid (∀u,Below D.heap.size D u→Calls prog 36 #[Ua S q z.1] u fun e w'=>Below u.heap.size u w'∧e=.returned (.string (fileS S z).2)):=hid fun u m=>by
       unfold Ua fileS;cases ho:jv S z.1 with
       |none=>exact dtext_nil u
       |some d=>exact((C u m).2.2.docs z.1 d ho).2.text (HD z.1 d ho)
     have A7:Hid ((fileS S z).1=z.2):=hid rfl;clear Ah l hq Z R;generalize fileS S z=x at *;obtain⟨Ar,As,At,Au,Av⟩:=info_parts infoFile;have A8:=hid (fun (u:World) (m:Below D.heap.size D u)=>(But.of_below (X:=NoB) m).own V fun _ _ q=>q);refine rN 13 (fun u=>Below D.heap.size D u) (qD _ _) fun a=>?_
     refine tw 0 _ ?_;go_frame;refine tw 1 _ ?_;go_frame;refine tl 2 _ rfl a (fun w' K=>l1 underlying9 (C w' K).1) ?_;go_frame;refine tw 3 _ ?_;go_frame;refine tw 4 _ ?_;go_frame;refine tw 5 _ ?_;go_frame;refine tw 6 _ ?_;go_frame;refine tl 7 _ rfl a (fun w' K=>l1 underlying81 ((k6 (C w' K).2.2.box 0))) ?_;go_frame;refine tw 8 _ ?_;go_frame;refine tl 9 _ rfl a (fun w' K=>ldK W (C w' K).2.1) ?_;go_frame;refine tl 10 _ rfl a (fun w' K=>Kd keyEnc underlying81 (docPtrZ15 _) (C w' K).2.2.mapD W rfl) ?_;go_frame;refine ta 11 ?_;refine tc #[Ua S q z.1] Aq rfl ?_;refine(A6 _ (qD _ _)).mono ?_;rintro e u1 ⟨An,rfl⟩;have T:=hid ((qD D.heap.size D).trans (An.mono (qD D.heap.size D).size));clear An;refine⟨_,rfl,fun _ _=>T,?_⟩;go_frame;refine tk 12 (.agg (zw x).toArray) rfl (fun w' K=>kp 33 _ rfl (by simp only[xV,xX,Yy];rw[←A7.out];exact file_built x _)) ?_;go_frame;refine ta 13 ?_;refine zP _ rfl yq (Zq 26 _ rfl 33 underlying26 (.agg fileZ.toArray) 2 32 infoFile rfl yj yj (zw x) rfl rfl) ?_;refine⟨fun h=>absurd h yj,?_⟩;go_frame;obtain⟨WD,Aw⟩:=Xy u1;have J:Hid (Below D.heap.size D (u1.alloc (.cells (zw x).toArray 33))):=hid (T.alloc T.size _);clear Aw a;refine ta 14 ?_;refine Jy _ rfl yq (Jz _ _ 26 rfl U.heap.size 33 Ar (.agg fileZ.toArray) 2 32 underlying26 As At Au Av rfl yj (.slice f i g) i (kf zw F0) rfl (A8 _ J) (some ⟨u1.heap.size,0,none⟩) 1 1 (u1.heap.size+1) (zw x) rfl ⟨rfl,fun _=>⟨u1.heap.size,0,rfl,by omega,fun j u hj=>by rw[Nat.zero_add];exact(k6 (heap_alloc_new _ _) j).trans hj⟩⟩ (fileV_one _) (by have:=E.out;unfold maxLen;omega) (by have:=E.out;omega) (Nat.le_trans H.size J.size) ?_);intro v3 w3 Ai Ao;have A9:=hid Ai;have Aa:Hid (Below U.heap.size U w3):=hid ((Xx H.out J.out).grown Ao (Nat.le_trans H.size J.size) fun k e=>(V.lt k e).1);obtain⟨A3,c3,rfl⟩:=kX Ai;clear Ai Ao;refine⟨fun h=>absurd h yj,?_⟩;go_frame;refine tw 15 _ ?_;go_frame;refine ku yq ?_ _;have AC:(i:Int)≤900:=by have:=E.out;omega
     go_wp2_with fail
     go_roundw
     case rel=>
       refine⟨i+1,A3,c3,by omega,rfl,by go_num,Aa,hid ?_⟩;rw[A4.out,K4];exact A9.out
     case measure=>(simp [intOf])<;>omega
    ·have Ax:i=r.length:=yv;subst Ax;have Ab:Hid (wr.ownsRow U.heap.size 33 2 (.slice f r.length g) (jn S).length (kf zw (jn S))):=hid (by
       have h1:=Q.out;rw[List.take_length,F.out] at h1;rw[←F.out];simp only[um,Yv];rw[←um,F.out];exact h1)
     have Y:Hid ((jn S).length=r.length):=hid (by rw[←F.out];simp [um]);have Ac:=hid (sort_files (jn S) HN U (.slice f r.length g) wr O Ab (by rw[Y.out];have:=E.out;omega));clear Q
     go_wp2_with (first
       |(go_at_call 37;refine Ac.mono ?_;rintro e w5 ⟨rfl,Z,A5,c5,Ay,Ap⟩;have Ad:=hid (Xx M.out Z);have Ae:=hid Ap
         injection Ay with e1 e2 e3;subst e1 e3;clear Z Ap))
     go_ret;exact⟨Ad,f,g,by rw[Y.out];rfl,Ae.out⟩
def vj(r s:Nat):Int:=128+(r:Int) / ((2 ^ s:Nat):Int) % 64
theorem tail_any(s:Nat)(hs:s=0∨s=6∨s=12)(b r:Nat)(hr:r≤1114111)(w:World)(hc:w.cell? ⟨b,0,none⟩=some (.int .i32 (r:Int))):
    Calls prog 181 #[.int .i64 (s:Int),.pointer (some ⟨b,0,none⟩)] w fun e w'=>e=.returned (.int .u8 (vj r s))∧w'=w:=by
  rcases hs with rfl|rfl|rfl
  ·go_enter func181,ntmps181;go_wp2_with fail;go_ret;exact⟨by unfold vj;simp,rfl⟩
  ·go_enter func181,ntmps181;go_wp2_with fail;go_ret;exact⟨by unfold vj;simp,rfl⟩
  ·go_enter func181,ntmps181;go_wp2_with fail;go_ret;exact⟨by unfold vj;simp,rfl⟩
theorem Qf(w:World)(l:List UInt8)(n:Nat)(hn:l.length=n):(convert 169 9 (.slice (some ⟨w.heap.size,0,none⟩) n n)).run prog (w.alloc (.cells (idV l).toArray 5))=.ok (.string ⟨l.toArray⟩) (w.alloc (.cells (idV l).toArray 5)):=by
  have A:=Lib.run_convert_window (P:=prog) (w.alloc (.cells (idV l).toArray 5)) 169 5 9 underlying169 underlying5 underlying9 w.heap.size 0 ⟨l.toArray⟩ (fun i C=>by
    have B:i<l.length:=C;refine(k6 (heap_alloc_new w _) (0+i)).trans ?_;rw[Nat.zero_add];unfold idV;rw[List.getElem?_map,yK B];rfl) 0 n n (by show 0+n≤l.length;omega)
  rw[Nat.zero_add,Nat.zero_add] at A;have D:ByteArray.extract ⟨l.toArray⟩ 0 n=⟨l.toArray⟩:=by
    have e:n=(⟨l.toArray⟩:ByteArray).size:=by show n=l.toArray.size;rw[xz];exact hn.symm
    rw[e];exact ByteArray.extract_zero_size
  rw[D] at A;exact A
theorem encode_two(r:Nat)(h1:128≤r)(h2:r<2048)(hv:r≤1114111)(hm:Kp (r:Int)=true)(w:World):Calls prog 133 #[.int .i32 (r:Int)] w fun e w'=>Below w.heap.size w w'∧e=.returned (.tuple #[.string ⟨(Zu r).toArray⟩,.int .i64 0]):=by
  have R:(0:Int)≤(r:Int):=yv;have S:(r:Int)<2048:=yv;have T:decide ((r:Int)<128)=false:=dF yv;have U:decide ((r:Int)<2048)=true:=dT yv;have M:=hid hm;have F:Zu r=[UInt8.ofNat (192+r / 64),UInt8.ofNat (128+r % 64)]:=by
    unfold Zu;rw[if_neg yv,if_pos yv]
  have I:([.int .u8 (192+(r:Int) / 64),.int .u8 (vj r 0)]:List Value)=idV (Zu r):=by
    rw[F];unfold idV vj;simp only[xX,Yy]
    repeat rw[UInt8.toNat_ofNat_of_lt' (by show _<256;omega)]
    simp
  have B:=hid I;have C:Hid ((Zu r).length=2):=hid (by rw[F];rfl);clear F I;go_enter func133,ntmps133
  go_upto_region 9 with (first
    |(go_at_call 180;refine(vY (r:Int) _ yv yv).mono ?_;rintro e V ⟨rfl,rfl⟩;rw[M.out]))
  obtain⟨W,G⟩:∃z,w.alloc (.cells #[.int .i32 (r:Int)] 21)=z:=⟨_,rfl⟩;obtain⟨b,H⟩:=Xy w.heap.size;have A:Hid (Gr w W):=hid (by rw[←G];exact(Gr.refl w).alloc _);have J:b<W.heap.size:=by rw[←G,←H];simp
  have K:W.cell? ⟨b,0,none⟩=some (.int .i32 (r:Int)):=by
    rw[←G,←H];exact k6 (cs:=[.int .i32 (r:Int)]) (heap_alloc_new w _) 0
  rw[G,H];clear G H;have N:=Wg.cell K J;have D:=hid (show ∀(s:Nat),s=0∨s=6∨s=12→∀n:Wg W,Calls prog 181 #[.int .i64 (s:Int),.pointer (some ⟨b,0,none⟩)] n.val fun e L=>e=.returned (.int .u8 (vj r s))∧∃m:Wg W,L=m.val from fun s Q n=>(tail_any s Q b r hv n.val (N n)).mono fun e L ⟨h1,h2⟩=>⟨h1,n,h2⟩);clear K J hm;refine jp 6 yq yq yq yq yq ?_;simp only[List.take_succ_cons,List.take_zero,List.drop_succ_cons,List.drop_zero]
  repeat (first
    |go_big_quiet_skip
    |(go_big_quiet_want
      (go_big_quiet_op
       first
          |go_big_quiet_on
          |go_big_quiet_call (first
              |(go_at_call 181;exact D 0 (.inl rfl) _)))))
  refine wpQuiet_nil ?_;rintro w' ⟨k,rfl⟩;have O:=k.2;generalize k.val=W2 at *;have E:=hid (A.trans O);clear O N D A
  go_upto_region 12 with fail
  have P:=Qf W2 (Zu r) 2 C.out;rw[←B.out] at P;go_wp2_with fail;go_ret2;exact⟨E.below.alloc E.below.size _,rfl⟩
theorem encode_three(r:Nat)(h1:2048≤r)(h2:r<65536)(hv:r≤1114111)(hm:Kp (r:Int)=true)(w:World):Calls prog 133 #[.int .i32 (r:Int)] w fun e w'=>Below w.heap.size w w'∧e=.returned (.tuple #[.string ⟨(Zu r).toArray⟩,.int .i64 0]):=by
  have R:(0:Int)≤(r:Int):=yv;have S:(r:Int)<65536:=yv;have T:decide ((r:Int)<128)=false:=dF yv;have U:decide ((r:Int)<2048)=false:=dF yv;have V:decide ((r:Int)<65536)=true:=dT yv;have M:=hid hm;have F:Zu r=[UInt8.ofNat (224+r / 4096),UInt8.ofNat (128+r / 64 % 64),UInt8.ofNat (128+r % 64)]:=by
    unfold Zu;rw[if_neg yv,if_neg yv,if_pos yv]
  have I:([.int .u8 (224+(r:Int) / 4096),.int .u8 (vj r 6),.int .u8 (vj r 0)]:List Value)=idV (Zu r):=by
    rw[F];unfold idV vj;simp only[xX,Yy]
    repeat rw[UInt8.toNat_ofNat_of_lt' (by show _<256;omega)]
    simp
  have C:=hid I;have D:Hid ((Zu r).length=3):=hid (by rw[F];rfl);clear F I;go_enter func133,ntmps133
  go_upto_region 11 with (first
    |(go_at_call 180;refine(vY (r:Int) _ yv yv).mono ?_;rintro e X ⟨rfl,rfl⟩;rw[M.out]))
  obtain⟨W,G⟩:∃z,w.alloc (.cells #[.int .i32 (r:Int)] 21)=z:=⟨_,rfl⟩;obtain⟨b,H⟩:=Xy w.heap.size;have A:Hid (Gr w W):=hid (by rw[←G];exact(Gr.refl w).alloc _);have J:b<W.heap.size:=by rw[←G,←H];simp
  have K:W.cell? ⟨b,0,none⟩=some (.int .i32 (r:Int)):=by
    rw[←G,←H];exact k6 (cs:=[.int .i32 (r:Int)]) (heap_alloc_new w _) 0
  rw[G,H];clear G H;have N:=Wg.cell K J;have B:=hid (show ∀(s:Nat),s=0∨s=6∨s=12→∀n:Wg W,Calls prog 181 #[.int .i64 (s:Int),.pointer (some ⟨b,0,none⟩)] n.val fun e L=>e=.returned (.int .u8 (vj r s))∧∃m:Wg W,L=m.val from fun s Q n=>(tail_any s Q b r hv n.val (N n)).mono fun e L ⟨h1,h2⟩=>⟨h1,n,h2⟩);clear K J hm;refine jp 8 yq yq yq yq yq ?_;simp only[List.take_succ_cons,List.take_zero,List.drop_succ_cons,List.drop_zero]
  repeat (first
    |go_big_quiet_skip
    |(go_big_quiet_want
      (go_big_quiet_op
       first
          |go_big_quiet_on
          |go_big_quiet_call (first
              |(go_at_call 181;exact B 6 (.inr (.inl rfl)) _)
              |(go_at_call 181;exact B 0 (.inl rfl) _)))))
  refine wpQuiet_nil ?_;rintro w' ⟨k,rfl⟩;have O:=k.2;generalize k.val=W2 at *;have E:=hid (A.trans O);clear O N B A
  go_upto_region 12 with fail
  have P:=Qf W2 (Zu r) 3 D.out;rw[←C.out] at P;go_wp2_with fail;go_ret2;exact⟨E.below.alloc E.below.size _,rfl⟩
theorem encode_four(r:Nat)(h1:65536≤r)(h2:r<1114112)(hv:r≤1114111)(hm:Kp (r:Int)=true)(w:World):Calls prog 133 #[.int .i32 (r:Int)] w fun e w'=>Below w.heap.size w w'∧e=.returned (.tuple #[.string ⟨(Zu r).toArray⟩,.int .i64 0]):=by
  have R:(0:Int)≤(r:Int):=yv;have S:(r:Int)<1114112:=yv;have T:decide ((r:Int)<128)=false:=dF yv;have U:decide ((r:Int)<2048)=false:=dF yv;have V:decide ((r:Int)<65536)=false:=dF yv;have M:=hid hm;have F:Zu r=[UInt8.ofNat (240+r / 262144),UInt8.ofNat (128+r / 4096 % 64),UInt8.ofNat (128+r / 64 % 64),UInt8.ofNat (128+r % 64)]:=by
    unfold Zu;rw[if_neg yv,if_neg yv,if_neg yv]
  have I:([.int .u8 (240+(r:Int) / 262144),.int .u8 (vj r 12),.int .u8 (vj r 6),.int .u8 (vj r 0)]:List Value)=idV (Zu r):=by
    rw[F];unfold idV vj;simp only[xX,Yy]
    repeat rw[UInt8.toNat_ofNat_of_lt' (by show _<256;omega)]
    simp
  have C:=hid I;have D:Hid ((Zu r).length=4):=hid (by rw[F];rfl);clear F I;go_enter func133,ntmps133
  go_upto_region 5 with (first
    |(go_at_call 180;refine(vY (r:Int) _ yv yv).mono ?_;rintro e X ⟨rfl,rfl⟩;rw[M.out]))
  obtain⟨W,G⟩:∃z,w.alloc (.cells #[.int .i32 (r:Int)] 21)=z:=⟨_,rfl⟩;obtain⟨b,H⟩:=Xy w.heap.size;have B:Hid (Gr w W):=hid (by rw[←G];exact(Gr.refl w).alloc _);have J:b<W.heap.size:=by rw[←G,←H];simp
  have K:W.cell? ⟨b,0,none⟩=some (.int .i32 (r:Int)):=by
    rw[←G,←H];exact k6 (cs:=[.int .i32 (r:Int)]) (heap_alloc_new w _) 0
  rw[G,H];clear G H;have N:=Wg.cell K J;have A:=hid (show ∀(s:Nat),s=0∨s=6∨s=12→∀n:Wg W,Calls prog 181 #[.int .i64 (s:Int),.pointer (some ⟨b,0,none⟩)] n.val fun e L=>e=.returned (.int .u8 (vj r s))∧∃m:Wg W,L=m.val from fun s Q n=>(tail_any s Q b r hv n.val (N n)).mono fun e L ⟨h1,h2⟩=>⟨h1,n,h2⟩);clear K J hm;refine jp 10 yq yq yq yq yq ?_;simp only[List.take_succ_cons,List.take_zero,List.drop_succ_cons,List.drop_zero]
  repeat (first
    |go_big_quiet_skip
    |(go_big_quiet_want
      (go_big_quiet_op
       first
          |go_big_quiet_on
          |go_big_quiet_call (first
              |(go_at_call 181;exact A 12 (.inr (.inr rfl)) _)
              |(go_at_call 181;exact A 6 (.inr (.inl rfl)) _)
              |(go_at_call 181;exact A 0 (.inl rfl) _)))))
  refine wpQuiet_nil ?_;rintro w' ⟨k,rfl⟩;have O:=k.2;generalize k.val=W2 at *;have E:=hid (B.trans O);clear O N A B
  go_upto_region 12 with fail
  have P:=Qf W2 (Zu r) 4 D.out;rw[←C.out] at P;go_wp2_with fail;go_ret2;exact⟨E.below.alloc E.below.size _,rfl⟩
theorem encode_all(r:Nat)(h:mayN r=true)(w:World):Calls prog 133 #[.int .i32 (r:Int)] w fun e w'=>Below w.heap.size w w'∧e=.returned (.tuple #[.string ⟨(Zu r).toArray⟩,.int .i64 0]):=by
  have A:Kp (r:Int)=true:=by
    unfold mayN at h;unfold Kp;simp only[Bool.or_eq_true,xy,decide_eq_true_eq] at h ⊢;omega
  have B:r≤1114111:=by
    unfold mayN at h;simp only[Bool.or_eq_true,xy,decide_eq_true_eq] at h;omega
  rcases (by omega:r<128∨(128≤r∧r<2048)∨(2048≤r∧r<65536)∨(65536≤r∧r<1114112)) with h|h|h|h
  ·exact vr r h w
  ·exact encode_two r h.1 h.2 B A w
  ·exact encode_three r h.1 h.2 B A w
  ·exact encode_four r h.1 h.2 B A w
end
section
open Go.RowKit
theorem Uc{L:List ks}{S:kj}(h:StateFew L S)(hL:FewL L):S.2.1.length≤200:=Nat.le_trans h.of.le.claims (h.bounds hL).1
theorem few_small{L:List ks}{S:kj}(h:StateFew L S)(hL:FewL L)(hs:StateSure S){k:kE}{d:List kQ}(hd:jv S k=some d):uk d:=by
  have A:=Ku hd;have B:=h.of.le.size _ A;have F:=(h.bounds hL).2.1;have D:=Uq (h.of.ok.runs _ A);refine⟨by dsimp only at B D;omega,fun r C=>⟨?_,fun u E w=>encode_all u (hs.runes _ A r C u E) w⟩⟩;have G:=sum_one (f:=fun r:kQ=>r.2.1.length) C;dsimp only at B;unfold Kq at B;omega
theorem files_apart(S:kj):∀x∈jn S,∀y∈jn S,L x.1=L y.1→x=y:=by
  intro x A y B e;unfold jn at A B;obtain⟨a,E,rfl⟩:=List.mem_map.1 A;obtain⟨b,F,rfl⟩:=List.mem_map.1 B;have C:a.2=b.2:=by simpa [L] using e
  obtain⟨i,G,rfl⟩:=List.getElem_of_mem E;obtain⟨j,H,rfl⟩:=List.getElem_of_mem F;have D:=findS_is S.2.1 G;have I:=findS_is S.2.1 H;rw[C] at D;have J:=Option.some.inj (D.symm.trans I);rw[C,J]
theorem sfiles_few{L:List ks}(B s:Nat)(S:kj)(q:kV)(w:World)(h:StateAt w B s S q)(hf:StateFew L S)(hL:FewL L)(hs:StateSure S)(hg:Glob w)(hit:ItoaB 202 w):
    Calls prog 11 #[.pointer (some ⟨s,0,none⟩)] w fun e w'=>Below w.heap.size w w'∧∃A c,e=.returned (.slice A (jn S).length c)∧Sl w' w'.heap.size A (jn S).length 2 (kf zw (ordF (jn S))):=
  sfiles_core 200 yj B s S q w h (Uc hf hL) hs.paths hg hit (fun k d C=>few_small hf hL hs C) (files_apart S)
theorem find_key{w:World}{B s:Nat}{S:kj}{q:kV}(h:StateAt w B s S q)(p:List UInt8):kJ ((zO S.2.1 p).getD zM):=by
  cases hf:zO S.2.1 p with
  |none=>exact qh
  |some k=>
   unfold zO at hf;obtain⟨n,E,rfl⟩:=Option.map_eq_some_iff.1 hf;have A:=List.mem_of_find?_eq_some E;have C:n.1∈Uk S.2.1:=by
      unfold Kj at A
      split at A
      ·have D:=List.mem_map_of_mem (f:=(·.1)) A;rw[vl] at D;exact(List.mem_filter.1 D).1
      ·cases A
   unfold Uk at C;rw[UJ] at C;obtain⟨x,F,e⟩:=List.mem_map.1 C;show kJ n.1;rw[←e];exact(h.claimsOk x F).2.1
theorem pc_all:∀(d:List kQ) (st:List jC×Bool) (i:Nat),PcOk st i→(∀r∈d,kJ r.1∧(0≤r.1.2.2∧r.1.2.2+(r.2.1.length:Int)≤2147483648)∧r.2.1.length≤65536)→∃j,PcOk (d.foldl KA st) j
  | [],st,i,h,_=>⟨i,h⟩
  |r::d,st,i,h,hr=>by
   obtain⟨h1,h2,h3⟩:=hr r (List.mem_cons_self ..);exact pc_all d (KA st r) (i+1) (h.step h1 h2.1 h2.2 h3) fun q A=>hr q (List.mem_cons_of_mem _ A)
theorem pieces_ok{w:World}{B p:Nat}{v:Value}{d:List kQ}(h:DocAt w B p v d)(hd:uk d)(hix:RunIx d):∀x∈zI d,Jm x:=by
  obtain⟨H,C,D,I⟩:=h.rows;obtain⟨j,E⟩:=pc_all d ([],true) 0 ⟨(fun x F=>by cases F),xY _,YX _⟩ fun r A=>by
    refine⟨?_,hix r A,(hd.2 r A).1⟩;rw[←C] at A;obtain⟨m,G,rfl⟩:=List.mem_map.1 A;exact(D m G).1
  exact E.1
theorem sblame_few{L:List ks}(B s:Nat)(S:kj)(q:kV)(p:ByteArray)(w:World)(h:StateAt w B s S q)(hf:StateFew L S)(hL:FewL L)(hs:StateSure S)(hg:Glob w)(hit:ItoaB 202 w):
    Calls prog 12 #[.pointer (some ⟨s,0,none⟩),.string p] w fun e w'=>Below w.heap.size w w'∧∃v,e=.returned (.tuple #[v,.int .i64 (qG S p)])∧w'.ownsRow w.heap.size 43 34 v (JC S p).length (kf jR (JC S p)):=
  sblame_anyN 200 yj B s S q p w h (Uc hf hL) hs.paths hg hit (find_key h _) fun k d E A=>
    have C:=few_small hf hL hs A;have D:=hf.ix _ (Ku A)
    ⟨C,D,hf.of.ok.runs _ (Ku A),pieces_ok (h.docs k d A).2 C D⟩
theorem tells_one{S:kj}(ho:StateOk S){x:Zd}(hx:x∈jn S):
    qG S x.1=0∧qi (fun i=>(kC S i).isSome=true) (je S) (JC S x.1)∧jy (JC S x.1)=L x.2:=by
  unfold jn at hx;obtain⟨a,A,rfl⟩:=List.mem_map.1 hx;obtain⟨i,B,rfl⟩:=List.getElem_of_mem A;have C:=findS_is S.2.1 B;generalize (Kj S.2.1)[i]=n at *;have D:zO S.2.1 (L (⟨n.2.toArray⟩:ByteArray))=some n.1:=by rw[L_mk];exact C
  unfold qG JC;dsimp only;rw[D];refine⟨rfl,?_⟩;dsimp only;rw[L_mk];refine blame_ok (je S) ?_;cases hd:jv S n.1 with
  |none=>exact fun r E=>by cases E
  |some d=>exact ho.runs _ (Ku hd)
theorem UH(a b:List UInt8):Ki a b=Ki b a:=by
  unfold Ki;rw[Bool.or_assoc,Bool.or_assoc,Bool.or_comm (uO a b)]
  congr 1
  rw[Bool.eq_iff_iff];simp only[decide_eq_true_eq];exact eq_comm
theorem files_pair(S:kj):(ordF (jn S)).Pairwise fun a b=>Ki (L a.1) (L b.1)=false:=by
  have h:=Qk S.2.1;rw[List.pairwise_map] at h;have A:(jn S).Pairwise fun a b=>Ki (L a.1) (L b.1)=false:=by
    unfold jn;rw[List.pairwise_map];exact h.imp fun {a b} q=>by rw[L_mk,L_mk,UH];exact q
  exact(qn _).symm.pairwise A fun {a b} q=>by rw[UH];exact q
theorem cmpF_total(a b:Zd):(!(decide (cmpF b a<0)) || !(decide (cmpF a b<0)))=true:=by
  unfold cmpF;rcases Zx (L a.1) (L b.1) with q|q|q
  ·have h:=Jr (a:=L a.1) (b:=L b.1);rw[q] at *
   simp_all
  ·rw[q];simp
  ·rw[q];simp
theorem files_order(S:kj):(ordF (jn S)).Pairwise fun a b=>Ki (L a.1) (L b.1)=false∧jJ (L a.1) (L b.1)<0:=by
  have C:=files_pair S;have D:(ordF (jn S)).Pairwise fun a b=>¬cmpF b a<0:=by
    unfold ordF ordA;rw[List.pairwise_map];refine(List.pairwise_mergeSort (le:=fun x y:InF (jn S)=> !(decide (cmpA (jn S) y x<0))) ?_ ?_ _).imp fun {a b} q=>fun h=>by
      have A:(!(decide (cmpF b.1 a.1<0)))=true:=q;rw[decide_eq_true h] at A;cases A
    ·intro a b c p q;simp only[Bool.not_eq_true',decide_eq_false_iff_not] at p q ⊢;intro h;unfold cmpA cmpF at *;rcases Zx (L b.1.1) (L a.1.1) with r|r|r
     ·exact p (by rw[r];decide)
     ·rw[Kl.1 r] at q;exact q h
     ·exact q (KD h (by rw[Jr (L b.1.1) (L a.1.1),r];decide))
    ·intro a b;exact cmpF_total a.1 b.1
  refine(C.and D).imp fun {a b} q=>⟨q.1,?_⟩
  have B:L a.1≠L b.1:=fun e=>by
    have:=q.1;rw[e,clashB_self] at this;cases this
  have E:=q.2;unfold cmpF at E;rcases Zx (L a.1) (L b.1) with r|r|r
  ·rw[r];decide
  ·exact absurd (Kl.1 r) B
  ·have F:=Jr (L b.1) (L a.1);rw[r] at F;omega
theorem ZP{f:kE→Option kN}(hf:∀d c,f d=some c→c.2.2.2.size≤1073741824):∀(ds:List kE) (taken:List (List UInt8)),taken.length+ds.length≤990→∀x∈zV f ds taken,x.2.length≤1073741828
  | [],taken,_,x,hx=>by cases hx
  |d::r,taken,hl,x,hx=>by
   rw[Yx] at hl;unfold zV at hx;cases hd:f d with
   |none=>
    rw[hd] at hx;exact ZP hf r taken yv x hx
   |some c=>
    rw[hd] at hx;dsimp only at hx
    split at hx
    ·exact ZP hf r taken yv x hx
    ·rcases xK.1 hx with rfl|hx
     ·have h1:=(UD (L c.2.2.2) taken yv).2;have A:=hf d c hd;rw[jf] at h1;show (JG (L c.2.2.2) taken).length≤1073741828;omega
     ·exact ZP hf r _ (by rw[yV,xQ];omega) x hx
theorem filesOf_small{L0:List ks}{S:kj}(h:StateFew L0 S)(hL:FewL L0)(hs:StateSure S):∀x∈jn S,x.1.size≤1073741828:=by
  intro x B;unfold jn at B;obtain⟨a,A,rfl⟩:=List.mem_map.1 B;show (⟨a.2.toArray⟩:ByteArray).size≤1073741828;rw[←jf,L_mk];unfold Kj at A
  split at A
  ·refine ZP (fun d c C=>hs.paths c (ur C).1) _ _ ?_ a A;have D:=Zt S.2.1;have E:=Uc h hL;rw[YJ];omega
  ·cases A
end
section
open Go.RowKit Go.Maps
open Lib (hid)
theorem change_any(B s:Nat)(S:kj)(q:kV)(i:List UInt8)(c:ks)(mk:List zD)(w:World)(h:StateAt w B s S q)(hi:jr i)(he:kC S i=some (c,mk))(hnd:c.2.1.length≤1073741824)(hno:c.2.2.2.length≤1073741824):
    Calls prog 13 #[.pointer (some ⟨s,0,none⟩),.agg (idV i).toArray] w fun e w'=>Below w.heap.size w w'∧∃l m A2 c2,e=.returned (.tuple #[.agg (chC c.1 l c.2.1.length m c.2.2.1 A2 c.2.2.2.length c2).toArray,.int .i64 0])∧w'.ownsRow w.heap.size 41 32 (.slice l c.2.1.length m) c.2.1.length (zB c.2.1)∧w'.ownsRow w.heap.size 112 70 (.slice A2 c.2.2.2.length c2) c.2.2.2.length (kf opV c.2.2.2):=by
  have HI:=hid hi;have HS:=hid h
  have AI:=qX h.box;have L:=hid (h.entries i _ he).2;obtain⟨Ad,cd,hd⟩:=kX L.deps;obtain⟨Ao,co,ho⟩:=kX L.ops;obtain⟨v3,Ay⟩:=Xy ((q.em i).2.2);have HG:Hid (KU S q i=chC c.1 Ad c.2.1.length cd c.2.2.1 Ao c.2.2.2.length co++[v3]):=hid (by unfold KU;rw[he];simp [Kk,chC,hd,ho,Ay]);have Al:=hid (Sl.of_own (by have h1:=L.deps;rw[hd] at h1;exact h1));have Am:=hid (Sl.of_own (by have h1:=L.ops;rw[ho] at h1;exact h1));have A6:Hid ((kC S i).isSome=true):=hid (by rw[he];rfl);clear hi h he hd ho Ay L;go_enter func13,ntmps13
  go_upto_region 3 with (first
    |(with_reducible refine kG ?_
      refine kz yk 41 _ rfl (idV i) _ rfl rfl (by rw[kn,HI.out];kernel_rfl) ?_;intro W0 o r AJ)
    |(with_reducible refine kF ?_
      refine kv yk 37 rfl changeZ (UA _) ?_;intro a Az M AK;have t:=hid (Xx o.out Az.out);have I:=hid ((Az.block w.heap.size (qX r)).trans r);have x:=hid (show w.heap.size≤W0.heap.size from o.size)))
  obtain⟨b0,AA⟩:=Xy w.heap.size;obtain⟨n,d⟩:=Xy W0.heap.size;rw[AA] at I ⊢;rw[d] at M x ⊢;clear o r d;have W:=hid (HS.keep t);have A7:=hid (entryG_one W i);have HF:Hid (∀u:World,Below a.heap.size a u→u.cell? ⟨s,2,none⟩=some (.map (some q.bc))∧u.rangeAt b0 0 (idV i)∧MapV u prog 41 jr idL q.bc S.2.2.length (fun i=>(kC S i).map fun e=>.agg (Kk e (q.em i)).toArray)):=hid fun u hu=>
    ⟨(hu.cell (p:=⟨s,2,none⟩) (qX W.box)).trans (k6 W.box 2),fun j v hj=>by rw[qZ];exact(hu.cell (p:=⟨b0,j,none⟩) (qX I)).trans ((k6 I j).trans hj),W.mapC.below hu⟩
  refine rN 10 (fun u=>u.cell? ⟨s,2,none⟩=some (.map (some q.bc))∧u.rangeAt b0 0 (idV i)∧MapV u prog 41 jr idL q.bc S.2.2.length (fun i=>(kC S i).map fun e=>.agg (Kk e (q.em i)).toArray)) (HF _ (qD _ _)) fun f=>?_
  refine tw 0 _ ?_;go_frame;refine tw 1 _ ?_;go_frame;refine tw 2 _ ?_;go_frame;refine tl 3 _ rfl f (fun w' b=>l1 underlying85 b.1) ?_;go_frame;refine tl 4 _ rfl f (fun w' b=>ldD HI b.2.1) ?_;go_frame;refine tl 5 (.tuple #[.agg (KU S q i).toArray,.bool true]) rfl f (fun w' b=>ex_mapGet2 Qx underlying85 (KH _) b.2.2 HI (by rw[Z7,←A6.out];cases kC S i<;>rfl)) ?_;go_frame;refine tw 6 _ ?_;go_frame;refine tw 7 _ ?_;go_frame;refine tw 8 _ ?_;go_frame;refine ta 9 ?_;refine zJ _ rfl yq 105 rfl entryZ (KH _) ?_;intro W3 Ah Ai Ar;have N:=hid Ah;have O:=hid Ai
  clear Ah Ai Ar;have Y:=hid ((qD a.heap.size a).trans (N.mono (qD a.heap.size a).size));refine⟨fun _ _=>HF _ Y,?_⟩;go_frame;refine ta 10 ?_;refine kR _ rfl yq 105 _ _ rfl a.drew.heap.size 0 [] entryZ [] (KU S q i) 105 (.agg (KU S q i).toArray) rfl rfl rfl rfl (by simpa using O.out) (by rw[uX];rfl) (by rw[uX];kernel_rfl) A7.out ?_;intro W4 d Aj As;have E:=hid (Y.trans (d.below (B:=a.heap.size) Y.size (fun k hk e=>by
    have e2:k=a.drew.heap.size:=e;have e3:a.drew.heap.size=a.heap.size:=rfl;omega)))
  have F:Hid (W4.heap[a.heap.size]?=some (.cells (chC c.1 Ad c.2.1.length cd c.2.2.1 Ao c.2.2.2.length co++[v3]).toArray 105 (0,0))):=hid (by rw[←HG.out];simpa using Aj);clear d Aj As;refine⟨fun h=>absurd h yj,?_⟩;go_frame;refine tw 11 _ ?_;go_frame;refine ku yq ?_ _;have J:Hid (Below w.heap.size w W4):=hid (Xx t.out E.out);have D:=hid ((E.block n (qX M)).trans M);obtain⟨eb,At⟩:=Xy a.heap.size;have An:=hid (show n≠eb by have:=qX M.out;omega);have Au:a.drew.heap.size=eb:=At;rw[At] at F;simp only[Au];have A8:=hid (show W4.rangeAt eb 0 (chC c.1 Ad c.2.1.length cd c.2.2.1 Ao c.2.2.2.length co) from fun j u hj=>by
    rw[qZ];refine(k6 F j).trans ?_;rw[xv (yJ.1 hj).1];exact hj)
  clear N O Y f HF HG A7 A6 E M I At Au t
  go_upto_region 7 with (first
    |(with_reducible refine k8 ?_
      refine k7 yk (kg 37 _ rfl (p:=⟨eb,0,none⟩) rfl (qV _ eb 0 _ _ _ A8 underlying37 rfl yq)) ?_)
    |(with_reducible refine kF ?_
      refine kv yk 37 rfl changeZ (UA _) ?_;intro W5 Ak A9 AL;have y:=hid (Xx J.out Ak.out);have Q:=hid ((Ak.block n (qX D)).trans D))
    |(with_reducible refine kD ?_
      refine kr yk 37 _ _ rfl W4.heap.size 0 [] changeZ [] (chC c.1 Ad c.2.1.length cd c.2.2.1 Ao c.2.2.2.length co) 37 (.agg (chC c.1 Ad c.2.1.length cd c.2.2.1 Ao c.2.2.2.length co).toArray) rfl rfl rfl rfl (by simpa using A9.out) rfl yq (U5 _ _ _ _ _ _ _ _) ?_;intro P AB C AG;have A:Hid (Below w.heap.size w P):=hid (y.trans (AB.below (B:=w.heap.size) y.size (fun k hk e=>by have e2:k=W4.heap.size:=e;have:=J.size;omega)));have R:=hid ((AB.block n (qX Q) (by have:=qX D.out;omega)).trans Q.out);have Aa:=hid (show n≠W4.heap.size by have:=qX D.out;omega);have Ab:=hid (show w.heap.size≤W4.heap.size from J.size)))
  obtain⟨b5,Ak⟩:=Xy W4.heap.size;rw[Ak] at C Aa Ab ⊢;clear y A9 Q J D A8 F An Ak;have z:=hid (show ∀u:World,Below P.heap.size P u→u.cell? ⟨b5,1,none⟩=some (.slice Ad c.2.1.length cd)∧u.cell? ⟨b5,3,none⟩=some (.slice Ao c.2.2.2.length co) from fun u hu=>⟨k6 ((hu.block b5 (qX C)).trans C) 1,k6 ((hu.block b5 (qX C)).trans C) 3⟩);have AC:=enE func42 rfl;have AD:=enE func43 rfl;refine rN 6 (fun u=>Below P.heap.size P u) (qD _ _) fun f=>?_
  refine tw 0 _ ?_;go_frame;refine tl 1 _ rfl f (fun w' b=>l1 underlying34 (z w' b).1) ?_;go_frame;refine tw 3 _ ?_;go_frame;refine tl 4 _ rfl f (fun w' b=>l1 underlying35 (z w' b).2) ?_;go_frame;refine ta 2 ?_;refine tc #[.slice Ad c.2.1.length cd] AC rfl ?_;refine(cloneIds15 c.2.1 Ad cd P.drew hnd (((Al.keep A).more A.size).keep (qD _ _))).mono ?_;rintro e u1 ⟨AE,v1,rfl,Av⟩;have G:=hid ((qD P.heap.size P).trans (AE.mono (qD P.heap.size P).size));have Ac:=hid Av
  obtain⟨l,m,rfl⟩:=kX Av;clear AE Av;refine⟨_,rfl,fun _ _=>G,?_⟩;go_frame;refine tw 6 _ ?_;go_frame;refine ta 5 ?_;refine tc #[.slice Ao c.2.2.2.length co] AD rfl ?_;refine(cloneOps15 c.2.2.2 Ao co u1 hno (((Am.keep A).more A.size).keep G.out|>.more G.size)).mono ?_;rintro e u2 ⟨Aw,v2,rfl,Ax⟩;have H:=hid (Xx G.out Aw);have A0:=hid Ax
  have T:=hid ((But.of_below (X:=NoB) Aw).own Ac fun _ _ q=>q);have Ae:=hid (show P.heap.size≤u1.heap.size from G.size);obtain⟨A2,c2,rfl⟩:=kX Ax;clear Aw Ax;refine⟨_,rfl,fun _ _=>H,?_⟩;go_frame;have K:=hid ((H.block b5 (qX C)).trans C);have U:=hid ((H.block n (qX R)).trans R);refine ta 7 ?_;refine kR _ rfl yq 34 _ _ rfl b5 1 [.int .i64 c.1] [.slice Ad c.2.1.length cd] [.string c.2.2.1,.slice Ao c.2.2.2.length co] [.slice l c.2.1.length m] 37 (.slice l c.2.1.length m) rfl rfl rfl rfl K.out rfl yq (by intro u hu;rw[xZ.1 hu];rfl) ?_;intro u3 Ah Ai Ar;have N:=hid Ah;have O:=hid Ai
  clear Ah Ai Ar;refine⟨fun h=>absurd h yj,?_⟩;go_frame;refine tw 8 _ ?_;go_frame;refine ta 9 ?_;refine kR _ rfl yq 35 _ _ rfl b5 3 [.int .i64 c.1,.slice l c.2.1.length m,.string c.2.2.1] [.slice Ao c.2.2.2.length co] [] [.slice A2 c.2.2.2.length c2] 37 (.slice A2 c.2.2.2.length c2) rfl rfl rfl rfl O.out rfl yq (by intro u hu;rw[xZ.1 hu];rfl) ?_;intro u4 d Aj As;have E:=hid d;have F:=hid Aj
  clear d Aj As;refine⟨fun h=>absurd h yj,?_⟩;go_frame;refine ku yq ?_ _;have A4:But (fun k=>k=b5) u2 u4:=N.trans E.out fun k _ e=>e
  have Z:Hid (Below w.heap.size w u4):=hid ((Xx A.out H.out).trans (A4.below (qT A.size H.size) fun k hk e=>by have:=Ab.out;omega));have Af:Hid (u4.ownsRow w.heap.size 41 32 (.slice l c.2.1.length m) c.2.1.length (zB c.2.1)):=hid (Je (A4.own T fun g hg e=>by
    obtain⟨cc,A5⟩:=kH T.out hg;exact ji A5 K.out yj e) A.size)
  have Ag:Hid (u4.ownsRow w.heap.size 112 70 (.slice A2 c.2.2.2.length c2) c.2.2.2.length (kf opV c.2.2.2)):=hid (Je (A4.own A0 fun g hg e=>by
    obtain⟨cc,A5⟩:=kH A0.out hg;exact ji A5 K.out yj e) (qT A.size Ae))
  have V:Hid (u4.heap[n]?=some (.cells changeZ.toArray 37 (0,0))):=hid ((A4.block n (qX U) Aa).trans U);have Ap:=hid (show u4.rangeAt b5 0 (chC c.1 l c.2.1.length m c.2.2.1 A2 c.2.2.2.length c2) from fun j u hj=>by rw[qZ];exact(k6 F j).trans (by simpa [chC] using hj));have AF:=x;clear A4 N O E F K G H Ac A0 T f z C A Ae AC AD U R
  go_wp2_with (first
    |(with_reducible refine k8 ?_
      refine k7 yk (kg 37 _ rfl (p:=⟨b5,0,none⟩) rfl (qV _ b5 0 _ _ _ Ap underlying37 rfl yq)) ?_)
    |(with_reducible refine kD ?_
      refine kr yk 37 _ _ rfl n 0 [] changeZ [] (chC c.1 l c.2.1.length m c.2.2.1 A2 c.2.2.2.length c2) 37 (.agg (chC c.1 l c.2.1.length m c.2.2.1 A2 c.2.2.2.length c2).toArray) rfl rfl rfl rfl (by simpa using V.out) rfl yq (U5 _ _ _ _ _ _ _ _) ?_;intro u6 A3 AH AG;have Aq:Hid (u6.rangeAt n 0 (chC c.1 l c.2.1.length m c.2.2.1 A2 c.2.2.2.length c2)):=hid (fun j u hj=>by rw[qZ];exact(k6 AH j).trans (by simpa using hj))))
  refine bodyPost_ret (results_ct results13 _ _ rfl (qV _ n 0 37 _ _ Aq underlying37 rfl yq)) rfl ?_;rw[←AA];refine⟨Z.trans (A3.below Z.size fun k hk e=>by have e2:k=n:=e;have:=x.out;omega),l,m,A2,c2,rfl,A3.own Af.out fun g hg e=>?_,A3.own Ag.out fun g hg e=>?_⟩
  ·obtain⟨cc,A5⟩:=kH Af.out hg;exact ji A5 V.out yj e
  ·obtain⟨cc,A5⟩:=kH Ag.out hg;exact ji A5 V.out yj e
end
section
open Go.RowKit Go.Shelf
theorem tab_next{n:String}{k:IntKind}{zs:List Int}{w w':World}(h:Lib.TabIs prog w n k zs)(hb:Below w.heap.size w w'):Lib.TabIs prog w' n k zs:=by
  unfold Lib.TabIs World.var? at h ⊢;cases hg:prog.globalNamed n with
  |none=>rw[hg] at h;cases h
  |some g=>
   simp only[hg] at h ⊢;have A:g<w.heap.size:=by
      rcases Nat.lt_or_ge g w.heap.size with q|q
      ·exact q
      ·simp only[Option.bind_some] at h;rw[Array.getElem?_eq_none q] at h;cases h
   simp only[Option.bind_some] at h ⊢;rw[hb.block g A];exact h
theorem itoaB_tab(N : Nat)(w : World)(hN : N ≤ 1000000)(htab : Lib.TabIs prog w "internal/strconv.uint64pow10" .u64 Lib.pow10Tab): ItoaB N w := fun k hk u hu =>
  (Tryz.strconv_Itoa (k:Int) yv yv u (tab_next htab hu)).mono fun e u' ⟨h1,q,os,h2⟩=>⟨Gr.below ⟨q,os,h2⟩,by rw[h1,Lib.itoa_nonneg]⟩
end
section
open Go.RowKit Go.Maps Go.Proofs.YtdgbjhfkmembdaaGreatDoor
open Lib (hid)
namespace stateTells
theorem chs_next{w w':World}{A:Option Addr}{l:List ChM}(h:ChsIn w w.heap.size A l)(hb:Below w.heap.size w w'):ChsIn w' w'.heap.size A l:=
  ⟨(h.keep hb).sl.more hb.size,fun x B=>have k:=(h.keep hb).each x B;⟨k.ok,k.ops,k.author,k.sd.more hb.size,k.so.more hb.size,k.ld,k.lo⟩,h.len⟩
theorem filesOf_len{L0:List ks}{S:kj}(h:StateFew L0 S)(hL:FewL L0):(jn S).length≤200:=by
  unfold jn;rw[Yv];unfold Kj
  split
  ·have A:=KX (Kn S.2.1) (Uk S.2.1) [];have B:=Zt S.2.1;have C:=Uc h hL;omega
  ·simp
theorem filesOf_text{L0:List ks}{S:kj}(h:StateFew L0 S)(hL:FewL L0)(hs:StateSure S):∀x∈jn S,x.2.size≤1099511627776:=by
  intro x A;unfold jn at A;obtain⟨a,D,rfl⟩:=List.mem_map.1 A;show (Zw ((jv S a.1).getD [])).toArray.size≤_;rw[xz];cases hd:jv S a.1 with
  |none=>simp [Zw]
  |some d=>
   have B:=few_small h hL hs hd;have E:=textR_len fun r C=>(B.2 r C).1
   have F:=B.1;dsimp only[Option.getD_some];omega
theorem less_cmp15:∀x y:List UInt8,Op.bytesLess x y=decide (jJ x y<0)
  | [],[]=>by rw[vx];rfl
  | [],_ :: _=>by rw[Ja];rfl
  | _ :: _,[]=>by rw[KC];rfl
  |a::x,b::y=>by
   rw[Jb,Op.bytesLess,less_cmp15 x y];rcases ZQ a b with h|h|h
   ·rw[if_pos h];simp [h]
   ·rw[if_neg (Zf h),if_pos h];have hne:¬a=b:=fun e=>by subst e;exact KZ a h
    simp [Zf h,hne]
   ·subst h;rw[if_neg (KZ a),if_neg (KZ a)];simp [KZ a]
theorem textB_snoc{R:List zS}{k:Nat}(h:k<R.length):jy (R.take (k+1))=jy (R.take k)++R[k].2.2:=by
  unfold jy;rw[xj h,List.flatMap_append];simp
theorem textB_take(R:List zS)(k:Nat):(jy (R.take k)).length≤(jy R).length:=by
  have h:jy R=jy (R.take k)++jy (R.drop k):=by
    unfold jy;rw[←List.flatMap_append,List.take_append_drop]
  rw[h,yV];omega
theorem textB_many:∀{l:List zS},(∀x∈l,x.2.2≠[])→l.length≤(jy l).length
  | [],_=>YX _
  |x::l,h=>by
   have h1:=textB_many (l:=l) fun y A=>h y (List.mem_cons_of_mem _ A)
   have C:0<x.2.2.length:=List.length_pos_iff.2 (h x (List.mem_cons_self ..));have B:jy (x::l)=x.2.2++jy l:=rfl;rw[B,yV,Yx];omega
theorem entry_mem{S:kj}{i:List UInt8}{e:vD}(h:kC S i=some e):(i,e)∈S.2.2:=by
  unfold kC at h;obtain⟨x,A,rfl⟩:=Option.map_eq_some_iff.1 h;have B:=List.mem_of_find?_eq_some A;have C:=List.find?_some A;have D:x.1=i:=by simpa using C
  rw[←D];exact B
theorem entry_few{L0:List ks}{S:kj}(h:StateFew L0 S)(hL:FewL L0){i:List UInt8}{c:ks}{mk:List zD}(he:kC S i=some (c,mk)):c.2.1.length≤1073741824∧c.2.2.2.length≤1073741824:=by
  have A:=hL.each _ (h.of.told _ (entry_mem he)).1;dsimp only at A;omega
theorem walk(l:List ChM)(A:Option Addr)(c:Nat)(w:World)(h:ChsIn w w.heap.size A l)(hs:∀x∈l,∀y∈x.1.2.2.2,y.2.2.2.1.size≤140737488355328)(hg:Glob w)(hsg:ShaG w)(hit:ItoaB 202 w):
    Calls prog 3 #[.slice A l.length c] w fun e w'=>e=.returned (.bool true)∧Below w.heap.size w w':=by
  have H:=hid h;have HG:=hid hg;have Aj:=hid hsg;have Ak:=hid hit
  have Al:=hid (few15_few l A c 10 w h yj hs);clear h hg hsg hit hs;go_enter func3,ntmps3;go_wp2_with fail;go_at_call 9;refine Al.mono ?_;rintro e w1 ⟨Bg,b,rfl,Bh⟩;have M:=hid Bg;have AP:=hid Bh
  clear Bg Bh Al;cases b
  ·go_wp2_with fail;go_ret;exact⟨rfl,M⟩
  have D:=hid (AP rfl).2;have E:=hid (StateFew.all (l.map (·.1)) false);have T:=hid (sure_all (l.map (·.1)) false)
  have AQ:=hid (all15_any l A c false w1 (chs_next H M) D (HG.next M) (Aj.next M));generalize allS (l.map (·.1)) false=S at *
  go_wp2_with (first
    |(go_at_call 10;refine AQ.mono ?_;rintro e w2 ⟨s,q,rfl,Bi,Bj,_⟩;have Am:=hid Bi;have t:=hid (Xx M.out Bj)
      clear Bi Bj)
    |(go_at_call 11;refine(sfiles_few w1.heap.size s S q w2 Am E D T (HG.next t) (Ak.next t)).mono ?_;rintro e w3 ⟨B4,A3,c3,rfl,Bk⟩;have I:=hid (Xx t.out B4);have U:=hid Bk;have A0:=hid (Am.keep B4)
      clear B4 Bk))
  have AR:=hid (files_order S);have An:=hid (filesOf_small E D T)
  have AS:=hid (fun (x:Zd) (hx:x∈jn S)=>tells_one E.of.ok hx);have Ao:=hid (qn (jn S));have AT:=hid (fun (p:ByteArray) (u:World) (hu:Below w3.heap.size w3 u)=>sblame_few w1.heap.size s S q p u (A0.keep hu) E D T (HG.next (Xx I.out hu)) (Ak.next (Xx I.out hu)));have A5:=hid (filesOf_len E D);have AU:=hid (filesOf_text E D T);rw[←Ao.length_eq] at U A5 ⊢;have V:=hid (fun (x:Zd) (hx:x∈ordF (jn S))=>Ao.mem_iff.1 hx);generalize ordF (jn S)=F at *
  go_loopw [5] (fun t5 wr=>∃i:Nat,i≤F.length∧t5=.int .i64 (i:Int)∧Hid (Below w3.heap.size w3 wr)) (fun t5 _=>F.length - (intOf t5).toNat)
  case atStart=>exact⟨0,YX _,rfl,hid (Below.refl _ _)⟩
  case round=>
    obtain⟨i,hi,rfl,G⟩:=hrel;by_cases hlt:i<F.length
    ·obtain⟨b,AE,rfl,BD,Ah⟩:=(U.keep G).2 yv;have i0:(0:Int)≤(i:Int):=yv;have i1:(i:Int)<(F.length:Int):=yv;have B5:=Sl.row (fun z hz=>fileV_len z) Ah hlt;have c0:wr.cell? ⟨b,AE+i*2,none⟩=some (.string F[i].1):=B5 0 _ rfl;have Ap:=hid Ah;obtain⟨t1,t2,t3⟩:=AS.out _ (V _ (yQ hlt));have W:=hid t2;have Aq:=hid t3
     have A6:=hid (AT F[i].1 wr G);have AH:=hid (AU _ (V _ (yQ hlt)));rw[t1] at A6;clear Ah B5 t1 t2 t3
     go_upto_region 9 with (go_at_call 12;refine A6.mono ?_;rintro e w4 ⟨Bl,v4,rfl,B6⟩
                            have X:=hid (Xx G.out Bl);have AV:=hid B6
                            obtain⟨A4,c4,rfl⟩:=kX B6;clear Bl B6)
     clear A6;generalize JC S F[i].1=R at *;have AW:=hid (Sl.of_own AV);have Ar:Hid ((jy R).length≤1099511627776):=hid (by rw[Aq.out,jf];exact AH.out);clear c0;have AX:Hid (R.length≤1099511627776):=hid (Nat.le_trans (textB_many fun x hx=>(W.of x hx).2.2) Ar);go_wp2_with fail
     go_loopw [8,9] (fun t8 t9 wx=>∃k:Nat,k≤R.length∧t8=.string ⟨(jy (R.take k)).toArray⟩∧t9=.int .i64 (k:Int)∧Hid (Below w4.heap.size w4 wx)) (fun _ t9 _=>R.length - (intOf t9).toNat)
     case atStart=>exact⟨0,YX _,rfl,rfl,hid (Below.refl _ _)⟩
     case round=>
       obtain⟨k,hk,rfl,rfl,J⟩:=hrel;by_cases hlk:k<R.length
       ·obtain⟨Q,g,rfl,Bu,Bm⟩:=(AW.keep J).2 yv;have AI:Hid (Below w3.heap.size w3 wr):=hid (Xx X.out J.out);have A7:=hid (A0.keep AI);have Y:Hid (∀z∈R,jr z.1):=hid fun z hz=>by
          obtain⟨e,he⟩:=Option.isSome_iff_exists.1 (W.of z hz).1;exact(A7.entries _ _ he).1
        have B7:=fun (m:Nat) (hm:m<R.length)=>Sl.row (fun z hz=>JQ (Y z hz)) Bm hm
        have As:=hid B7;obtain⟨hp,B8,Bn⟩:=W.of _ (yQ hlk);obtain⟨⟨O,mk⟩,AL⟩:=Option.isSome_iff_exists.1 hp;obtain⟨Bo,Bp⟩:=entry_few E.out D.out AL;have Ai:R[k].2.1=O.2.2.1:=by rw[B8];unfold je;rw[AL]
        have At:=hid (change_any w1.heap.size s S q R[k].1 O mk wr A7 (Y _ (yQ hlk)) AL Bo Bp);have Au:=hid (textB_snoc hlk);have Av:=hid (textB_take R (k+1));have Aw:=hid Bn;have N:=hid (Y _ (yQ hlk));have AY:Hid (∀m,m+1=k→∀hm:m<R.length,R[m].1≠R[k].1∧jr R[m].1):=hid fun m e hm=>by
          subst e;exact⟨W.apart m hlk,Y _ (yQ hm)⟩
        have AZ:Hid (∀m,m+1=k→∀hm:m<R.length,∀j v,(idV R[m].1)[j]?=some v→wr.cell? ⟨Q,g+m*34+j,none⟩=some v):=hid fun m e hm j v d=>As.out m hm j v (by unfold jR;rw[xv (yJ.1 d).1];exact d)
        have Z:=hid (B7 k hlk);clear hp B8 Bn AL Bo Bp Bm B7 As;have Bv:=JQ (x:=R[k]) N.out;generalize R[k]=x at *;have BE:=AX.out;have k0:(0:Int)≤(k:Int):=yv;have k1:(k:Int)<(R.length:Int):=yv;have AK:(idV x.1).length=32:=by rw[kn];exact N.out
        have Ax:=hid (show wr.rangeAt Q (g+k*34) (idV x.1) from fun j v d=>Z j v (by unfold jR;rw[xv (yJ.1 d).1];exact d));have ca:wr.cell? ⟨Q,g+k*34+32,none⟩=some (.string O.2.2.1):=Z.out 32 _ (by unfold jR;rw[xx yv,AK,Ai];rfl);have ct:wr.cell? ⟨Q,g+k*34+33,none⟩=some (.string ⟨x.2.2.toArray⟩):=Z.out 33 _ (by unfold jR;rw[xx yv,AK];rfl);have B0:=hid ca;have Ay:=hid ct;have K:=hid (show Q<wr.heap.size from Nat.lt_of_lt_of_le Bu J.size)
        clear ca ct Bv AK Ai Z
        go_upto_region 14 with (first
          |(with_reducible refine k8 ?_
            refine k7 yk (ldD N Ax) ?_;go_frame)
          |(go_at_call 13;refine At.mono ?_;rintro e w5 ⟨AF,A1,c1,A2,c2,rfl,_,_⟩;have A8:=hid AF;clear AF)
          |(with_reducible refine kF ?_
            refine kv yk 37 rfl changeZ (UA _) ?_;intro W6 Az AA AB;go_frame)
          |(with_reducible refine kD ?_
            refine kr yk 37 _ _ rfl w5.heap.size 0 [] changeZ [] (chC O.1 A1 O.2.1.length c1 O.2.2.1 A2 O.2.2.2.length c2) 37 (.agg (chC O.1 A1 O.2.1.length c1 O.2.2.1 A2 O.2.2.2.length c2).toArray) rfl rfl rfl rfl (by simpa using AA.out) rfl yq (U5 _ _ _ _ _ _ _ _) ?_;intro f AC Bw BF;have A9:Hid (f.heap[w5.heap.size]?=some (.cells (chC O.1 A1 O.2.1.length c1 O.2.2.1 A2 O.2.2.2.length c2).toArray 37 (0,0))):=hid (by simpa using Bw.out);go_frame))
        have C:Hid (Below wr.heap.size wr f):=hid (A8.trans ((Az.trans (AC.below (B:=w5.heap.size) (by have:=AB.out;omega) fun k hk e=>by have e2:k=w5.heap.size:=e;omega)).mono A8.size));obtain⟨b5,AF⟩:=Xy w5.heap.size;rw[AF] at A9 ⊢;have B1:=hid (show b5<f.heap.size from qX A9);clear AF A8 Az AC AA AB At;have Aa:=hid ((C.cell (p:=⟨Q,g+k*34+32,none⟩) K).trans B0);have P:=hid ((C.cell (p:=⟨Q,g+k*34+33,none⟩) K).trans Ay);have AM:Q<f.heap.size:=Nat.lt_of_lt_of_le K.out C.size;obtain⟨ta,Ai⟩:∃z:ByteArray,(⟨(jy (R.take k)).toArray⟩:ByteArray)=z:=⟨_,rfl⟩;obtain⟨tx,n⟩:∃z:ByteArray,(⟨x.2.2.toArray⟩:ByteArray)=z:=⟨_,rfl⟩;have AJ:=hid n;have Ab:Hid (ta++tx=⟨(jy (R.take (k+1))).toArray⟩):=hid (by rw[←Ai,←n,str_app,Au.out]);have BG:ta.size+tx.size≤1099511627776:=by
          have h1:(ta++tx).size=(jy (R.take (k+1))).length:=by rw[Ab.out];exact xz ..
          rw[ByteArray.size_append] at h1;have h2:=Av.out;have h3:=Ar.out;omega
        have BH:(tx.toList == ([]:List UInt8))=false:=by
          rw[←n,JJ,L_mk];cases hq:x.2.2 with
          |nil=>exact absurd hq Aw.out
          |cons a b=>rfl
        have B8:(O.2.2.1.toList == O.2.2.1.toList)=true:=by simp
        rw[Ai];rw[n] at P;have f1:=Wd.cell (base:=f.heap.size) Aa.out AM;have f2:=Wd.cell (base:=f.heap.size) P.out AM;have f3:=Wd.cell (base:=f.heap.size) ((k6 A9 2:f.cell? ⟨b5,2,none⟩=_)) B1.out;clear Ai n Au Av Aw Aa P;by_cases hk0:k=0
        focus
          have d0:decide ((0:Int)<(k:Int))=false:=decide_eq_false yv;have Bx:decide (0<k)=false:=decide_eq_false yv;have By:¬(0:Int)<(k:Int):=yv;clear hk0;refine jS (base:=f.heap.size) f (qB _ _) yq yq ?_
          repeat (first
            |go_big_quiet_skip
            |(go_big_quiet_want
              first
                 |(go_big_quiet_op
                   go_big_quiet_on)))
        rotate_left
        focus
          have d0:decide ((0:Int)<(k:Int))=true:=decide_eq_true yv;have Bx:decide (0<k)=true:=decide_eq_true yv;have By:(0:Int)<(k:Int):=yv;have dw:IntKind.i64.wrap ((k:Int) - 1)=((k - 1:Nat):Int):=by rw[IntWalk.i64_in _ yv];omega
          have d1:(0:Int)≤((k - 1:Nat):Int):=yv;have d2:((k - 1:Nat):Int)<(R.length:Int):=yv;obtain⟨B9,Ba⟩:=AY.out (k - 1) yv yv;have Bb:=AZ.out (k - 1) yv yv;generalize R[k - 1]=y' at *;obtain⟨y,hy⟩:=Xy y'.1;rw[hy] at B9 Ba Bb;have AD:=hid Ba;have RY:=hid (Wd.row (base:=f.heap.size) (b:=Q) (o:=g+(k - 1)*34) (cs:=idV y) (fun j v d=>(C.cell (p:=⟨Q,g+(k - 1)*34+j,none⟩) K).trans (Bb j v d)) AM);have RX:=hid (Wd.row (base:=f.heap.size) (b:=Q) (o:=g+k*34) (cs:=idV x.1) (fun j v d=>(C.cell (p:=⟨Q,g+k*34+j,none⟩) K).trans (Ax j v d)) AM);have B2:Hid (∀u:World,(Op.equalIn 10000 41 (.agg (idV y).toArray) (.agg (idV x.1).toArray)).run prog u=.ok false u):=hid (fun u=>(Ke AD N u).trans (by rw[decide_eq_false B9]));clear B9 Ba Bb hy;refine jS (base:=f.heap.size) f (qB _ _) yq yq ?_
          repeat (first
            |go_big_quiet_skip
            |(go_big_quiet_want
              first
                 |(refine kP (fun w' AN=>kg 41 _ rfl (p:=⟨Q,g+(k - 1)*34,none⟩) rfl (qV w' _ _ _ (idV y) _ (RY w' AN) underlying41 rfl (by rw[kn,show y.length=32 from AD.out];exact jq))) ?_
                   go_big_quiet_on
                   go_frame)
                 |(refine kP (fun w' AN=>kg 41 _ rfl (p:=⟨Q,g+k*34,none⟩) rfl (qV w' _ _ _ (idV x.1) _ (RX w' AN) underlying41 rfl (by rw[kn,show x.1.length=32 from N.out];exact jq))) ?_
                   go_big_quiet_on
                   go_frame)
                 |(refine kP (fun w' AN=>Kc 41 _ _ _ rfl (xs:=(idV y).toArray) (ys:=(idV x.1).toArray) rfl rfl (r:=false) eqId.noGuard (B2 w')) ?_
                   go_big_quiet_on
                   go_frame)
                 |(go_big_quiet_op
                   go_big_quiet_on)))
        all_goals
          refine wpQuiet_nil ?_;rintro w' ⟨kk,rfl⟩;have AG:=kk.2;generalize kk.val=w9 at *;clear kk f1 f2 f3;have Ac:=hid (Xx C.out AG);have Bs:=(Ac.cell (p:=⟨Q,g+k*34+33,none⟩) K).trans Ay.out;rw[AJ.out] at Bs;clear AG;go_wp2_with fail
          go_roundw
          case rel=>exact⟨k+1,by omega,by rw[Ab.out],by go_num,hid (Xx J.out Ac.out)⟩
          case measure=>(simp [intOf])<;>omega
       ·have Bq:k=R.length:=yv;have Ad:Hid (Below w3.heap.size w3 wr):=hid (Xx X.out J.out);have Bc:∀j (d:j<F.length),wr.cell? ⟨b,AE+j*2,none⟩=some (.string F[j].1)∧wr.cell? ⟨b,AE+j*2+1,none⟩=some (.string F[j].2):=fun j d=>by
          obtain⟨b',Bt,e',_,AO⟩:=(U.keep Ad).2 yv;cases e'
          have hr:=Sl.row (fun z hz=>fileV_len z) AO d;exact⟨hr 0 _ rfl,hr 1 _ rfl⟩
        have B3:=hid Bc;have c1:=(Bc i hlt).2;have n:(⟨(jy (R.take k)).toArray⟩:ByteArray)=F[i].2:=by
          rw[Bq,List.take_length,Aq.out]
        rw[n];clear Bc n;generalize F[i].2=tx at *;go_wp2_with fail;clear Ad B3 c1 hk hlk Bq
        go_loopw [12] (fun t12 wr=>∃m:Nat,m≤i∧t12=.int .i64 (m:Int)∧Hid (Below w4.heap.size w4 wr)) (fun t12 _=>i - (intOf t12).toNat)
        case atStart=>exact⟨0,YX _,rfl,J⟩
        case round=>
          obtain⟨m,hm,rfl,Ae⟩:=hrel;by_cases hlm:m<i
          ·have Bd:m<F.length:=yv;have Af:Hid (Below w3.heap.size w3 wr):=hid (Xx X.out Ae.out);obtain⟨b',Bt,e',Bz,AO⟩:=(U.keep Af).2 yv;cases e'
           have hr:=fun (j:Nat) (d:j<F.length)=>Sl.row (fun z hz=>fileV_len z) AO d 0 _ rfl
           have cI:wr.cell? ⟨b,AE+i*2,none⟩=some (.string F[i].1):=hr i hlt;have cM:wr.cell? ⟨b,AE+m*2,none⟩=some (.string F[m].1):=hr m Bd;have Be:=List.pairwise_iff_getElem.1 AR.out m i Bd hlt hlm;have Ah:Ki (L F[i].1) (L F[m].1)=false:=by rw[UH];exact Be.1
           have BI:Op.bytesLess F[m].1.toList F[i].1.toList=true:=by rw[JJ,JJ,less_cmp15];exact decide_eq_true Be.2
           have BA:=An.out _ (V _ (yQ hlt));have BB:=An.out _ (V _ (yQ Bd));clear AO hr Be;generalize F[i].1=pi at *;generalize F[m].1=pm at *;have Ap:Hid (∀u,Below wr.heap.size wr u→Calls prog 14 #[.string pi,.string pm] u fun e w'=>Below u.heap.size u w'∧e=.returned (.bool false)):=hid fun u _=>(clash_any pi pm u yv yv).mono fun e w' ⟨h1,h2⟩=>⟨h1▸Below.refl _ _,by rw[h2,Ah]⟩
           have j0:(0:Int)≤(i:Int):=yv;have j1:(i:Int)<(F.length:Int):=yv;have j2:(0:Int)≤(m:Int):=yv;have j3:(m:Int)<(F.length:Int):=yv;have j4:(m:Int)<(i:Int):=yv;have BC:=A5.out;have j5:(m:Int)+1≤9223372036854775807:=yv;have Bf:=Nat.lt_of_lt_of_le Bz Af.size;have fI:=Wd.cell (base:=wr.heap.size) cI Bf;have fM:=Wd.cell (base:=wr.heap.size) cM Bf;clear Ah BA BB cI cM
           go_upto_region 22 with fail
           refine jS (base:=wr.heap.size) wr (qB _ _) yq yq ?_
           repeat (first
             |go_big_quiet_skip
             |(go_big_quiet_want
               (go_big_quiet_op
                first
                   |go_big_quiet_on
                   |go_big_quiet_call (first
                       |(go_at_call 14;with_reducible exact Wd.call Ap.out (qR _) _)))))
           refine wpQuiet_nil ?_;rintro w' ⟨kk,rfl⟩;have AG:=kk.2;generalize kk.val=w9 at *;clear kk fI fM;have Ag:=hid (Xx Ae.out AG);clear AG;go_wp2_with fail
           go_roundw
           case rel=>exact⟨m+1,by omega,by go_num,Ag⟩
           case measure=>(simp [intOf])<;>omega
          ·have BC:=A5.out;have i2:(i:Int)+1≤9223372036854775807:=yv;go_wp2_with fail
           go_roundw
           case rel=>exact⟨i+1,by omega,by go_num,hid (Xx X.out Ae.out)⟩
           case measure=>(simp [intOf])<;>omega
    ·go_wp2_with (go_at_call 15;refine(awake15_any wr (HG.next (Xx I.out G.out)) (Aj.next (Xx I.out G.out))).mono ?_;rintro e w9 ⟨rfl,Br⟩
                  have Ag:=hid ((Xx I.out G.out).trans (Br.mono (Xx I.out G.out).size));clear Br)
     go_ret;exact⟨rfl,Ag⟩
end stateTells
end
section
open Go.RowKit Go.ChangeShapes Go.WideShapes Go.ChangeAt
section
variable {H:Type} {enc:TypeId×Value→H} {W:World} {base:Nat} {spare:Nat→Bool} {held:Bool} {fuel:Nat} {cs:List Value} {x:DataW H×List MemPlace}
theorem trodId8(h:DataW.trod enc prog W base spare held fuel 41 cs=some x):∃l:List UInt8,jr l∧cs=idV l:=
  trod_id underlying41 underlying5 cellsU8 vn h
theorem UI{l:List Value}{a b:Nat}:(l.drop a)=(l.drop a).take b++l.drop (a+b):=by rw[←List.drop_drop,List.take_append_drop]
theorem trodRef(h:DataW.trod enc prog W base spare held fuel 110 cs=some x):∃r:zy,zz r∧cs=kw r:=by
  obtain⟨B,n,_,_,C,D,E⟩:=DataW.trod_struct underlying110 h;rw[uz] at C;have H:B.length=2:=D;have F:DataW.trod enc prog W base spare held n 41 ((cs.drop 0).take (prog.cellsOf 41))=B[0]?:=E 0 _ rfl;have G:DataW.trod enc prog W base spare held n 3 ((cs.drop 32).take (prog.cellsOf 3))=B[1]?:=E 1 _ rfl;rw[vn,yK yv] at F;rw[ut,yK yv] at G;obtain⟨l,I,J⟩:=trodId8 F;obtain⟨K,L,_,M⟩:=DataW.trod_int underlying3 G;refine⟨(l,K),⟨I,M⟩,?_⟩;have A:cs=(cs.drop 0).take 32++(cs.drop 32).take 1:=by
    rw[Yq (show (cs.drop 32).length≤1 by simp;omega),List.drop_zero,List.take_append_drop]
  rw[A,J,L];rfl
theorem u8_arg{n:Int}(h:(Lit.int .u8 n).wf=true):∃k:UInt8,n=(k.toNat:Int):=by
  simp only[Lit.wf,IntKind.min,IntKind.max,IntKind.signed,IntKind.bits,xy] at h;simp at h;refine⟨UInt8.ofNat n.toNat,?_⟩;rw[UInt8.toNat_ofNat_of_lt' (by show n.toNat<256;omega)];omega
theorem trodOp(h:DataW.trod enc prog W base spare held fuel 112 cs=some x):∃o:OpD,KR o∧cs=opV o:=by
  obtain⟨A,n,_,_,D,E,B⟩:=DataW.trod_struct underlying112 h;rw[show prog.cellsOf 112=70 by kernel_rfl] at D;have L:A.length=6:=E;have F:DataW.trod enc prog W base spare held n 5 ((cs.drop 0).take (prog.cellsOf 5))=A[0]?:=B 0 _ rfl;have G:DataW.trod enc prog W base spare held n 110 ((cs.drop 1).take (prog.cellsOf 110))=A[1]?:=B 1 _ rfl;have H:DataW.trod enc prog W base spare held n 110 ((cs.drop 34).take (prog.cellsOf 110))=A[2]?:=B 2 _ rfl;have I:DataW.trod enc prog W base spare held n 9 ((cs.drop 67).take (prog.cellsOf 9))=A[3]?:=B 3 _ rfl;have J:DataW.trod enc prog W base spare held n 3 ((cs.drop 68).take (prog.cellsOf 3))=A[4]?:=B 4 _ rfl;have K:DataW.trod enc prog W base spare held n 9 ((cs.drop 69).take (prog.cellsOf 9))=A[5]?:=B 5 _ rfl;rw[cellsU8,yK yv] at F;rw[uz,yK yv] at G;rw[uz,yK yv] at H;rw[Qo,yK yv] at I;rw[ut,yK yv] at J;rw[Qo,yK yv] at K;obtain⟨Z,M,_,N⟩:=DataW.trod_int underlying5 F;obtain⟨d,O,P⟩:=trodRef G;obtain⟨a,Q,R⟩:=trodRef H;obtain⟨t,S,_,T⟩:=DataW.trod_string underlying9 I;obtain⟨c,U,_,V⟩:=DataW.trod_int underlying3 J;obtain⟨q,X,_,Y⟩:=DataW.trod_string underlying9 K;obtain⟨k,rfl⟩:=u8_arg N;refine⟨(k,d,a,t,c,q),⟨⟨O,Q,V⟩,T,Y⟩,?_⟩;have C:cs=(cs.drop 0).take 1++((cs.drop 1).take 33++((cs.drop 34).take 33++((cs.drop 67).take 1++((cs.drop 68).take 1++(cs.drop 69).take 1)))):=by
    rw[Yq (show (cs.drop 69).length≤1 by simp;omega),←UI (a:=68) (b:=1),←UI (a:=67) (b:=1),←UI (a:=34) (b:=33),←UI (a:=1) (b:=33),←UI (a:=0) (b:=1),List.drop_zero]
  rw[C,M,P,R,S,U,X];simp [opV]
theorem trodSlice{t e:TypeId}(ht:prog.underlying t=some (.slice e))(h:DataW.trod enc prog W 0 (fun _=>true) true fuel t cs=some x):∃A n c,cs=[.slice A n c]∧DataW.Trod enc prog W 0 (fun _=>true) true t (.slice A n c) x.1 x.2:=by
  rcases Go.Deep.open_slice ht h with⟨rfl,_⟩|⟨a,B,C,m,n,D,Pl,rfl,_⟩
  ·exact⟨none,0,0,rfl,fuel,h⟩
  ·exact⟨some a,B,C,rfl,fuel,h⟩
instance:Inhabited (List UInt8):=⟨[]⟩
instance:Inhabited OpD:=⟨(0,ko,ko,noneS,0,noneS)⟩
theorem ids_in8{A:Option Addr}{n c:Nat}{d:DataW H}{ps:List MemPlace}(h:DataW.Trod enc prog W 0 (fun _=>true) true 34 (.slice A n c) d ps):
    ∃l:List (List UInt8),l.length=n∧n≤maxLen∧n≤c∧IdsOk l∧Sl W W.heap.size A l.length 32 (zB l):=by
  obtain⟨l,C,D,E,F,G⟩:=open_rows (ok:=jr) (enc:=idV) underlying34 vn yj (fun x B=>by rw[kn];exact B) (fun n I x B=>trodId8 B) h;exact⟨l,C,D,E,F,by unfold zB;exact G⟩
theorem ops_in8{A:Option Addr}{n c:Nat}{d:DataW H}{ps:List MemPlace}(h:DataW.Trod enc prog W 0 (fun _=>true) true 35 (.slice A n c) d ps):
    ∃l:List OpD,l.length=n∧n≤maxLen∧n≤c∧(∀x∈l,KR x)∧Sl W W.heap.size A l.length 70 (kf opV l):=by
  obtain⟨l,C,D,E,F,G⟩:=open_rows (ok:=KR) (enc:=opV) underlying35 (show prog.cellsOf 112=70 by kernel_rfl) yj (fun x B=>kI B) (fun n I x B=>trodOp B) h;exact⟨l,C,D,E,F,G⟩
end

section
variable {H:Type} {enc:TypeId×Value→H} {W:World} {fuel:Nat} {cs:List Value}
theorem opTextW{x:DataW H×List MemPlace}(h:DataW.trod enc prog W 0 (fun _=>true) true fuel 112 cs=some x):∃t:ByteArray,cs[67]?=some (.string t)∧t.size∈x.1.weights prog 112:=by
  obtain⟨A,n,_,rfl,F,B,G⟩:=DataW.trod_struct underlying112 h;have I:A.length=6:=B;have C:DataW.trod enc prog W 0 (fun _=>true) true n 9 ((cs.drop 67).take (prog.cellsOf 9))=A[3]?:=G 3 _ rfl;have D:A[3]?=some A[3]:=yK yv;rw[Qo,D] at C;obtain⟨t,J,E,L⟩:=DataW.trod_string underlying9 C;refine⟨t,?_,?_⟩
  ·have K:=congrArg (fun l:List Value=>l[0]?) J
   simpa [List.getElem?_take,List.getElem?_drop] using K
  ·show t.size∈DataW.weights _ _ (.agg (A.map (·.1)));simp only[DataW.weights,underlying112];refine DataW.weights_mem_each (t:=9) (j:=3) (d:=A[3].1) rfl (by rw[List.getElem?_map,D];rfl) _ ?_;rw[E];simp only[DataW.weights,xZ];rw[Array.length_toList];rfl
theorem ka4(b o j:Nat):(⟨b,o,none⟩:Addr).add j=⟨b,o+j,none⟩:=by unfold Addr.add;split<;>simp_all
theorem opsTextW{A:Option Addr}{c:Nat}{x:DataW H×List MemPlace}{l:List OpD}(hf:DataW.trod enc prog W 0 (fun _=>true) true fuel 35 [.slice A l.length c]=some x)(hop:∀x∈l,KR x)(hs:Sl W W.heap.size A l.length 70 (kf opV l)):∀o∈l,o.2.2.2.1.size∈x.1.weights prog 35:=by
  intro o P;obtain⟨i,E,rfl⟩:=List.mem_iff_getElem.1 P;obtain⟨d,Q⟩:=x;have I:DataW.trod enc prog W 0 (fun _=>true) true fuel 35 (Value.slice A l.length c).cells.toList=some (d,Q):=hf;rcases Go.Deep.open_slice underlying35 I with⟨B,_⟩|⟨a,k,p,m,n,D,Pl,B,_,q,r,J,K,L⟩
  ·simp [Value.cells] at B;obtain⟨_,R,_⟩:=B;subst R;cases E
  ·simp [Value.cells] at B;obtain⟨rfl,rfl,rfl⟩:=B;have M:m=c:=by simpa using J
   subst M;obtain⟨b,G,e,g,S⟩:=hs.2 (Nat.lt_of_le_of_lt (YX _) E);obtain rfl:=Option.some.inj e;obtain⟨h,N,T⟩:=L i yv;rw[show prog.cellsOf 112=70 by kernel_rfl] at N;obtain⟨_,O,F⟩:=World.cells?_some N;obtain⟨t,U,V⟩:=opTextW T;have C:=F 67 yj;rw[U] at C;have X:=S (i*70+67) _ (K9 (fun x Y=>kI (hop x Y)) i E 67 _ (kB (hop _ (yQ E))).2.2.2.1);have Z:((⟨b,G,none⟩:Addr).add (i*70)).add 67=⟨b,G+(i*70+67),none⟩:=by rw[ka4,ka4,Nat.add_assoc]
   rw[Z,X] at C;injection C with C;injection C with C;rw[C];have f:d=.slice ((List.range l.length).map D) ((List.range (m - l.length)).map fun j=>D (l.length+j)):=(Prod.mk.inj K).1;rw[f];simp only[DataW.weights,underlying35,xK,xJ];exact Or.inr (Or.inl (vF (List.mem_map.2 ⟨i,List.mem_range.2 E,rfl⟩) _ V))
theorem chTextW{x:ChM}{y:DataW H×List MemPlace}(hin:ChMIn W W.heap.size x)(h:DataW.trod enc prog W 0 (fun _=>true) true fuel 37 (chV x)=some y):∀o∈x.1.2.2.2,o.2.2.2.1.size∈y.1.weights prog 37:=by
  obtain⟨A,I,_,rfl,F,B,C⟩:=DataW.trod_struct underlying37 h;have G:A.length=4:=B;have D:DataW.trod enc prog W 0 (fun _=>true) true I 35 (((chV x).drop 3).take (prog.cellsOf 35))=A[3]?:=C 3 _ rfl;have E:A[3]?=some A[3]:=yK yv;rw[(show prog.cellsOf 35=1 by kernel_rfl),E] at D;intro o J;have K:=opsTextW (l:=x.1.2.2.2) D hin.ops hin.so o J;show _ ∈DataW.weights _ _ (.agg (A.map (·.1)));simp only[DataW.weights,underlying37];exact DataW.weights_mem_each (t:=35) (j:=3) (d:=A[3].1) rfl (by rw[List.getElem?_map,E];rfl) _ K
end
theorem trod_change{H:Type}{enc:TypeId×Value→H}{W:World}{fuel:Nat}{cs:List Value}{x:DataW H×List MemPlace}(a1:DataW.trod enc prog W 0 (fun _=>true) true fuel 37 cs=some x):∃x:ChM,ChMIn W W.heap.size x∧cs=chV x:=by
  obtain⟨B,C,_,_,D,E,A⟩:=DataW.trod_struct underlying37 a1;rw[(show prog.cellsOf 37=4 by kernel_rfl)] at D;have N:B.length=4:=E;have F:DataW.trod enc prog W 0 (fun _=>true) true C 3 ((cs.drop 0).take (prog.cellsOf 3))=B[0]?:=A 0 _ rfl;have G:DataW.trod enc prog W 0 (fun _=>true) true C 34 ((cs.drop 1).take (prog.cellsOf 34))=B[1]?:=A 1 _ rfl;have I:DataW.trod enc prog W 0 (fun _=>true) true C 9 ((cs.drop 2).take (prog.cellsOf 9))=B[2]?:=A 2 _ rfl;have J:DataW.trod enc prog W 0 (fun _=>true) true C 35 ((cs.drop 3).take (prog.cellsOf 35))=B[3]?:=A 3 _ rfl;rw[ut,yK yv] at F;rw[(show prog.cellsOf 34=1 by kernel_rfl),yK yv] at G;rw[Qo,yK yv] at I;rw[(show prog.cellsOf 35=1 by kernel_rfl),yK yv] at J;obtain⟨O,P,_,Q⟩:=DataW.trod_int underlying3 F;obtain⟨R,m,S,T,U⟩:=trodSlice underlying34 G;obtain⟨V,X,_,K⟩:=DataW.trod_string underlying9 I;obtain⟨Y,n,Z,c,d⟩:=trodSlice underlying35 J;obtain⟨e,rfl,f,o,g,h⟩:=ids_in8 U;obtain⟨i,rfl,j,p,L,k⟩:=ops_in8 d;have M:cs=(cs.drop 0).take 1++((cs.drop 1).take 1++((cs.drop 2).take 1++(cs.drop 3).take 1)):=by
    rw[Yq (show (cs.drop 3).length≤1 by simp;omega),←UI (a:=2) (b:=1),←UI (a:=1) (b:=1),←UI (a:=0) (b:=1),List.drop_zero]
  rw[P,T,X,c] at M;exact⟨((O,e,V,i),(R,S,Y,Z)),⟨⟨Q,g,fun x l=>(L x l).1⟩,L,K,h,k,f,j⟩,M⟩
instance:Inhabited ChM:=⟨((0,[],noneS,[]),(none,0,none,0))⟩
theorem changes_in{H:Type}{enc:TypeId×Value→H}{W:World}{a:Option Addr}{len cap:Nat}{d:DataW H}{ps:List MemPlace}
    (h:DataW.Trod enc prog W 0 (fun _=>true) true 22 (.slice a len cap) d ps) {ts:List TypeId} {ds:List (DataW H)} (hsz:(DataW.weightsEach prog ts ds).all (· ≤reachBytes)=true) {j:Nat} (hts:ts[j]?=some 22) (hds:ds[j]?=some d):
    ∃l:List ChM,l.length=len∧ChsIn W W.heap.size a l∧∀x∈l,∀y∈x.1.2.2.2,y.2.2.2.1.size≤140737488355328:=by
  obtain⟨l,G,U,_,J,K⟩:=open_rows (ok:=ChMIn W W.heap.size) (enc:=chV) underlying22 (show prog.cellsOf 37=4 by kernel_rfl) yj (fun x B=>Z0 x)
    (fun n r x B=>trod_change B) h
  refine⟨l,G,⟨K,J,by rw[G];exact U⟩,fun x B y V=>?_⟩;obtain⟨i,C,rfl⟩:=List.mem_iff_getElem.1 B;subst G;obtain⟨X,Y⟩:=h;rcases Go.Deep.open_slice underlying22 Y with⟨A,_⟩|⟨s,t,u,m,n,D,Pl,A,_,w,z,L,M,N⟩
  ·simp [Value.cells] at A;obtain⟨_,Z,_⟩:=A;subst Z;cases C
  ·simp [Value.cells] at A;obtain⟨rfl,rfl,rfl⟩:=A;have O:m=cap:=by simpa using L
   subst O;obtain⟨b,p,e,q,c⟩:=K.2 (Nat.lt_of_le_of_lt (YX _) C);obtain rfl:=Option.some.inj e;obtain⟨P,Q,R⟩:=N i yv;rw[show prog.cellsOf 37=4 by kernel_rfl] at Q;obtain⟨_,T,E⟩:=World.cells?_some Q;have A:P=chV l[i]:=by
     apply List.ext_getElem?;intro k;by_cases F:k<4
     ·have I:=E k F;obtain⟨v,S⟩:∃v,(chV l[i])[k]?=some v:=⟨_,yK (show k<(chV l[i]).length by rw[Z0];exact F)⟩;have f:=c (i*4+k) _ (K9 (fun x B=>Z0 x) i C k _ S);rw[ka4,ka4,Nat.add_assoc] at I;rw[f] at I;rw[S,←I]
     ·rw[List.getElem?_eq_none yv,List.getElem?_eq_none (by rw[Z0];omega)]
   rw[A] at R;have g:=chTextW (J _ (yQ C)) R y V;have o:d=.slice ((List.range l.length).map D) ((List.range (m - l.length)).map fun j=>D (l.length+j)):=(Prod.mk.inj M).1;have F:=List.all_eq_true.1 hsz _ (DataW.weights_mem_each hts hds _ (by
     rw[o];simp only[DataW.weights,underlying22,xK,xJ];exact Or.inr (Or.inl (vF (List.mem_map.2 ⟨i,List.mem_range.2 C,rfl⟩) _ g))))
   have k1:=of_decide_eq_true F;have k2:reachBytes=140737488351232:=rfl;omega
end
end Go.Proofs.YtdgbjhfkmembdaaGreatDoor