/-
  Facts and contracts that the walk needs. Conditions: as each says.
-/
import Derived.Test.YtdgbjhfkmembdaaGreatDoorPart12
import Derived.Test.YtdgbjhfkmembdaaGreatDoorPart7
import Derived.Test.YtdgbjhfkmembdaaGreatDoorPart8
import Derived.Test.YtdgbjhfkmembdaaGreatDoorPart9
import Derived.Test.YtdgbjhfkmembdaaGreatDoorPart11
import Derived.Deep.AppendSrc
import Derived.BigFrame
import Derived.Laws.OwnMore
import Derived.Laws.Closers25b
import Derived.Deep.Cut
import Derived.Deep.DeepCutAuto
set_option linter.unusedVariables false
set_option linter.unusedSimpArgs false
set_option maxHeartbeats 4000000
set_option maxRecDepth 100000
open Go.Proofs.Tryz
namespace Go.Proofs.YtdgbjhfkmembdaaGreatDoor
section
open Go.RowKit
open Lib (hid)
theorem info_str:(prog.info? 9).map (fun i=>(i.zero,i.size,i.bytes))=some (some (.string ByteArray.empty),1,16):=yq
def Piecing(s:ByteArray)(q:List ByteArray)(f k:Nat):Prop:=
  (k≤s.size∧f≤k∧pieces (L s)=q.map L++pieces ((L s).drop f)∧(∀j,f≤j→j<k→B s j≠47))∨(k=s.size+1∧pieces (L s)=q.map L)
def StrsBack(l:List (List UInt8))(w:World)(e:Ending)(w':World):Prop:=
  Below w.heap.size w w'∧∃(q:List ByteArray) (A:Option Addr) (c:Nat),q.map L=l∧e=.returned (.slice A q.length c)∧Sl w' w'.heap.size A q.length 1 (q.map Value.string)∧∀t∈q,t.size≤1099511627776
theorem fin_pieces{s:ByteArray}{q:List ByteArray}(h:pieces (L s)=q.map L)(hs:s.size≤1099511627776):∀t∈q,t.size≤1099511627776:=by
  have B:∀(l:List UInt8) (p:List UInt8),p∈pieces l→p.length≤l.length:=by
    intro l
    induction l with
    |nil=>intro p A;simp [pieces] at A;subst A;simp
    |cons c l ih=>
     intro p A;rw[pieces] at A
     split at A
     ·rcases xK.1 A with rfl|A
      ·simp
      ·have:=ih p A;simp;omega
     ·split at A
      ·rename_i x F C;rcases xK.1 A with rfl|A
       ·have:=ih x (by rw[C];simp);simp;omega
       ·have:=ih p (by rw[C];simp [A]);simp;omega
      ·simp at A;subst A;simp
  intro t D;have E:L t∈pieces (L s):=by rw[h];exact List.mem_map_of_mem D
  have:=B _ _ E;rw[jf,jf] at this;omega
theorem pieces_any(s:ByteArray)(w:World)(hs:s.size≤1099511627776):Calls prog 277 #[.string s] w (StrsBack (pieces (L s)) w):=by
  have Z:=getB s;go_enter func277,ntmps277
  go_wp2
  go_loopw [3,4,5] (fun v sf si wr=>∃(q:List ByteArray) (f k:Nat),k≤s.size+1∧f≤s.size+1∧q.length≤k∧sf=.int .i64 f∧si=.int .i64 k∧wr.ownsRow w.heap.size 9 1 v q.length (q.map Value.string)∧Below w.heap.size w wr∧Hid (Piecing s q f k)) (fun _ _ si _=>s.size+1 - (intOf si).toNat)
  case atStart=>exact⟨[],0,0,by omega,by omega,by simp,rfl,rfl,World.ownsRow_nil _ _ _ _,Below.refl _ _,hid (.inl ⟨by omega,by omega,by simp,fun j R P=>absurd P yv⟩)⟩
  case round=>
    obtain⟨q,f,k,a,b,Y,rfl,rfl,E,H,S⟩:=hrel;by_cases hlt:k<s.size
    ·have d:=JE s k;have Q:((k:Int) == (s.size:Int))=false:=by simp;omega
     obtain⟨U,M,J,K⟩:k≤s.size∧f≤k∧pieces (L s)=q.map L++pieces ((L s).drop f)∧(∀j,f≤j→j<k→B s j≠47):=by
       rcases S.out with h|h
       ·exact h
       ·omega
     have C:=hid J;clear J;have D:=hid K;clear K;by_cases h47:B s k=47
     ·have T:(((B s k:Nat):Int) == 47)=true:=by rw[h47];rfl
      have F:=hid h47;clear h47
      go_wp2_with (at_builtin;refine Jt rfl _ _ 52 rfl w.heap.size 9 (.string ByteArray.empty) 16 underlying52 info_str rfl _ _ _ rfl E _ _ rfl rfl ?c1 ?c2 ?c3 ?_)
      case c1=>unfold maxLen;omega
      case c2=>omega
      case c3=>exact H.size
      intro W X I G;have N:=G _ _ (xY _) H;clear G;go_wp2_with fail
      go_roundw
      case rel=>
        refine⟨q++[s.extract f k],k+1,k+1,by omega,by omega,by simp;omega,by go_num,by go_num,?_,N,hid (.inl ⟨by omega,by omega,?_,fun j R P=>absurd P yv⟩)⟩
        ·simpa using I
        ·rw[C.out,pieces_at M hlt F.out D.out];simp
      case measure=>simp [intOf];omega
     ·have T:(((B s k:Nat):Int) == 47)=false:=by simp;omega
      have F:=hid h47;clear h47;go_wp2_with fail
      go_roundw
      case rel=>
        refine⟨q,f,k+1,by omega,by omega,by omega,rfl,by go_num,E,H,hid (.inl ⟨by omega,by omega,C.out,fun j R P=>?_⟩)⟩;rcases (by omega:j<k∨j=k) with h|h
        ·exact D.out j R h
        ·rw[h];exact F.out
      case measure=>simp [intOf];omega
    ·by_cases Q:k=s.size
     ·obtain⟨U,M,J,K⟩:k≤s.size∧f≤k∧pieces (L s)=q.map L++pieces ((L s).drop f)∧(∀j,f≤j→j<k→B s j≠47):=by
        rcases S.out with h|h
        ·exact h
        ·omega
      subst Q;have C:=hid J;clear J;have D:=hid K;clear K
      go_wp2_with (at_builtin;refine Jt rfl _ _ 52 rfl w.heap.size 9 (.string ByteArray.empty) 16 underlying52 info_str rfl _ _ _ rfl E _ _ rfl rfl ?c1 ?c2 ?c3 ?_)
      case c1=>unfold maxLen;omega
      case c2=>omega
      case c3=>exact H.size
      intro W X I G;have N:=G _ _ (xY _) H;clear G;go_wp2_with fail
      go_roundw
      case rel=>
        refine⟨q++[s.extract f s.size],s.size+1,s.size+1,by omega,by omega,by simp;omega,by go_num,by go_num,?_,N,hid (.inr ⟨rfl,?_⟩)⟩
        ·simpa using I
        ·rw[C.out,pieces_end M D.out];simp
      case measure=>simp [intOf]
     ·go_wp2_with fail;go_ret;obtain⟨A,c,V⟩:=kX E;have O:pieces (L s)=q.map L:=by
        rcases S.out with h|h
        ·omega
        ·exact h.2
      refine⟨H,q,A,c,O.symm,?_,?_,fin_pieces O hs⟩
      ·rw[←V];rfl
      ·rw[V] at E;exact Sl.of_own E
theorem pathB_pieces{s:ByteArray}{q:List ByteArray}(hq:q.map L=pieces (L s))(h1:¬s.size<1)(h2:¬64<s.size)(hp:Kr s jQ=true):jZ s=(q.map L).all JF:=by
  rw[hq];simp [jZ,hp];omega
theorem refPath_any(s:ByteArray)(w:World)(hs:s.size≤maxLen):Calls prog 262 #[.string s] w fun e w'=>Below w.heap.size w w'∧e=.returned (.bool (jZ s)):=by
  unfold maxLen at hs;by_cases h1:s.size<1
  ·rw[show jZ s=false by simp [jZ];omega];go_enter func262,ntmps262;go_wp2_with fail;go_ret;exact⟨Below.refl _ _,rfl⟩
  by_cases h2:64<s.size
  ·rw[show jZ s=false by simp [jZ];omega];go_enter func262,ntmps262;go_wp2_with fail;go_ret;exact⟨Below.refl _ _,rfl⟩
  have K:s.size≤1099511627776:=yv;cases hp:Kr s jQ
  ·have C:=hid hp;clear hp;rw[show jZ s=false by simp [jZ,C.out]];go_enter func262,ntmps262
   go_wp2_with (go_at_call 260;refine(U2 s _ K).mono ?_;unfold RF;rw[C.out];rintro e Y ⟨F,rfl⟩)
   go_ret;exact⟨F,rfl⟩
  ·have C:=hid hp;clear hp;go_enter func262,ntmps262
   go_wp2_with (go_at_call 260;refine(U2 s _ K).mono ?_;unfold RF;rw[C.out];rintro e Y ⟨F,rfl⟩)
   refine(pieces_any s _ K).mono ?_;rintro e Z ⟨U,q,A,c,O,rfl,P,_⟩;have I:Hid (jZ s=(q.map L).all JF):=hid (pathB_pieces O h1 h2 C);have d:q.length≤65:=by
     have h:=congrArg List.length O;rw[Yv] at h;have M:=qv s;have V:=congrArg List.length M;rw[Yv,←h] at V;have l:=Lib.splitB_length_le KN 0 (Lib.countB s KN) s;have m:=Lib.countB_le KN yj _ s (xY _);omega
   have T:=hid P;clear P;have X:=hid O;clear O;have G:Below w.heap.size w Z:=F.trans (U.mono F.size);go_wp2_with fail
   go_loop [4] (fun t=>∃k:Nat,k≤q.length∧t=.int .i64 k∧Hid (∀j (h:j<q.length),j<k→JF (L q[j])=true)) (fun t=>q.length - (intOf t).toNat)
   case atStart=>exact⟨0,by omega,rfl,hid fun j _ N=>absurd N yv⟩
   case round=>
     obtain⟨k,n,rfl,W⟩:=hrel;by_cases hlt:k<q.length
     ·obtain⟨b,f,rfl,g,Q⟩:=T.2 yv;have o:=Q k (.string q[k]) (by simp [hlt]);clear Q;have R:=piece_eq q[k];have H:JF (L q[k])=false→jZ s=false:=by
        intro h;rw[I.out,List.all_eq_false];exact⟨L q[k],List.mem_map_of_mem (yQ hlt),by simp [h]⟩
      have S:JF (L q[k])=true→∀j (h:j<q.length),j<k+1→JF (L q[j])=true:=by
        intro h j N i;rcases (by omega:j<k∨j=k) with M|M
        ·exact W.out j N M
        ·subst M;exact h
      generalize hqk:q[k]=p at *;clear hqk;have B:=hid R;clear R;have D:=hid H;clear H;have J:=hid S;clear S;cases e1:p.toList.isEmpty
      ·cases e2:(p.toList == [46])
       ·cases e3:(p.toList == [46,46])
        ·have E:Hid (JF (L p)=true):=hid (by rw[B.out,e1,e2,e3];rfl);go_wp2_with fail
         go_round
         case rel=>exact⟨k+1,by omega,by go_num,hid (J E)⟩
         case measure=>simp [intOf];omega
        ·have E:Hid (jZ s=false):=hid (D (by rw[B.out,e1,e2,e3];rfl));go_wp2_with fail;go_ret;exact⟨G,by rw[E.out];rfl⟩
       ·have E:Hid (jZ s=false):=hid (D (by rw[B.out,e1,e2];rfl));go_wp2_with fail;go_ret;exact⟨G,by rw[E.out];rfl⟩
      ·have E:Hid (jZ s=false):=hid (D (by rw[B.out,e1];rfl));go_wp2_with fail;go_ret;exact⟨G,by rw[E.out];rfl⟩
     ·go_wp2_with fail;go_ret;refine⟨G,?_⟩;have:jZ s=true:=by
        rw[I.out,List.all_eq_true];intro x a;obtain⟨y,E,rfl⟩:=List.mem_map.1 a;obtain⟨j,N,rfl⟩:=List.getElem_of_mem E;exact W.out j N yv
      rw[this];rfl
end
section
open Go.RowKit Go.Maps
open Lib (hid)
theorem zeroRef_run8(w:World):(zeroValue 110).run prog w=.ok (.agg (kw ko).toArray) w:=yq
theorem zeroRef_built8(w:World):(Instr.build 110 #[]).run prog w=.ok (.agg (kw ko).toArray) w:=yq
theorem uF:(prog.info? 383).map (fun i=>(i.zero,i.size,i.bytes))=some (some (.agg (j9 (false,ko)).toArray),34,48):=yq
theorem madeDoc_built8(w:World):(Instr.build 383 #[(0,.bool true)]).run prog w=.ok (.agg (j9 (true,ko)).toArray) w:=yq
theorem made_built8{d:zy}(hd:zz d)(w:World):(Instr.build 383 #[(1,.agg (kw d).toArray)]).run prog w=.ok (.agg (j9 (false,d)).toArray) w:=by
  obtain⟨i,B,C,_,_⟩:=info_parts uF;have E:(kw ko).length=33:=rfl;have h:=zl (P:=prog) B underlying383 C [[.bool false],kw ko] rfl (places:=[(0,1),(1,33)]) yq yq [(1,.agg (kw d).toArray)] (by
    intro q A;simp only[xK,YY,or_false] at A;subst A;exact⟨by show 1<2;omega,by show (kw d).toArray.size=33;rw[xz,kq hd]⟩)
  have D:=run_build (P:=prog) w 383 #[(1,.agg (kw d).toArray)] _ h;refine D.trans ?_;simp [j9,Value.cells]
theorem bytesS_ok{t:ByteArray}(h:KY t=true):J2 t=0:=by
  unfold KY at h;simp only[xy,decide_eq_true_eq] at h;unfold J2;rw[if_neg yv,if_pos h.2]
theorem bytesS_no{t:ByteArray}(h:KY t=false):∃fb,J2 t=fb∧fb≠0:=by
  refine⟨_,rfl,?_⟩;unfold KY at h;unfold J2
  split
  ·decide
  ·rename_i A;rw[dT (show t.size≤4096 by omega),Bool.true_and] at h;rw[if_neg (by rw[h];decide)];decide
theorem runes_ok{t:ByteArray}(h:KY t=true):jH t≠none:=by
  unfold KY at h;simp only[xy] at h;intro B;have A:=h.2;unfold KE at A;rw[B] at A;exact absurd A yZ
def OpGives(base:Nat)(deps:List (List UInt8))(mk:List jL)(x:OpD)(w:World)(e:Ending)(w':World):Prop:=
  Below base w w'∧(opB deps mk x=false→∃v,e=.returned (.tuple #[v,.bool false]))∧
  (opB deps mk x=true→∃A c,e=.returned (.tuple #[.slice A (mk.length+(zT x).length) c,.bool true])∧w'.ownsRow base 383 34 (.slice A (mk.length+(zT x).length) c) (mk.length+(zT x).length) (kf j9 (mk++zT x)))
theorem uG(k i:UInt8):((k.toNat:Int) == (i.toNat:Int))=decide (k=i):=by
  by_cases h:k=i
  ·subst h;simp
  ·rw[dF h,beq_eq_false_iff_ne];intro e;exact h (UInt8.toNat_inj.1 yv)
theorem Uw(k i:UInt8):((k.toNat:Int) != (i.toNat:Int))= !decide (k=i):=by rw[bne,uG]
def okD(deps:List (List UInt8))(mk:List jL)(k:UInt8)(d:zy):Bool:=if k=3 then decide (d=ko) else vf deps mk d
def okT(k:UInt8)(a:zy)(t:ByteArray)(n:Int):Bool:=(decide (k=1) || decide (t=noneS)) && (decide (k=2) || decide (n=0)) && (decide (k=1) || decide (k=2) || decide (a=ko))
def okP(k:UInt8)(q:ByteArray):Bool:=if k=3 then jZ q else if k=4 then jZ q else decide (q=noneS)
def okF(deps:List (List UInt8))(mk:List jL)(k:UInt8)(d a:zy)(t:ByteArray)(n:Int):Bool:=
  if k=1 then (decide (a=d) || jD deps mk a d 1) && !decide (t=noneS) && KY t else if k=2 then decide (1≤n) && decide (n≤4096) && jD deps mk a d n else decide (k=3) || decide (k=4) || decide (k=5)
theorem op_stages(deps:List (List UInt8))(mk:List jL)(k:UInt8)(d a:zy)(t:ByteArray)(n:Int)(q:ByteArray):opB deps mk (k,d,a,t,n,q)=(okD deps mk k d && okT k a t n && okP k q && okF deps mk k d a t n):=by
  unfold opB okD okT okP okF;cases hp:jO k with
  |none=>
   unfold jO at hp
   split at hp; · cases hp
   split at hp; · cases hp
   split at hp; · cases hp
   split at hp; · cases hp
   split at hp; · cases hp
   simp [*]
  |some p=>
   dsimp only;unfold kO;generalize vf deps mk d=x1;generalize jZ q=x2;generalize decide (t=noneS)=x3;generalize decide (n=0)=x4;generalize decide (a=ko)=x5;generalize decide (q=noneS)=x6;generalize decide (d=ko)=x7;generalize jD deps mk a d n=x8;generalize KY t=x9;rcases zW hp with⟨rfl,rfl⟩|⟨rfl,rfl⟩|⟨rfl,rfl⟩|⟨rfl,rfl⟩|⟨rfl,rfl⟩<;>cases x1<;>cases x3<;>cases x4<;>cases x5<;>cases x6<;>cases x2<;>simp
theorem refOp_all(base:Nat)(deps:List (List UInt8))(mk:List jL)(k:UInt8)(d a:zy)(t:ByteArray)(n:Int)(q:ByteArray)(A:Option Addr)(c:Nat)(Am:Option Addr)(cm:Nat)(w:World)(hn:deps.length≤1099511627776)(hmn:mk.length≤1000000000)(ho:IdsOk deps)(hm:∀m∈mk,uj m)(hx:KR (k,d,a,t,n,q))(hset:jh deps=true)(hs:Sl w w.heap.size A deps.length 32 (zB deps))(how:w.ownsRow base 383 34 (.slice Am mk.length cm) mk.length (kf j9 mk))(hbs:base≤w.heap.size):
    Calls prog 237 #[.slice A deps.length c,.slice Am mk.length cm,.agg (opV (k,d,a,t,n,q)).toArray] w (OpGives base deps mk (k,d,a,t,n,q) w):=by
  have HO:=hid ho;have HS:=hid hs;have HM:=hid hm;have D:=hid hx;have Z:=hid how;have Aw:=hid (Sl.of_own how)
  have hmn:mk.length≤1099511627776:=yv;clear ho hs hm hx how;go_enter func237,ntmps237
  go_upto_region 2 with (first
    |(with_reducible refine kG ?_
      refine kz yk 112 _ rfl (opV (k,d,a,t,n,q)) _ rfl rfl (by rw[kI D.out];exact Ky) ?_;intro W0 Ah A0 B7)
    |(with_reducible refine kL ?_
      refine k7 yk (kp 110 #[] rfl (zeroRef_built8 _)) ?_)
    |(with_reducible refine kF ?_
      refine kv yk 110 rfl (kw ko) (zeroRef_run8 _) ?_;intro Wa A1 Aj B8)
    |(with_reducible refine kD ?_
      refine kr yk 110 _ _ rfl W0.heap.size 0 [] (kw ko) [] (kw ko) 110 _ rfl rfl rfl rfl (by simpa using Aj.out) rfl yq (Qm _) ?_;intro T B1 B2 B9;have o:=hid (A1.trans (B1.below A1.size (fun k hk e=>by have e':k=W0.heap.size:=e;omega)));have s:Hid (T.heap[W0.heap.size]?=some (.cells (kw ko).toArray 110 (0,0))):=hid (by simpa using B2.out)))
  obtain⟨V,Av⟩:=Xy w.heap.size;obtain⟨z8,AI⟩:=Xy W0.heap.size;have l0:=(qX A0);have R:=hid ((o.block _ l0).trans A0);have S:=hid (show V<T.heap.size by rw[←Av];exact qL l0 o.size);have Ax:=hid (show z8<T.heap.size by rw[←AI];exact(qX s));have C:=hid (Xx Ah.out o.out);rw[Av] at R ⊢;rw[AI] at s ⊢
  try go_frame
  have AW:Hid (w.heap.size=V):=hid Av;clear Av AI l0 A0 Ah o A1 Aj
  have E:=hid (fun (u:World) (hu:Below T.heap.size T u)=>(show u.cell? ⟨V,0,none⟩=some (.int .u8 (k.toNat:Int))∧u.cell? ⟨V,67,none⟩=some (.string t)∧u.cell? ⟨V,68,none⟩=some (.int .i64 n)∧u.cell? ⟨V,69,none⟩=some (.string q) from
    ⟨(hu.cell (p:=⟨V,0,none⟩) S).trans (k6 R 0),(hu.cell (p:=⟨V,67,none⟩) S).trans ((k6 R 67).trans (kB D).2.2.2.1),(hu.cell (p:=⟨V,68,none⟩) S).trans ((k6 R 68).trans (kB D).2.2.2.2.1),(hu.cell (p:=⟨V,69,none⟩) S).trans ((k6 R 69).trans (kB D).2.2.2.2.2)⟩))
  have J:=hid (fun (u:World) (hu:Below T.heap.size T u)=>(show u.rangeAt V 1 (kw d) from fun j v hj=>(hu.cell (p:=⟨V,1+j,none⟩) S).trans ((k6 R (1+j)).trans ((kB D).2.1 j v hj))));have F:=hid (fun (u:World) (hu:Below T.heap.size T u)=>(show u.rangeAt V 34 (kw a) from fun j v hj=>(hu.cell (p:=⟨V,34+j,none⟩) S).trans ((k6 R (34+j)).trans ((kB D).2.2.1 j v hj))));have K:=hid (fun (u:World) (hu:Below T.heap.size T u)=>(show u.rangeAt z8 0 (kw ko) from fun j v hj=>by rw[qZ];exact((hu.cell (p:=⟨z8,j,none⟩) Ax).trans (k6 s j)).trans hj));have A2:=hid (fun (u:World) (hu:Below T.heap.size T u)=>(HS.keep (Xx C.out hu)).more (qT C.size hu.size));have A3:=hid (fun (u:World) (hu:Below T.heap.size T u)=>(Aw.keep (Xx C.out hu)).more (qT C.size hu.size));have B:=hid (qB T.heap.size T);obtain⟨y0,y3,y4,y5⟩:=E.out _ B.out;clear R s;have G:Hid (opB deps mk (k,d,a,t,n,q)=(okD deps mk k d && okT k a t n && okP k q && okF deps mk k d a t n)):=hid (op_stages deps mk k d a t n q);obtain⟨o1,AJ⟩:=Xy (okD deps mk k d);obtain⟨o2,AK⟩:=Xy (okT k a t n);obtain⟨o3,AL⟩:=Xy (okP k q);rw[AJ,AK,AL] at G;have Ak:=hid AJ;have A4:=hid AK;have A5:=hid AL
  clear AJ AK AL;have A6:=hid (fun (m:Nat) (hm:1≤m∧m≤4096) (u:World) (g1:Sl u u.heap.size A deps.length 32 (zB deps)) (g2:Sl u u.heap.size Am mk.length 34 (kf j9 mk))=>refElems_any deps mk a d m A c Am cm u yv yv hn hmn HO.out HM.out D.1.2.1 D.1.1 hset g1 g2)
  go_cut [35] from 14 to 35 (fun tt wx=>tt=.bool (!o1)∧Hid (Below T.heap.size T wx))
  case first=>
    by_cases N:k=3
    ·have e3:((k.toNat:Int) == 3)=true:=(uG k 3).trans (dT N);have n3:((k.toNat:Int) != 3)=false:=(Uw k 3).trans (by rw[(dT N)];rfl);have EQ:=hid (fun (u:World)=>jU D.1.1 jd u);have L:Hid (o1=decide (d=ko)):=hid (by rw[←Ak.out];unfold okD;rw[if_pos N]);clear N;cases decide (d=ko)
     all_goals
       go_wp2_with (first
         |(with_reducible refine k8 ?_
           first
           |refine k7 yk (ldR D.1.1 (J _ B)) ?_
           |refine k7 yk (ldR D.1.2.1 (F _ B)) ?_
           |refine k7 yk (ldR jd (K _ B)) ?_)
         |(with_reducible refine kU ?_
           refine k7 yk (jV 110 _ _ _ rfl (xs:=(kw d).toArray) (ys:=(kw ko).toArray) rfl rfl (r:=_) eqRef.noGuard (EQ _)) ?_;go_frame;try simp only[nTF]))
       go_meet
       case rel=>exact⟨by rw[L.out]<;>rfl,B⟩
    ·have e3:((k.toNat:Int) == 3)=false:=(uG k 3).trans (dF N);have n3:((k.toNat:Int) != 3)=true:=(Uw k 3).trans (by rw[(dF N)];rfl);have L:Hid (o1=vf deps mk d):=hid (by rw[←Ak.out];unfold okD;rw[if_neg N]);clear N;obtain⟨bd,AM⟩:=Xy (vf deps mk d);rw[AM] at L;have At:=hid AM;clear AM;cases bd
     all_goals
       go_wp2_with (first
         |(with_reducible refine k8 ?_
           first
           |refine k7 yk (ldR D.1.1 (J _ B)) ?_
           |refine k7 yk (ldR D.1.2.1 (F _ B)) ?_
           |refine k7 yk (ldR jd (K _ B)) ?_)
         |(go_at_call 261;refine(refDoc_any deps mk d A c Am cm _ hn hmn HO HM D.1.1 hset (A2 _ B) (A3 _ B)).mono ?_;rintro e u ⟨Y,rfl⟩;rw[At.out];have B:=hid (Xx B.out Y);obtain⟨y0,y3,y4,y5⟩:=E.out _ B.out;clear Y))
       go_meet
       case rel=>exact⟨by rw[L.out]<;>rfl,B⟩
  case rest=>
    obtain⟨rfl,B⟩:=hcut;obtain⟨Ba,AX⟩:=Xv wc;subst AX;obtain⟨y0,y3,y4,y5⟩:=E.out _ B.out;cases o1
    ·have H:Hid (opB deps mk (k,d,a,t,n,q)=false):=hid (by rw[G.out];simp);go_wp2_with fail;go_ret2;exact⟨(C.mono hbs).trans (B.mono (qT hbs C.size)),fun _=>⟨_,rfl⟩,fun h=>absurd (H.symm.trans h) yj⟩
    go_upto_region 4 with fail
    go_cut [70] from 37 to 70 (fun tt wx=>tt=.bool (!o2)∧Hid (Below T.heap.size T wx))
    case first=>
      have EQ:=hid (fun (u:World)=>jU D.1.2.1 jd u);obtain⟨bt,et⟩:=Xy t.toList.isEmpty;obtain⟨bn,ec⟩:∃b,(n != 0)=b:=⟨_,rfl⟩;have ht:decide (t=noneS)=bt:=by rw[←et,jE]
      have As:decide (n=0)= !bn:=by rw[←ec];by_cases h:n=0<;>simp [h]
      by_cases O:k=1
      ·have L:Hid (o2= !bn):=hid (by rw[←A4.out];unfold okT;rw[As];simp [O]);have I:¬k=2:=by rw[O];decide
       have e1:((k.toNat:Int) == 1)=true:=(uG k 1).trans (dT O);have n1:((k.toNat:Int) != 1)=false:=(Uw k 1).trans (by rw[(dT O)];rfl);have e2:((k.toNat:Int) == 2)=false:=(uG k 2).trans (dF I);have n2:((k.toNat:Int) != 2)=true:=(Uw k 2).trans (by rw[(dF I)];rfl);clear O I ht As;cases bn
       all_goals
         go_wp2_with (first
           |(with_reducible refine k8 ?_
             first
             |refine k7 yk (ldR D.1.1 (J _ B)) ?_
             |refine k7 yk (ldR D.1.2.1 (F _ B)) ?_
             |refine k7 yk (ldR jd (K _ B)) ?_)
           |(with_reducible refine kU ?_
             refine k7 yk (jV 110 _ _ _ rfl (xs:=(kw a).toArray) (ys:=(kw ko).toArray) rfl rfl (r:=_) eqRef.noGuard (EQ _)) ?_;go_frame;try simp only[nTF]))
         go_meet
         case rel=>exact⟨by rw[L.out]<;>rfl,B⟩
      ·have e1:((k.toNat:Int) == 1)=false:=(uG k 1).trans (dF O);have n1:((k.toNat:Int) != 1)=true:=(Uw k 1).trans (by rw[(dF O)];rfl);by_cases I:k=2
       focus
         have L:Hid (o2=bt):=hid (by rw[←A4.out];unfold okT;rw[ht];simp [I]);have e2:((k.toNat:Int) == 2)=true:=(uG k 2).trans (dT I);have n2:((k.toNat:Int) != 2)=false:=(Uw k 2).trans (by rw[(dT I)];rfl);clear O I ht As;cases bt
       rotate_left 2
       focus
         have L:Hid (o2=(bt && !bn && decide (a=ko))):=hid (by rw[←A4.out];unfold okT;rw[ht,As];simp [O,I]);have e2:((k.toNat:Int) == 2)=false:=(uG k 2).trans (dF I);have n2:((k.toNat:Int) != 2)=true:=(Uw k 2).trans (by rw[(dF I)];rfl);clear O I ht As;cases decide (a=ko)<;>cases bn<;>cases bt
       all_goals
         all_goals
           go_wp2_with (first
             |(with_reducible refine k8 ?_
               first
               |refine k7 yk (ldR D.1.1 (J _ B)) ?_
               |refine k7 yk (ldR D.1.2.1 (F _ B)) ?_
               |refine k7 yk (ldR jd (K _ B)) ?_)
             |(with_reducible refine kU ?_
               refine k7 yk (jV 110 _ _ _ rfl (xs:=(kw a).toArray) (ys:=(kw ko).toArray) rfl rfl (r:=_) eqRef.noGuard (EQ _)) ?_;go_frame;try simp only[nTF]))
           go_meet
           case rel=>exact⟨by rw[L.out]<;>rfl,B⟩
    case rest=>
      obtain⟨rfl,B⟩:=hcut;obtain⟨Bb,AY⟩:=Xv wc;subst AY;obtain⟨y0,y3,y4,y5⟩:=E.out _ B.out;cases o2
      ·have H:Hid (opB deps mk (k,d,a,t,n,q)=false):=hid (by rw[G.out];simp);go_wp2_with fail;go_ret2;exact⟨(C.mono hbs).trans (B.mono (qT hbs C.size)),fun _=>⟨_,rfl⟩,fun h=>absurd (H.symm.trans h) yj⟩
      go_upto_region 6 with fail
      go_cut [100] from 72 to 100 (fun tt wx=>tt=.bool (!o3)∧Hid (Below T.heap.size T wx))
      case first=>
        obtain⟨bp,Af⟩:=Xy (jZ q);have x:=hid Af;obtain⟨bq,eq⟩:=Xy q.toList.isEmpty;have hq:decide (q=noneS)=bq:=by rw[←eq,jE]
        by_cases N:k=3
        ·have L:Hid (o3=bp):=hid (by rw[←A5.out,←Af];unfold okP;rw[if_pos N]);have e3:((k.toNat:Int) == 3)=true:=(uG k 3).trans (dT N);have n3:((k.toNat:Int) != 3)=false:=(Uw k 3).trans (by rw[(dT N)];rfl);clear N hq Af;cases bp
         all_goals
           go_wp2_with (first
             |(with_reducible refine k8 ?_
               first
               |refine k7 yk (ldR D.1.1 (J _ B)) ?_
               |refine k7 yk (ldR D.1.2.1 (F _ B)) ?_
               |refine k7 yk (ldR jd (K _ B)) ?_)
             |(go_at_call 262;refine(refPath_any q _ D.2.2).mono ?_;rintro e u ⟨Y,rfl⟩;rw[x.out];have B:=hid (Xx B.out Y);obtain⟨y0,y3,y4,y5⟩:=E.out _ B.out;clear Y))
           go_meet
           case rel=>exact⟨by rw[L.out]<;>rfl,B⟩
        ·have e3:((k.toNat:Int) == 3)=false:=(uG k 3).trans (dF N);have n3:((k.toNat:Int) != 3)=true:=(Uw k 3).trans (by rw[(dF N)];rfl);by_cases h4:k=4
         focus
           have L:Hid (o3=bp):=hid (by rw[←A5.out,←Af];unfold okP;rw[if_neg N,if_pos h4]);have e4:((k.toNat:Int) == 4)=true:=(uG k 4).trans (dT h4);have n4:((k.toNat:Int) != 4)=false:=(Uw k 4).trans (by rw[(dT h4)];rfl);clear N h4 hq Af;cases bp
         rotate_left 2
         focus
           have L:Hid (o3=bq):=hid (by rw[←A5.out,←hq];unfold okP;rw[if_neg N,if_neg h4]);have e4:((k.toNat:Int) == 4)=false:=(uG k 4).trans (dF h4);have n4:((k.toNat:Int) != 4)=true:=(Uw k 4).trans (by rw[(dF h4)];rfl);clear N h4 hq Af;cases bq
         all_goals
           all_goals
             go_wp2_with (first
               |(with_reducible refine k8 ?_
                 first
                 |refine k7 yk (ldR D.1.1 (J _ B)) ?_
                 |refine k7 yk (ldR D.1.2.1 (F _ B)) ?_
                 |refine k7 yk (ldR jd (K _ B)) ?_)
               |(go_at_call 262;refine(refPath_any q _ D.2.2).mono ?_;rintro e u ⟨Y,rfl⟩;rw[x.out];have B:=hid (Xx B.out Y);obtain⟨y0,y3,y4,y5⟩:=E.out _ B.out;clear Y))
             go_meet
             case rel=>exact⟨by rw[L.out]<;>rfl,B⟩
      case rest=>
        obtain⟨rfl,B⟩:=hcut;obtain⟨Bc,AZ⟩:=Xv wc;subst AZ;obtain⟨y0,y3,y4,y5⟩:=E.out _ B.out;cases o3
        ·have H:Hid (opB deps mk (k,d,a,t,n,q)=false):=hid (by rw[G.out];simp);go_wp2_with fail;go_ret2;exact⟨(C.mono hbs).trans (B.mono (qT hbs C.size)),fun _=>⟨_,rfl⟩,fun h=>absurd (H.symm.trans h) yj⟩
        by_cases O:k=1
        ·have e1:((k.toNat:Int) == 1)=true:=(uG k 1).trans (dT O);have n1:((k.toNat:Int) != 1)=false:=(Uw k 1).trans (by rw[(dT O)];rfl);have P:=hid O;clear O;obtain⟨o4,AN⟩:=Xy (okF deps mk k d a t n);rw[AN] at G;have W:=hid AN;clear AN
         go_upto_region 10 with (first
           |(with_reducible refine k8 ?_
             first
             |refine k7 yk (ldR D.1.1 (J _ B)) ?_
             |refine k7 yk (ldR D.1.2.1 (F _ B)) ?_
             |refine k7 yk (ldR jd (K _ B)) ?_))
         go_cut [131] from 106 to 131 (fun tt wx=>tt=.bool (!o4)∧Hid (Below T.heap.size T wx))
         case first=>
           have EQ:=hid (fun (u:World)=>jU D.1.2.1 D.1.1 u);obtain⟨b1,O⟩:∃b,decide (a=d)=b:=⟨_,rfl⟩;obtain⟨b2,I⟩:=Xy (jD deps mk a d 1);obtain⟨b3,et⟩:=Xy t.toList.isEmpty;have N:decide (t=noneS)=b3:=by rw[←et,jE]
           have A7:Hid (jD deps mk a d ((1:Nat):Int)=b2):=hid I;rw[O] at EQ;cases Q:KY t
           focus
             obtain⟨fb,AQ,AR⟩:=bytesS_no Q;have y:=hid AQ;have Bd:(fb != 0)=true:=by simpa [bne,beq_eq_false_iff_ne] using AR
             have L:Hid (o4=false):=hid (by rw[←W.out];unfold okF;rw[if_pos P.out,Q];simp);clear AQ AR O I N Q
           rotate_left
           focus
             have y:=hid (bytesS_ok Q);have L:Hid (o4=((b1 || b2) && !b3)):=hid (by rw[←W.out];unfold okF;rw[if_pos P.out,Q,O,I,N];simp);clear O I N Q
           all_goals
             cases b1<;>cases b3<;>try cases b2
             all_goals
               go_wp2_with (first
                 |(with_reducible refine k8 ?_
                   first
                   |refine k7 yk (ldR D.1.1 (J _ B)) ?_
                   |refine k7 yk (ldR D.1.2.1 (F _ B)) ?_
                   |refine k7 yk (ldR jd (K _ B)) ?_)
                 |(with_reducible refine kU ?_
                   refine k7 yk (jV 110 _ _ _ rfl (xs:=(kw a).toArray) (ys:=(kw d).toArray) rfl rfl (r:=_) eqRef.noGuard (EQ _)) ?_;go_frame;try simp only[nTF])
                 |(go_at_call 263;refine(A6 1 yv _ (A2 _ B) (A3 _ B)).mono ?_;rintro e u ⟨Y,rfl⟩;rw[A7.out];have B:=hid (Xx B.out Y);obtain⟨y0,y3,y4,y5⟩:=E.out _ B.out;clear Y)
                 |(go_at_call 264;refine(refFileBytes_any t _).mono ?_;rintro e u ⟨Y,rfl⟩;rw[y.out];have B:=hid (Xx B.out Y);obtain⟨y0,y3,y4,y5⟩:=E.out _ B.out;clear Y))
               go_meet
               case rel=>exact⟨by rw[L.out]<;>rfl,B⟩
         case rest=>
           obtain⟨rfl,B⟩:=hcut;obtain⟨Be,B0⟩:=Xv wc;subst B0;obtain⟨y0,y3,y4,y5⟩:=E.out _ B.out;cases o4
           ·have H:Hid (opB deps mk (k,d,a,t,n,q)=false):=hid (by rw[G.out];simp);go_wp2_with fail;go_ret2;exact⟨(C.mono hbs).trans (B.mono (qT hbs C.size)),fun _=>⟨_,rfl⟩,fun h=>absurd (H.symm.trans h) yj⟩
           have H:Hid (opB deps mk (k,d,a,t,n,q)=true):=hid (by rw[G.out];rfl);have Q:KY t=true:=by
             have h:=W.out;unfold okF at h;rw[if_pos P.out] at h;simp only[xy] at h;exact h.2
           have B3:t.size≤1099511627776:=by have:=vJ Q;omega
           have Ay:=hid (show jH t≠none from runes_ok Q);have Az:=hid (vJ Q);clear Q
           go_upto_region 13 with (first
             |(go_at_call 119;refine(runes_any t _ B3).mono ?_;rintro e u ⟨Y,Ag⟩;rcases Ag with⟨rl,Ar,cr,Ag,rfl,-⟩|⟨Ag,-⟩
               rotate_left
               ·exact absurd Ag Ay.out
               have AA:=hid Ag;clear Ag;have B:=hid (Xx B.out Y);obtain⟨y0,y3,y4,y5⟩:=E.out _ B.out;clear Y))
           have A8:=hid (show rl.length=zK t by unfold zK;rw[AA.out]);have Bf:rl.length≤4096:=by have:=uD t;have:=A8.out;have:=Az.out;omega
           have Au:=AW;go_wp2_with fail
           go_loopw [1,12] (fun t1 t12 wr=>∃(i:Nat) (Ai:Option Addr) (ci:Nat),i≤rl.length∧t12=.int .i64 (i:Int)∧t1=.slice Ai (mk.length+i) ci∧Hid (wr.ownsRow base 383 34 (.slice Ai (mk.length+i) ci) (mk.length+i) (kf j9 (mk++List.replicate i (false,d))))∧Hid (Below base w wr)∧Hid (wr.rangeAt V 1 (kw d))∧Hid (∀b,(Value.slice Ai (mk.length+i) ci).ownBlock=some b→b≠V)∧Hid (V<wr.heap.size)) (fun _ t12 _=>rl.length - (intOf t12).toNat)
           case atStart=>
             refine⟨0,Am,cm,YX _,rfl,rfl,hid ?_,hid ((C.mono hbs).trans (B.mono (qT hbs C.size))),hid (J _ B),hid (fun b e h=>by have h9:=(Z.lt b e).2;rw[h,←Au.out] at h9;omega),hid (qL S B.size)⟩;rw[List.replicate_zero,List.append_nil];exact(But.of_below (X:=NoB) (Xx C.out B.out)).own Z.out fun _ _ q=>q
           case round=>
             obtain⟨i,Ai,ci,hi,rfl,rfl,Aa,f,Al,An,z⟩:=hrel;by_cases hlt:i<rl.length
             ·have i1:(i:Int)<(rl.length:Int):=yv;have M:=hid (show Below wr.heap.size wr (wr.alloc (.cells (j9 (false,d)).toArray 383)) from (qB _ _).alloc (qR _) _);have AB:=hid ((But.of_below (X:=NoB) M).own Aa fun _ _ q=>q);have AC:=hid (show base≤(wr.alloc (.cells (j9 (false,d)).toArray 383)).heap.size from qT hbs (qT (qT (show w.heap.size≤wr.heap.size from f.size) (qR _)) M.size));have AD:=hid (show ∀j u,(j9 (false,d))[j]?=some u→(wr.alloc (.cells (j9 (false,d)).toArray 383)).cell? ((⟨wr.heap.size,0,none⟩:Addr).add j)=some u from fun j u hj=>by
                have e1:(⟨wr.heap.size,0,none⟩:Addr).add j=⟨wr.heap.size,j,none⟩:=by unfold Addr.add;split<;>simp_all
                rw[e1];exact(k6 (heap_alloc_new _ _) j).trans hj)
              go_wp2_with (first
                |(with_reducible refine k8 ?_
                  refine k7 yk (ldR D.1.1 Al) ?_)
                |(with_reducible refine kL ?_
                  refine k7 yk (kp 383 #[(1,.tmp 148)] rfl (by simp only[xV,xX,Yy];exact made_built8 (d:=d) D.1.1 _)) ?_)
                |(refine zE yk 358 _ rfl 383 underlying358 (.agg (j9 (false,ko)).toArray) 34 48 uF rfl yj yj (j9 (false,d)) (jI (m:=(false,d)) D.1.1) rfl ?_)
                |(at_builtin;refine Jw yk _ _ 358 rfl base 383 (.agg (j9 (false,ko)).toArray) 34 48 underlying358 uF rfl yj (.slice Ai (mk.length+i) ci) (mk.length+i) (kf j9 (mk++List.replicate i (false,d))) rfl (AB) ⟨wr.heap.size,0,none⟩ 1 1 (j9 (false,d)) rfl (by rw[Nat.one_mul];exact jI (m:=(false,d)) D.1.1) AD.out (vv _) yY yv AC.out ?_
                  intro v9 w9 Ae AS AT;obtain⟨A9,c9,rfl⟩:=kM Ae;have Ab:=hid Ae;have Ac:=hid AS;have AE:=hid AT
                  clear Ae AS AT))
              have AF:=hid (show ∀b,(Value.slice A9 (mk.length+i+1) c9).ownBlock=some b→b≠V from fun b e h=>by
                rcases AE.out with q|⟨g,q,hz⟩
                ·exact An.out b (by rw[←q];exact e) h
                ·rw[q] at e;have I:g=b:=Option.some.inj e;have N:=z.out;have h4:=M.size;omega)
              have AG:=hid (show w9.rangeAt V 1 (kw d) from fun j v hj=>by
                have O:=Al.out j v hj;have I:=(M.cell (p:=⟨V,1+j,none⟩) z).trans O;unfold World.cell? at I ⊢;rw[Ac.block V (qL z M.size) (fun e=>An V e.symm rfl)];exact I)
              have Ad:=hid (show Below base w w9 from (f.trans (M.mono (qT hbs f.size))).grown Ac (qT hbs (qT f.size M.size)) (fun k e=>(Aa.lt k e).1));have AH:=hid (show V<w9.heap.size from qL z (qT M.size Ac.size))
              go_roundw
              case rel=>exact⟨i+1,A9,c9,by omega,by go_num,rfl,hid (by rw[List.replicate_succ',←Yz,vu,←Nat.add_assoc];simpa [kf] using Ab.out),Ad,AG,AF,AH⟩
              case measure=>exact Xz
             ·have i1:¬(i:Int)<(rl.length:Int):=yv;have Ao:=hid (show i=zK t by rw[←A8.out];omega);have Ap:=hid (show zT (k,d,a,t,n,q)=List.replicate (zK t) (false,d) from by unfold zT;rw[P.out];rfl);go_wp2_with fail;go_ret2;exact⟨f,fun h=>absurd (H.symm.trans h) yj,fun _=>⟨Ai,ci,by rw[Ap.out,List.length_replicate,←Ao.out];rfl,by rw[Ap.out,List.length_replicate,←Ao.out];exact Aa.out⟩⟩
        have e1:((k.toNat:Int) == 1)=false:=(uG k 1).trans (dF O);have n1:((k.toNat:Int) != 1)=true:=(Uw k 1).trans (by rw[(dF O)];rfl);by_cases I:k=2
        ·have e2:((k.toNat:Int) == 2)=true:=(uG k 2).trans (dT I);have n2:((k.toNat:Int) != 2)=false:=(Uw k 2).trans (by rw[(dT I)];rfl);have P:=hid I;have U:Hid (zT (k,d,a,t,n,q)=[]):=hid (by unfold zT;rw[P.out];rfl);have W:Hid (okF deps mk k d a t n=(decide (1≤n) && decide (n≤4096) && jD deps mk a d n)):=hid (by unfold okF;rw[if_neg O,if_pos I]);rw[W.out] at G;clear O I W;by_cases hc:1≤n∧n≤4096
         ·obtain⟨m,rfl⟩:∃m:Nat,n=(m:Int):=⟨n.toNat,by omega⟩;have hm:1≤m∧m≤4096:=yv;have AO:decide (1≤(m:Int))=true:=dT hc.1;have AU:decide ((m:Int)≤4096)=true:=dT hc.2;have B5:decide (1≤m)=true:=dT hm.1;have B6:decide (m≤4096)=true:=dT hm.2;rw[AO,AU] at G;obtain⟨b2,I⟩:∃b,jD deps mk a d (m:Int)=b:=⟨_,rfl⟩;rw[I] at G;have A7:=hid I;clear hc I;cases b2
          all_goals
            go_wp2_with (first
              |(with_reducible refine k8 ?_
                first
                |refine k7 yk (ldR D.1.1 (J _ B)) ?_
                |refine k7 yk (ldR D.1.2.1 (F _ B)) ?_
                |refine k7 yk (ldR jd (K _ B)) ?_)
              |(go_at_call 263;refine(A6 m hm _ (A2 _ B) (A3 _ B)).mono ?_;rintro e u ⟨Y,rfl⟩;rw[A7.out];have B:=hid (Xx B.out Y);obtain⟨y0,y3,y4,y5⟩:=E.out _ B.out;clear Y))
            go_ret2
          ·have H:Hid (opB deps mk (k,d,a,t,(m:Int),q)=false):=hid (by rw[G.out];rfl);exact⟨(C.mono hbs).trans (B.mono (qT hbs C.size)),fun _=>⟨_,rfl⟩,fun h=>absurd (H.symm.trans h) yj⟩
          ·have H:Hid (opB deps mk (k,d,a,t,(m:Int),q)=true):=hid (by rw[G.out];rfl);have l:Hid (mk.length+(zT (k,d,a,t,(m:Int),q)).length=mk.length):=hid (by rw[U.out];rfl);exact⟨(C.mono hbs).trans (B.mono (qT hbs C.size)),fun h=>absurd (H.symm.trans h) yj,fun _=>⟨Am,cm,by rw[l.out];rfl,by rw[l.out,U.out,List.append_nil];exact(But.of_below (X:=NoB) (Xx C.out B.out)).own Z.out fun _ _ q=>q⟩⟩
         ·have H:Hid (opB deps mk (k,d,a,t,n,q)=false):=hid (by
            rw[G.out,show (decide (1≤n) && decide (n≤4096))=false by rw[Bool.and_eq_false_iff,decide_eq_false_iff_not,decide_eq_false_iff_not];omega];simp)
          obtain⟨b1,AO⟩:=Xy (decide (1≤n));have B4:b1=true→decide (n≤4096)=false:=fun h=>dF fun I=>hc ⟨of_decide_eq_true (AO.trans h),I⟩
          clear hc;cases b1
          rotate_left
          have AU:=B4 rfl
          all_goals
            go_wp2_with (first
              |(with_reducible refine k8 ?_
                first
                |refine k7 yk (ldR D.1.1 (J _ B)) ?_
                |refine k7 yk (ldR D.1.2.1 (F _ B)) ?_
                |refine k7 yk (ldR jd (K _ B)) ?_))
            go_ret2;exact⟨(C.mono hbs).trans (B.mono (qT hbs C.size)),fun _=>⟨_,rfl⟩,fun h=>absurd (H.symm.trans h) yj⟩
        have e2:((k.toNat:Int) == 2)=false:=(uG k 2).trans (dF I);have n2:((k.toNat:Int) != 2)=true:=(Uw k 2).trans (by rw[(dF I)];rfl);by_cases N:k=3
        ·have e3:((k.toNat:Int) == 3)=true:=(uG k 3).trans (dT N);have n3:((k.toNat:Int) != 3)=false:=(Uw k 3).trans (by rw[(dT N)];rfl);have P:=hid N;have H:Hid (opB deps mk (k,d,a,t,n,q)=true):=hid (by rw[G.out];unfold okF;rw[if_neg O,if_neg I];simp [N]);clear O I N
         go_wp2_with (first
           |(with_reducible refine k8 ?_
             first
             |refine k7 yk (ldR D.1.1 (J _ B)) ?_
             |refine k7 yk (ldR D.1.2.1 (F _ B)) ?_
             |refine k7 yk (ldR jd (K _ B)) ?_)
           |(with_reducible refine kL ?_
             refine k7 yk (kp 383 #[(0,.const (.bool true))] rfl (madeDoc_built8 _)) ?_)
           |(refine zE yk 358 _ rfl 383 underlying358 (.agg (j9 (false,ko)).toArray) 34 48 uF rfl yj yj (j9 (true,ko)) rfl rfl ?_)
           |(at_builtin;refine wp_appN rfl _ _ 358 rfl base 383 (.agg (j9 (false,ko)).toArray) 34 48 underlying358 uF rfl yj (.slice Am mk.length cm) mk.length (kf j9 mk) rfl ((But.of_below (X:=NoB) (Xx C.out B.out)).own Z fun _ _ q=>q) (j9 (true,ko)) 383 rfl rfl (vv _) yY yv (qT hbs (qT C.size B.size)) ?_
             intro v9 w9 Ae AP;obtain⟨A9,c9,rfl⟩:=kM Ae;have Ab:=hid Ae;have Ad:=hid (AP base w (qR _) ((C.mono hbs).trans (B.mono (qT hbs C.size))));clear Ae AP))
         go_ret2;exact⟨Ad,fun h=>absurd (H.symm.trans h) yj,fun _=>⟨A9,c9,by rw[show zT (k,d,a,t,n,q)=[(true,ko)] from by unfold zT;rw[P.out];rfl];rfl,by
           rw[show zT (k,d,a,t,n,q)=[(true,ko)] from by unfold zT;rw[P.out];rfl,vu];exact Ab.out⟩⟩
        have e3:((k.toNat:Int) == 3)=false:=(uG k 3).trans (dF N);have n3:((k.toNat:Int) != 3)=true:=(Uw k 3).trans (by rw[(dF N)];rfl);have U:Hid (zT (k,d,a,t,n,q)=[]):=hid (by unfold zT;rw[if_neg N,if_neg O]);obtain⟨b4,h4⟩:∃b,decide (k=4)=b:=⟨_,rfl⟩;obtain⟨b5,h5⟩:∃b,decide (k=5)=b:=⟨_,rfl⟩;have Aq:Hid (opB deps mk (k,d,a,t,n,q)=(b4 || b5)):=hid (by rw[G.out];unfold okF;rw[if_neg O,if_neg I,dF N,h4,h5];simp);have e4:((k.toNat:Int) == 4)=b4:=(uG k 4).trans h4;have e5:((k.toNat:Int) == 5)=b5:=(uG k 5).trans h5;clear O I N h4 h5
        go_upto_region 22 with fail
        have Bg:=Wg.cell y0 (qL S B.size);clear y0 y3 y4 y5
        try go_frame
        cases b4<;>try cases b5
        all_goals
          refine jk yq yq ?_
          repeat (first|go_big_quiet_skip|(go_big_quiet_want;go_big_quiet_op;go_big_quiet_on))
          refine wpQuiet_nil ?_;rintro w' ⟨kk,rfl⟩;have AV:=kk.2;generalize kk.val=w9 at *;clear kk;have B:=hid (B.trans (AV.below.mono B.size));clear AV;go_wp2_with fail;go_ret2
        ·have H:Hid (opB deps mk (k,d,a,t,n,q)=false):=hid Aq.out;exact⟨(C.mono hbs).trans (B.mono (qT hbs C.size)),fun _=>⟨_,rfl⟩,fun h=>absurd (H.symm.trans h) yj⟩
        all_goals
          have H:Hid (opB deps mk (k,d,a,t,n,q)=true):=hid (by rw[Aq.out];rfl);have l:Hid (mk.length+(zT (k,d,a,t,n,q)).length=mk.length):=hid (by rw[U.out];rfl);exact⟨(C.mono hbs).trans (B.mono (qT hbs C.size)),fun h=>absurd (H.symm.trans h) yj,fun _=>⟨Am,cm,by rw[l.out];rfl,by rw[l.out,U.out,List.append_nil];exact(But.of_below (X:=NoB) (Xx C.out B.out)).own Z.out fun _ _ q=>q⟩⟩
theorem refOp_any(base:Nat)(deps:List (List UInt8))(mk:List jL)(x:OpD)(A:Option Addr)(c:Nat)(Am:Option Addr)(cm:Nat)(w:World)(hn:deps.length≤1099511627776)(hmn:mk.length≤1000000000)(ho:IdsOk deps)(hm:∀m∈mk,uj m)(hx:KR x)(hset:jh deps=true)(hs:Sl w w.heap.size A deps.length 32 (zB deps))(how:w.ownsRow base 383 34 (.slice Am mk.length cm) mk.length (kf j9 mk))(hbs:base≤w.heap.size):
    Calls prog 237 #[.slice A deps.length c,.slice Am mk.length cm,.agg (opV x).toArray] w (OpGives base deps mk x w):=by
  obtain⟨k,d,a,t,n,q⟩:=x;exact refOp_all base deps mk k d a t n q A c Am cm w hn hmn ho hm hx hset hs how hbs
theorem Jf(c:ks)(v:Value)(w:World)(h:ChIn w w.heap.size v c)(hl1:c.2.1.length≤1099511627776)(hl2:c.2.2.2.length≤1099511627776):
    Calls prog 200 #[v] w fun e w'=>Below w.heap.size w w'∧e=.returned (.bool (ja c)):=by
  obtain⟨ok,m,ha,Ad,cd,Ao,co,rfl,sd,so⟩:=h;obtain⟨n,I,S,D⟩:=c;dsimp only at *;have J:=hid sd;have Ac:=hid so;have a:=hid m;have V:=hid ok.2.1;have E:=hid ha
  clear ok m ha sd so;have F:=hid (fun (u:World) (g1:Sl u u.heap.size Ad I.length 32 (zB I))=>(show Calls prog 235 #[.slice Ad I.length cd,.int .i64 4096] u fun e w'=>Below u.heap.size u w'∧e=.returned (.bool (vC I 4096)) from refIds_any I Ad cd 4096 u yj hl1 V.out g1));go_enter func200,ntmps200
  go_upto_region 1 with (first
    |(with_reducible refine kG ?_
      refine kz yk 37 _ rfl [.int .i64 n,.slice Ad I.length cd,.string S,.slice Ao D.length co] _ rfl rfl yq ?_;intro t B P Az))
  obtain⟨z,hz⟩:=Xy w.heap.size;have Z:=hid (show z<t.heap.size by rw[←hz];exact(qX P.out));rw[hz] at P ⊢
  try go_frame
  clear hz;have C:=hid (fun (u:World) (hu:Below t.heap.size t u)=>(show u.cell? ⟨z,0,none⟩=some (.int .i64 n)∧u.cell? ⟨z,1,none⟩=some (.slice Ad I.length cd)∧u.cell? ⟨z,2,none⟩=some (.string S)∧u.cell? ⟨z,3,none⟩=some (.slice Ao D.length co) from⟨(hu.cell (p:=⟨z,0,none⟩) Z.out).trans (k6 P.out 0),(hu.cell (p:=⟨z,1,none⟩) Z.out).trans (k6 P.out 1),(hu.cell (p:=⟨z,2,none⟩) Z.out).trans (k6 P.out 2),(hu.cell (p:=⟨z,3,none⟩) Z.out).trans (k6 P.out 3)⟩));have A:=hid (qB t.heap.size t);obtain⟨W,T,Y,U⟩:=C.out _ A.out;by_cases ht1:n<1
  ·have e1:decide (n<1)=true:=dT ht1;have N:Hid (ja (n,I,S,D)=false):=hid (by
     rw[Bool.eq_false_iff];intro M;simp only[ja,xy,decide_eq_true_eq] at M;obtain⟨⟨⟨⟨⟨⟨g1,g2⟩,o⟩,r⟩,g5⟩,g6⟩,_⟩:=M
     first|omega|exact absurd o ht1|exact absurd r ht1)
   clear ht1
   go_wp2_with (first
     |(go_at_call 235;with_reducible refine(F.out _ ((J.out.keep (Xx B.out A.out)).more (qT B.out.size A.out.size))).mono ?_;rintro e u1 ⟨G,rfl⟩
       rw[K.out];have A:=hid (Xx A.out G);obtain⟨W,T,Y,U⟩:=C.out _ A.out;clear G)
     |(go_at_call 236;refine(KJ S _ E.out).mono ?_;rintro e u2 ⟨H,rfl⟩;rw[L.out];have A:=hid (Xx A.out H);obtain⟨W,T,Y,U⟩:=C.out _ A.out;clear H))
   go_ret;exact⟨B.trans (A.mono B.size),by rw[N.out];rfl⟩
  ·by_cases ht2:1099511627776<n
   ·have e1:decide (n<1)=false:=dF ht1;have e2:decide (1099511627776<n)=true:=dT ht2;have N:Hid (ja (n,I,S,D)=false):=hid (by
      rw[Bool.eq_false_iff];intro M;simp only[ja,xy,decide_eq_true_eq] at M;obtain⟨⟨⟨⟨⟨⟨g1,g2⟩,o⟩,r⟩,g5⟩,g6⟩,_⟩:=M
      first|omega|exact absurd o ht2|exact absurd r ht2)
    clear ht1 ht2
    go_wp2_with (first
      |(go_at_call 235;with_reducible refine(F.out _ ((J.out.keep (Xx B.out A.out)).more (qT B.out.size A.out.size))).mono ?_;rintro e u1 ⟨G,rfl⟩
        rw[K.out];have A:=hid (Xx A.out G);obtain⟨W,T,Y,U⟩:=C.out _ A.out;clear G)
      |(go_at_call 236;refine(KJ S _ E.out).mono ?_;rintro e u2 ⟨H,rfl⟩;rw[L.out];have A:=hid (Xx A.out H);obtain⟨W,T,Y,U⟩:=C.out _ A.out;clear H))
    go_ret;exact⟨B.trans (A.mono B.size),by rw[N.out];rfl⟩
   ·have e1:decide (n<1)=false:=dF ht1;have e2:decide (1099511627776<n)=false:=dF ht2;by_cases hids:vC I 4096=true
    ·have K:=hid hids;by_cases hau:K8 S=true
     ·have L:=hid hau;by_cases ho1:D.length<1
      ·have e3:decide ((D.length:Int)<1)=true:=dT yv;have N:Hid (ja (n,I,S,D)=false):=hid (by
         rw[Bool.eq_false_iff];intro M;simp only[ja,xy,decide_eq_true_eq] at M;obtain⟨⟨⟨⟨⟨⟨g1,g2⟩,o⟩,r⟩,g5⟩,g6⟩,_⟩:=M
         first|omega|exact absurd o ho1|exact absurd r ho1)
       clear ht1 ht2 hids hau ho1
       go_wp2_with (first
         |(go_at_call 235;with_reducible refine(F.out _ ((J.out.keep (Xx B.out A.out)).more (qT B.out.size A.out.size))).mono ?_;rintro e u1 ⟨G,rfl⟩
           rw[K.out];have A:=hid (Xx A.out G);obtain⟨W,T,Y,U⟩:=C.out _ A.out;clear G)
         |(go_at_call 236;refine(KJ S _ E.out).mono ?_;rintro e u2 ⟨H,rfl⟩;rw[L.out];have A:=hid (Xx A.out H);obtain⟨W,T,Y,U⟩:=C.out _ A.out;clear H))
       go_ret;exact⟨B.trans (A.mono B.size),by rw[N.out];rfl⟩
      ·have e3:decide ((D.length:Int)<1)=false:=dF yv;by_cases ho2:4096<D.length
       ·have e4:decide ((4096:Int)<(D.length:Int))=true:=dT yv;have N:Hid (ja (n,I,S,D)=false):=hid (by
          rw[Bool.eq_false_iff];intro M;simp only[ja,xy,decide_eq_true_eq] at M;obtain⟨⟨⟨⟨⟨⟨g1,g2⟩,o⟩,r⟩,g5⟩,g6⟩,_⟩:=M
          first|omega|exact absurd o ho2|exact absurd r ho2)
        clear ht1 ht2 hids hau ho1 ho2
        go_wp2_with (first
          |(go_at_call 235;with_reducible refine(F.out _ ((J.out.keep (Xx B.out A.out)).more (qT B.out.size A.out.size))).mono ?_;rintro e u1 ⟨G,rfl⟩
            rw[K.out];have A:=hid (Xx A.out G);obtain⟨W,T,Y,U⟩:=C.out _ A.out;clear G)
          |(go_at_call 236;refine(KJ S _ E.out).mono ?_;rintro e u2 ⟨H,rfl⟩;rw[L.out];have A:=hid (Xx A.out H);obtain⟨W,T,Y,U⟩:=C.out _ A.out;clear H))
        go_ret;exact⟨B.trans (A.mono B.size),by rw[N.out];rfl⟩
       ·have e4:decide ((4096:Int)<(D.length:Int))=false:=dF yv;have A5:=hid (show jh I=true from (UN hids V.out).2.1);have y:Hid (∀b,Zh I [] D=b→ja (n,I,S,D)=b):=hid (fun b hb=>by
          unfold ja;simp only;rw[hb,hids,hau,dT (show 1≤n by omega),dT (show n≤1099511627776 by omega),dT (show 1≤D.length by omega),dT (show D.length≤4096 by omega)];rfl)
        have Ae:=hid (show D.length≤4096 by omega);clear ht1 ht2 hids hau ho1 ho2
        go_upto_region 4 with (first
          |(go_at_call 235;with_reducible refine(F.out _ ((J.out.keep (Xx B.out A.out)).more (qT B.out.size A.out.size))).mono ?_;rintro e u1 ⟨G,rfl⟩
            rw[K.out];have A:=hid (Xx A.out G);obtain⟨W,T,Y,U⟩:=C.out _ A.out;clear G)
          |(go_at_call 236;refine(KJ S _ E.out).mono ?_;rintro e u2 ⟨H,rfl⟩;rw[L.out];have A:=hid (Xx A.out H);obtain⟨W,T,Y,U⟩:=C.out _ A.out;clear H))
        go_wp2_with fail
        go_loopw [3,4] (fun t3 t4 wr=>∃(i:Nat) (Am:Option Addr) (cm:Nat),i≤D.length∧t4=.int .i64 (i:Int)∧t3=.slice Am (KV (D.take i)).length cm∧Hid (Below t.heap.size t wr)∧Hid (Zh I [] (D.take i)=true)∧Hid (wr.ownsRow t.heap.size 383 34 (.slice Am (KV (D.take i)).length cm) (KV (D.take i)).length (kf j9 (KV (D.take i))))) (fun _ t4 _=>D.length - (intOf t4).toNat)
        case atStart=>exact⟨0,none,0,YX _,rfl,rfl,A,hid rfl,hid (World.ownsRow_nil _ _ _ _)⟩
        case round=>
          clear W T Y U;obtain⟨i,Am,cm,hi,rfl,rfl,R,d,A6⟩:=hrel;obtain⟨-,T,-,U⟩:=C.out wr R.out;by_cases hlt:i<D.length
          ·have i0:(0:Int)≤(i:Int):=yv;have i1:(i:Int)<(D.length:Int):=yv;obtain⟨b,Ab,rfl,Av,As⟩:=((Ac.keep B.out).keep (R.mono B.size)).2 yv;have f:=hid (Sl.row (fun x hx=>kI (a.out x hx)) As hlt);have HX:=hid (a.out _ (yQ hlt));have A0:=hid (opsB_next (deps:=I) hlt);have A1:=hid (fun h=>opsB_stop (deps:=I) hlt h);have g:=hid (madeL_next hlt);have Aw:(KV (D.take i)).length≤1000000000:=by
             have h1:=madeL_len d.out;rw[Yj] at h1;have h2:=Ae.out;have h3:min i D.length≤4096:=yv;omega
           have Af:=hid (madeL_ok (l:=D.take i) fun x hx=>a.out x (YQ hx));have Au:b<wr.heap.size:=qL Av (qT B.size R.size);clear As;obtain⟨x,hx⟩:=Xy (D[i]);rw[hx] at f HX A0 g;have A7:Hid (opB I (KV (D.take i)) x=false→Zh I [] D=false):=hid (fun h=>A1.out (by rw[hx];exact h));clear hx A1
           go_upto_region 7 with fail
           have Ax:=enE func237 rfl;have k:=hid (show Below wr.heap.size wr wr.drew from (qD _ _));have Q:=hid (Xx R.out k.out);have Ag:=hid (C.out wr.drew Q.out).2.1;have Ah:=hid (C.out wr.drew Q.out).2.2.2;have Ai:=hid (show wr.drew.rangeAt b (Ab+i*70) (opV x) from fun j v hj=>(k.cell (p:=⟨b,Ab+i*70+j,none⟩) Au).trans (f.out j v hj));have A8:=hid ((J.keep (Xx B.out Q.out)).more (qT B.size Q.size));have A9:=hid ((But.of_below (X:=NoB) k.out).own A6.out fun _ _ q=>q);have Aj:=hid Q.size;refine rN 8 (fun u=>u.cell? ⟨z,1,none⟩=some (.slice Ad I.length cd)∧u.cell? ⟨z,3,none⟩=some (.slice (some ⟨b,Ab,none⟩) D.length co)∧u.rangeAt b (Ab+i*70) (opV x)) (⟨Ag.out,Ah.out,Ai.out⟩) fun An=>?_
           refine tw 0 _ ?_;go_frame;refine tl 1 _ rfl An (fun w' s=>l1 underlying34 s.1) ?_;go_frame;refine tw 2 _ ?_;go_frame;refine tw 3 _ ?_;go_frame;refine tl 4 _ rfl An (fun w' s=>l1 underlying35 s.2.1) ?_;go_frame;refine tw 5 _ ?_;go_frame;refine tk 6 _ rfl (fun w' s=>zR 35 _ _ rfl rfl rfl hlt underlying35 Ky) ?_;go_frame;refine tl 7 _ rfl An (fun w' s=>ldO HX.out s.2.2) ?_;go_frame;refine ta 8 ?_;refine tc #[.slice Ad I.length cd,.slice Am (KV (D.take i)).length cm,.agg (opV x).toArray] Ax rfl ?_;refine(refOp_any t.heap.size I (KV (D.take i)) x Ad cd Am cm wr.drew hl1 Aw V.out Af.out HX.out A5.out A8.out A9.out Aj.out).mono ?_;rintro e w3 ⟨Ap,Aq,Ar⟩;have A2:=hid (Q.trans Ap);by_cases m:opB I (KV (D.take i)) x=true
           ·have O:=hid m;clear m;obtain⟨A3,Ay,rfl,At⟩:=Ar O.out;have Ak:=hid At;clear At;clear Aq Ar Ap;refine⟨_,rfl,fun h=>absurd h yj,?_⟩;go_frame;refine tw 9 (.tuple #[.slice A3 ((KV (D.take i)).length+(zT x).length) Ay,.bool true]) ?_;go_frame;refine tw 10 (.slice A3 ((KV (D.take i)).length+(zT x).length) Ay) ?_;go_frame;refine tw 11 (.bool true) ?_;go_frame;refine tw 12 (.slice A3 ((KV (D.take i)).length+(zT x).length) Ay) ?_;go_frame;refine tw 13 (.bool true) ?_;go_frame;refine ku yq ?_ _;go_wp2_with fail;have Al:=hid (show Zh I [] (D.take (i+1))=true by rw[A0.out,d.out,O.out];rfl);have A4:=hid (show (KV (D.take (i+1))).length=(KV (D.take i)).length+(zT x).length by rw[g.out,yV])
            go_roundw
            case rel=>exact⟨i+1,A3,Ay,by omega,by go_num,by rw[A4.out],A2,Al,hid (by rw[A4.out,g.out];exact Ak.out)⟩
            case measure=>exact Xz
           ·have O:=hid (Bool.eq_false_iff.2 m);clear m;obtain⟨v3,rfl⟩:=Aq O.out;clear Aq Ar Ap;refine⟨_,rfl,fun h=>absurd h yj,?_⟩;go_frame;refine tw 9 (.tuple #[v3,.bool false]) ?_;go_frame;refine tw 10 (v3) ?_;go_frame;refine tw 11 (.bool false) ?_;go_frame;refine tw 12 (v3) ?_;go_frame;refine tw 13 (.bool false) ?_;go_frame;refine ku yq ?_ _;go_wp2_with fail;go_ret;exact⟨B.trans (A2.mono B.size),by rw[y.out _ (A7.out O.out)];rfl⟩
          ·have i1:¬(i:Int)<(D.length:Int):=yv;have Aa:=hid (show Zh I [] D=true by have h:=d.out;rwa [Yq yv] at h);go_wp2_with fail;go_ret;exact⟨B.trans (R.mono B.size),by rw[y.out _ Aa.out];rfl⟩
     ·have L:=hid (Bool.eq_false_iff.2 hau);have N:Hid (ja (n,I,S,D)=false):=hid (by
        rw[Bool.eq_false_iff];intro M;simp only[ja,xy,decide_eq_true_eq] at M;obtain⟨⟨⟨⟨⟨⟨g1,g2⟩,o⟩,r⟩,g5⟩,g6⟩,_⟩:=M
        first|omega|exact absurd o hau|exact absurd r hau)
      clear ht1 ht2 hids hau
      go_wp2_with (first
        |(go_at_call 235;with_reducible refine(F.out _ ((J.out.keep (Xx B.out A.out)).more (qT B.out.size A.out.size))).mono ?_;rintro e u1 ⟨G,rfl⟩
          rw[K.out];have A:=hid (Xx A.out G);obtain⟨W,T,Y,U⟩:=C.out _ A.out;clear G)
        |(go_at_call 236;refine(KJ S _ E.out).mono ?_;rintro e u2 ⟨H,rfl⟩;rw[L.out];have A:=hid (Xx A.out H);obtain⟨W,T,Y,U⟩:=C.out _ A.out;clear H))
      go_ret;exact⟨B.trans (A.mono B.size),by rw[N.out];rfl⟩
    ·have K:=hid (Bool.eq_false_iff.2 hids);have N:Hid (ja (n,I,S,D)=false):=hid (by
       rw[Bool.eq_false_iff];intro M;simp only[ja,xy,decide_eq_true_eq] at M;obtain⟨⟨⟨⟨⟨⟨g1,g2⟩,o⟩,r⟩,g5⟩,g6⟩,_⟩:=M
       first|omega|exact absurd o hids|exact absurd r hids)
     clear ht1 ht2 hids
     go_wp2_with (first
       |(go_at_call 235;with_reducible refine(F.out _ ((J.out.keep (Xx B.out A.out)).more (qT B.out.size A.out.size))).mono ?_;rintro e u1 ⟨G,rfl⟩
         rw[K.out];have A:=hid (Xx A.out G);obtain⟨W,T,Y,U⟩:=C.out _ A.out;clear G)
       |(go_at_call 236;refine(KJ S _ E.out).mono ?_;rintro e u2 ⟨H,rfl⟩;rw[L.out];have A:=hid (Xx A.out H);obtain⟨W,T,Y,U⟩:=C.out _ A.out;clear H))
     go_ret;exact⟨B.trans (A.mono B.size),by rw[N.out];rfl⟩
theorem zeroCh_run8(w:World):(zeroValue 37).run prog w=.ok (.agg ([.int .i64 0,.slice none 0 0,.string noneS,.slice none 0 0]:List Value).toArray) w:=yq
theorem QP(o:vB)(v:Value)(w:World)(h:ObjIn w w.heap.size v o)(hl1:o.2.1.2.1.length≤1099511627776)(hl2:o.2.1.2.2.2.length≤1099511627776)(hl3:o.2.2.1.length≤1099511627776)(hl4:o.2.2.2.1.length≤1099511627776)(hone:RowKit.Hid (o.1=1)):
    Calls prog 161 #[v] w fun e w'=>Below w.heap.size w w'∧e=.returned (.bool (zn o)):=by
  obtain⟨ok,A0,ha,L,hm,Ad,Z,Ao,a,Ap,i,Ac,l,rfl,sd,so,sp,sc⟩:=h;obtain⟨k,⟨n,F,G,H⟩,⟨P,Q,R,S,T⟩⟩:=o;dsimp only at *;have g:=hid (show ChIn w w.heap.size (.agg ([.int .i64 n,.slice Ad F.length Z,.string G,.slice Ao H.length a]:List Value).toArray) (n,F,G,H) from⟨ok.1,A0,ha,Ad,Z,Ao,a,rfl,sd,so⟩);have A1:=hid (show CmIn w w.heap.size (.agg ([.slice Ap P.length i,.slice Ac Q.length l,.string R,.string S,.int .i64 T]:List Value).toArray) (P,Q,R,S,T) from⟨ok.2,L,hm,Ap,i,Ac,l,rfl,sp,sc⟩);clear ok A0 ha L hm sd so sp sc;go_enter func161,ntmps161
  go_upto_region 1 with (first
    |(with_reducible refine kG ?_
      refine kz yk 70 _ rfl [.int .u8 (k.toNat:Int),.int .i64 n,.slice Ad F.length Z,.string G,.slice Ao H.length a,.slice Ap P.length i,.slice Ac Q.length l,.string R,.string S,.int .i64 T] _ rfl rfl yq ?_;intro m q M A9))
  obtain⟨z,hz⟩:=Xy w.heap.size;have r:=hid (show z<m.heap.size by rw[←hz];exact(qX M));rw[hz] at M ⊢
  try go_frame
  clear hz;have c0:m.cell? ⟨z,0,none⟩=some (.int .u8 (k.toNat:Int)):=k6 M.out 0;by_cases b:k=1
  ·have Aa:((k.toNat:Int) == 1)=true:=by rw[b];rfl
   go_upto_region 3 with (first
     |(with_reducible refine k8 ?_
       refine k7 yk (kg 68 _ rfl (p:=⟨z,5,none⟩) rfl (qV _ _ _ _ [.slice Ap P.length i,.slice Ac Q.length l,.string R,.string S,.int .i64 T] _ (fun j u U=>(k6 (M) (5+j)).trans (mid5 U)) underlying68 rfl yq)) ?_)
     |(with_reducible refine kF ?_
       refine kv yk 68 rfl [.slice none 0 0,.slice none 0 0,.string noneS,.string noneS,.int .i64 0] (zeroCm_run _) ?_;intro Wa W c Ab)
     |(with_reducible refine kD ?_
       refine kr yk 68 _ _ rfl m.heap.size 0 [] [.slice none 0 0,.slice none 0 0,.string noneS,.string noneS,.int .i64 0] [] [.slice Ap P.length i,.slice Ac Q.length l,.string R,.string S,.int .i64 T] 68 _ rfl rfl rfl rfl (by simpa using c.out) rfl yq (by intro u f;simp only[xK,YY,or_false] at f;rcases f with rfl|rfl|rfl|rfl|rfl<;>rfl) ?_;intro V A2 A3 Ae;have d:=hid (W.trans (A2.below W.size (fun k b e=>by have e':k=m.heap.size:=e;omega)));have I:Hid (V.heap[m.heap.size]?=some (.cells ([.slice Ap P.length i,.slice Ac Q.length l,.string R,.string S,.int .i64 T]:List Value).toArray 68 (0,0))):=hid (by simpa using A3.out)))
   obtain⟨X,s⟩:=Xy m.heap.size;have N:=hid (show X<V.heap.size by rw[←s];exact(qX I));have J:=hid ((d.block z r).trans M);have D:=hid (Xx q.out d.out);rw[s] at I ⊢
   try go_frame
   clear s W c;have C:=hid (fun (u:World) (f:Below V.heap.size V u)=>(show u.cell? ⟨X,0,none⟩=some (.slice Ap P.length i)∧u.cell? ⟨X,1,none⟩=some (.slice Ac Q.length l)∧u.cell? ⟨X,2,none⟩=some (.string R)∧u.cell? ⟨X,3,none⟩=some (.string S)∧u.cell? ⟨X,4,none⟩=some (.int .i64 T) from⟨(f.cell (p:=⟨X,0,none⟩) N).trans (k6 I 0),(f.cell (p:=⟨X,1,none⟩) N).trans (k6 I 1),(f.cell (p:=⟨X,2,none⟩) N).trans (k6 I 2),(f.cell (p:=⟨X,3,none⟩) N).trans (k6 I 3),(f.cell (p:=⟨X,4,none⟩) N).trans (k6 I 4)⟩));have c0:V.cell? ⟨z,0,none⟩=some (.int .u8 (k.toNat:Int)):=k6 J.out 0;have K:=hid (show ChIn V V.heap.size (.agg ([.int .i64 n,.slice Ad F.length Z,.string G,.slice Ao H.length a]:List Value).toArray) (n,F,G,H) from (g.keep D).more D.size);by_cases hchg:ja (n,F,G,H)=true
   ·by_cases hps:P=[]
    ·have O:=hid (hchg);have A4:(((P.length:Nat):Int) == 0)=true:=by rw[hps];rfl
     by_cases hcs:Q=[]
     ·have A5:(((Q.length:Nat):Int) == 0)=true:=by rw[hcs];rfl
      by_cases L:R=noneS
      ·have A6:R.toList.isEmpty=true:=by rw[jE];exact dT L
       by_cases hms:S=noneS
       ·have A7:S.toList.isEmpty=true:=by rw[jE];exact dT hms
        by_cases hst:T=0
        focus
          have A8:(T == 0)=true:=by rw[hst];rfl
          have E:Hid (zn (k,(n,F,G,H),(P,Q,R,S,T))=true):=hid (by unfold zn;simp only;rw[if_pos b];rw[hchg];simp [jF,hps,hcs,L,hms,hst])
        rotate_left
        focus
          have A8:(T == 0)=false:=by rw[beq_eq_false_iff_ne];exact hst
          have E:Hid (zn (k,(n,F,G,H),(P,Q,R,S,T))=false):=hid (by unfold zn;simp only;rw[if_pos b];rw[hchg];simp [jF,hps,hcs,L,hms,hst])
        all_goals
          clear hchg hps hcs L hms hst
          go_wp2_with (first
            |(with_reducible refine k8 ?_
              refine k7 yk (kg 37 _ rfl (p:=⟨z,1,none⟩) rfl (qV _ _ _ _ [.int .i64 n,.slice Ad F.length Z,.string G,.slice Ao H.length a] _ (fun j u U=>(k6 (J) (1+j)).trans (mid1 U)) underlying37 rfl yq)) ?_)
            |(go_at_call 200;refine(Jf (n,F,G,H) _ V K hl1 hl2).mono ?_;rintro e Y ⟨B,rfl⟩;rw[O.out];obtain⟨t,x,y,d3,d4⟩:=C.out Y B;have A:=hid (Xx D.out B);clear B))
          go_ret;exact⟨A,by rw[E.out];rfl⟩
       ·have A7:S.toList.isEmpty=false:=by rw[jE];exact dF hms
        have E:Hid (zn (k,(n,F,G,H),(P,Q,R,S,T))=false):=hid (by unfold zn;simp only;rw[if_pos b];rw[hchg];simp [jF,hps,hcs,L,hms]);clear hchg hps hcs L hms
        go_wp2_with (first
          |(with_reducible refine k8 ?_
            refine k7 yk (kg 37 _ rfl (p:=⟨z,1,none⟩) rfl (qV _ _ _ _ [.int .i64 n,.slice Ad F.length Z,.string G,.slice Ao H.length a] _ (fun j u U=>(k6 (J) (1+j)).trans (mid1 U)) underlying37 rfl yq)) ?_)
          |(go_at_call 200;refine(Jf (n,F,G,H) _ V K hl1 hl2).mono ?_;rintro e Y ⟨B,rfl⟩;rw[O.out];obtain⟨t,x,y,d3,d4⟩:=C.out Y B;have A:=hid (Xx D.out B);clear B))
        go_ret;exact⟨A,by rw[E.out];rfl⟩
      ·have A6:R.toList.isEmpty=false:=by rw[jE];exact dF L
       have E:Hid (zn (k,(n,F,G,H),(P,Q,R,S,T))=false):=hid (by unfold zn;simp only;rw[if_pos b];rw[hchg];simp [jF,hps,hcs,L]);clear hchg hps hcs L
       go_wp2_with (first
         |(with_reducible refine k8 ?_
           refine k7 yk (kg 37 _ rfl (p:=⟨z,1,none⟩) rfl (qV _ _ _ _ [.int .i64 n,.slice Ad F.length Z,.string G,.slice Ao H.length a] _ (fun j u U=>(k6 (J) (1+j)).trans (mid1 U)) underlying37 rfl yq)) ?_)
         |(go_at_call 200;refine(Jf (n,F,G,H) _ V K hl1 hl2).mono ?_;rintro e Y ⟨B,rfl⟩;rw[O.out];obtain⟨t,x,y,d3,d4⟩:=C.out Y B;have A:=hid (Xx D.out B);clear B))
       go_ret;exact⟨A,by rw[E.out];rfl⟩
     ·have A5:(((Q.length:Nat):Int) == 0)=false:=by rw[beq_eq_false_iff_ne];intro hq;exact hcs (List.eq_nil_of_length_eq_zero yv)
      have E:Hid (zn (k,(n,F,G,H),(P,Q,R,S,T))=false):=hid (by unfold zn;simp only;rw[if_pos b];rw[hchg];simp [jF,hps,hcs]);clear hchg hps hcs
      go_wp2_with (first
        |(with_reducible refine k8 ?_
          refine k7 yk (kg 37 _ rfl (p:=⟨z,1,none⟩) rfl (qV _ _ _ _ [.int .i64 n,.slice Ad F.length Z,.string G,.slice Ao H.length a] _ (fun j u U=>(k6 (J) (1+j)).trans (mid1 U)) underlying37 rfl yq)) ?_)
        |(go_at_call 200;refine(Jf (n,F,G,H) _ V K hl1 hl2).mono ?_;rintro e Y ⟨B,rfl⟩;rw[O.out];obtain⟨t,x,y,d3,d4⟩:=C.out Y B;have A:=hid (Xx D.out B);clear B))
      go_ret;exact⟨A,by rw[E.out];rfl⟩
    ·have O:=hid (hchg);have A4:(((P.length:Nat):Int) == 0)=false:=by rw[beq_eq_false_iff_ne];intro hq;exact hps (List.eq_nil_of_length_eq_zero yv)
     have E:Hid (zn (k,(n,F,G,H),(P,Q,R,S,T))=false):=hid (by unfold zn;simp only;rw[if_pos b];rw[hchg];simp [jF,hps]);clear hchg hps
     go_wp2_with (first
       |(with_reducible refine k8 ?_
         refine k7 yk (kg 37 _ rfl (p:=⟨z,1,none⟩) rfl (qV _ _ _ _ [.int .i64 n,.slice Ad F.length Z,.string G,.slice Ao H.length a] _ (fun j u U=>(k6 (J) (1+j)).trans (mid1 U)) underlying37 rfl yq)) ?_)
       |(go_at_call 200;refine(Jf (n,F,G,H) _ V K hl1 hl2).mono ?_;rintro e Y ⟨B,rfl⟩;rw[O.out];obtain⟨t,x,y,d3,d4⟩:=C.out Y B;have A:=hid (Xx D.out B);clear B))
     go_ret;exact⟨A,by rw[E.out];rfl⟩
   ·have O:=hid (Bool.eq_false_iff.2 hchg);have E:Hid (zn (k,(n,F,G,H),(P,Q,R,S,T))=false):=hid (by unfold zn;simp only;rw[if_pos b];rw[Bool.eq_false_iff.2 hchg];simp);clear hchg
    go_wp2_with (first
      |(with_reducible refine k8 ?_
        refine k7 yk (kg 37 _ rfl (p:=⟨z,1,none⟩) rfl (qV _ _ _ _ [.int .i64 n,.slice Ad F.length Z,.string G,.slice Ao H.length a] _ (fun j u U=>(k6 (J) (1+j)).trans (mid1 U)) underlying37 rfl yq)) ?_)
      |(go_at_call 200;refine(Jf (n,F,G,H) _ V K hl1 hl2).mono ?_;rintro e Y ⟨B,rfl⟩;rw[O.out];obtain⟨t,x,y,d3,d4⟩:=C.out Y B;have A:=hid (Xx D.out B);clear B))
    go_ret;exact⟨A,by rw[E.out];rfl⟩
  ·exact absurd hone.out b
theorem BySt.drop{w wx:World}{t:Nat×List Value×TypeId}{L:List (Nat×List Value×TypeId)}{ys:List UInt8}{A:Option Addr}{n c:Nat}(h:BySt w (t::L) ys A n c wx):BySt w L ys A n c wx:=
  ⟨h.bel,h.own,h.len,fun t B=>h.boxes t (List.mem_cons_of_mem _ B)⟩
theorem refBytesCh_any(k:UInt8)(n0:Int)(ds:List (List UInt8))(au:ByteArray)(os:List OpD)(ps cs:List (List UInt8))(a2 ms:ByteArray)(st:Int)(v:Value)(w:World)(h:ObjIn w w.heap.size v (k,(n0,ds,au,os),(ps,cs,a2,ms,st)))(hk:k=1)(hr:ja (n0,ds,au,os)=true):
    Calls prog 162 #[v] w (uE (Ju (n0,ds,au,os)) w):=by
  obtain⟨ok,Ba,ha,Bm,hm,Ad,cd,Ao,co,Ap,cp,Ac,cc,rfl,sd,so,sp,sc⟩:=h;dsimp only at *;unfold ja at hr;simp only[xy,decide_eq_true_eq] at hr;obtain⟨⟨⟨⟨⟨⟨Bv,Bw⟩,AY⟩,Bb⟩,S⟩,A6⟩,AZ⟩:=hr;have Bu:=Qy Bb;obtain⟨Bx,B0,Bc⟩:=UN AY ok.1.2.1;have X:=hid sd;have AR:=hid so;have l:=hid B0;have o:=hid Bc
  have V:=hid (show IdsOk ds from ok.1.2.1);have AA:=hid Ba;have AS:=hid (fun x Z=>ops_each AZ x Z);obtain⟨n,rfl⟩:∃m:Nat,n0=(m:Int):=⟨n0.toNat,by omega⟩;have Bn:n<9223372036854775808:=yv;have Am:ds.length≤1099511627776:=yv;have Bd:au.size≤1099511627776:=yv;have b1:=js (n:=n) yv;have b2:=idsE_len8 V.out Am;have b3:=U1 Bd;have b4:=js (n:=os.length) yv;have ek:((k.toNat:Int) == 2)=false:=by rw[hk];rfl
  clear ok Ba ha Bm hm sd so sp sc AY Bb B0 Bc AZ hk;go_enter func162,ntmps162
  go_upto_region 1 with (first
    |(with_reducible refine kG ?_
      refine kz yk 70 _ rfl [.int .u8 (k.toNat:Int),.int .i64 (n:Int),.slice Ad ds.length cd,.string au,.slice Ao os.length co,.slice Ap ps.length cp,.slice Ac cs.length cc,.string a2,.string ms,.int .i64 st] _ rfl rfl yq ?_;intro W0 AT Aq By))
  obtain⟨z,hz⟩:=Xy w.heap.size;rw[hz] at Aq ⊢;have c0:W0.cell? ⟨z,0,none⟩=some (.int .u8 (k.toNat:Int)):=k6 Aq.out 0
  try go_frame
  go_upto_region 8 with fail
  go_upto_region 9 with (first
    |(with_reducible refine k8 ?_
      refine k7 yk (kg 37 _ rfl (p:=⟨z,1,none⟩) rfl (qV _ _ _ _ [.int .i64 (n:Int),.slice Ad ds.length cd,.string au,.slice Ao os.length co] _ (fun j u hj=>(k6 Aq (1+j)).trans (mid1 hj)) underlying37 rfl yq)) ?_)
    |(with_reducible refine kF ?_
      refine kv yk 37 rfl [.int .i64 0,.slice none 0 0,.string noneS,.slice none 0 0] (zeroCh_run8 _) ?_;intro Wa q A7 Bz)
    |(with_reducible refine kD ?_
      refine kr yk 37 _ _ rfl W0.heap.size 0 [] [.int .i64 0,.slice none 0 0,.string noneS,.slice none 0 0] [] [.int .i64 (n:Int),.slice Ad ds.length cd,.string au,.slice Ao os.length co] 37 _ rfl rfl rfl rfl (by simpa using A7.out) rfl yq (by intro u hu;simp only[xK,YY,or_false] at hu;rcases hu with rfl|rfl|rfl|rfl<;>rfl) ?_;intro W2 B1 B2 AO;have AB:=hid (q.trans (B1.below q.size (fun k hk e=>by have e':k=W0.heap.size:=e;omega)));have Ar:Hid (W2.heap[W0.heap.size]?=some (.cells ([.int .i64 (n:Int),.slice Ad ds.length cd,.string au,.slice Ao os.length co]:List Value).toArray 37 (0,0))):=hid (by simpa using B2.out)))
  have As:=hid (Xx AT.out AB.out);obtain⟨d,Be⟩:=Xy W0.heap.size;rw[Be] at Ar ⊢
  try go_frame
  clear Be q A7 AB
  go_upto_region 10 with (first
    |(with_reducible refine k8 ?_
      obtain⟨wb,Aj⟩:=Xy ((World.alloc W2 (.cells #[.int .u8 67] 5)));have B:Hid (BySt w [(d,[.int .i64 (n:Int),.slice Ad ds.length cd,.string au,.slice Ao os.length co],37)] [67] (some ⟨W2.heap.size,0,none⟩) 1 1 wb):=hid (by
         have AP:Below W2.heap.size W2 wb:=by rw[←Aj];exact(qB _ _).alloc (qR _) _
         exact⟨As.trans (AP.mono As.size),by rw[←Aj];exact own_lit8 w W2 _ As.size,rfl,fun t ht=>by
           obtain rfl:=xZ.1 ht;exact⟨(AP.block d (qX Ar)).trans Ar,(show (37:TypeId)≠5 by decide)⟩⟩)
      rw[Aj];clear Aj;refine k7 yk (Kf 3 _ rfl (p:=⟨d,0,none⟩) rfl underlying3 rfl (B.cellAt (z:=d) (cs:=[.int .i64 (n:Int),.slice Ad ds.length cd,.string au,.slice Ao os.length co]) (T:=37) yZ 0)) ?_)
    |(go_at_call 204;refine(KI n Bn _).mono ?_;rintro e u1 ⟨N,Ax1,Ae,rfl,S⟩;have B:=hid (B.call N);have I:=hid (N);have K:=hid (Sl.of_own S);clear N S)
    |(at_builtin;refine Kg yk _ _ 169 rfl w.heap.size 5 (.int .u8 0) 1 1 underlying169 jm rfl yj (.slice (some ⟨W2.heap.size,0,none⟩) (1) 1) (1) (idV ([67])) rfl B.own Ax1 (jA n).length Ae u1.heap.size (idV (jA n)) rfl K.out (kW _) (by have Au:=b1;have Av:=b2;have Aw:=b3;have Ax:=b4;unfold maxLen;omega) (by have Au:=b1;have Av:=b2;have Aw:=b3;have Ax:=b4;omega) B.bel.size ?_
      intro v1 Ak C D;obtain⟨A1,c1,rfl⟩:=kM C;have B:=hid (B.app C rfl D);clear C D))
  go_upto_region 11 with (first
    |(with_reducible refine k8 ?_
      refine k7 yk (Kf 34 _ rfl (p:=⟨d,1,none⟩) rfl underlying34 rfl (B.cellAt (z:=d) (cs:=[.int .i64 (n:Int),.slice Ad ds.length cd,.string au,.slice Ao os.length co]) (T:=37) yZ 1)) ?_)
    |(go_at_call 202;refine(refList_any ds Ad cd _ Am V ((X.keep B.bel).more B.bel.size)).mono ?_;rintro e u2 ⟨a,Ax2,Ay,rfl,A6⟩;have B:=hid (B.call a);have I:=hid (a);have Y:=hid (Sl.of_own A6);clear a A6)
    |(at_builtin;refine Kg yk _ _ 169 rfl w.heap.size 5 (.int .u8 0) 1 1 underlying169 jm rfl yj (.slice A1 (1+(jA n).length) c1) (1+(jA n).length) (idV ([67]++jA n)) rfl B.own Ax2 (ZT ds).length Ay u2.heap.size (idV (ZT ds)) rfl Y.out (kW _) (by have Au:=b1;have Av:=b2;have Aw:=b3;have Ax:=b4;unfold maxLen;omega) (by have Au:=b1;have Av:=b2;have Aw:=b3;have Ax:=b4;omega) B.bel.size ?_
      intro v2 B3 C D;obtain⟨A2,c2,rfl⟩:=kM C;have B:=hid (B.app C rfl D);clear C D))
  go_upto_region 12 with (first
    |(with_reducible refine k8 ?_
      refine k7 yk (Kf 9 _ rfl (p:=⟨d,2,none⟩) rfl underlying9 rfl (B.cellAt (z:=d) (cs:=[.int .i64 (n:Int),.slice Ad ds.length cd,.string au,.slice Ao os.length co]) (T:=37) yZ 2)) ?_)
    |(go_at_call 203;refine(vZ au Bd _).mono ?_;rintro e u3 ⟨Af,Ax3,AH,rfl,An⟩;have B:=hid (B.call Af);have I:=hid (Af);have A8:=hid (Sl.of_own An);clear Af An)
    |(at_builtin;refine Kg yk _ _ 169 rfl w.heap.size 5 (.int .u8 0) 1 1 underlying169 jm rfl yj (.slice A2 (1+(jA n).length+(ZT ds).length) c2) (1+(jA n).length+(ZT ds).length) (idV ([67]++jA n++ZT ds)) rfl B.own Ax3 (jN (L au)).length AH u3.heap.size (idV (jN (L au))) rfl A8.out (kW _) (by have Au:=b1;have Av:=b2;have Aw:=b3;have Ax:=b4;unfold maxLen;omega) (by have Au:=b1;have Av:=b2;have Aw:=b3;have Ax:=b4;omega) B.bel.size ?_
      intro v3 Bf C D;obtain⟨A3,c3,rfl⟩:=kM C;have B:=hid (B.app C rfl D);clear C D))
  go_upto_region 13 with (first
    |(with_reducible refine k8 ?_
      refine k7 yk (Kf 35 _ rfl (p:=⟨d,3,none⟩) rfl underlying35 rfl (B.cellAt (z:=d) (cs:=[.int .i64 (n:Int),.slice Ad ds.length cd,.string au,.slice Ao os.length co]) (T:=37) yZ 3)) ?_)
    |(go_at_call 204;refine(KI os.length yv _).mono ?_;rintro e u4 ⟨B4,Ax4,Bo,rfl,Bg⟩;have B:=hid (B.call B4);have I:=hid (B4);have AU:=hid (Sl.of_own Bg);clear B4 Bg)
    |(at_builtin;refine Kg yk _ _ 169 rfl w.heap.size 5 (.int .u8 0) 1 1 underlying169 jm rfl yj (.slice A3 (1+(jA n).length+(ZT ds).length+(jN (L au)).length) c3) (1+(jA n).length+(ZT ds).length+(jN (L au)).length) (idV ([67]++jA n++ZT ds++jN (L au))) rfl B.own Ax4 (jA os.length).length Bo u4.heap.size (idV (jA os.length)) rfl AU.out (kW _) (by have Au:=b1;have Av:=b2;have Aw:=b3;have Ax:=b4;unfold maxLen;omega) (by have Au:=b1;have Av:=b2;have Aw:=b3;have Ax:=b4;omega) B.bel.size ?_
      intro v4 BA C D;obtain⟨A4,c4,rfl⟩:=kM C;have B:=hid (B.app C rfl D);clear C D))
  have Bp:([67]++jA n++ZT ds++jN (L au)++jA os.length).length≤200000:=by rw[B.len];omega
  have BB:1+(jA n).length+(ZT ds).length+(jN (L au)).length+(jA os.length).length≤200000:=yv;obtain⟨xh,B5⟩:=Xy ([67]++jA n++ZT ds++jN (L au)++jA os.length);have AV:Hid (Ju ((n:Int),ds,au,os)=xh++qo ds os):=hid (by
    rw[←B5];simp only[Ju,zF,Yz,YK,YZ])
  rw[B5] at B Bp;obtain⟨LL,AI⟩:∃LL:List (Nat×List Value×TypeId),[(d,[.int .i64 (n:Int),.slice Ad ds.length cd,.string au,.slice Ao os.length co],37)]=LL:=⟨_,rfl⟩;have AW:=hid AI;rw[AI] at B;have y:Hid (∀{u:World} {A':Option Addr} {m' c':Nat} {y':List UInt8},BySt w LL y' A' m' c' u→u.cell? ⟨d,1,none⟩=some (.slice Ad ds.length cd)):=hid (fun h=>h.cellAt (z:=d) (cs:=[.int .i64 (n:Int),.slice Ad ds.length cd,.string au,.slice Ao os.length co]) (T:=37) (by rw[←AI];simp) 1);have AX:Hid (∀{u:World} {A':Option Addr} {m' c':Nat} {y':List UInt8},BySt w LL y' A' m' c' u→u.cell? ⟨d,3,none⟩=some (.slice Ao os.length co)):=hid (fun h=>h.cellAt (z:=d) (cs:=[.int .i64 (n:Int),.slice Ad ds.length cd,.string au,.slice Ao os.length co]) (T:=37) (by rw[←AI];simp) 3);clear B5 AI AW;go_wp2_with fail
  go_loopw [6,7] (fun t6 t7 wr=>∃(i:Nat) (g:List UInt8) (A:Option Addr) (m c:Nat),i≤os.length∧t7=.int .i64 ((i:Nat):Int)∧t6=.slice A m c∧Hid (g=xh++qo ds (os.take i))∧Hid (BySt w LL g A m c wr)∧m≤200000+5000*i) (fun _ t7 _=>os.length - (intOf t7).toNat)
  case atStart=>exact⟨0,xh,_,_,_,YX _,rfl,rfl,hid (by simp [qo]),B,by omega⟩
  case round=>
    obtain⟨i,g,A,m,c,hi,rfl,rfl,HY,HB,BC⟩:=hrel;have BD:wr.cell? ⟨d,3,none⟩=some (.slice Ao os.length co):=AX.out HB.out;by_cases hlt:i<os.length
    ·have i0:(0:Int)≤(i:Int):=yv;have i1:(i:Int)<(os.length:Int):=yv;obtain⟨b,BE,rfl,BF,Bh⟩:=(AR.keep HB.bel).2 yv;have At:=hid (Sl.row (fun x Z=>kI (AA x Z)) Bh hlt);have O:=hid (AA _ (yQ hlt));have AC:=hid (AS _ (yQ hlt));have A9:=hid (opsE_next (deps:=ds) hlt);clear Bh;generalize os[i]=x at *;have F:=hid (kB O);have Ai:=hid (kI O);have AD:=hid (UO x);obtain⟨W,Bi⟩:=Xy (opV x);rw[Bi] at At F Ai AD;clear Bi;obtain⟨mk,AJ⟩:=AC.out;obtain⟨p,Bj⟩:∃p,jO x.1=some p:=by
       rcases hq:jO x.1 with _ |p
       ·unfold opB at AJ;rw[hq] at AJ;cases AJ
       ·exact⟨p,rfl⟩
     obtain⟨n1,n2,n3,n4,n5,n6,n7,n8,n9,Bq⟩:=op_names Bj AJ;obtain⟨xk,⟨G,di⟩,⟨U,ai⟩,xt,xn,xq⟩:=x;dsimp only at *;clear n2 n4 n6 n8 Bq AJ AC
     go_upto_region 17 with (first
       |(with_reducible refine k8 ?_
         refine kZ rfl 112 _ rfl b _ rfl W _ At.out underlying112 rfl (by rw[Ai.out];exact Ky) ?_)
       |(with_reducible refine kF ?_
         refine kv yk 112 rfl (opV Q5) (Q6 _) ?_;intro Wa q A7 AE)
       |(with_reducible refine kD ?_
         refine kr yk 112 _ _ rfl wr.heap.size 0 [] (opV Q5) [] W 112 _ rfl rfl rfl rfl (by simpa using A7.out) (by rw[Ai.out];exact kI (zeroOp_in 0)) (by rw[Ai.out];exact Ky) AD.out ?_;intro Wb B1 B2 AO;have AO:=AO.out;have AF:=hid (q.trans (B1.below (by have:=AE.out;omega) (fun k hk e=>by omega)));have AG:Hid (Wb.heap[wr.heap.size]?=some (.cells W.toArray 112 (0,0))):=hid (by simpa using B2.out);clear AO))
     have B:=hid ((HB.call AF).add AG (show (112:TypeId)≠5 by decide));obtain⟨J,Bk⟩:=Xy wr.heap.size;rw[Bk] at B ⊢
     try go_frame
     have Br:Wb.cell? ⟨J,0,none⟩=some (.int .u8 (xk.toNat:Int)):=(B.cellAt (z:=J) (cs:=W) (T:=112) yZ 0).trans F.1;clear Bk q A7 AE AF AG
     go_upto_region 18 with (first
       |(at_builtin
         obtain⟨wb,Aj⟩:∃u,(World.alloc Wb (.cells #[.int .u8 (xk.toNat:Int)] 5))=u:=⟨_,rfl⟩;have Aa:Hid (BySt w ((J,W,112)::LL) g A m c wb∧Sl wb wb.heap.size (some ⟨Wb.heap.size,0,none⟩) 1 1 (idV [xk])):=hid (by
            have AP:Below Wb.heap.size Wb wb:=by rw[←Aj];exact(qB _ _).alloc (qR _) _
            exact⟨B.call AP,by rw[←Aj];exact Sl.of_own (own_lit8 w Wb _ B.bel.size)⟩)
         rw[Aj];refine Kg yk _ _ 169 rfl w.heap.size 5 (.int .u8 0) 1 1 underlying169 jm rfl yj (.slice A m c) m (idV g) rfl Aa.1.own (some ⟨Wb.heap.size,0,none⟩) 1 1 wb.heap.size (idV [xk]) rfl Aa.2 (kW _) yY yv Aa.1.bel.size ?_;intro v0 AK C D;obtain⟨A0,AL,rfl⟩:=kM C;have B:=hid (Aa.1.app C rfl D);clear C D Aj Aa))
     clear Br;rcases zW Bj with⟨rfl,rfl⟩|⟨rfl,rfl⟩|⟨rfl,rfl⟩|⟨rfl,rfl⟩|⟨rfl,rfl⟩
     ·obtain⟨E,rfl⟩:∃E:Nat,di=(E:Int):=⟨di.toNat,by have:=(n1 rfl).2;omega⟩;have M:=hid (show zz (G,(E:Int)) from O.1.1);have P:=hid (n1 rfl).1;have Ag:E<9223372036854775808:=by have hb:=(zZ O.1.1.2).2;dsimp only at hb;omega
      have H:=vw (deps:=ds) (rc:=G) (ri:=E) yv Ag;obtain⟨Q,rfl⟩:∃Q:Nat,ai=(Q:Int):=⟨ai.toNat,by have:=(n3 rfl).2;omega⟩;have Ab:=hid (show zz (U,(Q:Int)) from O.1.2.1);have Ah:=hid (n3 rfl).1;have AM:Q<9223372036854775808:=by have hb:=(zZ O.1.2.1.2).2;dsimp only at hb;omega
      have A5:=vw (deps:=ds) (rc:=U) (ri:=Q) yv AM;have BG:xt.size≤4096:=n5 rfl;have B6:=U1 (s:=xt) yv;clear n1 n3 n5 n7 n9;have R:Hid (g++[1]++zj ds (G,(E:Int))++zj ds (U,(Q:Int))++jN (L xt)=xh++qo ds (os.take (i+1))):=hid (by
        rw[A9.out,←Yz,←HY.out];have e1:opE ds (1,(G,(E:Int)),(U,(Q:Int)),xt,xn,xq)=[1]++zj ds (G,(E:Int))++zj ds (U,(Q:Int))++jN (L xt):=by
          simp [opE,ifE,jO]
        rw[e1];simp only[Yz])
      have AQ:AK.cell? ⟨J,0,none⟩=some (.int .u8 1):=(B.cellAt (z:=J) (cs:=W) (T:=112) yZ 0).trans F.1
      go_upto_region 19 with fail
      go_upto_region 20 with (first
        |(with_reducible refine k8 ?_
          refine k7 yk (Kf 34 _ rfl (p:=⟨d,1,none⟩) rfl underlying34 rfl (y B.drop)) ?_)
        |(with_reducible refine k8 ?_
          refine k7 yk (ldR (b:=J) (f:=1) (r:=(G,(E:Int))) M (fun j u hj=>(B.cellAt (z:=J) (cs:=W) (T:=112) yZ (1+j)).trans (F.2.1 j u hj))) ?_)
        |(go_at_call 205;refine(ZF ds G E Ad cd _ Am V l o M P Ag ((X.keep B.bel).more B.bel.size)).mono ?_;rintro e u1 ⟨N,Ax1,Ae,rfl,S⟩;have B:=hid (B.call N);have I:=hid (N);have K:=hid (Sl.of_own S);clear N S)
        |(at_builtin;refine Kg yk _ _ 169 rfl w.heap.size 5 (.int .u8 0) 1 1 underlying169 jm rfl yj (.slice A0 (m+1) AL) (m+1) (idV (g++[1])) rfl B.own Ax1 (zj ds (G,(E:Int))).length Ae u1.heap.size (idV (zj ds (G,(E:Int)))) rfl K.out (kW _) (by have Z:=H;unfold maxLen;omega) (by have Z:=H;omega) B.bel.size ?_
          intro v1 Ak C D;obtain⟨A1,c1,rfl⟩:=kM C;have B:=hid (B.app C rfl D);clear C D))
      have AN:Ak.cell? ⟨J,0,none⟩=some (.int .u8 1):=(B.cellAt (z:=J) (cs:=W) (T:=112) yZ 0).trans F.1
      go_upto_region 22 with fail
      go_upto_region 23 with (first
        |(with_reducible refine k8 ?_
          refine k7 yk (Kf 34 _ rfl (p:=⟨d,1,none⟩) rfl underlying34 rfl (y B.drop)) ?_)
        |(with_reducible refine k8 ?_
          refine k7 yk (ldR (b:=J) (f:=34) (r:=(U,(Q:Int))) Ab (fun j u hj=>(B.cellAt (z:=J) (cs:=W) (T:=112) yZ (34+j)).trans (F.2.2.1 j u hj))) ?_)
        |(go_at_call 205;refine(ZF ds U Q Ad cd _ Am V l o Ab Ah AM ((X.keep B.bel).more B.bel.size)).mono ?_;rintro e u2 ⟨a,Ax2,Ay,rfl,A6⟩;have B:=hid (B.call a);have I:=hid (a);have Y:=hid (Sl.of_own A6);clear a A6)
        |(at_builtin;refine Kg yk _ _ 169 rfl w.heap.size 5 (.int .u8 0) 1 1 underlying169 jm rfl yj (.slice A1 (m+1+(zj ds (G,(E:Int))).length) c1) (m+1+(zj ds (G,(E:Int))).length) (idV (g++[1]++zj ds (G,(E:Int)))) rfl B.own Ax2 (zj ds (U,(Q:Int))).length Ay u2.heap.size (idV (zj ds (U,(Q:Int)))) rfl Y.out (kW _) (by have Z:=A5;have Al:=H;unfold maxLen;omega) (by have Z:=A5;have Al:=H;omega) B.bel.size ?_
          intro v2 B3 C D;obtain⟨A2,c2,rfl⟩:=kM C;have B:=hid (B.app C rfl D);clear C D))
      go_upto_region 23 with fail
      go_upto_region 15 with (first
        |(with_reducible refine k8 ?_
          refine k7 yk (Kf 9 _ rfl (p:=⟨J,67,none⟩) rfl underlying9 rfl ((B.cellAt (z:=J) (cs:=W) (T:=112) yZ 67).trans F.2.2.2.1)) ?_)
        |(go_at_call 203;refine(vZ xt yv _).mono ?_;rintro e u3 ⟨Af,Ax3,AH,rfl,An⟩;have B:=hid (B.call Af);have I:=hid (Af);have A8:=hid (Sl.of_own An);clear Af An)
        |(at_builtin;refine Kg yk _ _ 169 rfl w.heap.size 5 (.int .u8 0) 1 1 underlying169 jm rfl yj (.slice A2 (m+1+(zj ds (G,(E:Int))).length+(zj ds (U,(Q:Int))).length) c2) (m+1+(zj ds (G,(E:Int))).length+(zj ds (U,(Q:Int))).length) (idV (g++[1]++zj ds (G,(E:Int))++zj ds (U,(Q:Int)))) rfl B.own Ax3 (jN (L xt)).length AH u3.heap.size (idV (jN (L xt))) rfl A8.out (kW _) (by have Z:=B6;have Al:=H;have B7:=A5;unfold maxLen;omega) (by have Z:=B6;have Al:=H;have B7:=A5;omega) B.bel.size ?_
          intro v3 Bf C D;obtain⟨A3,c3,rfl⟩:=kM C;have B:=hid (B.app C rfl D);clear C D))
      go_wp2_with fail
      go_roundw
      case rel=>exact⟨i+1,_,A3,_,c3,by omega,by go_num,rfl,R,hid B.drop,by omega⟩
      case measure=>exact Xz
     ·obtain⟨E,rfl⟩:∃E:Nat,di=(E:Int):=⟨di.toNat,by have:=(n1 rfl).2;omega⟩;have M:=hid (show zz (G,(E:Int)) from O.1.1);have P:=hid (n1 rfl).1;have Ag:E<9223372036854775808:=by have hb:=(zZ O.1.1.2).2;dsimp only at hb;omega
      have H:=vw (deps:=ds) (rc:=G) (ri:=E) yv Ag;obtain⟨Q,rfl⟩:∃Q:Nat,ai=(Q:Int):=⟨ai.toNat,by have:=(n3 rfl).2;omega⟩;have Ab:=hid (show zz (U,(Q:Int)) from O.1.2.1);have Ah:=hid (n3 rfl).1;have AM:Q<9223372036854775808:=by have hb:=(zZ O.1.2.1.2).2;dsimp only at hb;omega
      have A5:=vw (deps:=ds) (rc:=U) (ri:=Q) yv AM;obtain⟨xm,rfl⟩:∃xm:Nat,xn=(xm:Int):=⟨xn.toNat,by have:=n7 rfl;omega⟩;have Bs:xm<9223372036854775808:=by have hb:=(zZ O.1.2.2).2;dsimp only at hb;omega
      have B8:=js (n:=xm) yv;clear n1 n3 n5 n7 n9;have R:Hid (g++[2]++zj ds (G,(E:Int))++zj ds (U,(Q:Int))++jA xm=xh++qo ds (os.take (i+1))):=hid (by
        rw[A9.out,←Yz,←HY.out];have e1:opE ds (2,(G,(E:Int)),(U,(Q:Int)),xt,(xm:Int),xq)=[2]++zj ds (G,(E:Int))++zj ds (U,(Q:Int))++jA xm:=by
          simp [opE,ifE,jO,zF]
        rw[e1];simp only[Yz])
      have AQ:AK.cell? ⟨J,0,none⟩=some (.int .u8 2):=(B.cellAt (z:=J) (cs:=W) (T:=112) yZ 0).trans F.1
      go_upto_region 19 with fail
      go_upto_region 20 with (first
        |(with_reducible refine k8 ?_
          refine k7 yk (Kf 34 _ rfl (p:=⟨d,1,none⟩) rfl underlying34 rfl (y B.drop)) ?_)
        |(with_reducible refine k8 ?_
          refine k7 yk (ldR (b:=J) (f:=1) (r:=(G,(E:Int))) M (fun j u hj=>(B.cellAt (z:=J) (cs:=W) (T:=112) yZ (1+j)).trans (F.2.1 j u hj))) ?_)
        |(go_at_call 205;refine(ZF ds G E Ad cd _ Am V l o M P Ag ((X.keep B.bel).more B.bel.size)).mono ?_;rintro e u1 ⟨N,Ax1,Ae,rfl,S⟩;have B:=hid (B.call N);have I:=hid (N);have K:=hid (Sl.of_own S);clear N S)
        |(at_builtin;refine Kg yk _ _ 169 rfl w.heap.size 5 (.int .u8 0) 1 1 underlying169 jm rfl yj (.slice A0 (m+1) AL) (m+1) (idV (g++[2])) rfl B.own Ax1 (zj ds (G,(E:Int))).length Ae u1.heap.size (idV (zj ds (G,(E:Int)))) rfl K.out (kW _) (by have Z:=H;unfold maxLen;omega) (by have Z:=H;omega) B.bel.size ?_
          intro v1 Ak C D;obtain⟨A1,c1,rfl⟩:=kM C;have B:=hid (B.app C rfl D);clear C D))
      have AN:Ak.cell? ⟨J,0,none⟩=some (.int .u8 2):=(B.cellAt (z:=J) (cs:=W) (T:=112) yZ 0).trans F.1
      go_upto_region 25 with fail
      go_upto_region 26 with (first
        |(with_reducible refine k8 ?_
          refine k7 yk (Kf 34 _ rfl (p:=⟨d,1,none⟩) rfl underlying34 rfl (y B.drop)) ?_)
        |(with_reducible refine k8 ?_
          refine k7 yk (ldR (b:=J) (f:=34) (r:=(U,(Q:Int))) Ab (fun j u hj=>(B.cellAt (z:=J) (cs:=W) (T:=112) yZ (34+j)).trans (F.2.2.1 j u hj))) ?_)
        |(go_at_call 205;refine(ZF ds U Q Ad cd _ Am V l o Ab Ah AM ((X.keep B.bel).more B.bel.size)).mono ?_;rintro e u2 ⟨a,Ax2,Ay,rfl,A6⟩;have B:=hid (B.call a);have I:=hid (a);have Y:=hid (Sl.of_own A6);clear a A6)
        |(at_builtin;refine Kg yk _ _ 169 rfl w.heap.size 5 (.int .u8 0) 1 1 underlying169 jm rfl yj (.slice A1 (m+1+(zj ds (G,(E:Int))).length) c1) (m+1+(zj ds (G,(E:Int))).length) (idV (g++[2]++zj ds (G,(E:Int)))) rfl B.own Ax2 (zj ds (U,(Q:Int))).length Ay u2.heap.size (idV (zj ds (U,(Q:Int)))) rfl Y.out (kW _) (by have Z:=A5;have Al:=H;unfold maxLen;omega) (by have Z:=A5;have Al:=H;omega) B.bel.size ?_
          intro v2 B3 C D;obtain⟨A2,c2,rfl⟩:=kM C;have B:=hid (B.app C rfl D);clear C D))
      go_upto_region 26 with fail
      go_upto_region 15 with (first
        |(with_reducible refine k8 ?_
          refine k7 yk (Kf 3 _ rfl (p:=⟨J,68,none⟩) rfl underlying3 rfl ((B.cellAt (z:=J) (cs:=W) (T:=112) yZ 68).trans F.2.2.2.2.1)) ?_)
        |(go_at_call 204;refine(KI xm Bs _).mono ?_;rintro e u3 ⟨Af,Ax3,AH,rfl,An⟩;have B:=hid (B.call Af);have I:=hid (Af);have A8:=hid (Sl.of_own An);clear Af An)
        |(at_builtin;refine Kg yk _ _ 169 rfl w.heap.size 5 (.int .u8 0) 1 1 underlying169 jm rfl yj (.slice A2 (m+1+(zj ds (G,(E:Int))).length+(zj ds (U,(Q:Int))).length) c2) (m+1+(zj ds (G,(E:Int))).length+(zj ds (U,(Q:Int))).length) (idV (g++[2]++zj ds (G,(E:Int))++zj ds (U,(Q:Int)))) rfl B.own Ax3 (jA xm).length AH u3.heap.size (idV (jA xm)) rfl A8.out (kW _) (by have Z:=B8;have Al:=H;have B7:=A5;unfold maxLen;omega) (by have Z:=B8;have Al:=H;have B7:=A5;omega) B.bel.size ?_
          intro v3 Bf C D;obtain⟨A3,c3,rfl⟩:=kM C;have B:=hid (B.app C rfl D);clear C D))
      go_wp2_with fail
      go_roundw
      case rel=>exact⟨i+1,_,A3,_,c3,by omega,by go_num,rfl,R,hid B.drop,by omega⟩
      case measure=>exact Xz
     ·have Bt:xq.size≤4096:=n9 rfl;have Az:=U1 (s:=xq) yv;clear n1 n3 n5 n7 n9;have R:Hid (g++[3]++jN (L xq)=xh++qo ds (os.take (i+1))):=hid (by
        rw[A9.out,←Yz,←HY.out];have e1:opE ds (3,(G,di),(U,ai),xt,xn,xq)=[3]++jN (L xq):=by
          simp [opE,ifE,jO]
        rw[e1];simp only[Yz])
      have AQ:AK.cell? ⟨J,0,none⟩=some (.int .u8 3):=(B.cellAt (z:=J) (cs:=W) (T:=112) yZ 0).trans F.1
      go_upto_region 29 with fail
      go_upto_region 15 with (first
        |(with_reducible refine k8 ?_
          refine k7 yk (Kf 9 _ rfl (p:=⟨J,69,none⟩) rfl underlying9 rfl ((B.cellAt (z:=J) (cs:=W) (T:=112) yZ 69).trans F.2.2.2.2.2)) ?_)
        |(go_at_call 203;refine(vZ xq yv _).mono ?_;rintro e u1 ⟨N,Ax1,Ae,rfl,S⟩;have B:=hid (B.call N);have I:=hid (N);have K:=hid (Sl.of_own S);clear N S)
        |(at_builtin;refine Kg yk _ _ 169 rfl w.heap.size 5 (.int .u8 0) 1 1 underlying169 jm rfl yj (.slice A0 (m+1) AL) (m+1) (idV (g++[3])) rfl B.own Ax1 (jN (L xq)).length Ae u1.heap.size (idV (jN (L xq))) rfl K.out (kW _) (by have Z:=Az;unfold maxLen;omega) (by have Z:=Az;omega) B.bel.size ?_
          intro v1 Ak C D;obtain⟨A1,c1,rfl⟩:=kM C;have B:=hid (B.app C rfl D);clear C D))
      go_wp2_with fail
      go_roundw
      case rel=>exact⟨i+1,_,A1,_,c1,by omega,by go_num,rfl,R,hid B.drop,by omega⟩
      case measure=>exact Xz
     ·obtain⟨E,rfl⟩:∃E:Nat,di=(E:Int):=⟨di.toNat,by have:=(n1 rfl).2;omega⟩;have M:=hid (show zz (G,(E:Int)) from O.1.1);have P:=hid (n1 rfl).1;have Ag:E<9223372036854775808:=by have hb:=(zZ O.1.1.2).2;dsimp only at hb;omega
      have H:=vw (deps:=ds) (rc:=G) (ri:=E) yv Ag;have Bt:xq.size≤4096:=n9 rfl;have Az:=U1 (s:=xq) yv;clear n1 n3 n5 n7 n9;have R:Hid (g++[4]++zj ds (G,(E:Int))++jN (L xq)=xh++qo ds (os.take (i+1))):=hid (by
        rw[A9.out,←Yz,←HY.out];have e1:opE ds (4,(G,(E:Int)),(U,ai),xt,xn,xq)=[4]++zj ds (G,(E:Int))++jN (L xq):=by
          simp [opE,ifE,jO]
        rw[e1];simp only[Yz])
      have AQ:AK.cell? ⟨J,0,none⟩=some (.int .u8 4):=(B.cellAt (z:=J) (cs:=W) (T:=112) yZ 0).trans F.1
      go_upto_region 19 with fail
      go_upto_region 20 with (first
        |(with_reducible refine k8 ?_
          refine k7 yk (Kf 34 _ rfl (p:=⟨d,1,none⟩) rfl underlying34 rfl (y B.drop)) ?_)
        |(with_reducible refine k8 ?_
          refine k7 yk (ldR (b:=J) (f:=1) (r:=(G,(E:Int))) M (fun j u hj=>(B.cellAt (z:=J) (cs:=W) (T:=112) yZ (1+j)).trans (F.2.1 j u hj))) ?_)
        |(go_at_call 205;refine(ZF ds G E Ad cd _ Am V l o M P Ag ((X.keep B.bel).more B.bel.size)).mono ?_;rintro e u1 ⟨N,Ax1,Ae,rfl,S⟩;have B:=hid (B.call N);have I:=hid (N);have K:=hid (Sl.of_own S);clear N S)
        |(at_builtin;refine Kg yk _ _ 169 rfl w.heap.size 5 (.int .u8 0) 1 1 underlying169 jm rfl yj (.slice A0 (m+1) AL) (m+1) (idV (g++[4])) rfl B.own Ax1 (zj ds (G,(E:Int))).length Ae u1.heap.size (idV (zj ds (G,(E:Int)))) rfl K.out (kW _) (by have Z:=H;unfold maxLen;omega) (by have Z:=H;omega) B.bel.size ?_
          intro v1 Ak C D;obtain⟨A1,c1,rfl⟩:=kM C;have B:=hid (B.app C rfl D);clear C D))
      have AN:Ak.cell? ⟨J,0,none⟩=some (.int .u8 4):=(B.cellAt (z:=J) (cs:=W) (T:=112) yZ 0).trans F.1
      go_upto_region 29 with fail
      go_upto_region 15 with (first
        |(with_reducible refine k8 ?_
          refine k7 yk (Kf 9 _ rfl (p:=⟨J,69,none⟩) rfl underlying9 rfl ((B.cellAt (z:=J) (cs:=W) (T:=112) yZ 69).trans F.2.2.2.2.2)) ?_)
        |(go_at_call 203;refine(vZ xq yv _).mono ?_;rintro e u2 ⟨a,Ax2,Ay,rfl,A6⟩;have B:=hid (B.call a);have I:=hid (a);have Y:=hid (Sl.of_own A6);clear a A6)
        |(at_builtin;refine Kg yk _ _ 169 rfl w.heap.size 5 (.int .u8 0) 1 1 underlying169 jm rfl yj (.slice A1 (m+1+(zj ds (G,(E:Int))).length) c1) (m+1+(zj ds (G,(E:Int))).length) (idV (g++[4]++zj ds (G,(E:Int)))) rfl B.own Ax2 (jN (L xq)).length Ay u2.heap.size (idV (jN (L xq))) rfl Y.out (kW _) (by have Z:=Az;have Al:=H;unfold maxLen;omega) (by have Z:=Az;have Al:=H;omega) B.bel.size ?_
          intro v2 B3 C D;obtain⟨A2,c2,rfl⟩:=kM C;have B:=hid (B.app C rfl D);clear C D))
      go_wp2_with fail
      go_roundw
      case rel=>exact⟨i+1,_,A2,_,c2,by omega,by go_num,rfl,R,hid B.drop,by omega⟩
      case measure=>exact Xz
     ·obtain⟨E,rfl⟩:∃E:Nat,di=(E:Int):=⟨di.toNat,by have:=(n1 rfl).2;omega⟩;have M:=hid (show zz (G,(E:Int)) from O.1.1);have P:=hid (n1 rfl).1;have Ag:E<9223372036854775808:=by have hb:=(zZ O.1.1.2).2;dsimp only at hb;omega
      have H:=vw (deps:=ds) (rc:=G) (ri:=E) yv Ag;clear n1 n3 n5 n7 n9;have R:Hid (g++[5]++zj ds (G,(E:Int))=xh++qo ds (os.take (i+1))):=hid (by
        rw[A9.out,←Yz,←HY.out];have e1:opE ds (5,(G,(E:Int)),(U,ai),xt,xn,xq)=[5]++zj ds (G,(E:Int)):=by
          simp [opE,ifE,jO]
        rw[e1];simp only[Yz])
      have AQ:AK.cell? ⟨J,0,none⟩=some (.int .u8 5):=(B.cellAt (z:=J) (cs:=W) (T:=112) yZ 0).trans F.1
      go_upto_region 19 with fail
      go_upto_region 20 with (first
        |(with_reducible refine k8 ?_
          refine k7 yk (Kf 34 _ rfl (p:=⟨d,1,none⟩) rfl underlying34 rfl (y B.drop)) ?_)
        |(with_reducible refine k8 ?_
          refine k7 yk (ldR (b:=J) (f:=1) (r:=(G,(E:Int))) M (fun j u hj=>(B.cellAt (z:=J) (cs:=W) (T:=112) yZ (1+j)).trans (F.2.1 j u hj))) ?_)
        |(go_at_call 205;refine(ZF ds G E Ad cd _ Am V l o M P Ag ((X.keep B.bel).more B.bel.size)).mono ?_;rintro e u1 ⟨N,Ax1,Ae,rfl,S⟩;have B:=hid (B.call N);have I:=hid (N);have K:=hid (Sl.of_own S);clear N S)
        |(at_builtin;refine Kg yk _ _ 169 rfl w.heap.size 5 (.int .u8 0) 1 1 underlying169 jm rfl yj (.slice A0 (m+1) AL) (m+1) (idV (g++[5])) rfl B.own Ax1 (zj ds (G,(E:Int))).length Ae u1.heap.size (idV (zj ds (G,(E:Int)))) rfl K.out (kW _) (by have Z:=H;unfold maxLen;omega) (by have Z:=H;omega) B.bel.size ?_
          intro v1 Ak C D;obtain⟨A1,c1,rfl⟩:=kM C;have B:=hid (B.app C rfl D);clear C D))
      have AN:Ak.cell? ⟨J,0,none⟩=some (.int .u8 5):=(B.cellAt (z:=J) (cs:=W) (T:=112) yZ 0).trans F.1;go_wp2_with fail
      go_roundw
      case rel=>exact⟨i+1,_,A1,_,c1,by omega,by go_num,rfl,R,hid B.drop,by omega⟩
      case measure=>exact Xz
    ·have i1:¬(i:Int)<(os.length:Int):=yv;have Bl:i=os.length:=yv;have HF:Hid (g=Ju ((n:Int),ds,au,os)):=hid (by rw[HY.out,Bl,List.take_length,AV.out]);clear Bl;go_wp2_with fail;go_ret;have B9:=HB.len;exact⟨HB.bel,A,c,by rw[←HF.out,B9];rfl,by rw[←HF.out,B9];exact HB.own⟩
theorem refBytesO_any(o:vB)(v:Value)(w:World)(h:ObjIn w w.heap.size v o)(hr:zn o=true)(hone:RowKit.Hid (o.1=1)):
    Calls prog 162 #[v] w (uE (Jv o) w):=by
  obtain⟨k,⟨n,A,B,C⟩,⟨D,E,F,G,H⟩⟩:=o;unfold zn at hr;unfold Jv;dsimp only at hr ⊢;by_cases h1:k=1
  ·rw[if_pos h1] at hr ⊢;simp only[xy] at hr;exact refBytesCh_any k n A B C D E F G H v w h h1 hr.2
  ·exact absurd hone.out h1
end
section
open Go.RowKit

def W32(x:Int):Prop:=0≤x∧x≤4294967295
def zL(a b:Int):Int:=(a+b) % 4294967296
def Ze(a b:Int):Int:=bits BinOp.xor IntKind.u32 a b
def andS(a b:Int):Int:=bits BinOp.and IntKind.u32 a b
def jY(n:Nat)(x:Int):Int:=bits BinOp.or IntKind.u32 (x / 2 ^ n) (x*2 ^ (32 - n) % 4294967296)
def notS(x:Int):Int:=bits BinOp.xor IntKind.u32 (if IntKind.u32.signed=true then -1 else IntKind.u32.max) x
theorem Zp(a b:Int):W32 (zL a b):=⟨by unfold zL;omega,by unfold zL;omega⟩
theorem bits_or_comm(k:IntKind)(a b:Int):bits BinOp.or k a b=bits BinOp.or k b a:=by
  simp only[bits,BitVec.or_comm]
def wordS(a b c d:Nat):Int:=bits BinOp.or IntKind.u32 (bits BinOp.or IntKind.u32 (bits BinOp.or IntKind.u32 ((a:Int)*16777216) ((b:Int)*65536)) ((c:Int)*256)) (d:Int)
theorem w32_word(a b c d:Nat):W32 (wordS a b c d):=⟨bits_lo_u32 _ _ _,bits_hi_u32 _ _ _⟩
def j7(l:List UInt8)(i:Nat):Nat:=(l.getD i 0).toNat
theorem Z9(l:List UInt8)(i:Nat):j7 l i<256:=(l.getD i 0).toNat_lt
def Km(l:List UInt8)(at' t:Nat):Int:=
  if t<16 then wordS (j7 l (at'+4*t)) (j7 l (at'+4*t+1)) (j7 l (at'+4*t+2)) (j7 l (at'+4*t+3))
  else
    zL (zL (zL (Ze (Ze (jY 17 (Km l at' (t - 2))) (jY 19 (Km l at' (t - 2)))) (Km l at' (t - 2) / 1024)) (Km l at' (t - 7)))
      (Ze (Ze (jY 7 (Km l at' (t - 15))) (jY 18 (Km l at' (t - 15)))) (Km l at' (t - 15) / 8))) (Km l at' (t - 16))
  termination_by t
theorem qb{l:List UInt8}{at' t:Nat}(h:t<16):Km l at' t=wordS (j7 l (at'+4*t)) (j7 l (at'+4*t+1)) (j7 l (at'+4*t+2)) (j7 l (at'+4*t+3)):=by
  rw[Km,if_pos h]
theorem qc{l:List UInt8}{at' t:Nat}(h:¬t<16):Km l at' t=zL (zL (zL (Ze (Ze (jY 17 (Km l at' (t - 2))) (jY 19 (Km l at' (t - 2)))) (Km l at' (t - 2) / 1024)) (Km l at' (t - 7)))
      (Ze (Ze (jY 7 (Km l at' (t - 15))) (jY 18 (Km l at' (t - 15)))) (Km l at' (t - 15) / 8))) (Km l at' (t - 16)):=by
  rw[Km,if_neg h]
theorem ZL(l:List UInt8)(at' t:Nat):W32 (Km l at' t):=by
  by_cases h:t<16
  ·rw[qb h];exact w32_word _ _ _ _
  ·rw[qc h];exact Zp _ _
def keysS:List Int:=[1116352408,1899447441,3049323471,3921009573,961987163,1508970993,2453635748,2870763221,3624381080,310598401,607225278,1426881987,1925078388,2162078206,2614888103,3248222580,3835390401,4022224774,264347078,604807628,770255983,1249150122,1555081692,1996064986,2554220882,2821834349,2952996808,3210313671,3336571891,3584528711,113926993,338241895,666307205,773529912,1294757372,1396182291,1695183700,1986661051,2177026350,2456956037,2730485921,2820302411,3259730800,3345764771,3516065817,3600352804,4094571909,275423344,430227734,506948616,659060556,883997877,958139571,1322822218,1537002063,1747873779,1955562222,2024104815,2227730452,2361852424,2428436474,2756734187,3204031479,3329325298]
def keyS(t:Nat):Int:=keysS.getD t 0
theorem w32_key(t:Nat):W32 (keyS t):=by
  by_cases h:t<64
  ·exact(show ∀i:Fin 64,0≤keyS i.val∧keyS i.val≤4294967295 by decide+kernel) ⟨t,h⟩
  ·unfold keyS;rw[List.getD_eq_getElem?_getD,List.getElem?_eq_none (by have:keysS.length=64:=rfl;omega)];exact⟨by decide,by decide⟩
abbrev St8:=Int×Int×Int×Int×Int×Int×Int×Int
def st8(s:St8):List Int:=[s.1,s.2.1,s.2.2.1,s.2.2.2.1,s.2.2.2.2.1,s.2.2.2.2.2.1,s.2.2.2.2.2.2.1,s.2.2.2.2.2.2.2]
def firstS:St8:=(1779033703,3144134277,1013904242,2773480762,1359893119,2600822924,528734635,1541459225)
def St8.ok(s:St8):Prop:=∀x∈st8 s,W32 x
def t1S(s:St8)(k w:Int):Int:=
  let (_,_,_,_,e,f,g,h):=s
  zL (zL (zL (zL h (Ze (Ze (jY 6 e) (jY 11 e)) (jY 25 e))) (Ze (andS e f) (andS (notS e) g))) k) w
def t2S(s:St8):Int:=
  let (a,b,c,_,_,_,_,_):=s
  zL (Ze (Ze (jY 2 a) (jY 13 a)) (jY 22 a)) (Ze (Ze (andS a b) (andS a c)) (andS b c))
def QQ(s:St8)(k w:Int):St8:=
  let (a,b,c,d,e,f,g,_):=s
  (zL (t1S s k w) (t2S s),a,b,c,zL d (t1S s k w),e,f,g)
def U3(l:List UInt8)(at':Nat)(s:St8):Nat→St8
  | 0=>s
  |t+1=>QQ (U3 l at' s t) (keyS t) (Km l at' t)
def sumS(a b:St8):St8:=(zL a.1 b.1,zL a.2.1 b.2.1,zL a.2.2.1 b.2.2.1,zL a.2.2.2.1 b.2.2.2.1,zL a.2.2.2.2.1 b.2.2.2.2.1,zL a.2.2.2.2.2.1 b.2.2.2.2.2.1,zL a.2.2.2.2.2.2.1 b.2.2.2.2.2.2.1,zL a.2.2.2.2.2.2.2 b.2.2.2.2.2.2.2)
def J5(l:List UInt8)(at':Nat)(s:St8):St8:=sumS (U3 l at' s 64) s
def zm(l:List UInt8)(s:St8):Nat→St8
  | 0=>s
  |n+1=>J5 l (64*n) (zm l s n)
theorem QR:firstS.ok:=by simp [St8.ok,st8,firstS,W32]
theorem ok_step{s:St8}(h:s.ok)(k w:Int):(QQ s k w).ok:=by
  obtain⟨a,b,c,d,e,f,g,x⟩:=s;simp only[St8.ok,st8,QQ,xK,YY,or_false,forall_eq_or_imp,forall_eq] at h ⊢;exact⟨Zp _ _,h.1,h.2.1,h.2.2.1,Zp _ _,h.2.2.2.2.1,h.2.2.2.2.2.1,h.2.2.2.2.2.2.1⟩
theorem ok_run{l:List UInt8}{at':Nat}{s:St8}(h:s.ok):∀t,(U3 l at' s t).ok
  | 0=>h
  |t+1=>ok_step (ok_run h t) _ _
theorem ok_sum(a b:St8):(sumS a b).ok:=by
  simp only[St8.ok,st8,sumS,xK,YY,or_false,forall_eq_or_imp,forall_eq];exact⟨Zp _ _,Zp _ _,Zp _ _,Zp _ _,Zp _ _,Zp _ _,Zp _ _,Zp _ _⟩
theorem ok_hash{l:List UInt8}{s:St8}(h:s.ok):∀n,(zm l s n).ok
  | 0=>h
  |n+1=>ok_sum _ _
def zt(n:Nat):Nat:=(119 - n % 64) % 64
def lenS(n:Nat):List UInt8:=(List.range 8).map fun i=>UInt8.ofNat (n*8 / 2 ^ (56 - 8*i))
def qq(l:List UInt8):List UInt8:=l++(128::List.replicate (zt l.length) 0++lenS l.length)
theorem ua(l:List UInt8):(qq l).length=l.length+1+zt l.length+8:=by
  unfold qq lenS;simp;omega
theorem padS_mod(l:List UInt8):(qq l).length % 64=0:=by rw[ua];unfold zt;omega
def qr(s:St8):List UInt8:=(st8 s).flatMap fun x=>[UInt8.ofNat (x.toNat / 16777216),UInt8.ofNat (x.toNat / 65536),UInt8.ofNat (x.toNat / 256),UInt8.ofNat x.toNat]
def vp(l:List UInt8):List UInt8:=qr (zm (qq l) firstS ((qq l).length / 64))
theorem Jp(l:List UInt8):(vp l).length=32:=rfl
theorem schS_congr{l m:List UInt8}{a b:Nat}(h:∀i,i<64→j7 l (a+i)=j7 m (b+i))(t:Nat):t<64→Km l a t=Km m b t:=by
  induction t using Nat.strongRecOn with
  |ind t ih=>
   intro A;by_cases h16:t<16
   ·rw[qb h16,qb h16,h (4*t) yv,Nat.add_assoc a,Nat.add_assoc b,h (4*t+1) yv,Nat.add_assoc a,Nat.add_assoc b,h (4*t+2) yv,Nat.add_assoc a,Nat.add_assoc b,h (4*t+3) yv]
   ·rw[qc h16,qc h16,ih (t - 2) yv yv,ih (t - 7) yv yv,ih (t - 15) yv yv,ih (t - 16) yv yv]
theorem runS_congr{l m:List UInt8}{a b:Nat}(h:∀i,i<64→j7 l (a+i)=j7 m (b+i))(s:St8):∀t,t≤64→U3 l a s t=U3 m b s t
  | 0,_=>rfl
  |t+1,ht=>by unfold U3;rw[runS_congr h s t yv,schS_congr h t yv]
theorem QS{l m:List UInt8}{a b:Nat}(h:∀i,i<64→j7 l (a+i)=j7 m (b+i))(s:St8):J5 l a s=J5 m b s:=by
  unfold J5;rw[runS_congr h s 64 (xY _)]
theorem byteAt_app{l m:List UInt8}{i:Nat}(h:i<l.length):j7 (l++m) i=j7 l i:=by
  unfold j7;rw[List.getD_eq_getElem?_getD,List.getD_eq_getElem?_getD,xv h]
theorem hashS_app(l m:List UInt8)(s:St8):∀n,64*n≤l.length→zm (l++m) s n=zm l s n
  | 0,_=>rfl
  |n+1,h=>by
   unfold zm;rw[hashS_app l m s n yv,QS (m:=l) (b:=64*n) fun i hi=>byteAt_app yv]
end
section
open Go.RowKit Go.Maps
theorem KK(x:Int)(n:Nat)(hx:W32 x)(h0:1≤n)(h1:n≤31)(w:World):Calls prog 164 #[.int .u32 x,.int .u64 (n:Int)] w fun e w'=>e=.returned (.int .u32 (jY n x))∧w=w':=by
  obtain⟨A,B⟩:=hx;go_enter func164,ntmps164
  go_wp2
  go_ret;exact⟨rfl,rfl⟩
theorem and31:∀n:Fin 32,1≤n.val→bits BinOp.and IntKind.u64 (IntKind.u64.wrap (-(n.val:Int))) 31=((32 - n.val:Nat):Int):=by decide+kernel
theorem rotL_any(x:Int)(n:Nat)(hx:W32 x)(h0:1≤n)(h1:n≤31)(w:World):Calls prog 257 #[.int .u32 x,.int .i64 (-(n:Int))] w fun e w'=>e=.returned (.int .u32 (jY n x))∧w=w':=by
  obtain⟨E,F⟩:=hx;have C:=and31 ⟨n,by omega⟩ h0;obtain⟨m,B⟩:=Xy (32 - n);simp only at C;rw[B] at C;have G:1≤m:=yv;have H:m≤31:=yv;have A:=Lib.hid B;clear B;go_enter func257,ntmps257
  go_wp2
  go_ret;refine⟨?_,rfl⟩;show Ending.returned (.int .u32 (bits BinOp.or IntKind.u32 (x*2 ^ m % 4294967296) (x / 2 ^ (32 - m))))=_;have D:32 - m=n:=by have:=A.out;omega
  unfold jY;rw[bits_or_comm,A.out,D]
theorem JM(x:Int)(n:Nat)(hx:W32 x)(h0:1≤n)(h1:n≤31)(w:World):Calls prog 233 #[.int .u32 x,.int .i64 (n:Int)] w fun e w'=>e=.returned (.int .u32 (jY n x))∧w=w':=by
  go_enter func233,ntmps233
  go_wp2_with (go_at_call 257;refine(rotL_any x n hx h0 h1 w).mono ?_;rintro e w' ⟨rfl,rfl⟩)
  go_ret;exact⟨rfl,rfl⟩
def jK(l:List Int):List Value:=l.map fun x=>.int .u32 x
theorem ZZ(l:List Int):∀u∈jK l,u.oneCell'=true:=by
  intro u A;obtain⟨x,_,rfl⟩:=List.mem_map.1 A;rfl
theorem KM{l:List Int}{i:Nat}(h:i<l.length):(jK l)[i]?=some (.int .u32 (l.getD i 0)):=by
  unfold jK;rw[List.getElem?_map,yK h,List.getD_eq_getElem?_getD,yK h];rfl
theorem keys_built(w:World):(Instr.build 289 #[(0,.int .u32 1116352408),(1,.int .u32 1899447441),(2,.int .u32 3049323471),(3,.int .u32 3921009573),(4,.int .u32 961987163),(5,.int .u32 1508970993),(6,.int .u32 2453635748),(7,.int .u32 2870763221),(8,.int .u32 3624381080),(9,.int .u32 310598401),(10,.int .u32 607225278),(11,.int .u32 1426881987),(12,.int .u32 1925078388),(13,.int .u32 2162078206),(14,.int .u32 2614888103),(15,.int .u32 3248222580),(16,.int .u32 3835390401),(17,.int .u32 4022224774),(18,.int .u32 264347078),(19,.int .u32 604807628),(20,.int .u32 770255983),(21,.int .u32 1249150122),(22,.int .u32 1555081692),(23,.int .u32 1996064986),(24,.int .u32 2554220882),(25,.int .u32 2821834349),(26,.int .u32 2952996808),(27,.int .u32 3210313671),(28,.int .u32 3336571891),(29,.int .u32 3584528711),(30,.int .u32 113926993),(31,.int .u32 338241895),(32,.int .u32 666307205),(33,.int .u32 773529912),(34,.int .u32 1294757372),(35,.int .u32 1396182291),(36,.int .u32 1695183700),(37,.int .u32 1986661051),(38,.int .u32 2177026350),(39,.int .u32 2456956037),(40,.int .u32 2730485921),(41,.int .u32 2820302411),(42,.int .u32 3259730800),(43,.int .u32 3345764771),(44,.int .u32 3516065817),(45,.int .u32 3600352804),(46,.int .u32 4094571909),(47,.int .u32 275423344),(48,.int .u32 430227734),(49,.int .u32 506948616),(50,.int .u32 659060556),(51,.int .u32 883997877),(52,.int .u32 958139571),(53,.int .u32 1322822218),(54,.int .u32 1537002063),(55,.int .u32 1747873779),(56,.int .u32 1955562222),(57,.int .u32 2024104815),(58,.int .u32 2227730452),(59,.int .u32 2361852424),(60,.int .u32 2428436474),(61,.int .u32 2756734187),(62,.int .u32 3204031479),(63,.int .u32 3329325298)]).run prog w=.ok (.agg (jK keysS).toArray) w:=yq
theorem refKey_any(t:Nat)(ht:t<64)(w:World):Calls prog 165 #[.int .i64 (t:Int)] w fun e w'=>e=.returned (.int .u32 (keyS t))∧Below w.heap.size w w':=by
  go_enter func165,ntmps165
  go_upto_region 2 with (first
    |(refine k7 yk (kp 289 _ rfl (keys_built _)) ?_)
    |(with_reducible refine kF ?_
      refine kv yk 289 rfl (List.replicate 64 (.int .u32 0)) yq ?_;intro J A B F)
    |(with_reducible refine kD ?_
      refine kr yk 289 _ _ rfl w.heap.size 0 [] (List.replicate 64 (.int .u32 0)) [] (jK keysS) 289 (.agg (jK keysS).toArray) rfl rfl rfl rfl (by simpa using B.out) rfl yq (ZZ _) ?_;intro G H I E;have E:=E.out;have C:=Lib.hid (A.trans (H.below A.size (fun k K e=>by omega)));have D:Hid (G.heap[w.heap.size]?=some (.cells (jK keysS).toArray 289 (0,0))):=Lib.hid (by simpa using I.out);clear E))
  have L:G.cell? ⟨w.heap.size,t,none⟩=some (.int .u32 (keyS t)):=(k6 D t).trans (KM (l:=keysS) ht)
  go_wp2
  go_ret;exact⟨rfl,C⟩
end
section
open Go.RowKit Go.Maps
open Lib (hid)
def schL(l:List UInt8)(a t:Nat):List Int:=(List.range 64).map fun k=>if k<t then Km l a k else 0
def qs(l:List UInt8)(a t:Nat):List Value:=jK (schL l a t)
theorem Za(l:List UInt8)(a t:Nat):(qs l a t).length=64:=by simp [qs,schL,jK]
theorem schV_at{l:List UInt8}{a t k:Nat}(hk:k<t)(ht:t≤64):(qs l a t)[k]?=some (.int .u32 (Km l a k)):=by
  unfold qs jK schL;rw[List.map_map,List.getElem?_map,List.getElem?_range yv];simp [hk]
theorem schV_set{l:List UInt8}{a t:Nat}(ht:t<64):(qs l a t).toArray.setIfInBounds t (.int .u32 (Km l a t))=(qs l a (t+1)).toArray:=by
  rw[List.setIfInBounds_toArray]
  congr 1
  apply List.ext_getElem?;intro i;rw[List.getElem?_set];by_cases hi:t=i
  ·subst hi;rw[if_pos rfl,if_pos (by rw[Za];exact ht),schV_at yv yv]
  ·rw[if_neg hi];unfold qs jK schL;rw[List.map_map,List.map_map,List.getElem?_map,List.getElem?_map];by_cases h6:i<64
   ·rw[List.getElem?_range h6];by_cases h7:i<t
    ·simp [h7,show i<t+1 by omega]
    ·simp [h7,show ¬i<t+1 by omega]
   ·rw[List.getElem?_eq_none yX];rfl
theorem Kz{w:World}{b j:Nat}{cs:Array Value}{t:TypeId}{fz:Nat×Nat}(h:w.heap[b]?=some (.cells cs t fz))(v:Value):(w.setCell ⟨b,j,none⟩ v).heap[b]?=some (.cells (cs.setIfInBounds j v) t fz):=by
  have A:=(qX h);have B:w.heap[b]=.cells cs t fz:=by simpa [Array.getElem?_eq_getElem A] using h
  show (w.heap.modify b _)[b]?=_;rw[Array.getElem?_eq_getElem (by simpa using A),Array.getElem_modify_self,B];rfl
structure SchAt (w:World) (z:Nat) (l:List UInt8) (a t:Nat) (wx:World):Prop where
  but:But (fun k=>k=z) w wx
  row:wx.heap[z]?=some (.cells (qs l a t).toArray 289 (0,0))
theorem SchAt.lt{w:World}{z:Nat}{l:List UInt8}{a t:Nat}{wx:World}(h:SchAt w z l a t wx):z<wx.heap.size:=(qX h.row)
theorem SchAt.keep{w:World}{z:Nat}{l:List UInt8}{a t:Nat}{wx wy:World}(h:SchAt w z l a t wx)(hb:Below wx.heap.size wx wy):SchAt w z l a t wy:=
  ⟨h.but.andBelow hb,(hb.block z h.lt).trans h.row⟩
theorem SchAt.cell{w:World}{z:Nat}{l:List UInt8}{a t:Nat}{wx:World}(h:SchAt w z l a t wx){k:Nat}(hk:k<t)(ht:t≤64):wx.cell? ⟨z,k,none⟩=some (.int .u32 (Km l a k)):=(k6 h.row k).trans (schV_at hk ht)
theorem SchAt.any{w:World}{z:Nat}{l:List UInt8}{a t:Nat}{wx:World}(h:SchAt w z l a t wx){k:Nat}(hk:k<64):∃u,wx.cell? ⟨z,k,none⟩=some u:=
  ⟨(qs l a t)[k]'(by rw[Za];exact hk),(k6 h.row k).trans (yK _)⟩
theorem SchAt.fr{w:World}{z:Nat}{l:List UInt8}{a t:Nat}{wx:World}(h:SchAt w z l a t wx)(k:Nat):wx.frozen? ⟨z,k,none⟩=false:=frozen_of_row _ _ _ _ _ h.row
theorem SchAt.next{w:World}{z:Nat}{l:List UInt8}{a t:Nat}{wx:World}(h:SchAt w z l a t wx)(ht:t<64){x:Int}(hx:Km l a t=x):SchAt w z l a (t+1) (wx.setCell ⟨z,t,none⟩ (.int .u32 x)):=by
  refine⟨h.but.setCell (fun _=>rfl) _,?_⟩;rw[←schV_set ht,hx];exact Kz h.row _
theorem schedule_any(b off c:Nat)(l:List UInt8)(w:World)(hl:l.length=64)(hbw:b<w.heap.size)(hb:∀j (hj:j<64),w.cell? ⟨b,off+j,none⟩=some (.int .u8 (j7 l j:Int)))(hc:64≤c):
    Calls prog 232 #[.slice (some ⟨b,off,none⟩) 64 c] w fun e w'=>e=.returned (.agg (qs l 0 64).toArray)∧Below w.heap.size w w':=by
  have R:=hid hb;clear hb;go_enter func232,ntmps232
  go_upto_region 1 with (first
    |(with_reducible refine kF ?_
      refine kv yk 289 rfl (List.replicate 64 (.int .u32 0)) yq ?_;intro W0 S T F))
  go_upto_region 3 with (first
    |(with_reducible refine kF ?_
      refine kv yk 289 rfl (List.replicate 64 (.int .u32 0)) yq ?_;intro f G W Z))
  obtain⟨y,hy⟩:=Xy w.heap.size;obtain⟨z,hz⟩:=Xy W0.heap.size;have A3:Hid (f.heap[y]?=some (.cells (List.replicate 64 (.int .u32 0)).toArray 289 (0,0))):=hid (by rw[←hy];exact(G.block _ (by have:=F.out;omega)).trans T.out);have A:Hid (SchAt f z l 0 0 f):=hid ⟨But.refl _ _,by rw[←hz];exact W.out⟩;have C:Hid (y<z∧w.heap.size≤y∧z<f.heap.size):=hid (by have:=F.out;have:=Z.out;omega);have D:=hid (Xx S.out G.out);have I:Hid (b<f.heap.size):=hid (qL hbw D.size);have E:=hid (fun (u:World) (hu:But (fun k=>k=z) f u) (j:Nat) (hj:j<64)=>(show u.cell? ⟨b,off+j,none⟩=some (.int .u8 (j7 l j:Int)) from (hu.cell I (by have:=C.out;omega)).trans ((D.cell (p:=⟨b,off+j,none⟩) hbw).trans (R j hj))));clear R;rw[hy];rw[hz]
  try go_frame
  clear T W S G F Z hz hy
  go_loopw [10] (fun t10 wr=>∃t:Nat,t≤16∧t10=.int .i64 (t:Int)∧Hid (SchAt f z l 0 t wr)) (fun t10 _=>16 - (intOf t10).toNat)
  case atStart=>exact⟨0,by omega,rfl,A⟩
  case round=>
    obtain⟨t,ht,rfl,A⟩:=hrel;by_cases hlt:t<16
    ·have i1:(t:Int)<16:=yv;obtain⟨m,hm⟩:=Xy (4*t);have e4:IntKind.i64.wrap (4*(t:Int))=((m:Nat):Int):=by rw[IntWalk.i64_in _ yv];omega
     have e5:IntKind.i64.wrap ((m:Int)+1)=((m+1:Nat):Int):=by rw[IntWalk.i64_in _ yv];omega
     have e6:IntKind.i64.wrap ((m:Int)+2)=((m+2:Nat):Int):=by rw[IntWalk.i64_in _ yv];omega
     have e7:IntKind.i64.wrap ((m:Int)+3)=((m+3:Nat):Int):=by rw[IntWalk.i64_in _ yv];omega
     have Am:m+3<64:=yv;have o:b<wr.heap.size:=qL I.out A.but.size;obtain⟨k0,q⟩:=Xy (j7 l m);obtain⟨k1,r⟩:=Xy (j7 l (m+1));obtain⟨k2,s⟩:=Xy (j7 l (m+2));obtain⟨k3,v⟩:=Xy (j7 l (m+3));have F0:=Wg.cell (q▸E.out wr A.but m yv) o;have F1:=Wg.cell (r▸E.out wr A.but (m+1) yv) o;have F2:=Wg.cell (s▸E.out wr A.but (m+2) yv) o;have F3:=Wg.cell (v▸E.out wr A.but (m+3) yv) o;have q0:k0<256:=q▸Z9 _ _;have q1:k1<256:=r▸Z9 _ _;have q2:k2<256:=s▸Z9 _ _;have q3:k3<256:=v▸Z9 _ _;have HW:=hid (show Km l 0 t=wordS k0 k1 k2 k3 by rw[qb hlt,qZ,hm,q,r,s,v]);clear q r s v hm
     go_upto_region 5 with fail
     refine jp 35 yq yq yq yq yq ?_;simp only[List.take_succ_cons,List.take_zero,List.drop_succ_cons,List.drop_zero]
     repeat (first|go_big_quiet_skip|(go_big_quiet_want;go_big_quiet_op;go_big_quiet_on))
     refine wpQuiet_nil ?_;rintro w' ⟨Q,rfl⟩;have g:=Q.2;generalize Q.val=w9 at *;clear Q;clear F0 F1 F2 F3 e4 e5 e6 e7;have B:=hid (A.keep g.below);obtain⟨u9,c9⟩:=B.any (show t<64 by omega);have f9:=B.fr t;go_wp2_with fail
     go_roundw
     case rel=>
       refine⟨t+1,by omega,by go_num,hid (B.next yv ?_)⟩;rw[HW.out];rfl
     case measure=>exact Xz
    ·have i1:¬(t:Int)<16:=yv;obtain rfl:t=16:=yv
     go_upto_region 8 with fail
     go_loopw [5] (fun t5 wr=>∃t:Nat,16≤t∧t≤64∧t5=.int .i64 (t:Int)∧Hid (SchAt f z l 0 t wr)) (fun t5 _=>64 - (intOf t5).toNat)
     case atStart=>exact⟨16,by omega,by omega,rfl,A⟩
     case round=>
       clear A;obtain⟨t,An,ht,rfl,A⟩:=hrel;by_cases hlt:t<64
       ·have i2:(t:Int)<64:=yv;obtain⟨m2,Ad⟩:=Xy (t - 2);obtain⟨m7,Ae⟩:=Xy (t - 7);obtain⟨x,Aa⟩:=Xy (t - 15);obtain⟨A0,Ab⟩:=Xy (t - 16);have e2:IntKind.i64.wrap ((t:Int) - 2)=((m2:Nat):Int):=by rw[IntWalk.i64_in _ yv];omega
        have e7:IntKind.i64.wrap ((t:Int) - 7)=((m7:Nat):Int):=by rw[IntWalk.i64_in _ yv];omega
        have Ag:IntKind.i64.wrap ((t:Int) - 15)=((x:Nat):Int):=by rw[IntWalk.i64_in _ yv];omega
        have Ah:IntKind.i64.wrap ((t:Int) - 16)=((A0:Nat):Int):=by rw[IntWalk.i64_in _ yv];omega
        have l2:m2<64:=yv;have l7:m7<64:=yv;have Ao:x<64:=yv;have Ap:A0<64:=yv;obtain⟨Y,hY⟩:=Xy (Km l 0 m2);obtain⟨V,hV⟩:=Xy (Km l 0 m7);obtain⟨X,hX⟩:=Xy (Km l 0 x);obtain⟨U,hU⟩:=Xy (Km l 0 A0);have a:=hid (fun (u:World) (hu:Below wr.heap.size wr u)=>(show u.cell? ⟨z,m2,none⟩=some (.int .u32 Y)∧u.cell? ⟨z,m7,none⟩=some (.int .u32 V)∧u.cell? ⟨z,x,none⟩=some (.int .u32 X)∧u.cell? ⟨z,A0,none⟩=some (.int .u32 U) from by
          have h:=A.keep hu;rw[←hY,←hV,←hX,←hU];exact⟨h.cell yv ht,h.cell yv ht,h.cell yv ht,h.cell yv ht⟩))
        have J:Hid (W32 Y):=hid (hY▸ZL _ _ _);have K:Hid (W32 X):=hid (hX▸ZL _ _ _);have A4:Hid (W32 V):=hid (hV▸ZL _ _ _);have A5:Hid (W32 U):=hid (hU▸ZL _ _ _);have HE:=hid (show Km l 0 t=zL (zL (zL (Ze (Ze (jY 17 Y) (jY 19 Y)) (Y / 1024)) V) (Ze (Ze (jY 7 X) (jY 18 X)) (X / 8))) U by rw[qc yv,Ad,Ae,Aa,Ab,hY,hV,hX,hU]);clear Ad Ae Aa Ab hY hV hX hU;obtain⟨y0,y1⟩:=J.out;obtain⟨x0,x1⟩:=K.out;obtain⟨c2,c7,A1,A2⟩:=a.out wr (qB _ _);have Af:=A.lt;have F2:=Wg.cell c2 Af;have Ai:=Wg.cell A1 Af;clear c2 c7 A1 A2
        go_upto_region 10 with fail
        refine jk yq yq ?_
        repeat (first|go_big_quiet_skip|(go_big_quiet_want;go_big_quiet_op;go_big_quiet_on))
        refine wpQuiet_nil ?_;rintro w' ⟨Q,rfl⟩;have g:=Q.2;generalize Q.val=w9 at *;clear Q;clear F2 Ai;have d:Hid (∀u:World,Calls prog 233 #[.int .u32 X,.int .i64 7] u fun i n=>i=.returned (.int .u32 (jY 7 X))∧u=n):=hid (fun u=>JM X 7 K yj yj u);have M:Hid (∀u:World,Calls prog 233 #[.int .u32 X,.int .i64 18] u fun i n=>i=.returned (.int .u32 (jY 18 X))∧u=n):=hid (fun u=>JM X 18 K yj yj u);have N:Hid (∀u:World,Calls prog 233 #[.int .u32 Y,.int .i64 17] u fun i n=>i=.returned (.int .u32 (jY 17 Y))∧u=n):=hid (fun u=>JM Y 17 J yj yj u);have O:Hid (∀u:World,Calls prog 233 #[.int .u32 Y,.int .i64 19] u fun i n=>i=.returned (.int .u32 (jY 19 Y))∧u=n):=hid (fun u=>JM Y 19 J yj yj u)
        go_upto_region 13 with (first|(go_at_call 233;(with_reducible refine(d.out _).mono ?_);rintro e w' ⟨rfl,rfl⟩)|(go_at_call 233;(with_reducible refine(M.out _).mono ?_);rintro e w' ⟨rfl,rfl⟩)|(go_at_call 233;(with_reducible refine(N.out _).mono ?_);rintro e w' ⟨rfl,rfl⟩)|(go_at_call 233;(with_reducible refine(O.out _).mono ?_);rintro e w' ⟨rfl,rfl⟩))
        generalize hL:bits BinOp.xor IntKind.u32 (bits BinOp.xor IntKind.u32 (jY 7 X) (jY 18 X)) (X / 8)=L;generalize hH:bits BinOp.xor IntKind.u32 (bits BinOp.xor IntKind.u32 (jY 17 Y) (jY 19 Y)) (Y / 1024)=H;have A6:Hid (Km l 0 t=zL (zL (zL H V) L) U):=hid (by rw[HE.out,←hL,←hH];rfl);obtain⟨p0,p1⟩:0≤L∧L≤4294967295:=by rw[←hL];exact⟨bits_lo_u32 _ _ _,bits_hi_u32 _ _ _⟩
        obtain⟨r0,r1⟩:0≤H∧H≤4294967295:=by rw[←hH];exact⟨bits_lo_u32 _ _ _,bits_hi_u32 _ _ _⟩
        obtain⟨v0,v1⟩:=A4.out;obtain⟨s0,s1⟩:=A5.out;clear hL hH d M N O HE;obtain⟨c2,c7,A1,A2⟩:=a.out w9 g.below;have B:=hid (A.keep g.below);have Ac:=B.lt;have F7:=Wg.cell c7 Ac;have Aj:=Wg.cell A2 Ac;clear c2 c7 A1 A2 g;refine jp 15 yq yq yq yq yq ?_;simp only[List.take_succ_cons,List.take_zero,List.drop_succ_cons,List.drop_zero]
        repeat (first|go_big_quiet_skip|(go_big_quiet_want;go_big_quiet_op;go_big_quiet_on))
        refine wpQuiet_nil ?_;rintro w' ⟨Q,rfl⟩;have Ak:=Q.2;generalize Q.val=w8 at *;clear Q;clear F7 Aj e2 e7 Ag Ah;have P:=hid (B.keep Ak.below);obtain⟨u8,c8⟩:=P.any (show t<64 by omega);have f8:=P.fr t;go_wp2_with fail
        go_roundw
        case rel=>
          refine⟨t+1,by omega,by omega,by go_num,hid (P.next yv ?_)⟩;rw[A6.out];unfold zL;omega
        case measure=>exact Xz
       ·have i2:¬(t:Int)<64:=yv;obtain rfl:t=64:=yv;have A7:=hid ((A.but.block y (by have:=C.out;omega) (by have:=C.out;omega)).trans A3.out)
        go_wp2_with (first
          |(with_reducible refine k8 ?_
            refine k7 yk (kg 289 _ rfl (p:=⟨z,0,none⟩) rfl (qV _ _ _ _ (qs l 0 64) _ (fun j u hj=>by rw[qZ];exact(k6 A.row j).trans hj) underlying289 rfl (by rw[Za];kernel_rfl))) ?_)
          |(with_reducible refine kD ?_
            refine kr yk 289 _ _ rfl y 0 [] (List.replicate 64 (.int .u32 0)) [] (qs l 0 64) 289 (.agg (qs l 0 64).toArray) rfl rfl rfl rfl (by simpa using A7.out) (by rw[Za];rfl) (by rw[Za];kernel_rfl) (ZZ _) ?_;intro W9 A8 Al Aq;have A9:Hid (W9.heap[y]?=some (.cells (qs l 0 64).toArray 289 (0,0))):=hid (by simpa using Al.out)))
        refine bodyPost_ret (jx results232 _ _ rfl (qV _ y 0 289 (qs l 0 64) _ (fun j u hj=>by rw[qZ];exact(k6 A9 j).trans hj) underlying289 rfl (by rw[Za];kernel_rfl))) rfl ?_;exact⟨rfl,D.trans ((A.but.below D.size (fun k hk e=>by have:=C.out;omega)).trans (A8.below (qT D.size A.but.size) fun k hk e=>by have:=C.out;omega))⟩
theorem ex_idx64{ρ:Operand→Value}{o:Oper}{w:World}(x y:Operand)(ho:o.op=.index 289 x y){xs:List Int}(hl:xs.length=64)(hx:ρ x=.agg (jK xs).toArray){t:Nat}(ht:t<64)(hy:ρ y=.int .i64 (t:Int)){V:Int}(hv:xs.getD t 0=V):
    (execOp ρ o).run prog w=.ok (.value (.int .u32 V)) w:=by
  have h:=KM (l:=xs) (i:=t) yv;rw[hv] at h;obtain⟨i,B,A⟩:=Option.map_eq_some_iff.1 (show (prog.info? 262).map (·.size)=some 1 by kernel_rfl);unfold execOp;simp only[ho,hx,hy,Instr.index,asIntOf,run_underlying underlying289,Sem.run_bind,Result.andThen_ok,Sem.run_pure];simp only[show ((0:Int)≤(t:Int)∧(t:Int)<((64:Nat):Int)) from⟨by omega,by omega⟩,and_self,if_true];simp [part,isAgg,run_underlying underlying262,Sem.run_bind,Result.andThen,h,sizeOf,typeInfo,B,A]
def ShaG(w:World):Prop:=(∀j,j<8→w.cell? ⟨1,j,none⟩=some (.int .u32 ((st8 firstS).getD j 0)))∧∀j,j<64→w.cell? ⟨2,j,none⟩=some (.int .u32 (keyS j))
theorem ZM{w:World}{b j:Nat}{v:Value}(h:w.cell? ⟨b,j,none⟩=some v):b<w.heap.size:=by
  unfold World.cell? at h;rcases Nat.lt_or_ge b w.heap.size with A|A
  ·exact A
  ·rw[show w.heap[(⟨b,j,none⟩:Addr).block]?=none from Array.getElem?_eq_none A] at h;cases h
theorem ShaG.keep{w w':World}{B:Nat}(h:ShaG w)(hb:Below B w w')(h1:1<B)(h2:2<B):ShaG w':=
  ⟨fun j A=>(hb.cell (p:=⟨1,j,none⟩) h1).trans (h.1 j A),fun j A=>(hb.cell (p:=⟨2,j,none⟩) h2).trans (h.2 j A)⟩
theorem ShaG.next{w w':World}(h:ShaG w)(hb:Below w.heap.size w w'):ShaG w':=h.keep hb (ZM (h.1 0 yj)) (ZM (h.2 0 yj))
structure RndAt (w:World) (z:Nat) (s:St8) (wx:World):Prop where
  but:But (fun k=>k=z) w wx
  row:wx.heap[z]?=some (.cells (jK (st8 s)).toArray 287 (0,0))
theorem RndAt.lt{w:World}{z:Nat}{s:St8}{wx:World}(h:RndAt w z s wx):z<wx.heap.size:=(qX h.row)
theorem RndAt.keep{w:World}{z:Nat}{s:St8}{wx wy:World}(h:RndAt w z s wx)(hb:Below wx.heap.size wx wy):RndAt w z s wy:=
  ⟨h.but.andBelow hb,(hb.block z h.lt).trans h.row⟩
theorem RndAt.cell{w:World}{z:Nat}{s:St8}{wx:World}(h:RndAt w z s wx)(j:Nat)(hj:j<8):wx.cell? ⟨z,j,none⟩=some (.int .u32 ((st8 s).getD j 0)):=(k6 h.row j).trans (KM (l:=st8 s) hj)
theorem RndAt.fr{w:World}{z:Nat}{s:St8}{wx:World}(h:RndAt w z s wx)(k:Nat):wx.frozen? ⟨z,k,none⟩=false:=frozen_of_row _ _ _ _ _ h.row
theorem KL{s:St8}(h:s.ok)(j:Nat)(hj:j<8):W32 ((st8 s).getD j 0):=by
  have A:j<(st8 s).length:=hj;rw[List.getD_eq_getElem?_getD,yK A];exact h _ (yQ A)
theorem wpS_built(a b c d e f g h:Int)(w:World):(Instr.build 287 #[(0,.int .u32 a),(1,.int .u32 b),(2,.int .u32 c),(3,.int .u32 d),(4,.int .u32 e),(5,.int .u32 f),(6,.int .u32 g),(7,.int .u32 h)]).run prog w=.ok (.agg (jK [a,b,c,d,e,f,g,h]).toArray) w:=yq
def mixS(x y:List Int)(i:Nat):List Int:=(List.range 8).map fun k=>if k<i then zL (x.getD k 0) (y.getD k 0) else x.getD k 0
theorem mixS_at(x y:List Int){i:Nat}(hi:i<8):(jK (mixS x y i))[i]?=some (.int .u32 (x.getD i 0)):=by
  unfold jK mixS;rw[List.map_map,List.getElem?_map,List.getElem?_range hi];simp
theorem mixS_set(x y:List Int){i:Nat}(hi:i<8):(jK (mixS x y i)).toArray.setIfInBounds i (.int .u32 (zL (x.getD i 0) (y.getD i 0)))=(jK (mixS x y (i+1))).toArray:=by
  match i,hi with
  | 0,_ | 1,_ | 2,_ | 3,_ | 4,_ | 5,_ | 6,_ | 7,_=>rfl
structure MixAt (w:World) (z:Nat) (x y:List Int) (i:Nat) (wx:World):Prop where
  but:But (fun k=>k=z) w wx
  row:wx.heap[z]?=some (.cells (jK (mixS x y i)).toArray 287 (0,0))
section
variable {w:World} {z:Nat} {x y:List Int} {i:Nat} {wx wy:World}
theorem MixAt.lt(h:MixAt w z x y i wx):z<wx.heap.size:=(qX h.row)
theorem MixAt.keep(h:MixAt w z x y i wx)(hb:Below wx.heap.size wx wy):MixAt w z x y i wy:=⟨h.but.andBelow hb,(hb.block z h.lt).trans h.row⟩
theorem MixAt.cell(h:MixAt w z x y i wx)(hi:i<8):wx.cell? ⟨z,i,none⟩=some (.int .u32 (x.getD i 0)):=(k6 h.row i).trans (mixS_at x y hi)
theorem MixAt.fr(h:MixAt w z x y i wx)(k:Nat):wx.frozen? ⟨z,k,none⟩=false:=frozen_of_row _ _ _ _ _ h.row
theorem MixAt.next(h:MixAt w z x y i wx)(hi:i<8){u:Int}(hu:zL (x.getD i 0) (y.getD i 0)=u):MixAt w z x y (i+1) (wx.setCell ⟨z,i,none⟩ (.int .u32 u)):=by
  refine⟨h.but.setCell (fun _=>rfl) _,?_⟩;rw[←mixS_set x y hi,hu];exact Kz h.row _
end
theorem rounds_any(s:St8)(b off c:Nat)(l:List UInt8)(w:World)(hs:s.ok)(hl:l.length=64)(hbw:b<w.heap.size)(hb:∀j (hj:j<64),w.cell? ⟨b,off+j,none⟩=some (.int .u8 (j7 l j:Int)))(hc:64≤c)(hg:ShaG w):
    Calls prog 197 #[.agg (jK (st8 s)).toArray,.slice (some ⟨b,off,none⟩) 64 c] w fun e w'=>e=.returned (.agg (jK (st8 (J5 l 0 s))).toArray)∧Below w.heap.size w w':=by
  have Al:=hid hb;have HG:=hid hg;have U:=hid hs
  clear hb hg hs;go_enter func197,ntmps197
  go_upto_region 1 with (first
    |(with_reducible refine kG ?_
      refine kz yk 287 _ rfl (jK (st8 s)) (.agg (jK (st8 s)).toArray) rfl rfl yq ?_;intro Wa A4 A5 Y)
    |(with_reducible refine kF ?_
      refine kv yk 287 rfl (List.replicate 8 (.int .u32 0)) yq ?_;intro W0 Z A6 A7))
  obtain⟨zs,At⟩:=Xy w.heap.size;obtain⟨zr,Au⟩:=Xy Wa.heap.size;have f:Hid (W0.heap[zs]?=some (.cells (jK (st8 s)).toArray 287 (0,0))):=hid (by rw[←At];exact(Z.block _ (by have:=Y.out;omega)).trans A5.out);have A8:Hid (W0.heap[zr]?=some (.cells (List.replicate 8 (.int .u32 0)).toArray 287 (0,0))):=hid (by rw[←Au];exact A6.out);have A9:=hid (Xx A4.out Z.out);rw[At,Au]
  try go_frame
  go_upto_region 2 with (first
    |(with_reducible refine k8 ?_
      refine k7 yk (kg 287 _ rfl (p:=⟨zs,0,none⟩) rfl (qV _ _ _ _ (jK (st8 s)) _ (fun j u hj=>by rw[qZ];exact(k6 f j).trans hj) underlying287 rfl yq)) ?_)
    |(with_reducible refine kF ?_
      refine kv yk 287 rfl (List.replicate 8 (.int .u32 0)) yq ?_;intro W2 J Aa Ab)
    |(with_reducible refine kD ?_
      refine kr yk 287 _ _ rfl W0.heap.size 0 [] (List.replicate 8 (.int .u32 0)) [] (jK (st8 s)) 287 (.agg (jK (st8 s)).toArray) rfl rfl rfl rfl (by simpa using Aa.out) rfl yq (ZZ _) ?_;intro W3 X AC Ac;have g:Hid (W3.heap[W0.heap.size]?=some (.cells (jK (st8 s)).toArray 287 (0,0))):=hid (by simpa using AC.out)))
  obtain⟨F,Ay⟩:=Xy W0.heap.size;have L:=hid (A9.trans ((J.trans (X.below J.size fun k hk e=>by omega)).mono A9.size));have m:=hid (J.trans (X.below J.size fun k hk e=>by omega));have C:=hid (show zs<zr∧zr<F∧w.heap.size≤zs∧F<W3.heap.size by have:=Y.out;have:=A7.out;have:=Ab.out;have:=Ac.out;omega);rw[Ay] at g X ⊢
  try go_frame
  go_upto_region 3 with (first
    |(go_at_call 232;refine(schedule_any b off c l W3 hl (qL hbw L.size) (fun j hj=>(L.cell (p:=⟨b,off+j,none⟩) hbw).trans (Al j hj)) hc).mono ?_;rintro e W4 ⟨rfl,Az⟩;have M:=hid Az;clear Az))
  have Ad:=hid (HG.next (Xx L.out M.out));have I:Hid (RndAt W4 F (U3 l 0 s 0) W4):=hid ⟨But.refl _ _,(M.block F C.2.2.2).trans g⟩;have N:Hid (F<W4.heap.size∧2<W4.heap.size∧¬2=F):=hid ⟨I.lt,ZM (Ad.2 0 yj),by have h:=ZM (HG.2 0 yj);have h2:=C.out;omega⟩;obtain⟨W5,AD⟩:=Xv W4;subst AD;have Am:=hid (show W5.heap[zs]?=some (.cells (jK (st8 s)).toArray 287 (0,0)) from (M.block zs (by have:=C.out;omega)).trans ((m.block zs (by have:=C.out;omega)).trans f.out));have Ai:=hid (show W5.heap[zr]?=some (.cells (List.replicate 8 (.int .u32 0)).toArray 287 (0,0)) from (M.block zr (by have:=C.out;omega)).trans ((m.block zr (by have:=C.out;omega)).trans A8.out));clear At Au Ay A5 A6 Aa A4 Z J X g A7 Y Ab Ac f A8
  go_loopw [17] (fun t17 wr=>∃t:Nat,t≤64∧t17=.int .i64 (t:Int)∧Hid (RndAt W5 F (U3 l 0 s t) wr)) (fun t17 _=>64 - (intOf t17).toNat)
  case atStart=>exact⟨0,by omega,rfl,I⟩
  case round=>
    clear I;obtain⟨t,ht,rfl,I⟩:=hrel;by_cases hlt:t<64
    ·have i1:(t:Int)<64:=yv;obtain⟨K,hK⟩:=Xy (keyS t);obtain⟨V,hV⟩:=Xy (Km l 0 t);have Ae:=hid (show ∀S,QQ S (keyS t) (Km l 0 t)=QQ S K V by rw[hK,hV];exact fun _=>rfl);have An:=hid (show (schL l 0 64).getD t 0=V by
       have h:=schV_at (l:=l) (a:=0) (t:=64) hlt (qR _);have h2:=KM (l:=schL l 0 64) (i:=t) (by simp [schL];omega);unfold qs at h;rw[h2] at h;injection h with h;injection h with _ h;rw[h,hV])
     have Ao:=hid (fun (u:World) (hu:But (fun k=>k=F) W5 u)=>(show u.cell? ⟨2,t,none⟩=some (.int .u32 K) from by rw[←hK];exact(hu.cell N.2.1 N.2.2).trans (Ad.2 t hlt)));obtain⟨K0,K1⟩:0≤K∧K≤4294967295:=hK▸w32_key t;obtain⟨V0,V1⟩:0≤V∧V≤4294967295:=hV▸ZL _ _ _;have G:=hid (ok_run (l:=l) (at':=0) U t);have Ap:=hid (show U3 l 0 s (t+1)=QQ (U3 l 0 s t) K V from Ae _);generalize hS:U3 l 0 s t=S at *;obtain⟨a,P,Q,d,E,R,T,h'⟩:=S;clear hK hV Ae hS;obtain⟨a0,a1⟩:=KL G.out 0 yj;change 0≤a at a0;change a≤4294967295 at a1;obtain⟨b0,b1⟩:=KL G.out 1 yj;change 0≤P at b0;change P≤4294967295 at b1;obtain⟨c0,c1⟩:=KL G.out 2 yj;change 0≤Q at c0;change Q≤4294967295 at c1;obtain⟨d0,d1⟩:=KL G.out 3 yj;change 0≤d at d0;change d≤4294967295 at d1;obtain⟨e0,e1⟩:=KL G.out 4 yj;change 0≤E at e0;change E≤4294967295 at e1;obtain⟨f0,f1⟩:=KL G.out 5 yj;change 0≤R at f0;change R≤4294967295 at f1;obtain⟨g0,g1⟩:=KL G.out 6 yj;change 0≤T at g0;change T≤4294967295 at g1;obtain⟨h0,h1⟩:=KL G.out 7 yj;change 0≤h' at h0;change h'≤4294967295 at h1;have q4:wr.cell? ⟨F,4,none⟩=some (.int .u32 E):=I.cell 4 yj;have Ak:=I.lt;have F4:=Wg.cell q4 Ak;clear q4
     go_upto_region 5 with (first
       |(refine k7 yk (ex_idx64 _ _ rfl (xs:=schL l 0 64) rfl rfl (t:=t) hlt rfl An) ?_))
     have He'W:Hid (W32 E):=hid ⟨e0,e1⟩;have HaW:Hid (W32 a):=hid ⟨a0,a1⟩;have Af:Hid (∀u:World,Calls prog 233 #[.int .u32 E,.int .i64 6] u fun ee ww=>ee=.returned (.int .u32 (jY 6 E))∧u=ww):=hid (fun u=>JM E 6 He'W yj yj u);have n:Hid (∀u:World,Calls prog 233 #[.int .u32 E,.int .i64 11] u fun ee ww=>ee=.returned (.int .u32 (jY 11 E))∧u=ww):=hid (fun u=>JM E 11 He'W yj yj u);have o:Hid (∀u:World,Calls prog 233 #[.int .u32 E,.int .i64 25] u fun ee ww=>ee=.returned (.int .u32 (jY 25 E))∧u=ww):=hid (fun u=>JM E 25 He'W yj yj u);have Ag:Hid (∀u:World,Calls prog 233 #[.int .u32 a,.int .i64 2] u fun ee ww=>ee=.returned (.int .u32 (jY 2 a))∧u=ww):=hid (fun u=>JM a 2 HaW yj yj u);have r:Hid (∀u:World,Calls prog 233 #[.int .u32 a,.int .i64 13] u fun ee ww=>ee=.returned (.int .u32 (jY 13 a))∧u=ww):=hid (fun u=>JM a 13 HaW yj yj u);have v:Hid (∀u:World,Calls prog 233 #[.int .u32 a,.int .i64 22] u fun ee ww=>ee=.returned (.int .u32 (jY 22 a))∧u=ww):=hid (fun u=>JM a 22 HaW yj yj u);refine jk yq yq ?_
     repeat (first
       |go_big_quiet_skip
       |(go_big_quiet_want
         first
            |(go_big_quiet_op
              first
                 |go_big_quiet_on
                 |go_big_quiet_call (first|(go_at_call 233;(with_reducible refine(Af.out _).mono ?_);exact fun e Ah ⟨he,hw⟩=>⟨he,⟨_,hw.symm⟩⟩)|(go_at_call 233;(with_reducible refine(n.out _).mono ?_);exact fun e Ah ⟨he,hw⟩=>⟨he,⟨_,hw.symm⟩⟩)|(go_at_call 233;(with_reducible refine(o.out _).mono ?_);exact fun e Ah ⟨he,hw⟩=>⟨he,⟨_,hw.symm⟩⟩)))))
     refine wpQuiet_nil ?_;rintro w' ⟨W,rfl⟩;have Av:=W.2;generalize W.val=w9 at *;clear W;clear F4 Af n o;generalize hS1:bits BinOp.xor IntKind.u32 (bits BinOp.xor IntKind.u32 (jY 6 E) (jY 11 E)) (jY 25 E)=S1;obtain⟨AG,AH⟩:0≤S1∧S1≤4294967295:=by rw[←hS1];exact⟨bits_lo_u32 _ _ _,bits_hi_u32 _ _ _⟩
     have H:=hid (I.keep Av.below);have q4:w9.cell? ⟨F,4,none⟩=some (.int .u32 E):=H.cell 4 yj;have q5:w9.cell? ⟨F,5,none⟩=some (.int .u32 R):=H.cell 5 yj;have q6:w9.cell? ⟨F,6,none⟩=some (.int .u32 T):=H.cell 6 yj;have q7:w9.cell? ⟨F,7,none⟩=some (.int .u32 h'):=H.cell 7 yj
     go_upto_region 7 with fail
     generalize hCH:bits BinOp.xor IntKind.u32 (bits BinOp.and IntKind.u32 E R) (bits BinOp.and IntKind.u32 (bits BinOp.xor IntKind.u32 (if IntKind.u32.signed=true then -1 else IntKind.u32.max) E) T)=CH;obtain⟨AI,AJ⟩:0≤CH∧CH≤4294967295:=by rw[←hCH];exact⟨bits_lo_u32 _ _ _,bits_hi_u32 _ _ _⟩
     have AA:=H.lt;have F7:=Wg.cell q7 AA;have FK:=Wg.cell (Ao w9 H.but) (qL N.2.1 H.but.size);clear q4 q5 q6 q7;refine jk yq yq ?_
     repeat (first|go_big_quiet_skip|(go_big_quiet_want;go_big_quiet_op;go_big_quiet_on))
     refine wpQuiet_nil ?_;rintro w' ⟨W,rfl⟩;have AE:=W.2;generalize W.val=w8 at *;clear W;clear F7 FK;generalize hUP:((h'+S1+CH+K) % 4294967296+V) % 4294967296=UP;obtain⟨AK,AL⟩:0≤UP∧UP≤4294967295:=yv;have x:=hid (H.keep AE.below);have q0:w8.cell? ⟨F,0,none⟩=some (.int .u32 a):=x.cell 0 yj;have AB:=x.lt;have F0:=Wg.cell q0 AB;clear q0
     go_upto_region 8 with fail
     refine jk yq yq ?_
     repeat (first
       |go_big_quiet_skip
       |(go_big_quiet_want
         first
            |(go_big_quiet_op
              first
                 |go_big_quiet_on
                 |go_big_quiet_call (first|(go_at_call 233;(with_reducible refine(Ag.out _).mono ?_);exact fun e Ah ⟨he,hw⟩=>⟨he,⟨_,hw.symm⟩⟩)|(go_at_call 233;(with_reducible refine(r.out _).mono ?_);exact fun e Ah ⟨he,hw⟩=>⟨he,⟨_,hw.symm⟩⟩)|(go_at_call 233;(with_reducible refine(v.out _).mono ?_);exact fun e Ah ⟨he,hw⟩=>⟨he,⟨_,hw.symm⟩⟩)))))
     refine wpQuiet_nil ?_;rintro w' ⟨W,rfl⟩;have AF:=W.2;generalize W.val=w7 at *;clear W;clear F0 Ag r v;generalize hTW:bits BinOp.xor IntKind.u32 (bits BinOp.xor IntKind.u32 (jY 2 a) (jY 13 a)) (jY 22 a)=TW;obtain⟨AM,AN⟩:0≤TW∧TW≤4294967295:=by rw[←hTW];exact⟨bits_lo_u32 _ _ _,bits_hi_u32 _ _ _⟩
     have D:=hid (x.keep AF.below);have q0:w7.cell? ⟨F,0,none⟩=some (.int .u32 a):=D.cell 0 yj;have q1:w7.cell? ⟨F,1,none⟩=some (.int .u32 P):=D.cell 1 yj;have q2:w7.cell? ⟨F,2,none⟩=some (.int .u32 Q):=D.cell 2 yj;have q3:w7.cell? ⟨F,3,none⟩=some (.int .u32 d):=D.cell 3 yj;have q4:w7.cell? ⟨F,4,none⟩=some (.int .u32 E):=D.cell 4 yj;have q5:w7.cell? ⟨F,5,none⟩=some (.int .u32 R):=D.cell 5 yj;have q6:w7.cell? ⟨F,6,none⟩=some (.int .u32 T):=D.cell 6 yj;have q7:w7.cell? ⟨F,7,none⟩=some (.int .u32 h'):=D.cell 7 yj
     go_upto_region 10 with fail
     generalize hMJ:bits BinOp.xor IntKind.u32 (bits BinOp.xor IntKind.u32 (bits BinOp.and IntKind.u32 a P) (bits BinOp.and IntKind.u32 a Q)) (bits BinOp.and IntKind.u32 P Q)=MJ;obtain⟨AO,AP⟩:0≤MJ∧MJ≤4294967295:=by rw[←hMJ];exact⟨bits_lo_u32 _ _ _,bits_hi_u32 _ _ _⟩
     have Aq:Hid (st8 (U3 l 0 s (t+1))=[((UP+TW) % 4294967296+MJ) % 4294967296,a,P,Q,(d+UP) % 4294967296,E,R,T]):=hid (by
       have e1:t1S (a,P,Q,d,E,R,T,h') K V=UP:=by
         rw[←hUP,←hS1,←hCH];simp only[t1S,zL,Ze,andS,notS];omega
       have e2:t2S (a,P,Q,d,E,R,T,h')=(TW+MJ) % 4294967296:=by rw[←hTW,←hMJ];rfl
       rw[Ap.out];show [zL (t1S (a,P,Q,d,E,R,T,h') K V) (t2S (a,P,Q,d,E,R,T,h')),a,P,Q,zL d (t1S (a,P,Q,d,E,R,T,h') K V),E,R,T]=_;rw[e1,e2];unfold zL;rw[show (UP+(TW+MJ) % 4294967296) % 4294967296=((UP+TW) % 4294967296+MJ) % 4294967296 by omega])
     clear hUP hS1 hCH hTW hMJ
     go_wp2_with (first
       |(with_reducible refine kL ?_
         refine k7 yk (kp 287 #[(0,.tmp 88),(1,.tmp 90),(2,.tmp 92),(3,.tmp 94),(4,.tmp 98),(5,.tmp 100),(6,.tmp 102),(7,.tmp 104)] rfl (by simp only[xV,xX,Yy];exact wpS_built (((UP+TW) % 4294967296+MJ) % 4294967296) a P Q ((d+UP) % 4294967296) E R T _)) ?_)
       |(with_reducible refine kD ?_
         refine kr yk 287 _ _ rfl F 0 [] (jK (st8 (a,P,Q,d,E,R,T,h'))) [] (jK ([((UP+TW) % 4294967296+MJ) % 4294967296,a,P,Q,(d+UP) % 4294967296,E,R,T])) 287 (.agg (jK ([((UP+TW) % 4294967296+MJ) % 4294967296,a,P,Q,(d+UP) % 4294967296,E,R,T])).toArray) rfl rfl rfl rfl (by simpa using D.row) rfl yq (ZZ _) ?_;intro W6 y Aw Ar;have z:Hid (W6.heap[F]?=some (.cells (jK ([((UP+TW) % 4294967296+MJ) % 4294967296,a,P,Q,(d+UP) % 4294967296,E,R,T])).toArray 287 (0,0))):=hid (by simpa using Aw.out)))
     go_roundw
     case rel=>
       refine⟨t+1,by omega,by go_num,hid ⟨D.but.trans y fun _ _ q=>q,?_⟩⟩;rw[Aq.out];exact z.out
     case measure=>exact Xz
    ·have i1:¬(t:Int)<64:=yv;obtain rfl:t=64:=yv
     go_upto_region 13 with fail
     have A2:=I
     go_loopw [107] (fun t107 wr=>∃i:Nat,i≤8∧t107=.int .i64 (i:Int)∧Hid (MixAt W5 F (st8 (U3 l 0 s 64)) (st8 s) i wr)) (fun t107 _=>8 - (intOf t107).toNat)
     case atStart=>exact⟨0,by omega,rfl,hid ⟨A2.but,A2.row⟩⟩
     case round=>
       clear I A2;obtain⟨i,hi,rfl,O⟩:=hrel;by_cases hlt:i<8
       ·have i2:(i:Int)<8:=yv;obtain⟨A,hA⟩:=Xy ((st8 (U3 l 0 s 64)).getD i 0);obtain⟨B,hB⟩:=Xy ((st8 s).getD i 0);obtain⟨A0,A1⟩:0≤A∧A≤4294967295:=hA▸KL (ok_run U 64) i hlt;obtain⟨B0,B1⟩:0≤B∧B≤4294967295:=hB▸KL U.out i hlt;have q1:wr.cell? ⟨F,i,none⟩=some (.int .u32 A):=by rw[←hA];exact O.cell hlt
        have q2:wr.cell? ⟨zs,i,none⟩=some (.int .u32 B):=by
          rw[←hB];exact(O.but.cell (Nat.lt_trans (by have:=C.out;omega) N.1) (by have:=C.out;omega)).trans ((k6 Am i).trans (KM (l:=st8 s) hlt))
        have Ak:=O.lt;have F1:=Wg.cell q1 Ak;have F2:=Wg.cell q2 (Nat.lt_trans (by have:=C.out;omega) Ak);have HA:=hid hA;have HB:=hid hB
        clear q1 q2 hA hB
        go_upto_region 15 with fail
        refine jp 8 yq yq yq yq yq ?_;simp only[List.take_succ_cons,List.take_zero,List.drop_succ_cons,List.drop_zero]
        repeat (first|go_big_quiet_skip|(go_big_quiet_want;go_big_quiet_op;go_big_quiet_on))
        refine wpQuiet_nil ?_;rintro w' ⟨W,rfl⟩;have Av:=W.2;generalize W.val=w9 at *;clear W;clear F1 F2;have A3:=hid (O.keep Av.below);have c9:=A3.cell hlt;have f9:=A3.fr i;go_wp2_with fail
        go_roundw
        case rel=>
          refine⟨i+1,by omega,by go_num,hid (A3.next hlt ?_)⟩;rw[HA.out,HB.out];rfl
        case measure=>exact Xz
       ·have i2:¬(i:Int)<8:=yv;obtain rfl:i=8:=yv;have Aj:Hid (wr.heap[F]?=some (.cells (jK (st8 (J5 l 0 s))).toArray 287 (0,0))):=hid O.row;have As:=hid ((O.but.block zr (Nat.lt_trans (by have:=C.out;omega) N.1) (by have:=C.out;omega)).trans Ai.out)
        go_wp2_with (first
          |(with_reducible refine k8 ?_
            refine k7 yk (kg 287 _ rfl (p:=⟨F,0,none⟩) rfl (qV _ _ _ _ (jK (st8 (J5 l 0 s))) _ (fun j u hj=>by rw[qZ];exact(k6 Aj j).trans hj) underlying287 rfl yq)) ?_)
          |(with_reducible refine kD ?_
            refine kr yk 287 _ _ rfl zr 0 [] (List.replicate 8 (.int .u32 0)) [] (jK (st8 (J5 l 0 s))) 287 (.agg (jK (st8 (J5 l 0 s))).toArray) rfl rfl rfl rfl (by simpa using As.out) rfl yq (ZZ _) ?_;intro W6 y Aw Ar;have z:Hid (W6.heap[zr]?=some (.cells (jK (st8 (J5 l 0 s))).toArray 287 (0,0))):=hid (by simpa using Aw.out)))
        refine bodyPost_ret (jx results197 _ _ rfl (qV _ zr 0 287 (jK (st8 (J5 l 0 s))) _ (fun j u hj=>by rw[qZ];exact(k6 z j).trans hj) underlying287 rfl yq)) rfl ?_;have Ax:=L.trans (M.mono L.size);exact⟨rfl,Ax.trans ((O.but.below Ax.size (fun k hk e=>by have:=C.out;omega)).trans (y.below (qT Ax.size O.but.size) fun k hk e=>by have:=C.out;omega))⟩
end
end Go.Proofs.YtdgbjhfkmembdaaGreatDoor