/-
  Facts and contracts that the walk needs. Conditions: as each says.
-/
import Derived.Test.YtdgbjhfkmembdaaGreatDoorProg
import Derived.Test.YtdgbjhfkmembdaaGreatDoorPart7
import Derived.Laws.OwnMore
import Derived.Deep.AppendSrc
import Derived.Laws.Bits64b
import Derived.Lib.SlBytesRow
import Derived.Deep.LoopGhost
import Derived.WalkMore
import Derived.Handy
import Derived.PlainAid
import Derived.Test.YtdgbjhfkmembdaaGreatDoorPart8
import Derived.WalkLawsBesides
import Derived.Deep.MidRow
import Derived.Laws.CopyOwn
import Derived.Deep.RegionLaw
import Derived.Deep.CutRange
import Derived.Laws.AppendOwnNone
import Derived.Lib.AppendStr
import Derived.Laws.Slices
set_option linter.unusedVariables false
set_option linter.unusedSimpArgs false
set_option maxHeartbeats 4000000
set_option maxRecDepth 100000
open Go.Proofs.Tryz
namespace Go.Proofs.YtdgbjhfkmembdaaGreatDoor
section
open Go.RowKit
theorem jm:(prog.info? 5).map (fun i=>(i.zero,i.size,i.bytes))=some (some (.int .u8 0),1,1):=yq
def GetGives(l:List UInt8)(at':Nat)(w:World)(e:Ending)(w':World):Prop:=w=w'∧e=(match getS (l.drop at') with
  |some (n,k)=>.returned (.tuple #[.int .i64 n,.int .i64 ((at'+k:Nat):Int),.int .i64 0])
  |none=>.returned (.tuple #[.int .i64 0,.int .i64 0,.int .i64 6]))
theorem GetGives.no{l:List UInt8}{at':Nat}{w:World}{e:Ending}(h:getS (l.drop at')=none)(he:e=.returned (.tuple #[.int .i64 0,.int .i64 0,.int .i64 6])):GetGives l at' w e w:=by
  unfold GetGives;rw[h];exact⟨rfl,he⟩
theorem GetGives.yes{l:List UInt8}{at' n k:Nat}{w:World}{e:Ending}(h:getS (l.drop at')=some (n,k))(he:e=.returned (.tuple #[.int .i64 n,.int .i64 ((at'+k:Nat):Int),.int .i64 0])):GetGives l at' w e w:=by
  unfold GetGives;rw[h];exact⟨rfl,he⟩
def Getting(l:List UInt8)(at' i out:Nat):Prop:=getS (l.drop at')=match getGo i (l.drop (at'+i)) with|some (n,k)=>some (out+128 ^ i*n,i+k)|none=>none
theorem Getting.start(l:List UInt8)(at':Nat):Getting l at' 0 0:=by
  unfold Getting getS;rw[Nat.add_zero];cases getGo 0 (l.drop at')<;>simp
theorem Getting.next{l:List UInt8}{at' i out:Nat}{x:UInt8}(h:Getting l at' i out)(hd:l.drop (at'+i)=x::l.drop (at'+i+1))(h128:128≤x.toNat)(hi:i<8):Getting l at' (i+1) (out+128 ^ i*(x.toNat - 128)):=by
  unfold Getting at h ⊢;rw[h,hd,getGo,if_pos h128,if_neg yv,←Nat.add_assoc];rcases getGo (i+1) (l.drop (at'+i+1)) with _ |⟨n,k⟩
  ·rfl
  ·simp only[Option.some.injEq,Prod.mk.injEq];refine⟨?_,by omega⟩;rw[Nat.mul_add,Nat.pow_succ,Nat.mul_assoc];omega
theorem Getting.zero{l:List UInt8}{at' i out:Nat}{x:UInt8}(h:Getting l at' i out)(hd:l.drop (at'+i)=x::l.drop (at'+i+1))(h0:x.toNat=0)(hi:0<i):getS (l.drop at')=none:=by
  unfold Getting at h;rw[h,hd,getGo,if_neg yv,if_pos ⟨h0,hi⟩]
theorem Getting.end{l:List UInt8}{at' i out:Nat}(h:Getting l at' i out)(hi:l.length≤at'+i):getS (l.drop at')=none:=by
  unfold Getting at h;rw[h,List.drop_eq_nil_of_le hi];rfl
def GetTextGives(l:List UInt8)(at' most:Nat)(w:World)(e:Ending)(w':World):Prop:=w=w'∧(match getTextS (l.drop at') most with
  |some (t,k)=>e=.returned (.tuple #[.string ⟨t.toArray⟩,.int .i64 ((at'+k:Nat):Int),.int .i64 0])
  |none=>∃q:Int,q≠0∧e=.returned (.tuple #[.string ⟨#[]⟩,.int .i64 0,.int .i64 q]))
theorem GetTextGives.no{l:List UInt8}{at' most:Nat}{w:World}{e:Ending}{q:Int}(h:getTextS (l.drop at') most=none)(hq:q≠0)(he:e=.returned (.tuple #[.string ⟨#[]⟩,.int .i64 0,.int .i64 q])):GetTextGives l at' most w e w:=by
  unfold GetTextGives;rw[h];exact⟨rfl,q,hq,he⟩
theorem GetTextGives.yes{l:List UInt8}{at' most k:Nat}{t:List UInt8}{w:World}{e:Ending}(h:getTextS (l.drop at') most=some (t,k))(he:e=.returned (.tuple #[.string ⟨t.toArray⟩,.int .i64 ((at'+k:Nat):Int),.int .i64 0])):GetTextGives l at' most w e w:=by
  unfold GetTextGives;rw[h];exact⟨rfl,he⟩
theorem UT(l:List UInt8):(⟨l.toArray⟩:ByteArray).size=l.length:=by simp [ByteArray.size]
theorem L_mk(l:List UInt8):L ⟨l.toArray⟩=l:=by simp [L]
end
section
open Go.RowKit Go.Maps
theorem ex_build1c{P:Program}{ρ:Operand→Value}{o:Oper}{w:World}(t:TypeId)(x:Operand)(ho:o.op=.buildSlice t 1 #[(0,x)])(e:TypeId)(ht:P.underlying t=some (.slice e))(z:Value)(bytes:Nat)(hinf:(P.info? e).map (fun i=>(i.zero,i.size,i.bytes))=some (some z,1,bytes))(hz1:z.cells.size=1)
    (v:Value) (hx:ρ x=v) (hv:v.cells=#[v]):(execOp ρ o).run P w=.ok (.value (.slice (some ⟨w.heap.size,0,none⟩) 1 1)) (w.alloc (.cells #[v] e)):=by
  have A:=Kv w t e ht z 1 bytes hinf hz1 yj [v] (fun u B=>by rw[xZ.1 B,hv];rfl) yZ yZ;simp only[List.flatMap_cons,List.flatMap_nil,List.append_nil,hv] at A;unfold execOp;have C:(Instr.buildSlice t 1 #[(0,v)]).run P w=.ok (.slice (some ⟨w.heap.size,0,none⟩) 1 1) (w.alloc (.cells #[v] e)):=A;simp only[ho,xV,xX,Yy,hx,Sem.run_bind,C,Result.andThen_ok,Sem.run_pure]
theorem wpOp_callP{P:Program}{ops:Array Oper}{Q:Exit→Act→World→Prop}{i:Nat}{K:Act→World→Prop}{a:Act}{w:World}{f:FuncId}{args:Array Value}{ch:List PanicEntry}(o:Oper)(hi:ug ops.toList i=some o)(hw:Region.wanted o (yielded ops a.tmps)=true)
    (h:(execOp a.eval o).run P w=.ok (.enter f args) w) (hc:Calls P f args w fun e w'=>e=.panicked ch∧Q (.panic ch) a w'):wpOp P ops Q i K a w:=by
  unfold wpOp;simp only[Z5 hi,if_pos hw];refine .inl ?_;unfold Oper.wp;rw[h];exact hc.mono fun e w' ⟨A,B⟩=>by subst A;exact B
section
variable {g b off c at' at2:Nat} {l:List UInt8} {w w':World}
variable {α:Type} {p:Ps α} {R:α→Value→World→Prop} {e:Ending} {a:α} {r:List UInt8}
end


end
section
open Go.RowKit
open Lib (hid)
theorem jq:(prog.info? 41).map (·.size)=some 32:=yq
theorem UU(l:List (List UInt8))(A:Option Addr)(c:Nat)(w:World)(hn:l.length≤1099511627776)(ho:IdsOk l)(hsl:Sl w w.heap.size A l.length 32 (zB l)):
    Calls prog 248 #[.slice A l.length c] w fun e w'=>Below w.heap.size w w'∧e=.returned (.bool (jh l)):=by
  have G:=hid hsl;clear hsl;have C:=hid ho;clear ho;go_enter func248,ntmps248;go_wp2_with fail
  go_loopw [6] (fun t wr=>∃i:Nat,i≤l.length∧t=.int .i64 i∧Below w.heap.size w wr∧Hid (∀j (h:j+1<l.length),j+1<i→jJ (l[j]'(by omega)) l[j+1]<0)) (fun t _=>l.length - (intOf t).toNat)
  case atStart=>exact⟨0,by omega,rfl,Below.refl _ _,hid fun j _ D=>absurd D yv⟩
  case round=>
    obtain⟨i,m,rfl,E,R⟩:=hrel;by_cases hlt:i<l.length
    ·by_cases h0:i=0
     ·have X:decide ((0:Int)<(i:Int))=false:=by simp;omega
      have S:decide (0<i)=false:=by simp;omega
      have d:(i:Int)≤0:=yv;have P:=hid h0;clear h0;go_wp2_with fail
      go_quiet (fail)
      go_wp2_with fail
      go_roundw
      case rel=>exact⟨i+1,by omega,by go_num,below_drewN E _,hid fun j _ D=>absurd D (by have:=P.out;omega)⟩
      case measure=>simp [intOf];omega
     ·have X:decide ((0:Int)<(i:Int))=true:=by simp;omega
      have S:decide (0<i)=true:=by simp;omega
      have n:(0:Int)≤(i:Int) - 1:=yv;have o:(1:Int)≤(i:Int):=yv;have p:(i:Int)<(l.length:Int):=yv;have r:((i:Int) - 1)<(l.length:Int):=yv;obtain⟨b,f,rfl,g,K⟩:=(G.keep E).2 yv;have T:=Sl.id (B:=0) C.out K (i:=i - 1) yv;have U:=Sl.id (B:=0) C.out K (i:=i) hlt;have Q:IntKind.i64.wrap ((i:Int) - 1)=((i - 1:Nat):Int):=by rw[IntWalk.i64_in _ ⟨by omega,by omega⟩];omega
      have s:((i - 1:Nat):Int)<(l.length:Int):=yv;have Y:=hid T;clear T;have Z:=hid U;clear U;clear K;go_wp2_with fail;refine wp_region_still_tail 12 yq yq ?_;simp only[List.take_succ_cons,List.take_zero,List.drop_succ_cons,List.drop_zero]
      repeat still_step
      refine Jc yk 41 _ rfl b _ rfl (idV (l[i - 1]'(by omega))) _ Y.out underlying41 rfl (by rw[kn,C.out _ (yQ _)];exact jq) ?_
      repeat still_step
      refine Jc yk 41 _ rfl b _ rfl (idV l[i]) _ Z.out underlying41 rfl (by rw[kn,C.out _ (yQ _)];exact jq) ?_;refine wpStill_nil ?_;change wpList _ _ _ _ _ wr.drew;generalize hwd:wr.drew=w2;have L:Below w.heap.size w w2:=by rw[←hwd];exact E.drew
      clear hwd;clear Q;go_wp2_with fail;refine(compare_any (l[i - 1]'(by omega)) l[i] _ (C _ (yQ _)) (C _ (yQ _))).mono ?_;have F:0≤jJ (l[i - 1]'(by omega)) l[i]→jh l=false:=by
        intro h;rw[Bool.eq_false_iff];intro a;have:=Zz.1 a (i - 1) yv;simp only[show i - 1+1=i by omega] at this;omega
      have N:jJ (l[i - 1]'(by omega)) l[i]<0→∀j (h:j+1<l.length),j+1<i+1→jJ (l[j]'(by omega)) l[j+1]<0:=by
        intro h j D k;rcases (by omega:j+1<i∨j+1=i) with q|q
        ·exact R.out j D q
        ·have Q:j=i - 1:=yv;subst Q;simp only[show i - 1+1=i by omega];exact h
      have H:=hid F;clear F;have I:=hid N;clear N;generalize jJ (l[i - 1]'(by omega)) l[i]=q at *;rintro e u ⟨V,rfl⟩;have M:=L.trans (V.mono L.size);by_cases hq:0≤q
      ·have O:=H.out hq;have J:=hid O;clear O;go_wp2_with fail;go_ret;exact⟨M,by rw[J.out];rfl⟩
      ·have W:q<0:=yv;go_wp2_with fail
       go_roundw
       case rel=>exact⟨i+1,by omega,by go_num,M,hid (I W)⟩
       case measure=>simp [intOf];omega
    ·go_wp2_with fail;go_ret;refine⟨E,?_⟩;have:jh l=true:=Zz.2 fun j D=>R.out j D yv
     rw[this];rfl
def FindGives(l:List (List UInt8))(x:List UInt8)(w:World)(e:Ending)(w':World):Prop:=
  Below w.heap.size w w'∧∃n:Nat,e=.returned (.tuple #[.int .i64 n,.bool (jh l && decide (x∈l))])∧n≤l.length∧((jh l && decide (x∈l))=true→l[n]?=some x)
theorem FindGives.yes{l:List (List UInt8)}{x:List UInt8}{w w':World}{e:Ending}{n:Nat}(hs:jh l=true)(h:l[n]?=some x)(hb:Below w.heap.size w w')(he:e=.returned (.tuple #[.int .i64 n,.bool true])):FindGives l x w e w':=by
  have A:(jh l && decide (x∈l))=true:=by rw[hs];simpa using List.mem_of_getElem? h
  refine⟨hb,n,by rw[A];exact he,?_,fun _=>h⟩;have:=(yJ.1 h).1;omega
theorem FindGives.no{l:List (List UInt8)}{x:List UInt8}{w w':World}{e:Ending}{n:Nat}(hm:(jh l && decide (x∈l))=false)(hn:n≤l.length)(hb:Below w.heap.size w w')(he:e=.returned (.tuple #[.int .i64 n,.bool false])):FindGives l x w e w':=
  ⟨hb,n,by rw[hm];exact he,hn,fun h=>by rw[hm] at h;cases h⟩
def Halving(l:List (List UInt8))(x:List UInt8)(lo hi:Nat):Prop:=
  (∀j (h:j<l.length),j<lo→jJ l[j] x<0)∧(∀j (h:j<l.length),hi≤j→0<jJ l[j] x)
theorem Halving.start(l:List (List UInt8))(x:List UInt8):Halving l x 0 l.length:=⟨fun j _ h=>absurd h yv,fun j h A=>absurd h yv⟩
theorem Halving.up{l:List (List UInt8)}{x:List UInt8}{lo hi m:Nat}(h:Halving l x lo hi)(hs:jh l=true)(hm:m<l.length)(hc:jJ l[m] x<0):Halving l x (m+1) hi:=by
  refine⟨fun j A B=>?_,h.2⟩;rcases (by omega:j<m∨j=m) with q|q
  ·exact KD ((List.pairwise_iff_getElem.1 (vX hs)) j m A hm q) hc
  ·subst q;exact hc
theorem Halving.down{l:List (List UInt8)}{x:List UInt8}{lo hi m:Nat}(h:Halving l x lo hi)(hs:jh l=true)(hm:m<l.length)(hc:0<jJ l[m] x):Halving l x lo m:=by
  refine⟨h.1,fun j A D=>?_⟩;rcases (by omega:m<j∨j=m) with q|q
  ·have B:=(List.pairwise_iff_getElem.1 (vX hs)) m j hm A q;have C:jJ x l[m]<0:=by rw[Jr];omega
   have:=KD C B;rw[Jr] at this;omega
  ·subst q;exact hc
theorem Halving.end{l:List (List UInt8)}{x:List UInt8}{lo hi:Nat}(h:Halving l x lo hi)(he:hi≤lo):x∉l:=by
  intro B;obtain⟨j,A,rfl⟩:=List.getElem_of_mem B;rcases (by omega:j<lo∨hi≤j) with q|q
  ·have:=h.1 j A q;rw[vt] at this;omega
  ·have:=h.2 j A q;rw[vt] at this;omega
theorem place_any(l:List (List UInt8))(x:List UInt8)(A:Option Addr)(c:Nat)(w:World)(hn:l.length≤1099511627776)(ho:IdsOk l)(hx:jr x)(hs:jh l=true)(hsl:Sl w w.heap.size A l.length 32 (zB l)):
    Calls prog 256 #[.slice A l.length c,.agg (idV x).toArray] w (FindGives l x w):=by
  have L:=hid hsl;clear hsl;have G:=hid ho;clear ho;have H:=hid hs;clear hs;have r:(idV x).length=32:=by rw[kn];exact hx
  go_enter func256,ntmps256
  go_upto_region 1 with fail
  obtain⟨E,F⟩:=Xy (w.alloc (.cells (idV x).toArray 41));have T:Below w.heap.size w E:=by rw[←F];exact(qB _ _).alloc (qR _) _
  have U:E.heap[w.heap.size]?=some (.cells (idV x).toArray 41 (0,0)):=by rw[←F];exact heap_alloc_new _ _
  have s:w.heap.size<E.heap.size:=by rw[←F];simp
  rw[F];have f:Hid (∀j u,(idV x)[j]?=some u→E.cell? ⟨w.heap.size,0+j,none⟩=some u):=hid (fun j u k=>by
    rw[qZ,cell_of_row E w.heap.size j _ _ _ U];simpa using k)
  clear F U;go_wp2_with fail
  go_loopw [6,7] (fun t6 t7 wr=>∃C D:Nat,C≤D∧D≤l.length∧t6=.int .i64 C∧t7=.int .i64 D∧Below E.heap.size E wr∧Hid (Halving l x C D)) (fun t6 t7 _=>(intOf t7).toNat - (intOf t6).toNat)
  case atStart=>exact⟨0,l.length,by omega,by omega,rfl,rfl,qB _ _,hid (Halving.start l x)⟩
  case round=>
    obtain⟨C,D,A0,A1,rfl,rfl,Q,n⟩:=hrel;have V:=T.trans (Q.mono yv);by_cases hlt:C<D
    ·obtain⟨m,y⟩:∃m,m=C+(D - C) / 2:=⟨_,rfl⟩;have A2:C≤m:=yv;have A3:m<D:=yv;have z:(C:Int)+((D:Int) - (C:Int)) / 2=(m:Int):=yv;clear y;have i0:(0:Int)≤(m:Int):=yv;have i1:(m:Int)<(l.length:Int):=yv;obtain⟨b,A4,rfl,A5,W⟩:=(L.keep V).2 yv;have C1:Hid _:=hid (Sl.id (B:=0) G W (i:=m) yv);have C2:Hid (∀j u,(idV x)[j]?=some u→wr.cell? ⟨w.heap.size,0+j,none⟩=some u):=hid (fun j u k=>(Q.cell (p:=⟨w.heap.size,0+j,none⟩) s).trans (f j u k));clear W
     go_upto_region 4 with fail
     clear z;refine wp_region_still_tail 5 yq yq ?_;simp only[List.take_succ_cons,List.take_zero,List.drop_succ_cons,List.drop_zero]
     repeat still_step
     refine Jc yk 41 _ rfl b _ rfl (idV (l[m]'(by omega))) _ C1.out underlying41 rfl (by rw[kn,G.out _ (yQ _)];exact jq) ?_;refine Jc yk 41 _ rfl w.heap.size 0 rfl (idV x) _ C2.out underlying41 rfl (by rw[r];exact jq) ?_;refine wpStill_nil ?_;change wpList _ _ _ _ _ wr.drew;generalize hwd:wr.drew=w2;have R:Below E.heap.size E w2:=by rw[←hwd];exact Q.drew
     clear hwd;go_wp2_with fail;refine(compare_any (l[m]'(by omega)) x _ (G _ (yQ _)) hx).mono ?_;have X:=n.up H.out (m:=m) yv;have Y:=n.down H.out (m:=m) yv;have Z:jJ (l[m]'(by omega)) x=0→l[m]?=some x:=fun h=>by rw[yK yv,Kl.1 h]
     have M:=hid X;clear X;have N:=hid Y;clear Y;have O:=hid Z;clear Z;generalize jJ (l[m]'(by omega)) x=q at *;rintro e w3 ⟨t,rfl⟩;have J:=R.trans (t.mono R.size);have o:=T.trans (J.mono yv);rcases (by omega:q=0∨q<0∨0<q) with K|K|K
     ·have v:=O.out K;have g:=hid v;clear v;have a:(q == 0)=true:=by simp [K]
      clear K;go_wp2_with fail;go_ret2;exact FindGives.yes H.out g.out o rfl
     ·have S:=M.out K;have I:=hid S;clear S;have a:(q == 0)=false:=by simp;omega
      go_wp2_with fail
      go_roundw
      case rel=>exact⟨m+1,D,by omega,by omega,by go_num,rfl,J,I⟩
      case measure=>simp [intOf];omega
     ·have S:=N.out K;have I:=hid S;clear S;have a:(q == 0)=false:=by simp;omega
      go_wp2_with fail
      go_roundw
      case rel=>exact⟨C,m,by omega,by omega,rfl,by go_num,J,I⟩
      case measure=>simp [intOf];omega
    ·have d:=n.end yv;have P:=hid d;clear d;go_wp2_with fail;go_ret2;exact FindGives.no (by simp [P.out]) yv V rfl
theorem find_any(l:List (List UInt8))(x:List UInt8)(A:Option Addr)(c:Nat)(w:World)(hn:l.length≤1099511627776)(ho:IdsOk l)(hx:jr x)(hsl:Sl w w.heap.size A l.length 32 (zB l)):
    Calls prog 231 #[.slice A l.length c,.agg (idV x).toArray] w (FindGives l x w):=by
  have C:=hid hsl;clear hsl;have J:=hid ho;clear ho;have P:(idV x).length=32:=by rw[kn];exact hx
  go_enter func231,ntmps231
  go_upto_region 1 with fail
  obtain⟨K,D⟩:=Xy (w.alloc (.cells (idV x).toArray 41));have E:Below w.heap.size w K:=by rw[←D];exact(qB _ _).alloc (qR _) _
  have L:K.heap[w.heap.size]?=some (.cells (idV x).toArray 41 (0,0)):=by rw[←D];exact heap_alloc_new _ _
  have Q:w.heap.size<K.heap.size:=by rw[←D];simp
  rw[D];have M:Hid (∀j u,(idV x)[j]?=some u→K.cell? ⟨w.heap.size,0+j,none⟩=some u):=hid (fun j u O=>by
    rw[qZ,cell_of_row K w.heap.size j _ _ _ L];simpa using O)
  clear D L;have F:=hid ((C.keep E).more E.size);go_wp2_with fail;refine(UU l A c _ hn J F).mono ?_;cases hs:jh l
  ·have G:=hid hs;clear hs;rintro e R ⟨I,rfl⟩;go_wp2_with fail;go_ret2;exact FindGives.no (by rw[G.out];rfl) (YX _) (Xx E I) rfl
  ·have G:=hid hs;clear hs;rintro e R ⟨I,rfl⟩;have B:=E.trans (I.mono E.size);have H:=hid ((C.keep B).more B.size);have V:Hid (∀j u,(idV x)[j]?=some u→R.cell? ⟨w.heap.size,0+j,none⟩=some u):=hid (fun j u O=>(I.cell (p:=⟨w.heap.size,0+j,none⟩) Q).trans (M j u O))
   go_wp2_with (refine kZ rfl 41 _ rfl w.heap.size 0 rfl (idV x) _ V underlying41 rfl (by rw[P];exact jq) ?_)
   refine(place_any l x A c _ hn J hx G H).mono ?_;rintro e W ⟨S,n,rfl,T,U⟩;have N:=hid U;clear U;go_wp2_with fail;go_ret2;exact⟨B.trans (S.mono B.size),n,rfl,T,N⟩
theorem zH(w:World):(Instr.build 41 #[]).run prog w=.ok (.agg (idV k9).toArray) w:=yq
theorem zf(w:World):(Instr.build 110 #[]).run prog w=.ok (.agg (kw ko).toArray) w:=yq
theorem Ka:(prog.info? 110).map (·.size)=some 33:=yq
theorem QE(l:List (List UInt8))(A:Option Addr)(c most:Nat)(w:World)(hn:l.length≤1099511627776)(hm:most≤1099511627776)(ho:IdsOk l)(hsl:Sl w w.heap.size A l.length 32 (zB l)):
    Calls prog 225 #[.slice A l.length c,.int .i64 most] w fun e w'=>Below w.heap.size w w'∧e=.returned (.bool (vC l most)):=by
  have D:=hid hsl;clear hsl;have E:=hid ho;clear ho;by_cases h1:l.length≤most
  ·have R:decide (((l.length:Nat):Int)≤(most:Int))=true:=by simpa using h1
   cases hs:jh l
   ·have C:Hid (vC l most=false):=hid (by unfold vC;rw[hs];simp);have F:=hid hs;clear hs;go_enter func225,ntmps225
    go_wp2_with (go_at_call 248;refine(UU l A c _ hn E D).mono ?_;rw[F.out];rintro e P ⟨H,rfl⟩)
    go_ret;exact⟨H,by rw[C.out];rfl⟩
   ·rcases Nat.eq_zero_or_pos l.length with S|G
    ·obtain rfl:=List.eq_nil_of_length_eq_zero S;have C:Hid (vC [] most=true):=hid (by unfold vC;rw[hs];simp);have F:=hid hs;clear hs;go_enter func225,ntmps225
     go_wp2_with (go_at_call 248;refine(UU [] A c _ hn E D).mono ?_;rw[F.out];rintro e P ⟨H,rfl⟩)
     go_ret;exact⟨H,by rw[C.out];rfl⟩
    ·have M:l≠[]:=List.ne_nil_of_length_pos G;have N:l.headD []=l[0]:=by cases l with
       |nil=>cases G
       |cons a t=>rfl
     have C:Hid (vC l most= !decide (l[0]=k9)):=hid (by unfold vC;rw[hs,N];simp [h1,M]);have Q:=E.out _ (yQ G);have F:=hid hs;clear hs;have d:(((l.length:Nat):Int) == 0)=false:=by simp;omega
     have g:(0:Int)<(l.length:Int):=yv;have T:=hid (fun (u:World)=>Ke Q jT u);have U:=hid zH;have O:(prog.info? 41).map (·.size)=some (idV l[0]).length:=by rw[kn,show l[0].length=32 from Q];exact jq
     have K:=hid O;have L:Hid (∀u:World,Below w.heap.size w u→∃b I,A=some ⟨b,I,none⟩∧u.rangeAt b I (idV l[0])):=hid (fun u V=>by
       obtain⟨b,I,W,f,J⟩:=(D.keep V).2 G;refine⟨b,I,W,?_⟩;have X:=Sl.id (B:=0) E.out J (i:=0) G;exact fun j v Y=>by simpa using X j v Y)
     clear N Q O M;go_enter func225,ntmps225;generalize l[0]=x at *
     go_wp2_with (first
       |(go_at_call 248;refine(UU l A c _ hn E D).mono ?_;rw[F.out];rintro e P ⟨H,rfl⟩;obtain⟨b,I,rfl,J⟩:=L.out P H;have Z:=hid J;clear J)
       |(refine k7 yk (kg 41 _ rfl (p:=⟨b,I,none⟩) rfl (run_loadVar_mid _ _ _ _ _ _ Z underlying41 rfl K)) ?_)
       |(refine k7 yk (kp 41 #[] rfl (U _)) ?_)
       |(refine k7 yk (jV 41 _ _ _ rfl (xs:=(idV x).toArray) (ys:=(idV k9).toArray) rfl rfl (r:=decide (x=k9)) eqId.noGuard (T _)) ?_))
     go_ret;exact⟨H,by rw[C.out];rfl⟩
  ·have R:decide (((l.length:Nat):Int)≤(most:Int))=false:=by simp;omega
   have C:Hid (vC l most=false):=hid (by unfold vC;simp [h1]);go_enter func225,ntmps225;go_wp2_with fail;go_ret;exact⟨Below.refl _ _,by rw[C.out];rfl⟩
end
section
open Go.RowKit Go.Maps

end
section
open Go.RowKit Go.Maps
open Lib (hid)
def U8Ok(_:UInt8):Prop:=True
def u8K(k:UInt8):Value:=.int .u8 (k.toNat:Int)
def u8L(k:UInt8):Lit:=.int .u8 (k.toNat:Int)
theorem keyedU8:Keyed prog 5:=int_keyed underlying5
theorem u8_wf(k:UInt8):(Lit.int .u8 (k.toNat:Int)).wf=true:=by
  simp only[Lit.wf,IntKind.min,IntKind.max,IntKind.signed,IntKind.bits,xy];have:=k.toNat_lt;simp;omega
theorem QF:KeyEnc prog 5 U8Ok u8K u8L:=⟨keyedU8,fun k A=>by
  have A:=u8_wf k;simp [keyOf,mapKey,u8K,u8L,underlying5,A],fun a b h=>by
  unfold u8K at h;injection h with _ h;exact UInt8.toNat_inj.1 yv⟩
def vi(p:Qp):Value:=.agg #[.bool p.1,.bool p.2.1,.bool p.2.2.1,.bool p.2.2.2.1,.bool p.2.2.2.2]
def Ji:Qp:=(false,false,false,false,false)
def vK(k:UInt8):Option Value:=(jO k).map vi
def PartsAt(w:World)(v:Value):Prop:=∃g n,v=.map (some g)∧MapV w prog 5 U8Ok u8L g n vK
theorem uB{P:Program}{K:TypeId}{κ:Type}{ok:κ→Prop}{val:κ→Value}{kl:κ→Lit}{w:World}{b n:Nat}{m:κ→Option Value}{ops:Array Oper}{rest:List Oper}{o:Oper}{a:Act}{Q:Exit→Act→World→Prop}[DecidableEq κ](hg:o.guard=none)(mo x v:Operand)(t:TypeId)(hop:o.op=Op.insert t mo x v)
    (e:TypeId) (E:KeyEnc P K ok val kl) (ht:P.underlying t=some (.map K e)) (hm:a.eval mo=.map (some b)) (hown:MapV w P K ok kl b n m) (hn:n<maxLen) (k0:κ) (hk:ok k0) (hx:a.eval x=val k0) (v0:Value) (hv:a.eval v=v0)
    (h:∀w',MapV w' P K ok kl b (n+1) (fun k=>if k=k0 then some v0 else m k)→w.grownBy w' (some b)→wpList P ops Q rest (a.put o.dst undef) w'):
    wpList P ops Q (o::rest) a w:=by
  obtain⟨D,C,F,G,H⟩:=hown;refine wpList_plain hg fun O B=>?_
  obtain⟨w',A,I,J⟩:=C.update E.keyed ht hn (E.of k0 hk) (d:=.held v0) (ps:=[]) rfl;obtain⟨L,M,N⟩:=Qu E F G H hk v0;unfold Oper.wp;simp [execOp,hop,hm,hx,hv,A,Result.andThen];exact B _ _ (h w' ⟨_,I,L,M,N⟩ J)
theorem QG(w:World):(zeroValue 320).run prog w=.ok (vi Ji) w:=yq
theorem parts_any(w:World):Calls prog 195 #[] w fun e w'=>Below w.heap.size w w'∧∃v,e=.returned v∧PartsAt w' v∧∃g,v=.map (some g)∧w.heap.size≤g:=by
  have Y:=@run_makeMap prog;have M:=MapV.made w prog 5 U8Ok u8L;have J:=hid M;clear M;have N:Below w.heap.size w (w.alloc (.map #[] 0)):=(Below.refl _ _).alloc (xY _) _;have I:=hid N;clear N;go_enter func195,ntmps195
  go_wp2_with (first
    |(refine uB rfl _ _ _ 317 rfl 320 QF underlying317 rfl J yY 1 trivial rfl _ rfl ?_;intro Z O P;have E:=hid O;have A:=hid (I.grown P I.size (fun k e=>(by injection e with e;omega)));clear O P J I)
    |(refine uB rfl _ _ _ 317 rfl 320 QF underlying317 rfl E yY 2 trivial rfl _ rfl ?_;intro a Q R;have F:=hid Q;have B:=hid (A.grown R A.size (fun k e=>(by injection e with e;omega)));clear Q R E A)
    |(refine uB rfl _ _ _ 317 rfl 320 QF underlying317 rfl F yY 3 trivial rfl _ rfl ?_;intro b S T;have G:=hid S;have C:=hid (B.grown T B.size (fun k e=>(by injection e with e;omega)));clear S T F B)
    |(refine uB rfl _ _ _ 317 rfl 320 QF underlying317 rfl G yY 4 trivial rfl _ rfl ?_;intro c U V;have H:=hid U;have D:=hid (C.grown V C.size (fun k e=>(by injection e with e;omega)));clear U V G C)
    |(refine uB rfl _ _ _ 317 rfl 320 QF underlying317 rfl H yY 5 trivial rfl _ rfl ?_;intro d W X;have K:=hid W;have L:=hid (D.grown X D.size (fun k e=>(by injection e with e;omega)));clear W X H D))
  go_ret;refine⟨L,_,rfl,⟨w.heap.size,5,rfl,?_⟩,w.heap.size,rfl,xY _⟩;have:=K.out;refine cast (congrArg (MapV _ _ _ _ _ _ _) ?_) this
  funext k
  unfold vK jO;by_cases h1:k=1
  ·subst h1;rfl
  by_cases h2:k=2
  ·subst h2;rfl
  by_cases h3:k=3
  ·subst h3;rfl
  by_cases h4:k=4
  ·subst h4;rfl
  by_cases h5:k=5
  ·subst h5;rfl
  simp [h1,h2,h3,h4,h5]
end
section
open Go.RowKit Go.Maps
def Q5:OpD:=(0,ko,ko,noneS,0,noneS)
def JD(p:Qp):List Value:=[.bool p.1,.bool p.2.1,.bool p.2.2.1,.bool p.2.2.2.1,.bool p.2.2.2.2]
theorem Q6(w:World):(zeroValue 112).run prog w=.ok (.agg (opV Q5).toArray) w:=yq
theorem Ky:(prog.info? 112).map (·.size)=some 70:=yq
theorem KT:(prog.info? 320).map (·.size)=some 5:=yq
theorem UV(w:World):(zeroValue 320).run prog w=.ok (.agg (JD Ji).toArray) w:=yq
theorem zeroOp_in(k:UInt8):KR (k,ko,ko,noneS,0,noneS):=⟨⟨jd,jd,(by decide:(Lit.int .i64 0).wf=true)⟩,(show (0:Nat)≤maxLen by unfold maxLen;omega),(show (0:Nat)≤maxLen by unfold maxLen;omega)⟩
section
variable {w wx wy:World} {g b off c:Nat} {l:List UInt8} {z0 zx zp:Nat} {p:Qp} {x y:OpD} {a a2:Nat}
end
def LRest{α:Type}(p:Ps α)(l:List UInt8)(n k1 i a:Nat)(xs:List α):Prop:=pMany p n (l.drop k1)=(pMany p (n - i) (l.drop a)).map fun q=>(xs++q.1,q.2)
theorem LRest.start{α:Type}(p:Ps α)(l:List UInt8)(n k1:Nat):LRest p l n k1 0 k1 []:=by
  unfold LRest;rw[Nat.sub_zero];cases pMany p n (l.drop k1)<;>simp
theorem LRest.next{α:Type}{p:Ps α}{l:List UInt8}{n k1 i a a2:Nat}{xs:List α}{x:α}(h:LRest p l n k1 i a xs)(hi:i<n)(hx:p (l.drop a)=some (x,l.drop a2)):LRest p l n k1 (i+1) a2 (xs++[x]):=by
  unfold LRest at h ⊢;rw[h,show n - i=(n - (i+1))+1 by omega];show Option.map _ (pBind p _ (l.drop a))=_;rw[pBind_at hx];unfold pBind;rcases pMany p (n - (i+1)) (l.drop a2) with _ |⟨A,r⟩
  ·rfl
  ·simp [pRet]
theorem LRest.fail{α:Type}{p:Ps α}{l:List UInt8}{n k1 i a:Nat}{xs:List α}(h:LRest p l n k1 i a xs)(hi:i<n)(hx:p (l.drop a)=none):pMany p n (l.drop k1)=none:=by
  unfold LRest at h;rw[h,show n - i=(n - (i+1))+1 by omega];show Option.map _ (pBind p _ (l.drop a))=_;unfold pBind;rw[hx];rfl
theorem LRest.end{α:Type}{p:Ps α}{l:List UInt8}{n k1 i a:Nat}{xs:List α}(h:LRest p l n k1 i a xs)(hi:n≤i):pMany p n (l.drop k1)=some (xs,l.drop a):=by
  unfold LRest at h;rw[h,show n - i=0 by omega];simp [pMany,pRet]
end
section
open Go.RowKit

theorem or128:∀x:Fin 256,bits BinOp.or IntKind.u8 ((x.val:Nat):Int) 128=((x.val % 128+128:Nat):Int):=by decide+kernel
theorem or128'(m:Nat):bits BinOp.or IntKind.u8 (IntKind.u8.wrap (m:Int)) 128=((m % 128+128:Nat):Int):=by
  have A:IntKind.u8.wrap (m:Int)=((m % 256:Nat):Int):=by
    show (m:Int) % 256=_;omega
  have h:=or128 ⟨m % 256,by omega⟩;simp only at h;rw[A,h,show m % 256 % 128=m % 128 by omega]
theorem uU(a b:List UInt8):idV (a++b)=idV a++idV b:=by simp [idV]
theorem kM{w:World}{base:Nat}{e:TypeId}{sz:Nat}{v:Value}{n:Nat}{xs:List Value}(h:w.ownsRow base e sz v n xs):∃A c,v=.slice A n c:=by
  rcases h.2 with⟨B,C⟩|⟨g,D,E,B,_⟩
  ·exact⟨none,0,by rw[B,C]⟩
  ·exact⟨_,_,B⟩
theorem js{n:Nat}(h:n<18446744073709551616):(jA n).length≤10:=
  numB_len 10 n yv (by have e:128 ^ 10=1180591620717411303424:=by decide
                       omega)
theorem number_any(n:Nat)(hn:n<18446744073709551616)(v:Value)(k:Nat)(xs:List Value)(base:Nat)(w:World)(hown:w.ownsRow base 5 1 v k xs)(hbase:base≤w.heap.size)(hk:k≤1099511627776):
    Calls prog 254 #[v,.int .u64 n] w fun e w'=>∃I,e=.returned I∧w'.ownsRow base 5 1 I (k+(jA n).length) (xs++idV (jA n))∧Below base w w':=by
  have J:=js hn;have E:=Lib.hid J;clear J;go_enter func254,ntmps254;go_wp2_with fail
  go_loopw [0,1] (fun t0 t1 wr=>∃(m:Nat) (A:List UInt8),t1=.int .u64 m∧m<18446744073709551616∧A.length≤10∧Hid (jA n=A++jA m)∧wr.ownsRow base 5 1 t0 (k+A.length) (xs++idV A)∧Below base w wr) (fun _ t1 _=>(intOf t1).toNat)
  case atStart=>exact⟨n,[],rfl,hn,by simp,Lib.hid rfl,by simpa [idV] using hown,qB _ _⟩
  case round=>
    obtain⟨m,A,rfl,S,Q,L,C,G⟩:=hrel;have R:=G.size;have N:A.length+(jA m).length≤10:=by
      have:=E.out;rw[L.out,yV] at this;exact this
    have O:=Ql m;obtain⟨T,U,M⟩:=kM C;subst M;by_cases h128:m<128
    ·have K:=qN h128;have F:=Lib.hid K;clear K
     go_wp2_with (at_builtin;refine Jt rfl _ _ 169 rfl base 5 (.int .u8 0) 1 underlying169 jm rfl _ _ _ rfl C _ _ rfl rfl ?c1 ?c2 ?c3 ?_)
     case c1=>unfold maxLen;omega
     case c2=>omega
     case c3=>omega
     intro I P D B;have H:=B base w (qR _) G;clear B;go_wp2_with fail;go_ret;refine⟨_,rfl,?_,H⟩;rw[L.out,F.out,yV,xQ,←Nat.add_assoc];have e:idV (A++[UInt8.ofNat m])=idV A++[.int .u8 (m:Int)]:=by
       simp only[idV,List.map_append,xX,Yy];rw[u8_of yv]
     rw[e];exact D
    ·go_wp2_with (at_builtin;refine Jt rfl _ _ 169 rfl base 5 (.int .u8 0) 1 underlying169 jm rfl _ _ _ rfl C _ _ rfl rfl ?c1 ?c2 ?c3 ?_)
     case c1=>unfold maxLen;omega
     case c2=>omega
     case c3=>omega
     intro I P D B;have H:=B base w (qR _) G;clear B;go_wp2_with fail
     go_roundw
     case rel=>
       refine⟨m / 128,A++[UInt8.ofNat (m % 128+128)],congrArg (Value.int .u64) yv,by omega,by rw[yV,xQ];omega,Lib.hid ?_,?_,H⟩
       ·rw[L.out,numB_big h128];simp
       ·rw[yV,xQ,←Nat.add_assoc];have e:idV (A++[UInt8.ofNat (m % 128+128)])=idV A++[.int .u8 (bits BinOp.or IntKind.u8 (IntKind.u8.wrap (m:Int)) 128)]:=by
          simp only[idV,List.map_append,xX,Yy];rw[u8_of yv];rw[or128' m]
        rw[e];exact D
     case measure=>simp [intOf];omega
theorem own_nil(w:World):Calls prog 255 #[.slice none 0 0] w fun e w'=>∃v,e=.returned v∧w'.ownsRow w.heap.size 5 1 v 0 []∧Below w.heap.size w w':=by
  obtain⟨E,F,A,B,C⟩:=info_parts jm;have D:∀w,(Instr.makeSlice 169 (.int .i64 0) (.int .i64 16)).run prog w=.ok (.slice (some ⟨w.heap.size,0,none⟩) 0 16) (w.alloc (.cells (List.replicate 16 (Value.int .u8 0)).toArray 5)):=fun _=>by kernel_rfl
  go_enter func255,ntmps255;go_wp2_with fail;go_ret;refine⟨_,rfl,?_,(qB _ _).alloc (qR _) _⟩;exact World.ownsRow_made w (List.replicate 16 (Value.int .u8 0)).toArray 16 (qR _) yY rfl
def PutGives(n:Nat)(w:World)(e:Ending)(w':World):Prop:=∃v,e=.returned (.tuple #[v,.int .i64 0])∧w'.ownsRow w.heap.size 5 1 v (jA n).length (idV (jA n))∧Below w.heap.size w w'
theorem put_nil(n:Nat)(hn:n<9223372036854775808)(w:World):Calls prog 229 #[.slice none 0 0,.int .i64 n] w (PutGives n w):=by
  have F:(n:Int)≤9223372036854775807:=yv;go_enter func229,ntmps229;go_wp2_with fail;refine(own_nil _).mono ?_;rintro e G ⟨v,rfl,C,B⟩;go_wp2_with fail;refine(number_any n yv v 0 [] w.heap.size _ C B.size yv).mono ?_;rintro e H ⟨E,rfl,A,D⟩;go_wp2_with fail;go_ret2;rw[qZ,YZ] at A;exact⟨E,rfl,A,B.trans D⟩
def PutTextGives(s:ByteArray)(w:World)(e:Ending)(w':World):Prop:=∃v,e=.returned v∧w'.ownsRow w.heap.size 5 1 v (jN (L s)).length (idV (jN (L s)))∧Below w.heap.size w w'
theorem putText_nil(s:ByteArray)(hs:s.size≤1099511627776)(w:World):Calls prog 230 #[.slice none 0 0,.string s] w (PutTextGives s w):=by
  have P:(s.size:Int)≤9223372036854775807:=yv;go_enter func230,ntmps230;go_wp2_with fail;refine(own_nil _).mono ?_;rintro e R ⟨v,rfl,F,B⟩;go_wp2_with fail;refine(number_any s.size yv v 0 [] w.heap.size _ F B.size yv).mono ?_;rintro e S ⟨T,rfl,A,E⟩;rw[qZ,YZ] at A;have Q:=js (n:=s.size) yv;obtain⟨L,M,H,I,J⟩:=info_parts jm
  go_wp2_with (at_builtin;refine Lib.wpList_append_own_string _ rfl _ _ 169 9 rfl w.heap.size 5 L underlying169 underlying9 M H I J _ _ _ rfl A s rfl ?c1 ?c2 ?c3 ?_)
  case c1=>unfold maxLen;omega
  case c2=>omega
  case c3=>have:=B.size;have:=E.size;omega
  intro N U D G _;have C:=B.trans E;have K:=C.grown G C.size (fun k O=>(A.lt k O).1);go_wp2_with fail;go_ret;refine⟨N,rfl,?_,K⟩;unfold jN;rw[yV,jf,uU];exact D
end
section
open Go.RowKit Go.Maps
theorem uV{P:Program}{o:Oper}{a:Act}{K:Act→World→Prop}{Q:Exit→Act→World→Prop}{w:World}(s x:Operand)(t:TypeId)
    (ho:o.op=.call { callee:=.builtin .append,args:=#[s,x],argTypes:=#[t,t]})
    (base:Nat) (e:TypeId) (z:Value) (size bytes:Nat) (ht:P.underlying t=some (.slice e)) (hinf:(P.info? e).map (fun i=>(i.zero,i.size,i.bytes))=some (some z,size,bytes))
    (hz1:z.cells.size=size) (hsz:0<size) (v:Value) (n:Nat) (xs:List Value) (hs:a.eval s=v) (hown:w.ownsRow base e size v n xs)
    (A:Addr) (m c:Nat) (news:List Value) (hx:a.eval x=.slice (some A) m c) (hl:news.length=m*size) (hnews:∀j u,news[j]?=some u→w.cell? (A.add j)=some u) (h1:∀u∈news,u.oneCell'=true)
    (hn:n+m≤maxLen) (hb:(n+m)*bytes≤140737488355328) (hbase:base≤w.heap.size)
    (h:∀B w',w'.ownsRow base e size B (n+m) (xs++news)→w.grownBy w' v.ownBlock→Where w.heap.size v B→K (a.put o.dst B) w'):o.wp P a w K Q:=by
  obtain⟨H,I,E,F,G⟩:=info_parts hinf;obtain⟨B,w',J,C,D,_⟩:=run_append_own (P:=P) w base t o.type e H z size bytes ht I E F G hz1 hsz v n xs hown A m c news hl hnews h1 hn hb hbase;have L:=ux (P:=P) (w:=w) base t o.type e H z size bytes ht I E F G hz1 hsz v n xs hown A m c news hl hnews h1 hn hb J;unfold Oper.wp execOp;simp only[ho,resolve,invoke,builtin,Sem.run_bind,Sem.run_pure,Result.andThen_ok,xV,xX,Yy,hs,hx,J];exact h B w' C D L
def WrAt(w:World)(g:Nat)(xs:List UInt8):Prop:=∃v,w.heap[g]?=some (.cells #[v] 269 (0,0))∧w.ownsRow (g+1) 5 1 v xs.length (idV xs)
def WrX(w:World)(g k:Nat):Prop:=k=g∨∃v T z,w.heap[g]?=some (.cells #[v] T z)∧v.ownBlock=some k
def WrGo(g:Nat)(w w':World):Prop:=But (WrX w g) w w'∧∀i,i<w.heap.size→WrX w' g i→WrX w g i
section
variable {g:Nat} {xs ys:List UInt8} {w w' w1 w2:World}
theorem WrAt.lt(h:WrAt w g xs):g<w.heap.size:=by
  obtain⟨v,A,_⟩:=h;exact(qX A)
theorem WrX.at_{v:Value}{T:TypeId}{z:Nat×Nat}(h:w.heap[g]?=some (.cells #[v] T z)){k:Nat}(hx:WrX w g k):k=g∨v.ownBlock=some k:=by
  rcases hx with q|⟨B,C,D,A,q⟩
  ·exact .inl q
  ·rw[h] at A;injection A with A;injection A with A _ _;injection A with A;injection A with A _;subst A;exact .inr q
theorem WrAt.low(h:WrAt w g xs){k:Nat}(hk:k<g):¬WrX w g k:=by
  obtain⟨v,A,B⟩:=h;intro C;rcases C.at_ A with q|q
  ·omega
  ·have:=(B.lt k q).1;omega
theorem WrAt.fresh(h:WrAt w g xs){k:Nat}(hk:w.heap.size≤k):¬WrX w g k:=by
  have D:=h.lt;obtain⟨v,A,B⟩:=h;intro C;rcases C.at_ A with q|q
  ·omega
  ·have:=(B.lt k q).2;omega
theorem WrGo.refl(g:Nat)(w:World):WrGo g w w:=⟨But.refl _ _,fun _ _ h=>h⟩
theorem WrGo.trans(h:WrGo g w w1)(k:WrGo g w1 w2):WrGo g w w2:=
  ⟨h.1.trans k.1 fun i A B=>h.2 i A B,fun i A B=>h.2 i A (k.2 i (qL A h.1.size) B)⟩
theorem WrGo.below(hg:g<w.heap.size)(h:Below w.heap.size w w'):WrGo g w w':=
  ⟨But.of_below h,fun i C A=>by
    rcases A with q|⟨v,T,z,B,q⟩
    ·exact .inl q
    ·exact .inr ⟨v,T,z,(h.block g hg).symm.trans B,q⟩⟩
theorem WrAt.keep(h:WrAt w g xs)(hb:Below w.heap.size w w'):WrAt w' g xs:=by
  have A:=h.lt;obtain⟨v,B,C⟩:=h;exact⟨v,(hb.block g A).trans B,(But.of_below (X:=NoB) hb).own C fun _ _ q=>q⟩
theorem WrAt.newNot(h:WrAt w g xs)(hb:Below w.heap.size w w'){k:Nat}(hk:w.heap.size≤k):¬WrX w' g k:=by
  intro A;refine h.fresh hk ?_;rcases A with q|⟨v,T,z,B,q⟩
  ·exact .inl q
  ·exact .inr ⟨v,T,z,(hb.block g h.lt).symm.trans B,q⟩
theorem WrAt.keepNot(h:WrAt w g xs)(hb:Below w.heap.size w w'){k:Nat}(hk:¬WrX w g k):¬WrX w' g k:=by
  intro A;refine hk ?_;rcases A with q|⟨v,T,z,B,q⟩
  ·exact .inl q
  ·exact .inr ⟨v,T,z,(hb.block g h.lt).symm.trans B,q⟩
theorem WrGo.apart(h:WrGo g w w'){k:Nat}(hk:k<w.heap.size)(hx:¬WrX w g k):w'.heap[k]?=w.heap[k]?∧¬WrX w' g k:=⟨h.1.block k hk hx,fun q=>hx (h.2 k hk q)⟩
theorem WrGo.cell(h:WrGo g w w'){k j:Nat}(hk:k<w.heap.size)(hx:¬WrX w g k):w'.cell? ⟨k,j,none⟩=w.cell? ⟨k,j,none⟩:=h.1.cell hk hx
theorem WrGo.belowG(h:WrGo g w w')(hw:WrAt w g xs):Below g w w':=h.1.below (YV hw.lt) fun k A=>hw.low A
theorem WrAt.put{v v':Value}(h1:w.heap[g]?=some (.cells #[v] 269 (0,0)))(h2:w.ownsRow (g+1) 5 1 v xs.length (idV xs))(hb:Below w.heap.size w w1)(ho:w2.ownsRow (g+1) 5 1 v' (xs.length+ys.length) (idV xs++idV ys))
    (hg:w1.grownBy w2 v.ownBlock) (hw:Where w1.heap.size v v'):w2.cell? ⟨g,0,none⟩=some v∧w2.frozen? ⟨g,0,none⟩=false∧WrAt (w2.setCell ⟨g,0,none⟩ v') g (xs++ys)∧WrGo g w (w2.setCell ⟨g,0,none⟩ v'):=by
  have D:=(qX h1);have E:=qL D hb.size;have H:v.ownBlock≠some g:=fun e=>by have:=(h2.lt g e).1;omega
  have F:v'.ownBlock≠some g:=fun e=>by have:=(ho.lt g e).1;omega
  have A:w2.heap[g]?=some (.cells #[v] 269 (0,0)):=((hg.block g E (fun e=>H e.symm)).trans (hb.block g D)).trans h1;have B:(w2.setCell ⟨g,0,none⟩ v').heap[g]?=some (.cells #[v'] 269 (0,0)):=by
    obtain⟨J,K⟩:=Array.getElem?_eq_some_iff.1 A;simp [World.setCell,Array.getElem?_modify,A]
  refine⟨?_,?_,⟨v',B,?_⟩,?_,?_⟩
  ·simp [World.cell?,A]
  ·simp [World.frozen?,A]
  ·have G:But (fun k=>k=g) w2 (w2.setCell ⟨g,0,none⟩ v'):=But.setCell (X:=fun k=>k=g) (But.refl _ _) (p:=⟨g,0,none⟩) (fun _=>rfl) v';have:=G.own ho fun k C e=>F (by rw[C,e])
   rw[yV,uU];exact this
  ·refine But.setCell (But.grown (But.of_below hb) hg fun k C _=>.inr ⟨v,_,_,h1,C⟩) (fun _=>.inl rfl) v'
  ·intro i L I;rcases I.at_ B with q|q
   ·exact .inl q
   ·rcases hw with e|⟨k,e,C⟩
    ·exact .inr ⟨v,_,_,h1,by rw[←e];exact q⟩
    ·rw[e] at q;injection q with q;have:=hb.size;omega
end
theorem QH{w:World}{base:Nat}{e:TypeId}{sz:Nat}{v:Value}{n:Nat}{xs:List Value}(h:w.ownsRow base e sz v n xs)(hn:0<n):∃k c,v=.slice (some ⟨k,0,none⟩) n c∧∀j u,xs[j]?=some u→w.cell? ((⟨k,0,none⟩:Addr).add j)=some u:=by
  rcases h.2 with⟨_,C⟩|⟨k,A,B,rfl,r⟩
  ·omega
  ·exact⟨k,A,rfl,h.cells rfl⟩
theorem infoId:(prog.info? 41).map (fun i=>(i.zero,i.size,i.bytes))=some (some (.agg (idV k9).toArray),32,32):=yq
theorem ex_buildR{P:Program}{ρ:Operand→Value}{o:Oper}{w:World}(t:TypeId)(x:Operand)(ho:o.op=.buildSlice t 1 #[(0,x)])(e:TypeId)(ht:P.underlying t=some (.slice e))(z:Value)(size bytes:Nat)(hinf:(P.info? e).map (fun i=>(i.zero,i.size,i.bytes))=some (some z,size,bytes))(hz1:z.cells.size=size)(hsz:0<size)(hmax:size≤16777216)
    (us:List Value) (hl:us.length=size) (hx:ρ x=.agg us.toArray):(execOp ρ o).run P w=.ok (.value (.slice (some ⟨w.heap.size,0,none⟩) 1 1)) (w.alloc (.cells us.toArray e)):=by
  have A:=Kv w t e ht z size bytes hinf hz1 hsz [.agg us.toArray] (fun v B=>by rw[xZ.1 B];exact hl) yZ (by simpa using hmax);simp only[List.flatMap_cons,List.flatMap_nil,List.append_nil] at A;unfold execOp;have C:(Instr.buildSlice t 1 #[(0,.agg us.toArray)]).run P w=.ok (.slice (some ⟨w.heap.size,0,none⟩) 1 1) (w.alloc (.cells us.toArray e)):=A;simp only[ho,xV,xX,Yy,hx,Sem.run_bind,C,Result.andThen_ok,Sem.run_pure]
theorem own_not{w:World}{base n sz k:Nat}{e T:TypeId}{v:Value}{xs:List Value}{cs:List Value}(h:w.ownsRow base e sz v n xs)(hk:w.heap[k]?=some (.cells cs.toArray T (0,0)))(hne:e≠T):v.ownBlock≠some k:=by
  intro B;rcases h.2 with⟨C,_⟩|⟨g,D,E,C,_,A,_⟩
  ·rw[C] at B;cases B
  ·rw[C] at B;have:g=k:=by simpa [Value.ownBlock] using B
   subst this;rw[hk] at A;injection A with A;injection A with _ A _;exact hne A.symm
theorem idsV_snoc(xs:List (List UInt8))(i:List UInt8):zB (xs++[i])=zB xs++idV i:=by simp [zB]
theorem wp_allocM1{P:Program}{o:Oper}{w:World}{ops:Array Oper}{rest:List Oper}{a:Act}{Q:Exit→Act→World→Prop}(hw:Region.wanted o (yielded ops a.tmps)=true)(t:TypeId)(ho:o.op=.alloc t)(v:Value)(hv:v.cells=#[v])(hz:∀w:World,(zeroValue t).run P w=.ok v w)
    (h:∀W:World,Hid (Below w.heap.size w W)→Hid (W.heap[w.heap.size]?=some (.cells [v].toArray t (0,0)))→Hid (W.heap.size=w.heap.size+1)→wpList P ops Q rest (a.put o.dst (.pointer (some ⟨w.heap.size,0,none⟩))) W):wpList P ops Q (o::rest) a w:=by
  refine BigFrame.wpList_want hw fun K A=>?_
  have B:(execOp a.eval o).run P w=.ok (.value (.pointer (some ⟨w.heap.size,0,none⟩))) (w.alloc (.cells [v].toArray t)):=by
    unfold execOp;simp [ho,Instr.alloc,newVar,newRow,hz,Result.andThen,Sem.run_bind,hv]
  unfold Oper.wp;rw[B];exact A _ _ (h _ ((Below.refl _ _).alloc (xY _) _) (heap_alloc_new _ _) (Lib.hid yZ))
theorem own_base8{w:World}{b b':Nat}{e:TypeId}{sz n:Nat}{v:Value}{xs:List Value}(h:w.ownsRow b e sz v n xs)(hb:b'≤b):w.ownsRow b' e sz v n xs:=by
  refine⟨h.1,?_⟩;rcases h.2 with D|⟨g,A,B,E,C,r⟩
  ·exact .inl D
  ·exact .inr ⟨g,A,B,E,qT hb C,r⟩
theorem J3(w:World)(cs:List Value)(T:TypeId):∀j u,cs[j]?=some u→(w.alloc (.cells cs.toArray T)).cell? ((⟨w.heap.size,0,none⟩:Addr).add j)=some u:=fun j u A=>by
  have B:(⟨w.heap.size,0,none⟩:Addr).add j=⟨w.heap.size,j,none⟩:=by unfold Addr.add;split<;>simp_all
  rw[B];exact(k6 (heap_alloc_new _ _) j).trans A
end
section
open Go.RowKit
section
variable {P:Program} {ρ:Operand→Value} {o:Oper} {w:World}
theorem vM{e:TypeId}{size:Nat}(hs:(P.info? e).map (·.size)=some size)(w:World):(sizeOf e).run P w=.ok size w:=by
  cases hq:P.info? e with
  |none=>simp [hq] at hs
  |some i=>
   have:i.size=size:=by simpa [hq] using hs
   simp [sizeOf,typeInfo,hq,this]
theorem ex_slice_lh(t:TypeId)(x lo hi:Operand)(ho:o.op=.slice t x (some lo) (some hi) none){A:Option Addr}{n c l h:Nat}{kl kh:IntKind}(hx:ρ x=.slice A n c)(hl:ρ lo=.int kl (l:Int))(hh:ρ hi=.int kh (h:Int))
    (ht:P.underlying t=some (.slice (P.elem t))) {size:Nat} (hs:(P.info? (P.elem t)).map (·.size)=some size) (h1:l≤h) (h2:h≤c) {V:Value} (hV:sliced A l h c size=V):
    (execOp ρ o).run P w=.ok (.value V) w:=by
  subst hV;have B:=run_slice_lh w t A n c ht kl kh (l:Int) (h:Int) yv yv yv;rw[vM hs] at B;simp only[Result.andThen,Int.toNat_natCast] at B;have C:=run_sliceAt_slice w t (.slice A n c) (some (.int kl (l:Int))) (some (.int kh (h:Int))) none ht;rw[B] at C;unfold execOp;simp only[ho,hx,hl,hh,Option.map_some,Option.map_none,Sem.run_bind,C,Result.andThen_ok,Sem.run_pure]
theorem uW(t:TypeId)(x lo:Operand)(ho:o.op=.slice t x (some lo) none none){A:Option Addr}{n c l:Nat}{kl:IntKind}(hx:ρ x=.slice A n c)(hl:ρ lo=.int kl (l:Int))
    (ht:P.underlying t=some (.slice (P.elem t))) {size:Nat} (hs:(P.info? (P.elem t)).map (·.size)=some size) (h1:l≤n) {V:Value} (hV:sliced A l n c size=V):
    (execOp ρ o).run P w=.ok (.value V) w:=by
  subst hV;have B:=run_slice_l w t A n c ht kl (l:Int) yv yv;rw[vM hs] at B;simp only[Result.andThen,Int.toNat_natCast] at B;have C:=run_sliceAt_slice w t (.slice A n c) (some (.int kl (l:Int))) none none ht;rw[B] at C;unfold execOp;simp only[ho,hx,hl,Option.map_some,Option.map_none,Sem.run_bind,C,Result.andThen_ok,Sem.run_pure]
end
theorem run_copy_noneN{P:Program}(w:World)(dT sT ty elem:TypeId)(sz:Nat)(d a:Option Addr)(dLen dCap sLen sCap:Nat)(hu:P.underlying dT=some (.slice elem))(hs:(P.info? elem).map (·.size)=some sz)(hn:Nat.min sLen dLen=0):
    (Builtin.copy_ #[dT,sT] ty #[.slice d dLen dCap,.slice a sLen sCap]).run P w=.ok (goInt 0) w:=by
  cases hq:P.info? elem with
  |none=>simp [hq] at hs
  |some i=>
   have A:∀(x:Addr),(loadCells x 0).run P w=.ok #[] w:=fun x=>by simpa using run_loadCells_list (P:=P) w x [] yZ
   cases d<;>cases a<;>simp [Builtin.copy_,run_underlying hu,Builtin.lenOf,Builtin.firstCells,sizeOf,typeInfo,hq,hn,storeCells,A]
theorem setRow_but(w:World)(g:Nat)(cs:Array Value):But (fun k=>k=g) w (w.setRow g cs):=
  ⟨rfl,rfl,rfl,by simp [World.setRow],fun k B A=>by
    unfold World.setRow;simp only[Array.getElem?_modify];rw[if_neg (fun e=>A e.symm)]⟩
theorem run_shift{P:Program}{α:Type}{enc:α→List Value}{sz:Nat}(w:World)(dT sT ty elem:TypeId)(hu:P.underlying dT=some (.slice elem))(hs:(P.info? elem).map (·.size)=some sz)
    {l:List α} (ho:∀x∈l,(enc x).length=sz) {i:Nat} (hi:i≤l.length) {z tail:List Value} (hz:z.length=sz) {g c:Nat} {t:TypeId}
    (hg:w.heap[g]?=some (.cells ((kf enc l++z)++tail).toArray t (0,0))) (hc:l.length+1≤c) (h1:∀u∈kf enc l,u.oneCell'=true):
    ∃m W,m.length=sz∧(Builtin.copy_ #[dT,sT] ty #[sliced (some ⟨g,0,none⟩) (i+1) (l.length+1) c sz,sliced (some ⟨g,0,none⟩) i (l.length+1) c sz]).run P w=.ok (goInt ((l.length - i:Nat):Int)) W∧
     W.heap[g]?=some (.cells (kf enc (l.take i)++(m++(kf enc (l.drop i)++tail))).toArray t (0,0))∧But (fun k=>k=g) w W∧W.heap.size=w.heap.size:=by
  have G:=jb ho;have A:∀x,(⟨g,0,none⟩:Addr).add x=⟨g,0+x,none⟩:=fun x=>by unfold Addr.add;split<;>simp_all
  rcases (by omega:i=l.length∨i<l.length) with rfl|N
  ·refine⟨z,w,hz,?_,?_,But.refl _ _,rfl⟩
   ·rw[show ((l.length - l.length:Nat):Int)=0 by simp];exact run_copy_noneN w dT sT ty elem sz _ _ _ _ _ _ hu hs (by show min _ (l.length+1 - (l.length+1))=0;omega)
   ·rw[hg,List.take_length,List.drop_length];simp [kf]
  ·obtain⟨m,H,E⟩:=shift_rows ho hi (tail:=tail) hz;have F:(kf enc (l.drop i)).length=(l.length - i)*sz:=by rw[jb fun x I=>ho x (List.mem_of_mem_drop I),List.length_drop]
   have J:sliced (some ⟨g,0,none⟩) (i+1) (l.length+1) c sz=.slice (some ⟨g,0+(i+1)*sz,none⟩) (l.length+1 - (i+1)) (c - (i+1)):=by
     unfold sliced;rw[if_neg yv];simp [A]
   have K:sliced (some ⟨g,0,none⟩) i (l.length+1) c sz=.slice (some ⟨g,0+i*sz,none⟩) (l.length+1 - i) (c - i):=by
     unfold sliced;rw[if_neg yv];simp [A]
   have B:Nat.min (l.length+1 - i) (l.length+1 - (i+1))=l.length - i:=by show min _ _=_;omega
   have D:=run_copy_rowN (P:=P) w dT sT ty elem sz g (0+(i+1)*sz) (l.length+1 - (i+1)) (c - (i+1)) ⟨g,0+i*sz,none⟩ (l.length+1 - i) (c - i) _ t (kf enc (l.drop i)) hu hs hg (by rw[F,B])
     (fun j u L=>by
       have M:(⟨g,0+i*sz,none⟩:Addr).add j=⟨g,0+i*sz+j,none⟩:=by unfold Addr.add;split<;>simp_all
       have C:=L;rw[rowsV_drop ho hi,List.getElem?_drop] at C;rw[M,k6 hg,show 0+i*sz+j=i*sz+j by omega,Yz,xv (yJ.1 C).1];exact C)
     (by
       rw[xz,yV,yV,G,hz,F,Nat.zero_add,←Nat.add_mul,show i+1+(l.length - i)=l.length+1 by omega,Nat.succ_mul];omega)
     (fun u hu=>h1 u (by rw[rowsV_drop ho hi] at hu;exact List.mem_of_mem_drop hu))
   refine⟨m,_,H,by rw[J,K,D,B],?_,setRow_but _ _ _,by simp [World.setRow]⟩;rw[setRow_heap w g _ _ t (0,0) hg];simp only[Nat.zero_add];rw[E]
end
section
open Go.RowKit Go.Maps
open Lib (hid)
theorem infoRun:(prog.info? 177).map (fun i=>(i.zero,i.size,i.bytes))=some (some (.agg runZ.toArray),36,80):=yq
theorem runZ_built(w:World):(Instr.build 177 #[]).run prog w=.ok (.agg runZ.toArray) w:=yq
theorem ex_copy{P:Program}{ρ:Operand→Value}{op:Oper}{w W:World}(d s:Operand)(dT sT:TypeId)(ho:op.op=.call { callee:=.builtin .copy,args:=#[d,s],argTypes:=#[dT,sT]}){v1 v2 r:Value}(hd:ρ d=v1)(hs:ρ s=v2)
    (h:(Builtin.copy_ #[dT,sT] op.type #[v1,v2]).run P w=.ok r W):(execOp ρ op).run P w=.ok (.value r) W:=by
  unfold execOp;simp only[ho,resolve,invoke,builtin,Sem.run_bind,Sem.run_pure,Result.andThen_ok,xV,xX,Yy,hd,hs,h]
def DPutGives(w:World)(B p:Nat)(v:Value)(rs:List zk)(e:Ending)(w':World):Prop:=
  e=.returned (.tuple #[])∧∃v',DocRows w' B p v' rs∧But (DocX p v) w w'∧Newer w v v'
theorem put_run(rs:List zk)(i:Nat)(r:zk)(B p:Nat)(v:Value)(w:World)(h:DocRows w B p v rs)(hr:RunIn w r)(hi:i≤rs.length)(hl:rs.length≤1073741824):
    Calls prog 159 #[.pointer (some ⟨p,0,none⟩),.int .i64 (i:Int),.agg (kY r).toArray] w (DPutGives w B p v (rs.take i++r::rs.drop i)):=by
  have D:=hid h;have HR:=hid hr
  have Az:=h.lt;have d:=jw hr;clear h hr;go_enter func159,ntmps159
  go_upto_region 1 with (first
    |(with_reducible refine kG ?_
      refine kz yk 177 _ rfl (kY r) _ rfl rfl (by rw[d];kernel_rfl) ?_;intro G F L A4))
  obtain⟨f,AA⟩:=Xy w.heap.size;have C:=hid (D.keep F);have T:=hid (show f<G.heap.size by have:=A4.out;omega);obtain⟨s,t,Ag⟩:=C.box;have I:=hid Ag;have c0:G.cell? ⟨p,0,none⟩=some v:=k6 Ag 0;have U:=hid (show ¬DocX p v f from fun q=>by
    rcases q with q|q
    ·omega
    ·have:=(D.own.lt f q).2;omega)
  have A5:=hid (show ∀u∈kf kY rs,u.oneCell'=true from fun u hu=>by
    obtain⟨x,E,hu⟩:=List.mem_flatMap.1 hu;exact KQ x (D.ins x E).2.1.one u hu)
  have A6:=hid (KQ r HR.2.1.one);have o:=hid (fun (u:World) (hu:Below G.heap.size G u)=>(But.of_below (X:=NoB) hu).own C.own fun _ _ q=>q);have A7:=hid (show B≤G.heap.size from qT D.low (YV (qL Az F.size)));clear Ag;rw[AA] at L ⊢;have A8:=hid (show v.ownBlock≠some p from fun e=>by
    obtain⟨AI,hc⟩:=kH C.own e;exact ji hc I.out yj rfl)
  go_upto_region 2 with (first
    |(with_reducible refine kL ?_
      refine k7 yk (kp 177 _ rfl (runZ_built _)) ?_)
    |(refine zE yk 190 _ rfl 177 underlying190 (.agg runZ.toArray) 36 80 infoRun rfl yj yj runZ rfl rfl ?_)
    |(refine Jw yk _ _ 190 rfl B 177 (.agg runZ.toArray) 36 80 underlying190 infoRun rfl yj v rs.length (kf kY rs) rfl (o _ ((qB _ _).alloc (qR _) _)) ⟨G.heap.size,0,none⟩ 1 1 runZ rfl rfl (J3 G _ _) runZ_one yY yv (by have:=A7.out;simp;omega) ?_;intro v1 w1 An Ah Ao;obtain⟨A,K,A1,rfl,AB,Ai,Ap,AC,AD⟩:=KP An yv;have M:=hid Ai;have V:=hid ((Ah.block p (by simpa using Nat.lt_succ_of_lt (qX I)) (fun e=>A8 e.symm)).trans ((heap_alloc_old G _ (qX I)).trans I));have A9:=hid (show But (DocX p v) G w1 from ((But.refl _ G).alloc _).grown Ah fun k e _=>.inr e);have N:=hid (show A<G.heap.size→DocX p v A from fun h=>by
         rcases Ao with q|⟨g,q,hz⟩
         ·exact .inr (q.symm.trans rfl)
         ·have:A=g:=by simpa [Value.ownBlock] using q
          subst this;simp at hz;omega)
      clear An Ah Ao Ai)
    |(with_reducible refine kD ?_
      refine kr yk 190 _ _ rfl p 0 [] [v] [.int .i64 s,.int .i64 t] [.slice (some ⟨A,0,none⟩) (rs.length+1) K] 192 (.slice (some ⟨A,0,none⟩) (rs.length+1) K) rfl rfl rfl rfl V.out rfl yq (by intro u hu;rw[xZ.1 hu];rfl) ?_;intro w2 A2 A3 Aq;have A2:=A2.out;have A3:=A3.out;have Aq:=Aq.out
      have Y:=hid A2;have Aa:=hid A3
      clear A2 A3))
  have J:=hid (show A≠p from ji M V yj);have Ab:=hid ((Y.block A (qX M) J).trans M);have O:Hid (w2.heap[p]?=some (.cells [.slice (some ⟨A,0,none⟩) (rs.length+1) K,.int .i64 s,.int .i64 t].toArray 192 (0,0))):=hid (by simpa using Aa.out);have y:Hid (But (DocX p v) G w1):=hid A9.out;have Q:Hid (But (DocX p v) G w2):=hid (y.trans Y fun k hk e=>.inl e);have Ay:=hid (show w2.rangeAt f 0 (kY r) from fun j u hj=>by rw[qZ];exact(Q.cell (g:=f) (j:=j) T U).trans ((k6 L j).trans hj));obtain⟨m,W,hm,Aj,Ar,As,AE⟩:=run_shift (P:=prog) (enc:=kY) (sz:=36) w2.drew 190 190 3 177 underlying190 jX (vH D.ins) hi (z:=runZ) (tail:=A1) yq (g:=A) (c:=K) (t:=177) Ab.out Ap (A5);have A0:=hid Aj;have Ac:=hid Ar;have Z:=hid As;have HM:=hid hm
  clear Aj Ar As AE hm;have R:=hid ((Z.block p (qX O) (fun e=>J e.symm)).trans O);have Ad:=hid (show IntKind.i64.wrap ((i:Int)+1)=((i+1:Nat):Int) by rw[IntWalk.i64_in _ yv];omega);refine rN 13 (fun u=>u.cell? ⟨p,0,none⟩=some (.slice (some ⟨A,0,none⟩) (rs.length+1) K)) (k6 O 0) fun At=>?_
  refine tw 0 _ ?_;go_frame;refine tw 1 _ ?_;go_frame;refine tw 2 _ ?_;go_frame;refine tl 3 _ rfl At (fun w' H=>l1 underlying190 H) ?_;go_frame;refine tw 4 _ ?_;go_frame;refine tw 5 _ ?_;go_frame;refine tk 6 (sliced (some ⟨A,0,none⟩) (i+1) (rs.length+1) K 36) rfl (fun w' H=>uW 190 _ _ rfl (l:=i+1) rfl (congrArg (Value.int .i64) Ad) underlying190 jX yv rfl) ?_;go_frame;refine tw 7 _ ?_;go_frame;refine tw 8 _ ?_;go_frame;refine tw 9 _ ?_;go_frame;refine tl 10 _ rfl At (fun w' H=>l1 underlying190 H) ?_;go_frame;refine tw 11 _ ?_;go_frame;refine tk 12 (sliced (some ⟨A,0,none⟩) (i) (rs.length+1) K 36) rfl (fun w' H=>uW 190 _ _ rfl (l:=i) rfl rfl underlying190 jX yv rfl) ?_;go_frame;refine ta 13 ?_;refine zP _ rfl yq (ex_copy (v1:=(sliced (some ⟨A,0,none⟩) (i+1) (rs.length+1) K 36)) (v2:=(sliced (some ⟨A,0,none⟩) (i) (rs.length+1) K 36)) _ _ 190 190 rfl rfl rfl A0) ?_;refine⟨fun h=>absurd h yj,?_⟩;go_frame;refine ku yq ?_ _
  go_upto_region 3 with fail
  have S:Hid (But (DocX p v) G W):=hid ((Q.drew).trans Z fun k hk e=>by subst e;exact N.out hk);have Ae:=hid (show W.rangeAt f 0 (kY r) from fun j u hj=>by rw[qZ];exact(S.cell (g:=f) (j:=j) T U).trans ((k6 L j).trans hj));refine rN 7 (fun u=>u.cell? ⟨p,0,none⟩=some (.slice (some ⟨A,0,none⟩) (rs.length+1) K)∧u.rangeAt f 0 (kY r)) ⟨k6 R 0,Ae⟩ fun Au=>?_
  refine tw 0 _ ?_;go_frame;refine tw 1 _ ?_;go_frame;refine tw 2 _ ?_;go_frame;refine tl 3 _ rfl Au (fun w' H=>l1 underlying190 H.1) ?_;go_frame;refine tw 4 _ ?_;go_frame;refine tl 5 _ rfl Au (fun w' H=>ldU d H.2) ?_;go_frame;refine tk 6 (.pointer (some ⟨A,0+i*36,none⟩)) rfl (fun w' H=>zR 190 _ _ rfl (b:=A) (off:=0) (q:=i) (n:=rs.length+1) (c:=K) rfl rfl yv underlying190 jX) ?_;go_frame;refine ta 7 ?_;refine kR _ rfl yq 177 _ _ rfl A (0+i*36) (kf kY (rs.take i)) m (kf kY (rs.drop i)++A1) (kY r) 177 (.agg (kY r).toArray) rfl (by rw[jb (vH fun x E=>D.ins x (YQ E)),Yj,Nat.min_eq_left hi,Nat.zero_add]) rfl rfl Ac.out (by rw[HM.out,d]) (by rw[d];exact jX) A6.out ?_;intro W4 Av Aw AF;have a:=hid Av;have Af:=hid Aw
  clear Av Aw AF;refine⟨fun h=>absurd h yj,?_⟩;go_frame;refine ku yq ?_ _;go_wp2_with fail
  go_end0
  have Ak:But (DocX p v) G W4:=S.drew.trans a.out fun k hk e=>by
    have e2:k=A:=e;subst e2;exact N.out hk
  have AG:=(a.block p (qX R) (fun e=>J e.symm)).trans R.out;have Al:KeepR G W4:=KeepR.but Ak C.at.noRunes;refine⟨rfl,.slice (some ⟨A,0,none⟩) (rs.length+1) K,⟨⟨s,t,AG⟩,D.low,fun x E=>?_,?_⟩,(But.of_below F).trans Ak (fun _ _ q=>q),fun k hk=>?_⟩
  ·rcases xJ.1 E with E|E
   ·exact(C.ins x (YQ E)).keep Al
   ·rcases xK.1 E with rfl|E
    ·exact(HR.keep (KeepR.below F)).keep Al
    ·exact(C.ins x (List.mem_of_mem_drop E)).keep Al
  ·have Am:(rs.take i++r::rs.drop i).length=rs.length+1:=by simp;omega
   rw[Am];have Ax:∀x∈rs.take i++r::rs.drop i,(kY x).length=36:=fun x E=>by
     rcases xJ.1 E with E|E
     ·exact jw (D.ins x (YQ E))
     ·rcases xK.1 E with rfl|E
      ·exact d
      ·exact jw (D.ins x (List.mem_of_mem_drop E))
   refine Qt (by rw[jb Ax,Am]) AB ?_ Ap AC AD;rw[Af.out];simp [kf]
  ·have AH:A=k:=by simpa [Value.ownBlock] using hk
   subst AH;by_cases hz:A<G.heap.size
   ·rcases N.out hz with q|q
    ·exact absurd q J.out
    ·exact .inl q
   ·exact .inr (qT F.size yv)
end
section
open Go.RowKit Go.Maps
theorem docZ_built(w:World):(Instr.build 192 #[]).run prog w=.ok (.agg [.slice none 0 0,.int .i64 0,.int .i64 0].toArray) w:=yq
theorem docNew_any(B:Nat)(w:World)(hB:B≤w.heap.size):Calls prog 99 #[] w fun e w'=>e=.returned (.pointer (some ⟨w.heap.size,0,none⟩))∧Below w.heap.size w w'∧DocRows w' B w.heap.size (.slice none 0 0) []:=by
  go_enter func99,ntmps99
  go_wp2_with (first
    |(with_reducible refine kL ?_
      refine k7 yk (kp 192 _ rfl (docZ_built _)) ?_)
    |(with_reducible refine kG ?_
      refine kz yk 192 _ rfl [.slice none 0 0,.int .i64 0,.int .i64 0] _ rfl rfl yq ?_;intro F A C E))
  go_ret;exact⟨rfl,A,⟨0,0,C⟩,hB,fun r D=>(by cases D),World.ownsRow_nil _ _ _ _⟩
def QI(e:Int):List PanicEntry:=[{ v:=.iface 122 (.agg #[.int .i64 e]),recovered:=false}]
theorem Z6(n:Int)(w:World):Calls prog 51 #[.bool true,.int .i64 n] w fun e w'=>e=.returned (.tuple #[])∧w'=w:=by
  go_enter func51,ntmps51
  go_wp2
  go_end0
  exact⟨rfl,rfl⟩
theorem stop_built(n:Int)(w:World):(Instr.build 122 #[(0,.int .i64 n)]).run prog w=.ok (.agg #[.int .i64 n]) w:=yq
theorem Zk(n:Int)(w:World):Calls prog 51 #[.bool false,.int .i64 n] w fun e w'=>e=.panicked (QI n)∧w'=w:=by
  go_enter func51,ntmps51
  go_wp2_with (first
    |(with_reducible refine kL ?_
      refine k7 yk (kp 122 _ rfl (stop_built n)) ?_))
  exact⟨rfl,rfl,rfl⟩
theorem shelf_built(m:Option Nat)(w:World):(Instr.build 84 #[(0,.map m)]).run prog w=.ok (.agg [.map m,.slice none 0 0].toArray) w:=yq
theorem state_built(m n:Option Nat)(w:World):(Instr.build 87 #[(0,.agg [.map m,.slice none 0 0].toArray),(1,.map n)]).run prog w=.ok (.agg [.map m,.slice none 0 0,.map n].toArray) w:=yq
theorem QJ(B:Nat)(w:World)(hB:B≤w.heap.size):Calls prog 27 #[] w fun e w'=>Below w.heap.size w w'∧∃s q,e=.returned (.pointer (some ⟨s,0,none⟩))∧StateAt w' B s KO q∧q.nd=0:=by
  have M:=@run_makeMap prog;have D:=Lib.hid (MapV.made w prog 89 kJ Um);have E:=Lib.hid (MapV.made (w.alloc (.map #[] 0)) prog 41 jr idL);have F:=Lib.hid (D.alloc (.map #[] 0));have C:=Lib.hid (((qB w.heap.size w).alloc (qR _) (.map #[] 0)).alloc yZ (.map #[] 0));go_enter func27,ntmps27
  go_wp2_with (first
    |(with_reducible refine kL ?_
      refine k7 yk (kp 84 _ rfl (shelf_built _)) ?_)
    |(with_reducible refine kL ?_
      refine k7 yk (kp 87 _ rfl (state_built _ _)) ?_)
    |(with_reducible refine kG ?_
      refine kz yk 87 _ rfl [.map (some w.heap.size),.slice none 0 0,.map (some (w.heap.size+1))] _ rfl rfl yq ?_;intro O A G N))
  go_ret;refine⟨C.trans (A.mono C.size),_,⟨w.heap.size,w.heap.size+1,0,.slice none 0 0,fun _=>0,fun _=>.slice none 0 0,fun _=>(.slice none 0 0,.slice none 0 0,.slice none 0 0)⟩,rfl,?_,rfl⟩;have H:=G.out;simp only[World.size_alloc] at H;refine⟨H,⟨by omega,hB,by show B≤w.heap.size+1;omega⟩,F.below A.out,?_,by show w.heap.size≠w.heap.size+1;omega,World.ownsRow_nil _ _ _ _,(fun c I=>by cases I),(fun k d J=>by cases J),(fun k P K=>by cases K),(fun i e L=>by cases L)⟩;have h:=E.below A.out;rw[World.size_alloc] at h;exact h
section
variable {P:Program} {K:TypeId} {κ:Type} {ok:κ→Prop} {val:κ→Value} {kl:κ→Lit} {w:World} {b n:Nat} {m:κ→Option Value} {ρ:Operand→Value} {o:Oper}
theorem Kd{mo x:Operand}{t:TypeId}{e:TypeId}(E:KeyEnc P K ok val kl)(ht:P.underlying t=some (.map K e)){z:Value}(hz:(zeroValue e).run P w=.ok z w)(hown:MapV w P K ok kl b n m){k0:κ}(hk:ok k0){V:Value}(hV:(m k0).getD z=V)
    (hop:o.op=Op.lookup t mo x false:=by rfl) (hm:ρ mo=.map (some b):=by rfl) (hx:ρ x=val k0:=by rfl):(execOp ρ o).run P w=.ok (.value V) w:=by
  subst hV;obtain⟨D,F,L,G,H⟩:=hown;obtain⟨v,M,B,I⟩:=F.lookup E.keyed ht hz (zd:=.held z) (zp:=[]) rfl (E.of k0 hk);have C:v=(m k0).getD z:=by
    have A:(DataW.held v:DataW Value)=D.atKey (kl k0) (.held z):=congrArg Prod.fst (Option.some.inj I);rcases hmk:m k0 with _ |u
    ·have J:has D (kl k0)=false:=by rw[G k0 hk,hmk];rfl
     rw[atKey_of_not_has J] at A;injection A
    ·rw[H k0 u hk hmk] at A;injection A
  subst C;unfold execOp;simp [hop,hm,hx,B,Result.andThen]
theorem ex_mapGet2{mo x:Operand}{t:TypeId}{e:TypeId}(E:KeyEnc P K ok val kl)(ht:P.underlying t=some (.map K e)){z:Value}(hz:(zeroValue e).run P w=.ok z w)(hown:MapV w P K ok kl b n m){k0:κ}(hk:ok k0){V:Value}(hV: .tuple #[(m k0).getD z,.bool (m k0).isSome]=V)
    (hop:o.op=Op.lookup t mo x true:=by rfl) (hm:ρ mo=.map (some b):=by rfl) (hx:ρ x=val k0:=by rfl):(execOp ρ o).run P w=.ok (.value V) w:=by
  subst hV;obtain⟨D,G,L,C,H⟩:=hown;obtain⟨v,M,A,I⟩:=G.look_ok E.keyed ht hz (zd:=.held z) (zp:=[]) rfl (E.of k0 hk);have F:v=(m k0).getD z:=by
    have B:(DataW.held v:DataW Value)=D.atKey (kl k0) (.held z):=congrArg Prod.fst (Option.some.inj I);rcases hmk:m k0 with _ |u
    ·have J:has D (kl k0)=false:=by rw[C k0 hk,hmk];rfl
     rw[atKey_of_not_has J] at B;injection B
    ·rw[H k0 u hk hmk] at B;injection B
  subst F;rw[C k0 hk] at A;unfold execOp;simp [hop,hm,hx,A,Result.andThen]
end
end
section
open Go.RowKit Go.Maps
open Lib (hid)
def entryZ:List Value:=[.int .i64 0,.slice none 0 0,.string noneS,.slice none 0 0,.slice none 0 0]
theorem KH(w:World):(zeroValue 105).run prog w=.ok (.agg entryZ.toArray) w:=yq
theorem entryZ_one:∀u∈entryZ,u.oneCell'=true:=by unfold entryZ;intro u A;simp only[xK,YY,or_false] at A;rcases A with rfl|rfl|rfl|rfl|rfl<;>rfl
theorem entryV_one(w:World)(e:vD)(m:EntryM)(h:EntryIn w e m):∀u∈Kk e m,u.oneCell'=true:=by
  obtain⟨E,F,B⟩:=kX h.deps;obtain⟨G,H,C⟩:=kX h.ops;obtain⟨I,J,D⟩:=kX h.makes;unfold Kk;rw[B,C,D];intro u A;simp only[xK,YY,or_false] at A;rcases A with rfl|rfl|rfl|rfl|rfl<;>rfl
def KU(S:kj)(q:kV)(i:List UInt8):List Value:=match kC S i with
  |some e=>Kk e (q.em i)
  |none=>entryZ
theorem Z7(S:kj)(q:kV)(i:List UInt8):((kC S i).map fun e=>Value.agg (Kk e (q.em i)).toArray).getD (.agg entryZ.toArray)=.agg (KU S q i).toArray:=by
  unfold KU;cases kC S i<;>rfl
theorem uX(S:kj)(q:kV)(i:List UInt8):(KU S q i).length=5:=by
  unfold KU;cases kC S i<;>rfl
theorem entryG_one{w:World}{B s:Nat}{S:kj}{q:kV}(h:StateAt w B s S q)(i:List UInt8):∀u∈KU S q i,u.oneCell'=true:=by
  unfold KU;cases he:kC S i with
  |none=>exact entryZ_one
  |some e=>exact entryV_one w e _ (h.entries i e he).2
theorem has_any(B s:Nat)(S:kj)(q:kV)(i:List UInt8)(w:World)(h:StateAt w B s S q)(hi:jr i):
    Calls prog 26 #[.pointer (some ⟨s,0,none⟩),.agg (idV i).toArray] w fun e w'=>Below w.heap.size w w'∧e=.returned (.bool (kC S i).isSome):=by
  have H:=hid hi;have R:=hid h
  have a:=qX h.box;clear hi h;go_enter func26,ntmps26
  go_upto_region 3 with (first
    |(with_reducible refine kG ?_
      refine kz yk 41 _ rfl (idV i) _ rfl rfl (by rw[kn,H.out];kernel_rfl) ?_;intro F C D b))
  obtain⟨T,V⟩:=Xy w.heap.size;rw[V] at D ⊢;have A:=hid (R.keep C);have I:=hid (entryG_one A i);have J:Hid (∀u:World,Below F.heap.size F u→u.cell? ⟨s,2,none⟩=some (.map (some q.bc))∧u.rangeAt T 0 (idV i)∧MapV u prog 41 jr idL q.bc S.2.2.length (fun i=>(kC S i).map fun e=>.agg (Kk e (q.em i)).toArray)):=hid fun u U=>
    ⟨(U.cell (p:=⟨s,2,none⟩) (qX A.box)).trans (k6 A.box 2),fun j v Z=>by rw[qZ];exact(U.cell (p:=⟨T,j,none⟩) (qX D)).trans ((k6 D j).trans Z),A.mapC.below U⟩
  refine rN 10 (fun u=>u.cell? ⟨s,2,none⟩=some (.map (some q.bc))∧u.rangeAt T 0 (idV i)∧MapV u prog 41 jr idL q.bc S.2.2.length (fun i=>(kC S i).map fun e=>.agg (Kk e (q.em i)).toArray)) (J _ (qD _ _)) fun N=>?_
  refine tw 0 _ ?_;go_frame;refine tw 1 _ ?_;go_frame;refine tw 2 _ ?_;go_frame;refine tl 3 _ rfl N (fun w' G=>l1 underlying85 G.1) ?_;go_frame;refine tl 4 _ rfl N (fun w' G=>ldD H G.2.1) ?_;go_frame;refine tl 5 (.tuple #[.agg (KU S q i).toArray,.bool (kC S i).isSome]) rfl N (fun w' G=>ex_mapGet2 Qx underlying85 (KH _) G.2.2 H (by rw[Z7];cases kC S i<;>rfl)) ?_;go_frame;refine tw 6 _ ?_;go_frame;refine tw 7 _ ?_;go_frame;refine tw 8 _ ?_;go_frame;refine ta 9 ?_;refine zJ _ rfl yq 105 rfl entryZ (KH _) ?_;intro c O P W;have K:=hid O;have L:=hid P
  clear O P W;have E:=hid ((qD F.heap.size F).trans (K.mono (qD F.heap.size F).size));refine⟨fun _ _=>J _ E,?_⟩;go_frame;refine ta 10 ?_;refine kR _ rfl yq 105 _ _ rfl F.drew.heap.size 0 [] entryZ [] (KU S q i) 105 (.agg (KU S q i).toArray) rfl rfl rfl rfl (by simpa using L.out) (by rw[uX];rfl) (by rw[uX];kernel_rfl) I.out ?_;intro d Q X Y;have M:=hid (Q.below (B:=F.heap.size) E.size (fun k f e=>by
    have g:k=F.drew.heap.size:=e;have l:F.drew.heap.size=F.heap.size:=rfl;omega))
  clear Q X Y;refine⟨fun h=>absurd h yj,?_⟩;go_frame;refine tw 11 _ ?_;go_frame;refine ku yq ?_ _;go_wp2_with fail;go_ret;exact⟨C.trans ((E.trans M).mono C.size),rfl⟩
end
section
open Go.RowKit Go.Maps
theorem infoKey15:(prog.info? 89).map (fun i=>(i.zero,i.size,i.bytes))=some (some (.agg (kc (0,k9,0)).toArray),34,48):=yq
theorem Z8{t x:Int}{i:List UInt8}(hid:jr i)(w:World):(Instr.build 89 #[(0,.int .i64 t),(1,.agg (idV i).toArray),(2,.int .i64 x)]).run prog w=.ok (.agg (kc (t,i,x)).toArray) w:=by
  obtain⟨j,B,C,_,_⟩:=info_parts infoKey15;have E:(idV k9).length=32:=rfl;have h:=zl (P:=prog) B underlying89 C [[.int .i64 0],idV k9,[.int .i64 0]] rfl (places:=[(0,1),(1,32),(33,1)]) yq yq [(0,.int .i64 t),(1,.agg (idV i).toArray),(2,.int .i64 x)] (by
    intro q A;simp only[xK,YY,or_false] at A;rcases A with rfl|rfl|rfl
    ·exact⟨by show 0<3;omega,rfl⟩
    ·exact⟨by show 1<3;omega,by show (idV i).toArray.size=32;rw[xz,kn];exact hid⟩
    ·exact⟨by show 2<3;omega,rfl⟩)
  have D:=run_build (P:=prog) w 89 #[(0,.int .i64 t),(1,.agg (idV i).toArray),(2,.int .i64 x)] _ h;refine D.trans ?_;simp [kc,Value.cells]
theorem UW(w:World):(Instr.build 41 #[]).run prog w=.ok (.agg (idV k9).toArray) w:=yq
structure AdderAt (w:World) (a s:Nat) (i:List UInt8) (c:ks) (dv ov vm:Value):Prop where
  box:w.heap[a]?=some (.cells (Value.pointer (some ⟨s,0,none⟩)::(idV i++[.int .i64 c.1,dv,.string c.2.2.1,ov,vm])).toArray 127 (0,0))
  id:jr i
section
variable {w:World} {a s:Nat} {i:List UInt8} {c:ks} {dv ov vm:Value}
theorem AdderAt.st(h:AdderAt w a s i c dv ov vm):w.cell? ⟨a,0,none⟩=some (.pointer (some ⟨s,0,none⟩)):=k6 h.box 0
theorem AdderAt.idAt(h:AdderAt w a s i c dv ov vm):w.rangeAt a 1 (idV i):=fun j u A=>by
  rw[k6 h.box,Nat.add_comm,List.getElem?_cons_succ,xv (yJ.1 A).1];exact A
theorem AdderAt.rest(h:AdderAt w a s i c dv ov vm)(j:Nat):w.cell? ⟨a,33+j,none⟩=([.int .i64 c.1,dv,.string c.2.2.1,ov,vm]:List Value)[j]?:=by
  have A:(idV i).length=32:=by rw[kn];exact h.id
  rw[k6 h.box,show 33+j=(32+j)+1 by omega,List.getElem?_cons_succ,xx yv,A,Nat.add_sub_cancel_left]
theorem AdderAt.keep{w':World}(h:AdderAt w a s i c dv ov vm)(hb:Below w.heap.size w w'):AdderAt w' a s i c dv ov vm:=⟨(hb.block a (qX h.box)).trans h.box,h.id⟩
end
theorem entryG_form(S:kj)(q:kV)(i:List UInt8):∃g1 g2 g3 g4,KU S q i=[.int .i64 (za S i),g1,g2,g3,g4]:=by
  unfold KU za;cases kC S i with
  |none=>exact⟨_,_,_,_,rfl⟩
  |some e=>exact⟨_,_,_,_,rfl⟩
theorem kl15{t x:Int}{i:List UInt8}(h:jr i):(kc (t,i,x)).length=34:=by simp [kc,kn,show i.length=32 from h]
theorem Zl(B a s:Nat)(S:kj)(q:kV)(i:List UInt8)(c:ks)(dv ov vm:Value)(r:zy)(w:World)(h:StateAt w B s S q)(hA:AdderAt w a s i c dv ov vm)(hr:zz r):
    Calls prog 97 #[.pointer (some ⟨a,0,none⟩),.agg (kw r).toArray] w fun e w'=>Below w.heap.size w w'∧e=.returned (.agg (kc (jg S i c.1 r)).toArray):=by
  have HS:=Lib.hid h;have HA:=Lib.hid hA;have HR:=Lib.hid hr
  have A4:=kq hr;obtain⟨D,F⟩:=r;have A:Hid (jr D):=Lib.hid hr.1;have G:Hid (jr i):=Lib.hid hA.id;clear h hA hr;have g:∀(eq:Bool),decide (D=k9)=eq→True:=fun _ _=>trivial
  clear g;go_enter func97,ntmps97
  go_upto_region 1 with (first
    |(with_reducible refine kG ?_
      refine kz yk 110 _ rfl (kw (D,F)) _ rfl rfl (by rw[A4];kernel_rfl) ?_;intro W0 Q K R)
    |(with_reducible refine kF ?_
      refine kv yk 89 rfl (kc (0,k9,0)) (zG _) ?_;intro b L M T))
  obtain⟨Z,z⟩:=Xy w.heap.size;obtain⟨J,A0⟩:=Xy W0.heap.size;have E:=Lib.hid (Xx Q.out L.out);have l:=qX K.out;have I:=Lib.hid ((L.block w.heap.size l).trans K);rw[z] at I ⊢;rw[A0] at M ⊢;have N:=Lib.hid (HS.keep E);have d:=Lib.hid (HA.keep E)
  have X:Hid (∀u:World,Below b.heap.size b u→u.cell? ⟨a,33,none⟩=some (.int .i64 c.1)∧u.rangeAt a 1 (idV i)∧u.cell? ⟨Z,32,none⟩=some (.int .i64 F)∧u.rangeAt Z 0 (idV D)∧u.cell? ⟨a,0,none⟩=some (.pointer (some ⟨s,0,none⟩))∧u.cell? ⟨s,2,none⟩=some (.map (some q.bc))∧
      MapV u prog 41 jr idL q.bc S.2.2.length (fun i=>(kC S i).map fun e=>.agg (Kk e (q.em i)).toArray)):=Lib.hid fun u y=>by
    obtain⟨g1,g2⟩:=kK HR.out;have m:=d.keep y;have hZ:=(y.block Z (qX I)).trans I.out;exact⟨m.rest 0,m.idAt,(k6 hZ 32).trans g2,fun j v n=>by rw[qZ];exact(k6 hZ j).trans (g1 j v n),m.st,(y.cell (p:=⟨s,2,none⟩) (qX N.box)).trans (k6 N.box 2),N.mapC.below y⟩
  have U:=Lib.hid (show w.heap.size≤J by have:=R.out;omega);have A1:b.heap.size=J+1:=by have:=T.out;omega
  have R0:=Lib.hid (X b (qB _ _)).2.2.2.1;obtain⟨g1,g2,g3,g4,A2⟩:=entryG_form S q D;have f:=Lib.hid A2;clear A2;clear Q L R T z A0 l I K;have A3:=Lib.hid A1;clear A1;by_cases hz:D=k9
  ·have EQ:Hid (decide (D=k9)=true):=Lib.hid (dT hz);have Y:Hid (jg S i c.1 (D,F)=(c.1,i,F)):=Lib.hid (by unfold jg;rw[if_pos hz]);clear hz
   go_upto_region 2 with (first
     |(with_reducible refine k8 ?_
       refine k7 yk (ldD A R0) ?_)
     |(with_reducible refine kL ?_
       refine k7 yk (kp 41 _ rfl (UW _)) ?_)
     |(with_reducible refine kU ?_
       refine k7 yk (eqD A jT EQ) ?_))
   refine rN 12 (fun u=>u.cell? ⟨a,33,none⟩=some (.int .i64 c.1)∧u.rangeAt a 1 (idV i)∧u.cell? ⟨Z,32,none⟩=some (.int .i64 F)∧u.rangeAt Z 0 (idV D)∧u.cell? ⟨a,0,none⟩=some (.pointer (some ⟨s,0,none⟩))∧u.cell? ⟨s,2,none⟩=some (.map (some q.bc))∧MapV u prog 41 jr idL q.bc S.2.2.length (fun i=>(kC S i).map fun e=>.agg (Kk e (q.em i)).toArray)) (X _ (qD _ _)) fun H=>?_
   refine tw 0 _ ?_;go_frame;refine tw 1 _ ?_;go_frame;refine tw 2 _ ?_;go_frame;refine tw 3 _ ?_;go_frame;refine tl 4 _ rfl H (fun w' C=>l1 underlying3 C.1) ?_;go_frame;refine tw 5 _ ?_;go_frame;refine tw 6 _ ?_;go_frame;refine tw 7 _ ?_;go_frame;refine tl 8 _ rfl H (fun w' C=>ldD G C.2.1) ?_;go_frame;refine tw 9 _ ?_;go_frame;refine tl 10 _ rfl H (fun w' C=>l1 underlying3 C.2.2.1) ?_;go_frame;refine tk 11 (.agg (kc (c.1,i,F)).toArray) rfl (fun w' C=>kp 89 _ rfl (by simp only[xV,xX,Yy];exact Z8 (t:=c.1) (x:=F) G.out _)) ?_;go_frame;refine ta 12 ?_;refine kR _ rfl yq 89 _ _ rfl J 0 [] (kc (0,k9,0)) [] (kc (c.1,i,F)) 89 (.agg (kc (c.1,i,F)).toArray) rfl rfl rfl rfl (by simpa using (show b.drew.heap[J]?=_ from M)) (by rw[kl15 G.out];rfl) (by rw[kl15 G.out];kernel_rfl) (j8 _) ?_;intro W2 V W o;have O:Hid (W2.rangeAt J 0 (kc (c.1,i,F))):=Lib.hid (fun j u n=>by rw[qZ];exact(k6 W j).trans (by simpa using n));have P:=Lib.hid (V.below (B:=w.heap.size) E.size (fun k hk e=>by
     have e2:k=J:=e;have:=U.out;omega))
   clear V W o;refine⟨fun h=>absurd h yj,?_⟩;go_frame;refine ku yq ?_ _;go_wp2_with fail;refine bodyPost_ret (jx results97 _ _ rfl (qV _ J 0 89 (kc (c.1,i,F)) _ O underlying89 rfl (by rw[kl15 G.out];kernel_rfl))) rfl ?_;exact⟨E.drew.trans P,by rw[Y.out]⟩
  ·have EQ:Hid (decide (D=k9)=false):=Lib.hid (dF hz);have Y:Hid (jg S i c.1 (D,F)=(za S D,D,F)):=Lib.hid (by unfold jg;rw[if_neg hz]);clear hz
   go_upto_region 3 with (first
     |(with_reducible refine k8 ?_
       refine k7 yk (ldD A R0) ?_)
     |(with_reducible refine kL ?_
       refine k7 yk (kp 41 _ rfl (UW _)) ?_)
     |(with_reducible refine kU ?_
       refine k7 yk (eqD A jT EQ) ?_))
   refine rN 17 (fun u=>u.cell? ⟨a,33,none⟩=some (.int .i64 c.1)∧u.rangeAt a 1 (idV i)∧u.cell? ⟨Z,32,none⟩=some (.int .i64 F)∧u.rangeAt Z 0 (idV D)∧u.cell? ⟨a,0,none⟩=some (.pointer (some ⟨s,0,none⟩))∧u.cell? ⟨s,2,none⟩=some (.map (some q.bc))∧MapV u prog 41 jr idL q.bc S.2.2.length (fun i=>(kC S i).map fun e=>.agg (Kk e (q.em i)).toArray)) (X _ (qD _ _)) fun H=>?_
   refine tw 0 _ ?_;go_frame;refine tw 1 _ ?_;go_frame;refine tw 2 _ ?_;go_frame;refine tl 3 _ rfl H (fun w' C=>l1 underlying24 C.2.2.2.2.1) ?_;go_frame;refine tw 4 _ ?_;go_frame;refine tw 5 _ ?_;go_frame;refine tl 6 _ rfl H (fun w' C=>l1 underlying85 C.2.2.2.2.2.1) ?_;go_frame;refine tw 7 _ ?_;go_frame;refine tl 8 _ rfl H (fun w' C=>ldD A C.2.2.2.1) ?_;go_frame;refine tl 9 (.agg [.int .i64 (za S D),g1,g2,g3,g4].toArray) rfl H (fun w' C=>Kd Qx underlying85 (KH _) C.2.2.2.2.2.2 A ((Z7 S q D).trans (by rw[f.out]))) ?_;go_frame;refine tw 10 _ ?_;go_frame;refine tw 11 _ ?_;go_frame;refine tw 12 _ ?_;go_frame;refine tl 13 _ rfl H (fun w' C=>ldD A C.2.2.2.1) ?_;go_frame;refine tw 14 _ ?_;go_frame;refine tl 15 _ rfl H (fun w' C=>l1 underlying3 C.2.2.1) ?_;go_frame;refine tk 16 (.agg (kc ((za S D),D,F)).toArray) rfl (fun w' C=>kp 89 _ rfl (by simp only[xV,xX,Yy];exact Z8 (t:=za S D) (x:=F) A.out _)) ?_;go_frame;refine ta 17 ?_;refine kR _ rfl yq 89 _ _ rfl J 0 [] (kc (0,k9,0)) [] (kc (za S D,D,F)) 89 (.agg (kc (za S D,D,F)).toArray) rfl rfl rfl rfl (by simpa using (show b.drew.heap[J]?=_ from M)) (by rw[kl15 A.out];rfl) (by rw[kl15 A.out];kernel_rfl) (j8 _) ?_;intro W2 V W o;have O:Hid (W2.rangeAt J 0 (kc (za S D,D,F))):=Lib.hid (fun j u n=>by rw[qZ];exact(k6 W j).trans (by simpa using n));have P:=Lib.hid (V.below (B:=w.heap.size) E.size (fun k hk e=>by
     have e2:k=J:=e;have:=U.out;omega))
   clear V W o;refine⟨fun h=>absurd h yj,?_⟩;go_frame;refine ku yq ?_ _;go_wp2_with fail;refine bodyPost_ret (jx results97 _ _ rfl (qV _ J 0 89 (kc (za S D,D,F)) _ O underlying89 rfl (by rw[kl15 A.out];kernel_rfl))) rfl ?_;exact⟨E.drew.trans P,by rw[Y.out]⟩
end
section
open Go.RowKit Go.Maps
open Lib (hid)
theorem J4{m:zD}(h:kJ m.2):(jc m).length=35:=by simp [jc,ke h]
theorem uC(m:zD):∀u∈jc m,u.oneCell'=true:=by
  intro u A;rcases xK.1 A with rfl|A
  ·rfl
  ·exact j8 _ u A
theorem makeZ_run(w:World):(zeroValue 199).run prog w=.ok (.agg (jc (false,(0,k9,0))).toArray) w:=yq
def WhatGives(S:kj)(mk:List zD)(r:zy)(more:Nat)(w:World)(e:Ending)(w':World):Prop:=
  Below w.heap.size w w'∧((∃m,Jg S mk r more=some m∧e=.returned (.agg (jc m).toArray))∨(Jg S mk r more=none∧e=.panicked (QI 22)))
theorem WhatGives.yes{S:kj}{mk:List zD}{r:zy}{more:Nat}{w w':World}{e:Ending}{m:zD}(h:Jg S mk r more=some m)(hb:Below w.heap.size w w')(he:e=.returned (.agg (jc m).toArray)):WhatGives S mk r more w e w':=⟨hb,.inl ⟨m,h,he⟩⟩
theorem WhatGives.no{S:kj}{mk:List zD}{r:zy}{more:Nat}{w w':World}{e:Ending}(h:Jg S mk r more=none)(hb:Below w.heap.size w w')(he:e=.panicked (QI 22)):WhatGives S mk r more w e w':=⟨hb,.inr ⟨h,he⟩⟩
def ZC(S:kj)(i:List UInt8):List zD:=((kC S i).map (·.2)).getD []
theorem entryG_made{w:World}{B s:Nat}{S:kj}{q:kV}(h:StateAt w B s S q)(i:List UInt8):∃g1 g2 g3 C D,KU S q i=[.int .i64 (za S i),g1,g2,g3,.slice C (ZC S i).length D]∧
    w.ownsRow 0 199 35 (.slice C (ZC S i).length D) (ZC S i).length (kf jc (ZC S i))∧∀m∈ZC S i,kJ m.2:=by
  unfold KU za ZC;cases he:kC S i with
  |none=>exact⟨_,_,_,none,0,rfl,World.ownsRow_nil _ _ _ _,fun m G=>by cases G⟩
  |some e=>
   obtain⟨_,A⟩:=h.entries i e he;obtain⟨C,D,E⟩:=kX A.makes;refine⟨(q.em i).1,.string e.1.2.2.1,(q.em i).2.1,C,D,?_,?_,A.keys⟩
   ·show Kk e (q.em i)=_;unfold Kk;rw[E];rfl
   ·have F:=A.makes;rw[E] at F;exact F
theorem what_any(B a s:Nat)(S:kj)(q:kV)(i:List UInt8)(c:ks)(dv ov:Value)(Am:Option Addr)(cm:Nat)(mk:List zD)(r:zy)(more:Nat)(w:World)(h:StateAt w B s S q)(hA:AdderAt w a s i c dv ov (.slice Am mk.length cm))(hM:w.ownsRow 0 199 35 (.slice Am mk.length cm) mk.length (kf jc mk))
    (hk:∀m∈mk,kJ m.2) (hr:zz r) (hr0:0≤r.2∧r.2≤1099511627776) (hm:more≤1099511627776) (hl:mk.length≤1099511627776) (hl2:(ZC S r.1).length≤1099511627776):
    Calls prog 96 #[.pointer (some ⟨a,0,none⟩),.agg (kw r).toArray,.int .i64 (more:Int)] w (WhatGives S mk r more w):=by
  have HS:=hid h;have HA:=hid hA;have HR:=hid hr;have A6:=hid hM;have A7:=hid hk
  have Aq:=kq hr;obtain⟨G,rx⟩:=r;have H:Hid (jr G):=hid hr.1;dsimp only at hr0 hl2;obtain⟨D,rfl⟩:∃D:Nat,rx=(D:Int):=⟨rx.toNat,by omega⟩;clear h hA hr hM hk;go_enter func96,ntmps96
  go_upto_region 1 with (first
    |(with_reducible refine kG ?_
      refine kz yk 110 _ rfl (kw (G,(D:Int))) _ rfl rfl (by rw[Aq];kernel_rfl) ?_;intro W0 y Z z)
    |(with_reducible refine kF ?_
      refine kv yk 199 rfl (jc (false,(0,k9,0))) (makeZ_run _) ?_;intro I b d A0))
  obtain⟨b0,Ak⟩:=Xy w.heap.size;obtain⟨Y,Al⟩:=Xy W0.heap.size;have A:=hid (Xx y.out b.out);have Ac:=qX Z.out;have Q:=hid ((b.block w.heap.size Ac).trans Z);rw[Ak] at Q ⊢;rw[Al] at d ⊢;have R:=hid (HS.keep A);have A8:=hid (HA.keep A);have A9:=hid ((But.of_below (X:=NoB) A).own A6 fun _ _ q=>q);have M:Hid (∀u:World,Below I.heap.size I u→(fun u=>u.cell? ⟨b0,32,none⟩=some (.int .i64 (D:Int))∧u.rangeAt b0 0 (idV G)∧u.cell? ⟨a,0,none⟩=some (.pointer (some ⟨s,0,none⟩))∧u.cell? ⟨s,2,none⟩=some (.map (some q.bc))∧MapV u prog 41 jr idL q.bc S.2.2.length (fun i=>(kC S i).map fun e=>.agg (Kk e (q.em i)).toArray)∧u.cell? ⟨a,37,none⟩=some (.slice Am mk.length cm)) u):=hid fun u hu=>by
    obtain⟨g1,g2⟩:=kK HR.out;have An:=A8.keep hu;have hZ:=(hu.block b0 (qX Q)).trans Q.out;exact⟨(k6 hZ 32).trans g2,fun j v V=>by rw[qZ];exact(k6 hZ j).trans (g1 j v V),An.st,(hu.cell (p:=⟨s,2,none⟩) (qX R.box)).trans (k6 R.box 2),R.mapC.below hu,An.rest 4⟩
  have A1:=hid (show w.heap.size≤Y by have:=z.out;omega);have Ao:I.heap.size=Y+1:=by have:=A0.out;omega
  have R0:=hid (M I (qB _ _)).2.1;have Ar:I.cell? ⟨a,37,none⟩=some (.slice Am mk.length cm):=(M I (qB _ _)).2.2.2.2.2;clear y b z A0 Ak Al Ac Q Z;have A2:=hid Ao;clear Ao
  go_upto_region 2 with fail
  clear Ar;by_cases hz:G=k9
  ·have EQ:Hid (decide (G=k9)=true):=hid (dT hz);have T:Hid (vo S mk (G,(D:Int))=mk):=hid (by unfold vo;rw[if_pos hz]);clear hz
   go_upto_region 4 with (first
     |(with_reducible refine k8 ?_
       refine k7 yk (ldD H R0) ?_)
     |(with_reducible refine kL ?_
       refine k7 yk (kp 41 _ rfl (UW _)) ?_)
     |(with_reducible refine kU ?_
       refine k7 yk (jV 41 _ _ _ rfl (xs:=(idV G).toArray) (ys:=(idV k9).toArray) (r:=true) rfl rfl eqId.noGuard (EQ.out▸Ke H.out jT _)) ?_;go_frame;try simp only[nTF]))
   have C:=hid (qB I.heap.size I);have E:=A7.out;have F:=hl;obtain⟨L,W⟩:=Xy mk;have J:Hid (vo S mk (G,(D:Int))=L):=hid (by rw[←W];exact T.out);have N:Hid (I.ownsRow 0 199 35 (.slice Am L.length cm) L.length (kf jc L)):=hid (by rw[←W];exact A9.out);have K:Hid (∀m∈L,kJ m.2):=hid (by rw[←W];exact E);have As:L.length≤1099511627776:=by rw[←W];exact F
   rw[show (mk).length=L.length by rw[W]];have At:I.cell? ⟨b0,32,none⟩=some (.int .i64 (D:Int)):=(M I C).1;have O:=hid ((C.block Y (by have:=A2.out;omega)).trans d.out);have Ad:=C.size;clear W M E F;have Au:IntKind.i64.wrap ((L.length:Int) - (more:Int))=(L.length:Int) - (more:Int):=IntWalk.i64_in _ yv;by_cases hlt:(D:Int)<(L.length:Int) - (more:Int)
   ·have Av:IntKind.i64.wrap ((D:Int)+(more:Int))=((D+more:Nat):Int):=by rw[IntWalk.i64_in _ yv];omega
    have V:D+more<L.length:=yv;have j0:(0:Int)≤((D+more:Nat):Int):=yv;have j1:((D+more:Nat):Int)<(L.length:Int):=yv;have P:Hid (Jg S mk (G,(D:Int)) more=some (L[D+more])):=hid (by
      unfold Jg;dsimp only;rw[J.out,if_pos hlt,Int.toNat_natCast,yK V])
    obtain⟨g,c5,Aj,Ae,_,A3,_⟩:=KP N.out yv;injection Ae with hA5 _ hc5;subst hA5 hc5;have f:=hid (K _ (yQ V));have l:=hid (show I.rangeAt g ((D+more)*35) (jc L[D+more]) from fun k u hk=>by
      have h2:=K9 (enc:=jc) (sz:=35) (fun x hx=>J4 (K x hx)) _ V k u hk;rw[k6 A3,xv (yJ.1 h2).1];exact h2)
    clear A3;generalize L[D+more]=m at *;have U:=J4 f.out
    go_wp2_with (first
      |(go_at_call 51;refine(Z6 22 _).mono ?_;rintro e w9 ⟨rfl,rfl⟩)
      |(with_reducible refine k8 ?_
        refine kZ rfl 199 _ rfl g _ rfl (jc m) _ l.out underlying199 rfl (by rw[U];kernel_rfl) ?_)
      |(with_reducible refine kD ?_
        refine kr yk 199 _ _ rfl Y 0 [] (jc (false,(0,k9,0))) [] (jc m) 199 (.agg (jc m).toArray) rfl rfl rfl rfl (by simpa using O.out) (by rw[U];rfl) (by rw[U];kernel_rfl) (uC _) ?_;intro W9 Af Ag Aw;have n:Hid (W9.rangeAt Y 0 (jc m)):=hid (fun j u V=>by rw[qZ];exact(k6 Ag j).trans (by simpa using V));have o:=hid (Af.below (B:=w.heap.size) (qT A.size Ad) (fun k hk e=>by
           have e2:k=Y:=e;have:=A1.out;omega))))
    refine bodyPost_ret (jx results96 _ _ rfl (qV _ Y 0 199 (jc m) _ n underlying199 rfl (by rw[U];kernel_rfl))) rfl ?_;exact WhatGives.yes P.out (A.trans ((C.mono A.size).trans o)) rfl
   ·have P:Hid (Jg S mk (G,(D:Int)) more=none):=hid (by
      unfold Jg;dsimp only;rw[J.out,if_neg hlt])
    go_wp2_with (first
      |(go_at_call 51;refine(Zk 22 _).mono ?_;rintro e w9 ⟨rfl,rfl⟩))
    exact⟨rfl,WhatGives.no P (Xx A.out C.out) rfl⟩
  ·have EQ:Hid (decide (G=k9)=false):=hid (dF hz);have T:Hid (vo S mk (G,(D:Int))=ZC S G):=hid (by unfold vo;rw[if_neg hz];rfl);clear hz;obtain⟨g1,g2,g3,A4,c4,Ah,Ai,E⟩:=entryG_made R.out G;obtain⟨lS,Ap⟩:=Xy (ZC S G);rw[Ap] at Ah Ai E hl2 T;have Aa:=hid Ah;have Ab:=hid Ai
   clear Ah Ai Ap
   go_upto_region 3 with (first
     |(with_reducible refine k8 ?_
       refine k7 yk (ldD H R0) ?_)
     |(with_reducible refine kL ?_
       refine k7 yk (kp 41 _ rfl (UW _)) ?_)
     |(with_reducible refine kU ?_
       refine k7 yk (jV 41 _ _ _ rfl (xs:=(idV G).toArray) (ys:=(idV k9).toArray) (r:=false) rfl rfl eqId.noGuard (EQ.out▸Ke H.out jT _)) ?_;go_frame;try simp only[nTF]))
   refine rN 11 (fun u=>u.cell? ⟨b0,32,none⟩=some (.int .i64 (D:Int))∧u.rangeAt b0 0 (idV G)∧u.cell? ⟨a,0,none⟩=some (.pointer (some ⟨s,0,none⟩))∧u.cell? ⟨s,2,none⟩=some (.map (some q.bc))∧MapV u prog 41 jr idL q.bc S.2.2.length (fun i=>(kC S i).map fun e=>.agg (Kk e (q.em i)).toArray)∧u.cell? ⟨a,37,none⟩=some (.slice Am mk.length cm)) (M _ (qD _ _)) fun A5=>?_
   refine tw 0 (.pointer (some ⟨a,0,none⟩)) ?_;go_frame;refine tw 1 (.pointer (some ⟨a,0,none⟩)) ?_;go_frame;refine tw 2 (.pointer (some ⟨a,0,none⟩)) ?_;go_frame;refine tl 3 (.pointer (some ⟨s,0,none⟩)) rfl A5 (fun w' t=>l1 underlying24 t.2.2.1) ?_;go_frame;refine tw 4 (.pointer (some ⟨s,0,none⟩)) ?_;go_frame;refine tw 5 (.pointer (some ⟨s,2,none⟩)) ?_;go_frame;refine tl 6 (.map (some q.bc)) rfl A5 (fun w' t=>l1 underlying85 t.2.2.2.1) ?_;go_frame;refine tw 7 (.pointer (some ⟨b0,0,none⟩)) ?_;go_frame;refine tl 8 (.agg (idV G).toArray) rfl A5 (fun w' t=>ldD H t.2.1) ?_;go_frame;refine tl 9 (.agg [.int .i64 (za S G),g1,g2,g3,.slice A4 lS.length c4].toArray) rfl A5 (fun w' t=>Kd Qx underlying85 (KH _) t.2.2.2.2.1 H ((Z7 S q G).trans (by rw[Aa.out]))) ?_;go_frame;refine tw 10 (.slice A4 lS.length c4) ?_;go_frame;refine tw 11 (.slice A4 lS.length c4) ?_;go_frame;refine ku yq ?_ _;clear A5;have C:=hid (qD I.heap.size I);have F:=hl2
   go_upto_region 4 with fail
   obtain⟨L,W⟩:=Xy lS;have J:Hid (vo S mk (G,(D:Int))=L):=hid (by rw[←W];exact T.out);have N:Hid (I.drew.ownsRow 0 199 35 (.slice A4 L.length c4) L.length (kf jc L)):=hid (by rw[←W];exact(But.of_below (X:=NoB) (qD I.heap.size I)).own Ab.out fun _ _ q=>q);have K:Hid (∀m∈L,kJ m.2):=hid (by rw[←W];exact E);have As:L.length≤1099511627776:=by rw[←W];exact F
   rw[show (lS).length=L.length by rw[W]];have At:I.drew.cell? ⟨b0,32,none⟩=some (.int .i64 (D:Int)):=(M I.drew C).1;have O:=hid ((C.block Y (by have:=A2.out;omega)).trans d.out);have Ad:=C.size;clear W M E F;have Au:IntKind.i64.wrap ((L.length:Int) - (more:Int))=(L.length:Int) - (more:Int):=IntWalk.i64_in _ yv;by_cases hlt:(D:Int)<(L.length:Int) - (more:Int)
   ·have Av:IntKind.i64.wrap ((D:Int)+(more:Int))=((D+more:Nat):Int):=by rw[IntWalk.i64_in _ yv];omega
    have V:D+more<L.length:=yv;have j0:(0:Int)≤((D+more:Nat):Int):=yv;have j1:((D+more:Nat):Int)<(L.length:Int):=yv;have P:Hid (Jg S mk (G,(D:Int)) more=some (L[D+more])):=hid (by
      unfold Jg;dsimp only;rw[J.out,if_pos hlt,Int.toNat_natCast,yK V])
    obtain⟨g,c5,Aj,Ae,_,A3,_⟩:=KP N.out yv;injection Ae with hA5 _ hc5;subst hA5 hc5;have f:=hid (K _ (yQ V));have l:=hid (show I.drew.rangeAt g ((D+more)*35) (jc L[D+more]) from fun k u hk=>by
      have h2:=K9 (enc:=jc) (sz:=35) (fun x hx=>J4 (K x hx)) _ V k u hk;rw[k6 A3,xv (yJ.1 h2).1];exact h2)
    clear A3;generalize L[D+more]=m at *;have U:=J4 f.out
    go_wp2_with (first
      |(go_at_call 51;refine(Z6 22 _).mono ?_;rintro e w9 ⟨rfl,rfl⟩)
      |(with_reducible refine k8 ?_
        refine kZ rfl 199 _ rfl g _ rfl (jc m) _ l.out underlying199 rfl (by rw[U];kernel_rfl) ?_)
      |(with_reducible refine kD ?_
        refine kr yk 199 _ _ rfl Y 0 [] (jc (false,(0,k9,0))) [] (jc m) 199 (.agg (jc m).toArray) rfl rfl rfl rfl (by simpa using O.out) (by rw[U];rfl) (by rw[U];kernel_rfl) (uC _) ?_;intro W9 Af Ag Aw;have n:Hid (W9.rangeAt Y 0 (jc m)):=hid (fun j u V=>by rw[qZ];exact(k6 Ag j).trans (by simpa using V));have o:=hid (Af.below (B:=w.heap.size) (qT A.size Ad) (fun k hk e=>by
           have e2:k=Y:=e;have:=A1.out;omega))))
    refine bodyPost_ret (jx results96 _ _ rfl (qV _ Y 0 199 (jc m) _ n underlying199 rfl (by rw[U];kernel_rfl))) rfl ?_;exact WhatGives.yes P.out (A.trans ((C.mono A.size).trans o)) rfl
   ·have P:Hid (Jg S mk (G,(D:Int)) more=none):=hid (by
      unfold Jg;dsimp only;rw[J.out,if_neg hlt])
    go_wp2_with (first
      |(go_at_call 51;refine(Zk 22 _).mono ?_;rintro e w9 ⟨rfl,rfl⟩))
    exact⟨rfl,WhatGives.no P (Xx A.out C.out) rfl⟩
end
section
open Go.RowKit
def StX(s:Nat)(S:kj)(q:kV)(j:Nat):Prop:=j=s∨j=q.bd∨j=q.bc∨q.vc.ownBlock=some j∨∃k,(jv S k).isSome=true∧DocX (q.ptr k) (q.row k) j
def NewerX(w:World)(s:Nat)(S S':kj)(q q':kV):Prop:=∀j,StX s S' q' j→StX s S q j∨w.heap.size≤j
theorem NewerX.refl(w:World)(s:Nat)(S:kj)(q:kV):NewerX w s S S q q:=fun _ h=>.inl h
theorem NewerX.trans{w w':World}{s:Nat}{S S' S2:kj}{q q' q2:kV}(h:NewerX w s S S' q q')(k:NewerX w' s S' S2 q' q2)(hs:w.heap.size≤w'.heap.size):NewerX w s S S2 q q2:=fun j A=>by
  rcases k j A with g|g
  ·exact h j g
  ·exact .inr (Nat.le_trans hs g)
def stTag(t:TypeId):Bool:=t == 87 || t == 135 || t == 192 || t == 177
section
variable {w w':World} {B s:Nat} {S:kj} {q:kV}
theorem StateAt.tag(h:StateAt w B s S q){j:Nat}(hj:StX s S q j):(∃cur t,stTag t=true∧w.heap[j]?=some (.cells cur t (0,0)))∨∃x y,w.heap[j]?=some (.map x y):=by
  rcases hj with rfl|rfl|rfl|hj|⟨k,C,hj⟩
  ·exact .inl ⟨_,_,by decide,h.box⟩
  ·exact .inr h.mapD_obj
  ·exact .inr h.mapC_obj
  ·obtain⟨c,A⟩:=kH h.claims hj;exact .inl ⟨c,_,by decide,A⟩
  ·obtain⟨d,D⟩:=Option.isSome_iff_exists.1 C;obtain⟨c,t,E,A⟩:=(h.docs k d D).2.tagged hj;exact .inl ⟨c,t,by rcases E with rfl|rfl<;>decide,A⟩
theorem StateAt.notX(h:StateAt w B s S q){k:Nat}{cur:Array Value}{t:TypeId}{fr:Nat×Nat}(hc:w.heap[k]?=some (.cells cur t fr))(ht:stTag t=false):¬StX s S q k:=fun D=>by
  rcases h.tag D with⟨c,E,C,A⟩|⟨x,y,A⟩
  ·rw[hc] at A;injection A with A;injection A with _ A;subst A;rw[ht] at C;cases C
  ·rw[hc] at A;cases A
theorem StateAt.keepCells(h:StateAt w B s S q)(hb:But (StX s S q) w w'){k:Nat}{cur:Array Value}{t:TypeId}{fr:Nat×Nat}(hc:w.heap[k]?=some (.cells cur t fr))(ht:stTag t=false):w'.heap[k]?=some (.cells cur t fr):=
  (hb.block k (qX hc) (h.notX hc ht)).trans hc
theorem StateAt.own(h:StateAt w B s S q)(hb:But (StX s S q) w w'){base n sz:Nat}{e:TypeId}{v:Value}{xs:List Value}(ho:w.ownsRow base e sz v n xs)(he:stTag e=false):w'.ownsRow base e sz v n xs:=hb.own ho fun g A C=>by
  obtain⟨c,D⟩:=kH ho A;exact h.notX D he C
theorem StateAt.lowX(h:StateAt w B s S q){j:Nat}(hj:StX s S q j):B≤j∧j<w.heap.size:=by
  refine⟨?_,?_⟩
  ·rcases hj with rfl|rfl|rfl|hj|⟨k,C,hj⟩
   ·exact h.low.1
   ·exact h.low.2.1
   ·exact h.low.2.2
   ·exact(h.claims.lt j hj).1
   ·obtain⟨d,D⟩:=Option.isSome_iff_exists.1 C;exact(h.docs k d D).2.low' j hj
  ·rcases h.tag hj with⟨c,t,_,A⟩|⟨x,y,A⟩<;>exact qX A
end
end
section
open Go.RowKit Go.Maps
open Lib (hid)
structure ElemAt (w:World) (ba bo bd a:Nat) (x:OpD) (k:kE):Prop where
  pa:w.heap[ba]?=some (.cells [.pointer (some ⟨a,0,none⟩)].toArray 125 (0,0))
  po:w.heap[bo]?=some (.cells (opV x).toArray 112 (0,0))
  pd:w.heap[bd]?=some (.cells (kc k).toArray 89 (0,0))
theorem ElemAt.keep{w w':World}{ba bo bd a:Nat}{x:OpD}{k:kE}(h:ElemAt w ba bo bd a x k)(hb:Below w.heap.size w w'):ElemAt w' ba bo bd a x k:=⟨(hb.block ba (qX h.pa)).trans h.pa,(hb.block bo (qX h.po)).trans h.po,(hb.block bd (qX h.pd)).trans h.pd⟩
structure MidAt (w:World) (B a s:Nat) (S:kj) (q:kV) (i:List UInt8) (c:ks) (dv ov:Value) (Am:Option Addr) (cm:Nat) (mk:List zD):Prop where
  st:StateAt w B s S q
  ad:AdderAt w a s i c dv ov (.slice Am mk.length cm)
  row:w.ownsRow 0 199 35 (.slice Am mk.length cm) mk.length (kf jc mk)
  keys:∀m∈mk,kJ m.2
  len:mk.length≤1099511627776
theorem MidAt.keep{w w':World}{B a s:Nat}{S:kj}{q:kV}{i:List UInt8}{c:ks}{dv ov:Value}{Am:Option Addr}{cm:Nat}{mk:List zD}(h:MidAt w B a s S q i c dv ov Am cm mk)(hb:Below w.heap.size w w'):MidAt w' B a s S q i c dv ov Am cm mk:=
  ⟨h.st.keep hb,h.ad.keep hb,(But.of_below (X:=NoB) hb).own h.row fun _ _ q=>q,h.keys,h.len⟩
def RefIx(S:kj)(r:zy):Prop:=zz r∧(0≤r.2∧r.2≤1099511627776)∧(ZC S r.1).length≤1099511627776
def ElemGives(yes:Bool)(w:World)(e:Ending)(w':World):Prop:=Below w.heap.size w w'∧((yes=true∧e=.returned (.tuple #[]))∨(yes=false∧e=.panicked (QI 22)))
theorem ElemGives.yes{b:Bool}{w w':World}{e:Ending}(h:b=true)(hb:Below w.heap.size w w')(he:e=.returned (.tuple #[])):ElemGives b w e w':=⟨hb,.inl ⟨h,he⟩⟩
theorem ElemGives.no{b:Bool}{w w':World}{e:Ending}(h:b=false)(hb:Below w.heap.size w w')(he:e=.panicked (QI 22)):ElemGives b w e w':=⟨hb,.inr ⟨h,he⟩⟩
theorem made_cells{m:zD}(h:kJ m.2):(jc m)[0]?=some (.bool m.1)∧∀j u,(kc m.2)[j]?=some u→(jc m)[1+j]?=some u:=⟨rfl,fun j u A=>by rw[Nat.add_comm];exact A⟩
theorem what_key{S:kj}{mk:List zD}{r:zy}{more:Nat}{m:zD}{w:World}{B s:Nat}{q:kV}(h:StateAt w B s S q)(hk:∀m∈mk,kJ m.2)(hw:Jg S mk r more=some m):kJ m.2:=by
  unfold Jg at hw
  split at hw
  ·have A:=List.mem_of_getElem? hw;unfold vo at A
   split at A
   ·exact hk m A
   ·cases he:kC S r.1 with
    |none=>rw[he] at A;cases A
    |some e=>
     rw[he] at A;exact(h.entries _ _ he).2.keys m A
  ·cases hw
theorem ZV{w:World}{B s:Nat}{S:kj}{q:kV}{i:List UInt8}{t:Int}{r:zy}(h:StateAt w B s S q)(hi:jr i)(ht:(Lit.int .i64 t).wf=true)(hr:zz r):kJ (jg S i t r):=by
  unfold jg
  split
  ·exact⟨ht,hi,hr.2⟩
  ·refine⟨?_,hr.1,hr.2⟩;unfold za;cases he:kC S r.1 with
   |none=>exact(by decide:(Lit.int .i64 0).wf=true)
   |some e=>exact(h.entries _ _ he).2.time
theorem elem_any(B a s ba bo bd:Nat)(S:kj)(q:kV)(i:List UInt8)(c:ks)(dv ov:Value)(Am:Option Addr)(cm:Nat)(mk:List zD)(x:OpD)(more:Nat)(w:World)(h:MidAt w B a s S q i c dv ov Am cm mk)(hE:ElemAt w ba bo bd a x (jg S i c.1 x.2.1))(hx:KR x)(hk:kJ (jg S i c.1 x.2.1))(hr:RefIx S x.2.2.1)(hm:more≤1099511627776):
    Calls prog 98 #[.int .i64 (more:Int),.pointer (some ⟨ba,0,none⟩),.pointer (some ⟨bo,0,none⟩),.pointer (some ⟨bd,0,none⟩)] w (ElemGives (vg S i c.1 mk x more) w):=by
  have N:=hid h;have X:=hid hE;have O:=hid hk;have HX:=hid hx;have HR:=hid hr
  have c0:w.cell? ⟨ba,0,none⟩=some (.pointer (some ⟨a,0,none⟩)):=k6 hE.pa 0;have n:=kq hr.1;have Y:=hid (show w.rangeAt bo 34 (kw x.2.2.1) from fun j u b=>(k6 hE.po (34+j)).trans ((kB hx).2.2.1 j u b));have H:=hid (fun (u:World) (hu:MidAt u B a s S q i c dv ov Am cm mk)=>what_any B a s S q i c dv ov Am cm mk x.2.2.1 more u hu.st hu.ad hu.row hu.keys hr.1 hr.2.1 hm hu.len hr.2.2);clear h hE hk hx hr;go_enter func98,ntmps98;have f:∀(ρ:Operand→Value) (o:Oper) (y:Operand),o.op=.load 110 y→ρ y=.pointer (some ⟨bo,34,none⟩)→(execOp ρ o).run prog w=.ok (.value (.agg (kw x.2.2.1).toArray)) w:=fun ρ o y ho hx=>kg 110 _ ho hx (qV w bo 34 _ (kw x.2.2.1) _ Y underlying110 rfl (by rw[n];kernel_rfl))
  have I:=hid f;clear f;cases hw:Jg S mk x.2.2.1 more with
  |none=>
   have P:=hid hw;have C:Hid (vg S i c.1 mk x more=false):=hid (by unfold vg;rw[hw]);clear hw
   go_wp2_with (first
      |(with_reducible refine k8 ?_
        refine k7 yk (I _ _ _ rfl rfl) ?_)
      |(go_at_call 96;refine(H w N).mono ?_;rintro e W ⟨F,⟨m,G,_⟩|⟨_,rfl⟩⟩
        ·rw[P.out] at G;cases G
        have D:=hid F;clear F))
   exact⟨rfl,ElemGives.no C D rfl⟩
  |some m=>
   have A:=hid (what_key N.st N.keys hw);have g:=J4 A.out;have P:=hid hw;have C:Hid (vg S i c.1 mk x more=(!m.1 && decide (m.2=jg S i c.1 x.2.1))):=hid (by unfold vg;rw[hw]);clear hw
   go_upto_region 1 with (first
      |(with_reducible refine k8 ?_
        refine k7 yk (I _ _ _ rfl rfl) ?_)
      |(go_at_call 96;refine(H w N).mono ?_;rintro e W ⟨F,⟨M,G,rfl⟩|⟨G,_⟩⟩
        rotate_left
        ·rw[P.out] at G;cases G
        obtain rfl:M=m:=Option.some.inj (G.symm.trans P);have D:=hid F;clear F G)
      |(with_reducible refine kF ?_
        refine kv yk 199 rfl (jc (false,(0,k9,0))) (makeZ_run _) ?_;intro W6 J R Z)
      |(with_reducible refine kD ?_
        refine kr yk 199 _ _ rfl W.heap.size 0 [] (jc (false,(0,k9,0))) [] (jc M) 199 (.agg (jc M).toArray) rfl rfl rfl rfl (by simpa using R.out) (by rw[g];rfl) (by rw[g];kernel_rfl) (uC _) ?_;intro d p t A0;have T:=hid (p.below (B:=W.heap.size) J.size (fun k hk e=>by have e2:k=W.heap.size:=e;omega));have K:Hid (d.heap[W.heap.size]?=some (.cells (jc M).toArray 199 (0,0))):=hid (by simpa using t.out)))
   have E:Hid (Below w.heap.size w d):=hid (D.trans ((J.trans T).mono D.size));obtain⟨v,F⟩:=Xy W.heap.size;rw[F] at K ⊢;have z:d.cell? ⟨v,0,none⟩=some (.bool M.1):=k6 K.out 0;have U:=hid (show d.rangeAt v 1 (kc M.2) from fun j u b=>(k6 K (1+j)).trans ((made_cells A).2 j u b));have V:=hid (show d.rangeAt bd 0 (kc (jg S i c.1 x.2.1)) from fun j u b=>by rw[qZ];exact(k6 ((E.block bd (qX X.pd)).trans X.pd) j).trans b);generalize jg S i c.1 x.2.1=k at *;clear D J R Z T F I H;cases hd:M.1
   ·rw[hd] at z;have Q:=hid hd;clear hd;by_cases he:M.2=k
    ·have l:=hid (fun (u:World)=>(run_eqKey A O u).trans (by rw[dT he]));have L:=hid he;clear he
     go_wp2_with (first
        |(with_reducible refine k8 ?_
          refine k7 yk (ldK A U) ?_;go_frame)
        |(with_reducible refine k8 ?_
          refine k7 yk (ldK O V) ?_;go_frame)
        |(with_reducible refine kU ?_
          refine k7 yk (Kc 89 _ _ _ rfl (xs:=(kc M.2).toArray) (ys:=(kc k).toArray) rfl rfl (r:=true) eqKey.noGuard (l _)) ?_;go_frame;try simp only[nTF])
        |(go_at_call 51;refine(Z6 22 _).mono ?_;rintro e w9 ⟨rfl,rfl⟩))
     go_end0
     exact ElemGives.yes (by rw[C.out,Q.out,dT L.out];rfl) E.out rfl
    ·have l:=hid (fun (u:World)=>(run_eqKey A O u).trans (by rw[dF he]));have L:=hid he;clear he
     go_wp2_with (first
        |(with_reducible refine k8 ?_
          refine k7 yk (ldK A U) ?_;go_frame)
        |(with_reducible refine k8 ?_
          refine k7 yk (ldK O V) ?_;go_frame)
        |(with_reducible refine kU ?_
          refine k7 yk (Kc 89 _ _ _ rfl (xs:=(kc M.2).toArray) (ys:=(kc k).toArray) rfl rfl (r:=false) eqKey.noGuard (l _)) ?_;go_frame;try simp only[nTF])
        |(go_at_call 51;refine(Zk 22 _).mono ?_;rintro e w9 ⟨rfl,rfl⟩))
     exact⟨rfl,ElemGives.no (by rw[C.out,Q.out,dF L.out];rfl) E.out rfl⟩
   ·rw[hd] at z;have Q:=hid hd;clear hd
    go_wp2_with (first
       |(go_at_call 51;refine(Zk 22 _).mono ?_;rintro e w9 ⟨rfl,rfl⟩))
    exact⟨rfl,ElemGives.no (by rw[C.out,Q.out];rfl) E.out rfl⟩
def claimZ:List Value:=kT ((0,k9,0),(0,k9,0),0,noneS)
theorem Up:(prog.info? 135).map (fun i=>(i.zero,i.size,i.bytes))=some (some (.agg claimZ.toArray),70,120):=yq
theorem Q7{P:Program}{ρ:Operand→Value}{o:Oper}{w:World}(t:TypeId)(x:Operand)(ho:o.op=.buildSlice t 1 #[(0,x)])(e:TypeId)(ht:P.underlying t=some (.slice e))(z:Value)(size bytes:Nat)(hinf:(P.info? e).map (fun i=>(i.zero,i.size,i.bytes))=some (some z,size,bytes))(hz1:z.cells.size=size)(hsz:0<size)(hmax:size≤16777216)
    (us:List Value) (hl:us.length=size) (hx:ρ x=.agg us.toArray):(execOp ρ o).run P w=.ok (.value (.slice (some ⟨w.heap.size,0,none⟩) 1 1)) (w.alloc (.cells us.toArray e)):=by
  have A:=Kv w t e ht z size bytes hinf hz1 hsz [.agg us.toArray] (fun v B=>by rw[xZ.1 B];exact hl) yZ (by simpa using hmax);simp only[List.flatMap_cons,List.flatMap_nil,List.append_nil,Value.cells] at A;have C:(Instr.buildSlice t 1 #[(0,.agg us.toArray)]).run P w=.ok (.slice (some ⟨w.heap.size,0,none⟩) 1 1) (w.alloc (.cells us.toArray e)):=A;unfold execOp;simp only[ho,xV,xX,Yy,hx,Sem.run_bind,C,Result.andThen_ok,Sem.run_pure]
theorem claim_any(B s:Nat)(S:kj)(q:kV)(c:kN)(w:World)(h:StateAt w B s S q)(hc:Kx c)(hl:S.2.1.length≤1073741824):
    Calls prog 100 #[.pointer (some ⟨s,0,none⟩),.agg (kT c).toArray] w fun e w'=>e=.returned (.tuple #[])∧But (fun j=>j=s∨q.vc.ownBlock=some j) w w'∧∃v',StateAt w' B s (S.1,S.2.1++[c],S.2.2) { q with vc:=v'}∧Newer w q.vc v':=by
  have N:=hid h;have o:=hid hc
  have M:=j6 hc;clear h hc;go_enter func100,ntmps100
  go_upto_region 1 with (first
    |(with_reducible refine kG ?_
      refine kz yk 135 _ rfl (kT c) _ rfl rfl (by rw[M];kernel_rfl) ?_;intro G F C A2))
  obtain⟨H,a⟩:=Xy w.heap.size;rw[a] at C ⊢;have O:=hid (show q.vc.ownBlock≠some H from fun e=>by
    have h1:=(N.claims.lt H e).2;omega)
  clear a;have A:=hid (N.keep F);have P:=hid (show B≤G.heap.size from qT A.low.1 (YV (qX A.box)));have I:=hid A.sep.2.2.1;have Q:Hid (∀u:World,Below G.heap.size G u→(fun u=>u.cell? ⟨s,1,none⟩=some q.vc∧u.rangeAt H 0 (kT c)) u):=hid fun u Y=>
    ⟨(Y.cell (p:=⟨s,1,none⟩) (qX A.box)).trans (k6 A.box 1),fun j v r=>by rw[qZ];exact(Y.cell (p:=⟨H,j,none⟩) (qX C)).trans ((k6 C j).trans r)⟩
  refine rN 10 (fun u=>u.cell? ⟨s,1,none⟩=some q.vc∧u.rangeAt H 0 (kT c)) (Q _ (qD _ _)) fun b=>?_
  refine tw 0 _ ?_;go_frame;refine tw 1 _ ?_;go_frame;refine tw 2 _ ?_;go_frame;refine tw 3 _ ?_;go_frame;refine tl 4 _ rfl b (fun w' V=>l1 underlying82 V.1) ?_;go_frame;refine tl 5 (.agg (kT c).toArray) rfl b (fun w' V=>kg 135 _ rfl (p:=⟨H,0,none⟩) rfl (qV w' H 0 _ (kT c) _ V.2 underlying135 rfl (by rw[M];kernel_rfl))) ?_;go_frame;refine ta 6 ?_;refine zP _ rfl yq (Q7 82 _ rfl 135 underlying82 (.agg claimZ.toArray) 70 120 Up rfl yj yj (kT c) M rfl) ?_;have D:=hid ((qD G.heap.size G).alloc (qR _) (.cells (kT c).toArray 135));refine⟨fun _ _=>Q _ D,?_⟩;go_frame;refine ta 7 ?_;refine Jy _ rfl yq ?_;refine uV _ _ 82 rfl B 135 (.agg claimZ.toArray) 70 120 underlying82 Up rfl yj q.vc S.2.1.length (kf kT S.2.1) rfl ((But.of_below (X:=NoB) D).own A.claims fun _ _ q=>q) ⟨G.drew.heap.size,0,none⟩ 1 1 (kT c) rfl (by rw[M]) (J3 G.drew _ _) (JW _) yY yv (by have:=P.out;have:=D.size;omega) ?_;intro v9 w9 W d f;have E:Hid (But (fun j=>q.vc.ownBlock=some j) G w9):=hid ((But.of_below D).grown d fun k e _=>e);have R:Hid ((fun u=>u.cell? ⟨s,1,none⟩=some q.vc∧u.rangeAt H 0 (kT c)) w9):=hid ⟨(E.cell (g:=s) (j:=1) (qX A.box) I).trans (k6 A.box 1),fun j v r=>by rw[qZ];exact(E.cell (g:=H) (j:=j) (qX C) O).trans ((k6 C j).trans r)⟩;have J:=hid W;have K:=hid ((E.block s (qX A.box) I).trans A.box);have T:Hid (Newer w q.vc v9):=hid fun k Z=>by
    rcases f with e|⟨g,e,hz⟩
    ·left
     rw[←e];exact Z
    ·right
     rw[e] at Z;have t:g=k:=by simpa using Z
     subst t;have h1:=D.size;have h2:=F.size;omega
  obtain⟨x,y,rfl⟩:=kX W;clear W d f;refine⟨fun _ _=>R,?_⟩;go_frame;refine tw 8 _ ?_;go_frame;refine tw 9 _ ?_;go_frame;refine ta 10 ?_;refine kR _ rfl yq 82 _ _ rfl s 1 [.map (some q.bd)] [q.vc] [.map (some q.bc)] [.slice x (S.2.1.length+1) y] 87 (.slice x (S.2.1.length+1) y) rfl rfl rfl rfl K.out rfl yq (by intro u Y;rw[xZ.1 Y];rfl) ?_;intro W2 l m A0;have L:=hid l;have U:=hid m
  clear l m A0;refine⟨fun h=>absurd h yj,?_⟩;go_frame;refine ku yq ?_ _;go_wp2_with fail
  go_end0
  have n:But (fun j=>j=s∨q.vc.ownBlock=some j) G W2:=(E.weak fun i _ h=>.inr h).trans L.out fun k Z e=>.inl e
  have A1:W2.ownsRow B 135 70 (.slice x (S.2.1.length+1) y) (S.2.1.length+1) (kf kT S.2.1++kT c):=L.own J.out fun g hg e=>by
    obtain⟨A3,z⟩:=kH J.out hg;have t:g=s:=e;subst t;exact ji z K.out yj rfl
  exact⟨rfl,(But.of_below F).trans n (fun i hi h=>h),_,A.putClaim o A1 U n,T⟩
theorem Je{w:World}{b b':Nat}{e:TypeId}{sz n:Nat}{v:Value}{xs:List Value}(h:w.ownsRow b e sz v n xs)(hb:b'≤b):w.ownsRow b' e sz v n xs:=by
  refine⟨h.1,?_⟩;rcases h.2 with D|⟨g,A,B,E,C,r⟩
  ·exact .inl D
  ·exact .inr ⟨g,A,B,E,Nat.le_trans hb C,r⟩
def PRunes(s:ByteArray)(w:World)(e:Ending)(w':World):Prop:=
  Below w.heap.size w w'∧((∃l A c,jH s=some l∧e=.returned (.tuple #[.slice A l.length c,.int .i64 0,.int .i64 0])∧w'.ownsRow w.heap.size 21 1 (.slice A l.length c) l.length (Qv l))∨
    jH s=none∧∃n:Int,e=.returned (.tuple #[.slice none 0 0,.int .i64 n,.int .i64 5]))
theorem Q8(s:ByteArray)(w:World)(hs:s.size≤1099511627776):Calls prog 155 #[.string s] w (PRunes s w):=by
  have Z:s.size≤maxLen:=by unfold maxLen;omega
  rcases Yk (KE s) with I|I
  ·have E:Hid (∀u:World,Calls prog 198 #[.string s] u fun e w'=>u=w'∧e=.returned (.tuple #[.int .i64 0,.int .i64 0])):=hid (fun u=>(UM s u Z).mono fun e w' ⟨Y,X⟩=>by
     rcases X with⟨_,h⟩|⟨h,_⟩
     ·exact⟨Y,h⟩
     ·rw[I] at h;cases h)
   have L:=hid (show okFrom s 0 from I);obtain⟨Q,a⟩:=Xy w.heap.size;have C:=hid a;clear I a;go_enter func155,ntmps155
   go_upto_region 6 with (first
     |(go_at_call 198;refine(E.out _).mono ?_;rintro e u ⟨rfl,rfl⟩))
   go_loopw [7] (fun t7 wr=>∃(B:Nat) (l:List Nat),B≤s.size∧l.length≤B∧Hid (wr.ownsRow (w.heap.size+1) 21 1 t7 l.length (Qv l))∧Hid (wr.heap[Q]?=some (.stringIter s B))∧Hid (okFrom s B)∧Hid (jH s=(jM s B).map (l++ ·))∧Hid (Below w.heap.size w wr)) (fun _ wr=>s.size - wr.iterPos Q)
   case atStart=>
     exact⟨0,[],by omega,by simp,hid (World.ownsRow_nil _ _ _ _),hid (by rw[←C.out];simpa using World.iter_heap w s 0),L,hid (by rw[uN];simp),hid ((qB _ _).alloc (qR _) _)⟩
   case round=>
     obtain⟨B,l,k,r,F,D,T,U,K⟩:=hrel;by_cases hlt:B<s.size
     ·have g:∀J,(Instr.next (.pointer (some ⟨w.heap.size,0,none⟩)) true J).run prog wr=_:=fun J=>(congrArg (fun z=>(Instr.next (.pointer (some ⟨z,0,none⟩)) true J).run prog wr) C.out).trans (Lib.run_next_any_at wr Q s B J D.out hlt)
      have p:=vz hlt;obtain⟨i,b⟩:=T.at_ hlt;have d:=hid i;have M:=hid b;have q:=decode_le s B;have G:=hid (Lib.iterAt_heap wr Q s B (B+(Utf8.decode s B).2) D.out);have N:=hid (Lib.below_iterAt K.out (by rw[C.out];exact qR _) s (B+(Utf8.decode s B).2));have O:=hid (qP F.out D.out (B+(Utf8.decode s B).2));clear i b;generalize hW2:wr.iterAt Q s (B+(Utf8.decode s B).2)=W2 at *;clear hW2
      go_wp2_with (at_builtin;refine Jt rfl _ _ 175 rfl (w.heap.size+1) 21 (.int .i32 0) 4 underlying175 info_i32 rfl _ _ _ rfl O.out _ _ rfl rfl ?c1 ?c2 ?c3 ?_)
      case c1=>unfold maxLen;omega
      case c2=>omega
      case c3=>have Y:=qX G.out;have X:=C.out;omega
      intro m o S R;have V:=hid (R _ _ (Nat.le_succ _) N.out);have H:=hid (((R _ _ (qR _) (qB (w.heap.size+1) W2)).block Q (by have X:=C.out;omega)).trans G.out);have P:Hid (o.ownsRow (w.heap.size+1) 21 1 m (l++[(Utf8.decode s B).1]).length (Qv (l++[(Utf8.decode s B).1]))):=hid (by simpa [Qv] using S);have W:Hid (jH s=(jM s (B+(Utf8.decode s B).2)).map ((l++[(Utf8.decode s B).1])++ ·)):=hid (by
        rw[U.out,Jo hlt d.out];cases jM s (B+(Utf8.decode s B).2)<;>simp)
      clear S R;go_wp2_with fail
      go_roundw
      case rel=>exact⟨B+(Utf8.decode s B).2,l++[(Utf8.decode s B).1],by omega,by simp;omega,P,H,M,W,V⟩
      case measure=>
        simp only[World.iterPos,H.out,D.out];omega
     ·have g:∀J,(Instr.next (.pointer (some ⟨w.heap.size,0,none⟩)) true J).run prog wr=_:=fun J=>(congrArg (fun z=>(Instr.next (.pointer (some ⟨z,0,none⟩)) true J).run prog wr) C.out).trans (Lib.run_next_end_at wr Q s B J D.out hlt)
      go_wp2_with fail;go_ret3;obtain⟨A,c,j⟩:=kX F.out;refine⟨K.out,.inl ⟨l,A,c,by rw[U.out,Jn yv];simp,?_,?_⟩⟩
      ·rw[←j];rfl
      ·rw[←j];exact Je F.out (Nat.le_succ _)
  ·have E:Hid (∀u:World,Calls prog 198 #[.string s] u fun e w'=>u=w'∧∃n:Int,e=.returned (.tuple #[.int .i64 n,.int .i64 5])):=hid (fun u=>(UM s u Z).mono fun e w' ⟨Y,X⟩=>by
     rcases X with⟨h,_⟩|⟨_,h⟩
     ·rw[I] at h;cases h
     ·exact⟨Y,h⟩)
   have f:Hid (jH s=none):=hid (by unfold KE at I;cases hq:jH s with|none=>rfl|some l=>rw[hq] at I;cases I);clear I;go_enter func155,ntmps155
   go_wp2_with (first
     |(go_at_call 198;refine(E.out _).mono ?_;rintro e u ⟨rfl,n,rfl⟩))
   go_ret3;exact⟨qB _ _,.inr ⟨f.out,n,rfl⟩⟩
theorem jE(p:ByteArray):p.toList.isEmpty=decide (p=noneS):=by
  rw[JJ,Bool.eq_iff_iff,decide_eq_true_eq,List.isEmpty_iff];constructor
  ·intro h;exact L_inj (h.trans rfl)
  ·rintro rfl;rfl
theorem absent_1(k:UInt8)(d r:zy)(t:ByteArray)(n:Int)(q:ByteArray)(w:World)(hx:KR (k,d,r,t,n,q)):
    Calls prog 249 #[.agg (opV (k,d,r,t,n,q)).toArray,vi (true,true,true,false,false)] w fun e w'=>Below w.heap.size w w'∧e=.returned (.bool (kO (k,d,r,t,n,q) (true,true,true,false,false))):=by
  have F:=hid hx;clear hx;go_enter func249,ntmps249
  go_upto_region 1 with (first
    |(with_reducible refine kG ?_
      refine kz yk 112 _ rfl (opV (k,d,r,t,n,q)) _ rfl rfl (by rw[kI F.out];exact Ky) ?_;intro I A G M)
    |(with_reducible refine kG ?_
      refine kz yk 320 _ rfl (JD (true,true,true,false,false)) _ rfl rfl KT ?_;intro H C B N))
  have J:w.heap.size<I.heap.size:=(qX G);have D:=hid ((C.block w.heap.size J).trans G);have O:H.cell? ⟨I.heap.size,0,none⟩=some (.bool true):=k6 B.out 0;have P:H.cell? ⟨I.heap.size,1,none⟩=some (.bool true):=k6 B.out 1;have Q:H.cell? ⟨I.heap.size,2,none⟩=some (.bool true):=k6 B.out 2;have R:H.cell? ⟨I.heap.size,3,none⟩=some (.bool false):=k6 B.out 3;have S:H.cell? ⟨I.heap.size,4,none⟩=some (.bool false):=k6 B.out 4;have T:H.cell? ⟨w.heap.size,67,none⟩=some (.string t):=(k6 D 67).trans (kB F).2.2.2.1;have U:H.cell? ⟨w.heap.size,68,none⟩=some (.int .i64 n):=(k6 D 68).trans (kB F).2.2.2.2.1;have V:H.cell? ⟨w.heap.size,69,none⟩=some (.string q):=(k6 D 69).trans (kB F).2.2.2.2.2;clear J;by_cases h4:n=0
  ·by_cases h5:q=noneS
   ·have K:(n == 0)=true:=by rw[h4];rfl
    have L:q.toList.isEmpty=true:=by rw[jE];exact dT h5
    have E:Hid (kO (k,d,r,t,n,q) (true,true,true,false,false)=true):=hid (by unfold kO;simp [h4,h5]);clear h4 h5;go_wp2_with fail;go_ret;exact⟨A.trans (C.mono (by have:=A.size;omega)),by rw[E.out];rfl⟩
   ·have K:(n == 0)=true:=by rw[h4];rfl
    have L:q.toList.isEmpty=false:=by rw[jE];exact dF h5
    have E:Hid (kO (k,d,r,t,n,q) (true,true,true,false,false)=false):=hid (by unfold kO;simp [h4,h5]);clear h4 h5;go_wp2_with fail;go_ret;exact⟨A.trans (C.mono (by have:=A.size;omega)),by rw[E.out];rfl⟩
  ·have K:(n == 0)=false:=by rw[beq_eq_false_iff_ne];exact h4
   have E:Hid (kO (k,d,r,t,n,q) (true,true,true,false,false)=false):=hid (by unfold kO;simp [h4]);clear h4;go_wp2_with fail;go_ret;exact⟨A.trans (C.mono (by have:=A.size;omega)),by rw[E.out];rfl⟩
theorem absent_2(k:UInt8)(d r:zy)(t:ByteArray)(n:Int)(q:ByteArray)(w:World)(hx:KR (k,d,r,t,n,q)):
    Calls prog 249 #[.agg (opV (k,d,r,t,n,q)).toArray,vi (true,true,false,true,false)] w fun e w'=>Below w.heap.size w w'∧e=.returned (.bool (kO (k,d,r,t,n,q) (true,true,false,true,false))):=by
  have F:=hid hx;clear hx;go_enter func249,ntmps249
  go_upto_region 1 with (first
    |(with_reducible refine kG ?_
      refine kz yk 112 _ rfl (opV (k,d,r,t,n,q)) _ rfl rfl (by rw[kI F.out];exact Ky) ?_;intro I A G M)
    |(with_reducible refine kG ?_
      refine kz yk 320 _ rfl (JD (true,true,false,true,false)) _ rfl rfl KT ?_;intro H C B N))
  have J:w.heap.size<I.heap.size:=(qX G);have D:=hid ((C.block w.heap.size J).trans G);have O:H.cell? ⟨I.heap.size,0,none⟩=some (.bool true):=k6 B.out 0;have P:H.cell? ⟨I.heap.size,1,none⟩=some (.bool true):=k6 B.out 1;have Q:H.cell? ⟨I.heap.size,2,none⟩=some (.bool false):=k6 B.out 2;have R:H.cell? ⟨I.heap.size,3,none⟩=some (.bool true):=k6 B.out 3;have S:H.cell? ⟨I.heap.size,4,none⟩=some (.bool false):=k6 B.out 4;have T:H.cell? ⟨w.heap.size,67,none⟩=some (.string t):=(k6 D 67).trans (kB F).2.2.2.1;have U:H.cell? ⟨w.heap.size,68,none⟩=some (.int .i64 n):=(k6 D 68).trans (kB F).2.2.2.2.1;have V:H.cell? ⟨w.heap.size,69,none⟩=some (.string q):=(k6 D 69).trans (kB F).2.2.2.2.2;clear J;by_cases h3:t=noneS
  ·have K:t.toList.isEmpty=true:=by rw[jE];exact dT h3
   by_cases h5:q=noneS
   ·have L:q.toList.isEmpty=true:=by rw[jE];exact dT h5
    have E:Hid (kO (k,d,r,t,n,q) (true,true,false,true,false)=true):=hid (by unfold kO;simp [h3,h5]);clear h3 h5;go_wp2_with fail;go_ret;exact⟨A.trans (C.mono (by have:=A.size;omega)),by rw[E.out];rfl⟩
   ·have L:q.toList.isEmpty=false:=by rw[jE];exact dF h5
    have E:Hid (kO (k,d,r,t,n,q) (true,true,false,true,false)=false):=hid (by unfold kO;simp [h3,h5]);clear h3 h5;go_wp2_with fail;go_ret;exact⟨A.trans (C.mono (by have:=A.size;omega)),by rw[E.out];rfl⟩
  ·have K:t.toList.isEmpty=false:=by rw[jE];exact dF h3
   have E:Hid (kO (k,d,r,t,n,q) (true,true,false,true,false)=false):=hid (by unfold kO;simp [h3]);clear h3;go_wp2_with fail;go_ret;exact⟨A.trans (C.mono (by have:=A.size;omega)),by rw[E.out];rfl⟩
theorem absent_3(k:UInt8)(d r:zy)(t:ByteArray)(n:Int)(q:ByteArray)(w:World)(hx:KR (k,d,r,t,n,q)):
    Calls prog 249 #[.agg (opV (k,d,r,t,n,q)).toArray,vi (false,false,false,false,true)] w fun e w'=>Below w.heap.size w w'∧e=.returned (.bool (kO (k,d,r,t,n,q) (false,false,false,false,true))):=by
  have A:=hid hx;clear hx;go_enter func249,ntmps249
  go_upto_region 1 with (first
    |(with_reducible refine kG ?_
      refine kz yk 112 _ rfl (opV (k,d,r,t,n,q)) _ rfl rfl (by rw[kI A.out];exact Ky) ?_;intro L C H P)
    |(with_reducible refine kG ?_
      refine kz yk 320 _ rfl (JD (false,false,false,false,true)) _ rfl rfl KT ?_;intro I D E Q))
  have M:w.heap.size<L.heap.size:=(qX H);have B:=hid ((D.block w.heap.size M).trans H);have R:I.cell? ⟨L.heap.size,0,none⟩=some (.bool false):=k6 E.out 0;have S:I.cell? ⟨L.heap.size,1,none⟩=some (.bool false):=k6 E.out 1;have T:I.cell? ⟨L.heap.size,2,none⟩=some (.bool false):=k6 E.out 2;have U:I.cell? ⟨L.heap.size,3,none⟩=some (.bool false):=k6 E.out 3;have V:I.cell? ⟨L.heap.size,4,none⟩=some (.bool true):=k6 E.out 4;have W:I.cell? ⟨w.heap.size,67,none⟩=some (.string t):=(k6 B 67).trans (kB A).2.2.2.1;have X:I.cell? ⟨w.heap.size,68,none⟩=some (.int .i64 n):=(k6 B 68).trans (kB A).2.2.2.2.1;have Y:I.cell? ⟨w.heap.size,69,none⟩=some (.string q):=(k6 B 69).trans (kB A).2.2.2.2.2;clear M;by_cases h1:d=ko
  ·have J:=hid (fun (u:World)=>(jU A.1.1 jd u).trans (by rw[dT h1]));by_cases h2:r=ko
   ·have K:=hid (fun (u:World)=>(jU A.1.2.1 jd u).trans (by rw[dT h2]));by_cases h3:t=noneS
    ·have N:t.toList.isEmpty=true:=by rw[jE];exact dT h3
     by_cases h4:n=0
     focus
       have O:(n == 0)=true:=by rw[h4];rfl
       have F:Hid (kO (k,d,r,t,n,q) (false,false,false,false,true)=true):=hid (by unfold kO;simp [h1,h2,h3,h4])
     rotate_left
     focus
       have O:(n == 0)=false:=by rw[beq_eq_false_iff_ne];exact h4
       have F:Hid (kO (k,d,r,t,n,q) (false,false,false,false,true)=false):=hid (by unfold kO;simp [h1,h2,h3,h4])
     all_goals
       clear h1 h2 h3 h4
       go_wp2_with (first
         |(with_reducible refine k8 ?_
           refine k7 yk (ldR (b:=w.heap.size) (f:=1) (r:=d) A.1.1 (fun j u G=>(k6 B (1+j)).trans ((kB A).2.1 j u G))) ?_)
         |(with_reducible refine kU ?_
           refine k7 yk (Kc 110 _ _ _ rfl (xs:=(kw d).toArray) (ys:=(kw ko).toArray) rfl rfl (r:=true) eqRef.noGuard (J _)) ?_)
         |(with_reducible refine k8 ?_
           refine k7 yk (ldR (b:=w.heap.size) (f:=34) (r:=r) A.1.2.1 (fun j u G=>(k6 B (34+j)).trans ((kB A).2.2.1 j u G))) ?_)
         |(with_reducible refine kU ?_
           refine k7 yk (Kc 110 _ _ _ rfl (xs:=(kw r).toArray) (ys:=(kw ko).toArray) rfl rfl (r:=true) eqRef.noGuard (K _)) ?_)
         |(with_reducible refine kL ?_
           refine k7 yk (kp 110 #[] rfl (zf _)) ?_))
       go_ret;exact⟨C.trans (D.mono (by have:=C.size;omega)),by rw[F.out];rfl⟩
    ·have N:t.toList.isEmpty=false:=by rw[jE];exact dF h3
     have F:Hid (kO (k,d,r,t,n,q) (false,false,false,false,true)=false):=hid (by unfold kO;simp [h1,h2,h3]);clear h1 h2 h3
     go_wp2_with (first
       |(with_reducible refine k8 ?_
         refine k7 yk (ldR (b:=w.heap.size) (f:=1) (r:=d) A.1.1 (fun j u G=>(k6 B (1+j)).trans ((kB A).2.1 j u G))) ?_)
       |(with_reducible refine kU ?_
         refine k7 yk (Kc 110 _ _ _ rfl (xs:=(kw d).toArray) (ys:=(kw ko).toArray) rfl rfl (r:=true) eqRef.noGuard (J _)) ?_)
       |(with_reducible refine k8 ?_
         refine k7 yk (ldR (b:=w.heap.size) (f:=34) (r:=r) A.1.2.1 (fun j u G=>(k6 B (34+j)).trans ((kB A).2.2.1 j u G))) ?_)
       |(with_reducible refine kU ?_
         refine k7 yk (Kc 110 _ _ _ rfl (xs:=(kw r).toArray) (ys:=(kw ko).toArray) rfl rfl (r:=true) eqRef.noGuard (K _)) ?_)
       |(with_reducible refine kL ?_
         refine k7 yk (kp 110 #[] rfl (zf _)) ?_))
     go_ret;exact⟨C.trans (D.mono (by have:=C.size;omega)),by rw[F.out];rfl⟩
   ·have K:=hid (fun (u:World)=>(jU A.1.2.1 jd u).trans (by rw[dF h2]));have F:Hid (kO (k,d,r,t,n,q) (false,false,false,false,true)=false):=hid (by unfold kO;simp [h1,h2]);clear h1 h2
    go_wp2_with (first
      |(with_reducible refine k8 ?_
        refine k7 yk (ldR (b:=w.heap.size) (f:=1) (r:=d) A.1.1 (fun j u G=>(k6 B (1+j)).trans ((kB A).2.1 j u G))) ?_)
      |(with_reducible refine kU ?_
        refine k7 yk (Kc 110 _ _ _ rfl (xs:=(kw d).toArray) (ys:=(kw ko).toArray) rfl rfl (r:=true) eqRef.noGuard (J _)) ?_)
      |(with_reducible refine k8 ?_
        refine k7 yk (ldR (b:=w.heap.size) (f:=34) (r:=r) A.1.2.1 (fun j u G=>(k6 B (34+j)).trans ((kB A).2.2.1 j u G))) ?_)
      |(with_reducible refine kU ?_
        refine k7 yk (Kc 110 _ _ _ rfl (xs:=(kw r).toArray) (ys:=(kw ko).toArray) rfl rfl (r:=false) eqRef.noGuard (K _)) ?_)
      |(with_reducible refine kL ?_
        refine k7 yk (kp 110 #[] rfl (zf _)) ?_))
    go_ret;exact⟨C.trans (D.mono (by have:=C.size;omega)),by rw[F.out];rfl⟩
  ·have J:=hid (fun (u:World)=>(jU A.1.1 jd u).trans (by rw[dF h1]));have F:Hid (kO (k,d,r,t,n,q) (false,false,false,false,true)=false):=hid (by unfold kO;simp [h1]);clear h1
   go_wp2_with (first
     |(with_reducible refine k8 ?_
       refine k7 yk (ldR (b:=w.heap.size) (f:=1) (r:=d) A.1.1 (fun j u G=>(k6 B (1+j)).trans ((kB A).2.1 j u G))) ?_)
     |(with_reducible refine kU ?_
       refine k7 yk (Kc 110 _ _ _ rfl (xs:=(kw d).toArray) (ys:=(kw ko).toArray) rfl rfl (r:=false) eqRef.noGuard (J _)) ?_)
     |(with_reducible refine kL ?_
       refine k7 yk (kp 110 #[] rfl (zf _)) ?_))
   go_ret;exact⟨C.trans (D.mono (by have:=C.size;omega)),by rw[F.out];rfl⟩
theorem absent_4(k:UInt8)(d r:zy)(t:ByteArray)(n:Int)(q:ByteArray)(w:World)(hx:KR (k,d,r,t,n,q)):
    Calls prog 249 #[.agg (opV (k,d,r,t,n,q)).toArray,vi (true,false,false,false,true)] w fun e w'=>Below w.heap.size w w'∧e=.returned (.bool (kO (k,d,r,t,n,q) (true,false,false,false,true))):=by
  have A:=hid hx;clear hx;go_enter func249,ntmps249
  go_upto_region 1 with (first
    |(with_reducible refine kG ?_
      refine kz yk 112 _ rfl (opV (k,d,r,t,n,q)) _ rfl rfl (by rw[kI A.out];exact Ky) ?_;intro J B G O)
    |(with_reducible refine kG ?_
      refine kz yk 320 _ rfl (JD (true,false,false,false,true)) _ rfl rfl KT ?_;intro H E D P))
  have L:w.heap.size<J.heap.size:=(qX G);have C:=hid ((E.block w.heap.size L).trans G);have Q:H.cell? ⟨J.heap.size,0,none⟩=some (.bool true):=k6 D.out 0;have R:H.cell? ⟨J.heap.size,1,none⟩=some (.bool false):=k6 D.out 1;have S:H.cell? ⟨J.heap.size,2,none⟩=some (.bool false):=k6 D.out 2;have T:H.cell? ⟨J.heap.size,3,none⟩=some (.bool false):=k6 D.out 3;have U:H.cell? ⟨J.heap.size,4,none⟩=some (.bool true):=k6 D.out 4;have V:H.cell? ⟨w.heap.size,67,none⟩=some (.string t):=(k6 C 67).trans (kB A).2.2.2.1;have W:H.cell? ⟨w.heap.size,68,none⟩=some (.int .i64 n):=(k6 C 68).trans (kB A).2.2.2.2.1;have X:H.cell? ⟨w.heap.size,69,none⟩=some (.string q):=(k6 C 69).trans (kB A).2.2.2.2.2;clear L;by_cases h2:r=ko
  ·have I:=hid (fun (u:World)=>(jU A.1.2.1 jd u).trans (by rw[dT h2]));by_cases h3:t=noneS
   ·have M:t.toList.isEmpty=true:=by rw[jE];exact dT h3
    by_cases h4:n=0
    focus
      have N:(n == 0)=true:=by rw[h4];rfl
      have F:Hid (kO (k,d,r,t,n,q) (true,false,false,false,true)=true):=hid (by unfold kO;simp [h2,h3,h4])
    rotate_left
    focus
      have N:(n == 0)=false:=by rw[beq_eq_false_iff_ne];exact h4
      have F:Hid (kO (k,d,r,t,n,q) (true,false,false,false,true)=false):=hid (by unfold kO;simp [h2,h3,h4])
    all_goals
      clear h2 h3 h4
      go_wp2_with (first
        |(with_reducible refine k8 ?_
          refine k7 yk (ldR (b:=w.heap.size) (f:=34) (r:=r) A.1.2.1 (fun j u K=>(k6 C (34+j)).trans ((kB A).2.2.1 j u K))) ?_)
        |(with_reducible refine kU ?_
          refine k7 yk (Kc 110 _ _ _ rfl (xs:=(kw r).toArray) (ys:=(kw ko).toArray) rfl rfl (r:=true) eqRef.noGuard (I _)) ?_)
        |(with_reducible refine kL ?_
          refine k7 yk (kp 110 #[] rfl (zf _)) ?_))
      go_ret;exact⟨B.trans (E.mono (by have:=B.size;omega)),by rw[F.out];rfl⟩
   ·have M:t.toList.isEmpty=false:=by rw[jE];exact dF h3
    have F:Hid (kO (k,d,r,t,n,q) (true,false,false,false,true)=false):=hid (by unfold kO;simp [h2,h3]);clear h2 h3
    go_wp2_with (first
      |(with_reducible refine k8 ?_
        refine k7 yk (ldR (b:=w.heap.size) (f:=34) (r:=r) A.1.2.1 (fun j u K=>(k6 C (34+j)).trans ((kB A).2.2.1 j u K))) ?_)
      |(with_reducible refine kU ?_
        refine k7 yk (Kc 110 _ _ _ rfl (xs:=(kw r).toArray) (ys:=(kw ko).toArray) rfl rfl (r:=true) eqRef.noGuard (I _)) ?_)
      |(with_reducible refine kL ?_
        refine k7 yk (kp 110 #[] rfl (zf _)) ?_))
    go_ret;exact⟨B.trans (E.mono (by have:=B.size;omega)),by rw[F.out];rfl⟩
  ·have I:=hid (fun (u:World)=>(jU A.1.2.1 jd u).trans (by rw[dF h2]));have F:Hid (kO (k,d,r,t,n,q) (true,false,false,false,true)=false):=hid (by unfold kO;simp [h2]);clear h2
   go_wp2_with (first
     |(with_reducible refine k8 ?_
       refine k7 yk (ldR (b:=w.heap.size) (f:=34) (r:=r) A.1.2.1 (fun j u K=>(k6 C (34+j)).trans ((kB A).2.2.1 j u K))) ?_)
     |(with_reducible refine kU ?_
       refine k7 yk (Kc 110 _ _ _ rfl (xs:=(kw r).toArray) (ys:=(kw ko).toArray) rfl rfl (r:=false) eqRef.noGuard (I _)) ?_)
     |(with_reducible refine kL ?_
       refine k7 yk (kp 110 #[] rfl (zf _)) ?_))
   go_ret;exact⟨B.trans (E.mono (by have:=B.size;omega)),by rw[F.out];rfl⟩
theorem absent_5(k:UInt8)(d r:zy)(t:ByteArray)(n:Int)(q:ByteArray)(w:World)(hx:KR (k,d,r,t,n,q)):
    Calls prog 249 #[.agg (opV (k,d,r,t,n,q)).toArray,vi (true,false,false,false,false)] w fun e w'=>Below w.heap.size w w'∧e=.returned (.bool (kO (k,d,r,t,n,q) (true,false,false,false,false))):=by
  have A:=hid hx;clear hx;go_enter func249,ntmps249
  go_upto_region 1 with (first
    |(with_reducible refine kG ?_
      refine kz yk 112 _ rfl (opV (k,d,r,t,n,q)) _ rfl rfl (by rw[kI A.out];exact Ky) ?_;intro K B G P)
    |(with_reducible refine kG ?_
      refine kz yk 320 _ rfl (JD (true,false,false,false,false)) _ rfl rfl KT ?_;intro H D E Q))
  have L:w.heap.size<K.heap.size:=(qX G);have C:=hid ((D.block w.heap.size L).trans G);have R:H.cell? ⟨K.heap.size,0,none⟩=some (.bool true):=k6 E.out 0;have S:H.cell? ⟨K.heap.size,1,none⟩=some (.bool false):=k6 E.out 1;have T:H.cell? ⟨K.heap.size,2,none⟩=some (.bool false):=k6 E.out 2;have U:H.cell? ⟨K.heap.size,3,none⟩=some (.bool false):=k6 E.out 3;have V:H.cell? ⟨K.heap.size,4,none⟩=some (.bool false):=k6 E.out 4;have W:H.cell? ⟨w.heap.size,67,none⟩=some (.string t):=(k6 C 67).trans (kB A).2.2.2.1;have X:H.cell? ⟨w.heap.size,68,none⟩=some (.int .i64 n):=(k6 C 68).trans (kB A).2.2.2.2.1;have Y:H.cell? ⟨w.heap.size,69,none⟩=some (.string q):=(k6 C 69).trans (kB A).2.2.2.2.2;clear L;by_cases h2:r=ko
  ·have I:=hid (fun (u:World)=>(jU A.1.2.1 jd u).trans (by rw[dT h2]));by_cases h3:t=noneS
   ·have M:t.toList.isEmpty=true:=by rw[jE];exact dT h3
    by_cases h4:n=0
    ·have N:(n == 0)=true:=by rw[h4];rfl
     by_cases h5:q=noneS
     focus
       have O:q.toList.isEmpty=true:=by rw[jE];exact dT h5
       have F:Hid (kO (k,d,r,t,n,q) (true,false,false,false,false)=true):=hid (by unfold kO;simp [h2,h3,h4,h5])
     rotate_left
     focus
       have O:q.toList.isEmpty=false:=by rw[jE];exact dF h5
       have F:Hid (kO (k,d,r,t,n,q) (true,false,false,false,false)=false):=hid (by unfold kO;simp [h2,h3,h4,h5])
     all_goals
       clear h2 h3 h4 h5
       go_wp2_with (first
         |(with_reducible refine k8 ?_
           refine k7 yk (ldR (b:=w.heap.size) (f:=34) (r:=r) A.1.2.1 (fun j u J=>(k6 C (34+j)).trans ((kB A).2.2.1 j u J))) ?_)
         |(with_reducible refine kU ?_
           refine k7 yk (Kc 110 _ _ _ rfl (xs:=(kw r).toArray) (ys:=(kw ko).toArray) rfl rfl (r:=true) eqRef.noGuard (I _)) ?_)
         |(with_reducible refine kL ?_
           refine k7 yk (kp 110 #[] rfl (zf _)) ?_))
       go_ret;exact⟨B.trans (D.mono (by have:=B.size;omega)),by rw[F.out];rfl⟩
    ·have N:(n == 0)=false:=by rw[beq_eq_false_iff_ne];exact h4
     have F:Hid (kO (k,d,r,t,n,q) (true,false,false,false,false)=false):=hid (by unfold kO;simp [h2,h3,h4]);clear h2 h3 h4
     go_wp2_with (first
       |(with_reducible refine k8 ?_
         refine k7 yk (ldR (b:=w.heap.size) (f:=34) (r:=r) A.1.2.1 (fun j u J=>(k6 C (34+j)).trans ((kB A).2.2.1 j u J))) ?_)
       |(with_reducible refine kU ?_
         refine k7 yk (Kc 110 _ _ _ rfl (xs:=(kw r).toArray) (ys:=(kw ko).toArray) rfl rfl (r:=true) eqRef.noGuard (I _)) ?_)
       |(with_reducible refine kL ?_
         refine k7 yk (kp 110 #[] rfl (zf _)) ?_))
     go_ret;exact⟨B.trans (D.mono (by have:=B.size;omega)),by rw[F.out];rfl⟩
   ·have M:t.toList.isEmpty=false:=by rw[jE];exact dF h3
    have F:Hid (kO (k,d,r,t,n,q) (true,false,false,false,false)=false):=hid (by unfold kO;simp [h2,h3]);clear h2 h3
    go_wp2_with (first
      |(with_reducible refine k8 ?_
        refine k7 yk (ldR (b:=w.heap.size) (f:=34) (r:=r) A.1.2.1 (fun j u J=>(k6 C (34+j)).trans ((kB A).2.2.1 j u J))) ?_)
      |(with_reducible refine kU ?_
        refine k7 yk (Kc 110 _ _ _ rfl (xs:=(kw r).toArray) (ys:=(kw ko).toArray) rfl rfl (r:=true) eqRef.noGuard (I _)) ?_)
      |(with_reducible refine kL ?_
        refine k7 yk (kp 110 #[] rfl (zf _)) ?_))
    go_ret;exact⟨B.trans (D.mono (by have:=B.size;omega)),by rw[F.out];rfl⟩
  ·have I:=hid (fun (u:World)=>(jU A.1.2.1 jd u).trans (by rw[dF h2]));have F:Hid (kO (k,d,r,t,n,q) (true,false,false,false,false)=false):=hid (by unfold kO;simp [h2]);clear h2
   go_wp2_with (first
     |(with_reducible refine k8 ?_
       refine k7 yk (ldR (b:=w.heap.size) (f:=34) (r:=r) A.1.2.1 (fun j u J=>(k6 C (34+j)).trans ((kB A).2.2.1 j u J))) ?_)
     |(with_reducible refine kU ?_
       refine k7 yk (Kc 110 _ _ _ rfl (xs:=(kw r).toArray) (ys:=(kw ko).toArray) rfl rfl (r:=false) eqRef.noGuard (I _)) ?_)
     |(with_reducible refine kL ?_
       refine k7 yk (kp 110 #[] rfl (zf _)) ?_))
   go_ret;exact⟨B.trans (D.mono (by have:=B.size;omega)),by rw[F.out];rfl⟩
theorem ZD(x:OpD)(p:Qp)(k:UInt8)(w:World)(hx:KR x)(hp:jO k=some p):
    Calls prog 249 #[.agg (opV x).toArray,vi p] w fun e w'=>Below w.heap.size w w'∧e=.returned (.bool (kO x p)):=by
  obtain⟨A,d,r,t,n,q⟩:=x;rcases zW hp with⟨_,rfl⟩|⟨_,rfl⟩|⟨_,rfl⟩|⟨_,rfl⟩|⟨_,rfl⟩
  ·exact absent_1 A d r t n q w hx
  ·exact absent_2 A d r t n q w hx
  ·exact absent_3 A d r t n q w hx
  ·exact absent_4 A d r t n q w hx
  ·exact absent_5 A d r t n q w hx
end
end Go.Proofs.YtdgbjhfkmembdaaGreatDoor