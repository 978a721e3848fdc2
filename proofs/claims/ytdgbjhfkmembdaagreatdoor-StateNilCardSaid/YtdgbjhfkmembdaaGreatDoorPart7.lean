/-
  Plain facts, and contracts of the functions that the claim's walk comes to, one behind the other. Conditions: as each says.
-/
import Derived.Test.YtdgbjhfkmembdaaGreatDoorPart6
import Derived.Deep.MidRow
import Derived.Test.YtdgbjhfkmembdaaGreatDoorProg
import Derived.Test.YtdgbjhfkmembdaaGreatDoorPart4
import Derived.Test.YtdgbjhfkmembdaaGreatDoorPart5
import Derived.Laws.OwnMore
import Derived.Deep.AppendSrc
import Derived.Laws.Bits64b
import Derived.Lib.SlBytesRow
import Derived.Deep.LoopGhost
import Derived.WalkMore
import Derived.Handy
import Derived.PlainAid
import Derived.WalkLawsBesides
import Derived.Laws.CopyOwn
import Derived.Deep.RegionLaw
import Derived.Deep.CutRange
import Derived.Laws.AppendOwnNone
import Derived.Lib.AppendStr
import Derived.Laws.Slices
set_option linter.unusedVariables false
set_option linter.unusedSimpArgs false
set_option maxHeartbeats 4000000
set_option maxRecDepth 100000
open Go.Proofs.Tryz
namespace Go.Proofs.YtdgbjhfkmembdaaGreatDoor
section
open Go.RowKit Go.Maps
open Lib (hid)
def runZ:List Value:=k8 (0,k7,0)++([.slice none 0 0]++[.bool false])
theorem Zu(w:World):(zeroValue 177).run prog w=.ok (.agg runZ.toArray) w:=by kernel_rfl
def findV(q:Option (Nat×Nat)):Value:=match q with
  |none=>.tuple #[.int .i64 0,.int .i64 0,.bool false]
  |some x=>.tuple #[.int .i64 (x.1:Int),.int .i64 (x.2:Int),.bool true]
theorem runZ_one:∀u∈runZ,u.oneCell'=true:=by
  intro u A;unfold runZ at A;simp only[List.mem_append,List.mem_singleton] at A;rcases A with A|rfl|rfl
  ·exact j4 _ u A
  ·rfl
  ·rfl
theorem holds_le{r:kX}{k:kF}(h:KD r k=true):r.1.2.2≤k.2.2:=by
  simp only[KD,Bool.and_eq_true,decide_eq_true_eq] at h;exact h.2.1
def UW(d:List kX)(k:kF)(n:Int):Int:=if ug d k n=true then 0 else 11
theorem zt:(prog.info? 177).map (·.size)=some 36:=by kernel_rfl
theorem find_run(rs:List zz)(k:kF)(B p:Nat)(v:Value)(w:World)(h:DocRows w B p v rs)(hk:kN k)(hix:∀r∈rs,Ix r.1.2.2)(hx2:Ix k.2.2)(hl:rs.length≤1099511627776):
    Calls prog 156 #[.pointer (some ⟨p,0,none⟩),.agg (k8 k).toArray] w fun e w'=>Below w.heap.size w w'∧e=.returned (findV (uF (rs.map kZ) k)):=by
  obtain⟨A,c,rfl⟩:=jd h.own;have a:=hid h;have m:=hid hk;have n:=hid hix;have o:=hid hx2
  have Ah:=h.lt;have Ai:=k9 hk;clear h hk hix hx2;go_enter func156,ntmps156
  go_upto_region 1 with (first
    |(with_reducible refine kB ?_
      refine kr yx 89 _ rfl (k8 k) _ rfl rfl (by rw[Ai];kernel_rfl) ?_;intro Z N A6 A7;have H:=hid N;have P:=hid A6;have Q:=hid A7
      clear N A6 A7))
  obtain⟨f,N⟩:∃f,w.heap.size=f:=⟨_,rfl⟩;have R:=hid (show f<Z.heap.size by have:=Q.out;omega);have c0:Z.cell? ⟨p,0,none⟩=some (.slice A rs.length c):=by
    obtain⟨s,t,hb⟩:=a.box;exact(H.cell (p:=⟨p,0,none⟩) Ah).trans (k4 hb 0)
  have x:=hid (show Z.rangeAt f 0 (k8 k) from fun j u J=>by rw[qZ,←N];exact(k4 P.out j).trans J);have y:Hid (Below w.heap.size w Z):=hid H.out;have Ag:=hid (qT H.size (qR _));rw[N];clear H P Q N
  go_upto_region 2 with fail
  go_loopw [16] (fun t wr=>∃i:Nat,i≤rs.length∧t=.int .i64 (i:Int)∧Hid (Below w.heap.size w wr)∧Hid (Below Z.heap.size Z wr)∧Hid (∀j (J:j<rs.length),j<i→KD (kZ rs[j]) k=false)) (fun t _=>rs.length - (intOf t).toNat)
  case atStart=>exact⟨0,Nat.zero_le _,rfl,y,hid (qB _ _),hid (fun j _ h=>absurd h yz)⟩
  case round=>
    obtain⟨i,hi,rfl,F,C,G⟩:=hrel;by_cases hlt2:i<rs.length
    ·have Aj:(i:Int)<(rs.length:Int):=by omega
     have i0:(0:Int)≤(i:Int):=by omega
     obtain⟨g,c',Ak,A3,Al,Am⟩:=a.row hlt2;injection Ak with hA _ hc';subst hA hc';have b:=hid (a.ins _ (List.getElem_mem hlt2));have z:=hid (n.out _ (List.getElem_mem hlt2));have K:=hid (show wr.rangeAt g (i*36) (ja rs[i]) from fun j u J=>(F.cell (p:=⟨g,i*36+j,none⟩) Al).trans (A3 j u J));have S:=hid (List.getElem?_eq_getElem hlt2);clear A3 Am;generalize rs[i]=r at *;have I:=hid (jD b.out);have A0:=hid (KX r b.2.1.one);have T:=hid (b.keep (KeepR.below (F.mono (Nat.le_refl _))))
     go_upto_region 4 with (first
       |(with_reducible refine k6 ?_
         refine j9 rfl 177 _ rfl g _ rfl (ja r) _ K.out underlying177 rfl (by rw[I.out];exact zt) ?_)
       |(with_reducible refine kA ?_
         refine ks yx 177 rfl runZ (Zu _) ?_;intro W6 A8 A9 Aa;have U:=hid A8;have V:=hid A9;have W:=hid Aa
         clear A8 A9 Aa)
       |(with_reducible refine kw ?_
         refine ko yx 177 _ _ rfl wr.heap.size 0 [] runZ [] (ja r) 177 _ rfl rfl rfl rfl (by simpa using V.out) (by rw[I.out];rfl) (by rw[I.out];exact zt) A0.out ?_;intro l Ab Ac An;have X:=hid Ab;have Y:Hid (l.heap[wr.heap.size]?=some (.cells (ja r).toArray 177 (0,0))):=hid (by simpa using Ac);clear Ab Ac An))
     have D:Hid (Below wr.heap.size wr l):=hid (U.trans (X.below (by have:=W.out;omega) (fun k hk e=>by omega)));have HU:=hid (show l.rangeAt wr.heap.size 0 (ja r) from fun j u J=>by rw[qZ];exact(k4 Y.out j).trans J);have A1:=hid (show l.rangeAt f 0 (k8 k) from fun j u J=>(D.cell (p:=⟨f,0+j,none⟩) (qL R.out C.size)).trans ((C.cell (p:=⟨f,0+j,none⟩) R.out).trans (x.out j u J)));have A2:=hid (T.keep (KeepR.below D.out));have E:Hid (Below w.heap.size w l):=hid (F.trans (D.mono F.size));have L:Hid (Below Z.heap.size Z l):=hid (C.trans (D.mono C.size));clear U V W X Y K T
     go_upto_region 5 with (first
       |(refine k5 yx (ldU I.out HU.out) ?_)
       |(refine k5 yx (ldK m.out A1.out) ?_)
       |(go_at_call 199;refine(holds_any r k l A2.out m.out z.out o.out).mono ?_;rintro e w8 ⟨Ad,rfl⟩;have M:=hid Ad;clear Ad))
     cases hh:KD (kZ r) k
     ·have O:=hid hh;clear hh;go_wp2_with fail
      go_roundw
      case rel=>
        refine⟨i+1,by omega,by go_num,hid (E.trans (M.mono E.size)),hid (L.trans (M.mono L.size)),hid (fun j J Ae=>?_)⟩;rcases (by omega:j<i∨j=i) with q|q
        ·exact G.out j J q
        ·subst q;have A4:=S.out;obtain⟨A5,e3⟩:=List.getElem?_eq_some_iff.1 A4;rw[e3];exact O.out
      case measure=>(simp [intOf])<;>omega
     ·have O:=hid hh;clear hh;go_wp2_with fail;go_ret3;refine⟨E.trans (M.mono E.size),?_⟩;have Ao:uF (rs.map kZ) k=some (i,(k.2.2 - r.1.2.2).toNat):=by
        have A4:=S.out;obtain⟨A5,e3⟩:=List.getElem?_eq_some_iff.1 A4;have hm:(rs.map kZ)[i]'(by simpa using A5)=kZ r:=by rw[List.getElem_map,e3]
        rw[findR_hit (d:=rs.map kZ) (i:=i) (k:=k) (by simpa using A5) (fun j J Ae=>by rw[List.getElem_map];exact G.out j (by simpa using J) Ae) (by rw[hm];exact O.out),hm];rfl
      rw[Ao];have Af:0≤k.2.2 - r.1.2.2:=by
        have h1:r.1.2.2≤k.2.2:=holds_le O.out;omega
      show _=Ending.returned (.tuple #[.int .i64 (i:Int),.int .i64 (((k.2.2 - r.1.2.2).toNat:Nat):Int),.bool true]);rw[Int.toNat_of_nonneg Af];rfl
    ·have Aj:¬(i:Int)<(rs.length:Int):=by omega
     go_wp2_with fail;go_ret3;refine⟨F.out,?_⟩;rw[findR_none (d:=rs.map kZ) (k:=k) fun j J=>by
       have Ap:j<rs.length:=by simpa using J
       rw[List.getElem_map];exact G.out j Ap yz]
     rfl
theorem Ug(rs:List zz)(k:kF)(n:Int)(B p:Nat)(v:Value)(w:World)(h:DocRows w B p v rs)(hk:kN k)(hix:∀r∈rs,Ix r.1.2.2)(hx2:Ix k.2.2)(hx3:Ix n)(hln:∀r∈rs,r.2.2.1.length≤2305843009213693952)(hl:rs.length≤1099511627776):
    Calls prog 157 #[.pointer (some ⟨p,0,none⟩),.agg (k8 k).toArray,.int .i64 n] w fun e w'=>Below w.heap.size w w'∧e=.returned (.int .i64 (UW (rs.map kZ) k n)):=by
  have l:=hid hx3;have m:=hid hln
  clear hx3 hln;obtain⟨A,c,rfl⟩:=jd h.own;have Z:=hid h;have o:=hid hk;have z:=hid hix;have A0:=hid hx2
  have Ai:=h.lt;have Aj:=k9 hk;clear h hk hix hx2;go_enter func157,ntmps157
  go_upto_region 1 with (first
    |(with_reducible refine kB ?_
      refine kr yx 89 _ rfl (k8 k) _ rfl rfl (by rw[Aj];kernel_rfl) ?_;intro Y O A9 Aa;have G:=hid O;have P:=hid A9;have Q:=hid Aa
      clear O A9 Aa))
  obtain⟨d,O⟩:∃d,w.heap.size=d:=⟨_,rfl⟩;have R:=hid (show d<Y.heap.size by have:=Q.out;omega);have c0:Y.cell? ⟨p,0,none⟩=some (.slice A rs.length c):=by
    obtain⟨s,t,hb⟩:=Z.box;exact(G.cell (p:=⟨p,0,none⟩) Ai).trans (k4 hb 0)
  have A1:=hid (show Y.rangeAt d 0 (k8 k) from fun j u I=>by rw[qZ,←O];exact(k4 P.out j).trans I);have A2:Hid (Below w.heap.size w Y):=hid G.out;have Ah:=hid (qT G.size (qR _));rw[O];clear G P Q O
  go_upto_region 2 with fail
  go_loopw [14] (fun t wr=>∃i:Nat,i≤rs.length∧t=.int .i64 (i:Int)∧Hid (Below w.heap.size w wr)∧Hid (Below Y.heap.size Y wr)∧Hid (∀j (I:j<rs.length),j<i→z7 (kZ rs[j]) k n=false)) (fun t _=>rs.length - (intOf t).toNat)
  case atStart=>exact⟨0,Nat.zero_le _,rfl,A2,hid (qB _ _),hid (fun j _ h=>absurd h yz)⟩
  case round=>
    obtain⟨i,hi,rfl,F,C,J⟩:=hrel;by_cases hlt2:i<rs.length
    ·have Ak:(i:Int)<(rs.length:Int):=by omega
     have i0:(0:Int)≤(i:Int):=by omega
     obtain⟨g,c',Al,A7,Am,An⟩:=Z.row hlt2;injection Al with hA _ hc';subst hA hc';have a:=hid (Z.ins _ (List.getElem_mem hlt2));have A3:=hid (z.out _ (List.getElem_mem hlt2));have K:=hid (show wr.rangeAt g (i*36) (ja rs[i]) from fun j u I=>(F.cell (p:=⟨g,i*36+j,none⟩) Am).trans (A7 j u I));have L:=hid (List.getElem?_eq_getElem hlt2);clear A7 An;generalize rs[i]=r at *;have H:=hid (jD a.out);have A4:=hid (KX r a.2.1.one);have S:=hid (a.keep (KeepR.below (F.mono (Nat.le_refl _))))
     go_upto_region 4 with (first
       |(with_reducible refine k6 ?_
         refine j9 rfl 177 _ rfl g _ rfl (ja r) _ K.out underlying177 rfl (by rw[H.out];exact zt) ?_)
       |(with_reducible refine kA ?_
         refine ks yx 177 rfl runZ (Zu _) ?_;intro W6 Ab Ac Ad;have T:=hid Ab;have U:=hid Ac;have V:=hid Ad
         clear Ab Ac Ad)
       |(with_reducible refine kw ?_
         refine ko yx 177 _ _ rfl wr.heap.size 0 [] runZ [] (ja r) 177 _ rfl rfl rfl rfl (by simpa using U.out) (by rw[H.out];rfl) (by rw[H.out];exact zt) A4.out ?_;intro f Ae Af Ao;have W:=hid Ae;have X:Hid (f.heap[wr.heap.size]?=some (.cells (ja r).toArray 177 (0,0))):=hid (by simpa using Af);clear Ae Af Ao))
     have D:Hid (Below wr.heap.size wr f):=hid (T.trans (W.below (by have:=V.out;omega) (fun k hk e=>by omega)));have HU:=hid (show f.rangeAt wr.heap.size 0 (ja r) from fun j u I=>by rw[qZ];exact(k4 X.out j).trans I);have A5:=hid (show f.rangeAt d 0 (k8 k) from fun j u I=>(D.cell (p:=⟨d,0+j,none⟩) (qL R.out C.size)).trans ((C.cell (p:=⟨d,0+j,none⟩) R.out).trans (A1.out j u I)));have A6:=hid (S.keep (KeepR.below D.out));have E:Hid (Below w.heap.size w f):=hid (F.trans (D.mono F.size));have M:Hid (Below Y.heap.size Y f):=hid (C.trans (D.mono C.size));clear T U V W X K S;cases hh:z7 (kZ r) k n
     all_goals
       have b:=hid hh;clear hh
       go_wp2_with (first
         |(refine k5 yx (ldU H.out HU.out) ?_)
         |(refine k5 yx (ldK o.out A5.out) ?_)
         |(go_at_call 160;refine(meets_any r k n f A6.out o.out A3.out A0.out l.out (m.out _ (List.mem_of_getElem? L.out))).mono ?_;rintro e w8 ⟨Ag,rfl⟩;rw[b.out];have N:=hid Ag;clear Ag))
     ·go_roundw
      case rel=>
        refine⟨i+1,by omega,by go_num,hid (E.trans (N.mono E.size)),hid (M.trans (N.mono M.size)),hid (fun j I Aq=>?_)⟩;rcases (by omega:j<i∨j=i) with q|q
        ·exact J.out j I q
        ·subst q;have Ap:=L.out;obtain⟨Ar,e3⟩:=List.getElem?_eq_some_iff.1 Ap;rw[e3];exact b.out
      case measure=>(simp [intOf])<;>omega
     ·go_ret;refine⟨E.trans (N.mono E.size),?_⟩;have A8:ug (rs.map kZ) k n=false:=by
        unfold ug;rw[List.all_eq_false];exact⟨kZ r,List.mem_map.2 ⟨r,List.mem_of_getElem? L.out,rfl⟩,by rw[b.out];decide⟩
      unfold UW;rw[A8];rfl
    ·have Ak:¬(i:Int)<(rs.length:Int):=by omega
     go_wp2_with fail;go_ret;refine⟨F.out,?_⟩;have A8:ug (rs.map kZ) k n=true:=by
       unfold ug;rw[List.all_eq_true];intro y hy;obtain⟨x,hx,rfl⟩:=List.mem_map.1 hy;obtain⟨j,I,rfl⟩:=List.getElem_of_mem hx;rw[J.out j I yz];rfl
     unfold UW;rw[A8];rfl
end
section
open Go.RowKit
section
variable {ρ:Operand→Value} {o:Oper} {w:World} {b f:Nat} {x:Operand}
theorem ldR{r:zC}(hr:za r)(hc:w.rangeAt b f (kn r))(ho:o.op=.load 110 x:=by rfl)(hx:ρ x=.pointer (some ⟨b,f,none⟩):=by rfl):(execOp ρ o).run prog w=.ok (.value (.agg (kn r).toArray)) w:=
  kc 110 x ho hx (run_loadVar_mid w b f _ (kn r) _ hc underlying110 rfl (by rw[kq hr];kernel_rfl))
theorem ldO{y:OpD}(hy:KR y)(hc:w.rangeAt b f (opV y))(ho:o.op=.load 112 x:=by rfl)(hx:ρ x=.pointer (some ⟨b,f,none⟩):=by rfl):(execOp ρ o).run prog w=.ok (.value (.agg (opV y).toArray)) w:=
  kc 112 x ho hx (run_loadVar_mid w b f _ (opV y) _ hc underlying112 rfl (by rw[kH hy];kernel_rfl))
end
theorem jg:(prog.info? 5).map (fun i=>(i.zero,i.size,i.bytes))=some (some (.int .u8 0),1,1):=by kernel_rfl
def GetGives(l:List UInt8)(at':Nat)(w:World)(e:Ending)(w':World):Prop:=w=w'∧e=(match getS (l.drop at') with
  |some (n,k)=>.returned (.tuple #[.int .i64 n,.int .i64 ((at'+k:Nat):Int),.int .i64 0])
  |none=>.returned (.tuple #[.int .i64 0,.int .i64 0,.int .i64 6]))
theorem GetGives.no{l:List UInt8}{at':Nat}{w:World}{e:Ending}(h:getS (l.drop at')=none)(he:e=.returned (.tuple #[.int .i64 0,.int .i64 0,.int .i64 6])):GetGives l at' w e w:=by
  unfold GetGives;rw[h];exact⟨rfl,he⟩
theorem GetGives.yes{l:List UInt8}{at' n k:Nat}{w:World}{e:Ending}(h:getS (l.drop at')=some (n,k))(he:e=.returned (.tuple #[.int .i64 n,.int .i64 ((at'+k:Nat):Int),.int .i64 0])):GetGives l at' w e w:=by
  unfold GetGives;rw[h];exact⟨rfl,he⟩
def Getting(l:List UInt8)(at' i out:Nat):Prop:=getS (l.drop at')=match getGo i (l.drop (at'+i)) with|some (n,k)=>some (out+128 ^ i*n,i+k)|none=>none
theorem Getting.start(l:List UInt8)(at':Nat):Getting l at' 0 0:=by
  unfold Getting getS;rw[Nat.add_zero];cases getGo 0 (l.drop at')<;>simp
theorem Getting.next{l:List UInt8}{at' i out:Nat}{x:UInt8}(h:Getting l at' i out)(hd:l.drop (at'+i)=x::l.drop (at'+i+1))(h128:128≤x.toNat)(hi:i<8):Getting l at' (i+1) (out+128 ^ i*(x.toNat - 128)):=by
  unfold Getting at h ⊢;rw[h,hd,getGo,if_pos h128,if_neg yz,←Nat.add_assoc];rcases getGo (i+1) (l.drop (at'+i+1)) with _ |⟨n,k⟩
  ·rfl
  ·simp only[Option.some.injEq,Prod.mk.injEq];refine⟨?_,by omega⟩;rw[Nat.mul_add,Nat.pow_succ,Nat.mul_assoc];omega
theorem Getting.zero{l:List UInt8}{at' i out:Nat}{x:UInt8}(h:Getting l at' i out)(hd:l.drop (at'+i)=x::l.drop (at'+i+1))(h0:x.toNat=0)(hi:0<i):getS (l.drop at')=none:=by
  unfold Getting at h;rw[h,hd,getGo,if_neg yz,if_pos ⟨h0,hi⟩]
theorem Getting.end{l:List UInt8}{at' i out:Nat}(h:Getting l at' i out)(hi:l.length≤at'+i):getS (l.drop at')=none:=by
  unfold Getting at h;rw[h,List.drop_eq_nil_of_le hi];rfl
def GetTextGives(l:List UInt8)(at' most:Nat)(w:World)(e:Ending)(w':World):Prop:=w=w'∧(match getTextS (l.drop at') most with
  |some (t,k)=>e=.returned (.tuple #[.string ⟨t.toArray⟩,.int .i64 ((at'+k:Nat):Int),.int .i64 0])
  |none=>∃q:Int,q≠0∧e=.returned (.tuple #[.string ⟨#[]⟩,.int .i64 0,.int .i64 q]))
theorem GetTextGives.no{l:List UInt8}{at' most:Nat}{w:World}{e:Ending}{q:Int}(h:getTextS (l.drop at') most=none)(hq:q≠0)(he:e=.returned (.tuple #[.string ⟨#[]⟩,.int .i64 0,.int .i64 q])):GetTextGives l at' most w e w:=by
  unfold GetTextGives;rw[h];exact⟨rfl,q,hq,he⟩
theorem GetTextGives.yes{l:List UInt8}{at' most k:Nat}{t:List UInt8}{w:World}{e:Ending}(h:getTextS (l.drop at') most=some (t,k))(he:e=.returned (.tuple #[.string ⟨t.toArray⟩,.int .i64 ((at'+k:Nat):Int),.int .i64 0])):GetTextGives l at' most w e w:=by
  unfold GetTextGives;rw[h];exact⟨rfl,he⟩
theorem Uh(l:List UInt8):(⟨l.toArray⟩:ByteArray).size=l.length:=by simp [ByteArray.size]
theorem L_mk(l:List UInt8):L ⟨l.toArray⟩=l:=by simp [L]
end
section
open Go.RowKit Go.Maps
theorem ex_build1c{P:Program}{ρ:Operand→Value}{o:Oper}{w:World}(t:TypeId)(x:Operand)(ho:o.op=.buildSlice t 1 #[(0,x)])(e:TypeId)(ht:P.underlying t=some (.slice e))(z:Value)(bytes:Nat)(hinf:(P.info? e).map (fun i=>(i.zero,i.size,i.bytes))=some (some z,1,bytes))(hz1:z.cells.size=1)
    (v:Value) (hx:ρ x=v) (hv:v.cells=#[v]):(execOp ρ o).run P w=.ok (.value (.slice (some ⟨w.heap.size,0,none⟩) 1 1)) (w.alloc (.cells #[v] e)):=by
  have A:=Ka w t e ht z 1 bytes hinf hz1 yv [v] (fun u B=>by rw[List.mem_singleton.1 B,hv];rfl) yq yq;simp only[List.flatMap_cons,List.flatMap_nil,List.append_nil,hv] at A;unfold execOp;have C:(Instr.buildSlice t 1 #[(0,v)]).run P w=.ok (.slice (some ⟨w.heap.size,0,none⟩) 1 1) (w.alloc (.cells #[v] e)):=A;simp only[ho,List.map_toArray,List.map_cons,List.map_nil,hx,Sem.run_bind,C,Result.andThen_ok,Sem.run_pure]
theorem wpOp_callP{P:Program}{ops:Array Oper}{Q:Exit→Act→World→Prop}{i:Nat}{K:Act→World→Prop}{a:Act}{w:World}{f:FuncId}{args:Array Value}{ch:List PanicEntry}(o:Oper)(hi:vH ops.toList i=some o)(hw:Region.wanted o (yielded ops a.tmps)=true)
    (h:(execOp a.eval o).run P w=.ok (.enter f args) w) (hc:Calls P f args w fun e w'=>e=.panicked ch∧Q (.panic ch) a w'):wpOp P ops Q i K a w:=by
  unfold wpOp;simp only[JC hi,if_pos hw];refine .inl ?_;unfold Oper.wp;rw[h];exact hc.mono fun e w' ⟨A,B⟩=>by subst A;exact B
section
variable {g b off c at' at2:Nat} {l:List UInt8} {w w':World}
variable {α:Type} {p:Ps α} {R:α→Value→World→Prop} {e:Ending} {a:α} {r:List UInt8}
end


end
section
open Go.RowKit
open Lib (hid)
theorem js:(prog.info? 41).map (·.size)=some 32:=by kernel_rfl
theorem Ui(l:List (List UInt8))(A:Option Addr)(c:Nat)(w:World)(hn:l.length≤1099511627776)(ho:IdsOk l)(hsl:Sl w w.heap.size A l.length 32 (zf l)):
    Calls prog 248 #[.slice A l.length c] w fun e w'=>Below w.heap.size w w'∧e=.returned (.bool (je l)):=by
  have G:=hid hsl;clear hsl;have C:=hid ho;clear ho;go_enter func248,ntmps248;go_wp2_with fail
  go_loopw [6] (fun t wr=>∃i:Nat,i≤l.length∧t=.int .i64 i∧Below w.heap.size w wr∧Hid (∀j (h:j+1<l.length),j+1<i→jK (l[j]'(by omega)) l[j+1]<0)) (fun t _=>l.length - (intOf t).toNat)
  case atStart=>exact⟨0,by omega,rfl,Below.refl _ _,hid fun j _ D=>absurd D yz⟩
  case round=>
    obtain⟨i,m,rfl,E,R⟩:=hrel;by_cases hlt:i<l.length
    ·by_cases h0:i=0
     ·have X:decide ((0:Int)<(i:Int))=false:=by simp;omega
      have S:decide (0<i)=false:=by simp;omega
      have d:(i:Int)≤0:=by omega
      have P:=hid h0;clear h0;go_wp2_with fail
      go_quiet (fail)
      go_wp2_with fail
      go_roundw
      case rel=>exact⟨i+1,by omega,by go_num,below_drewN E _,hid fun j _ D=>absurd D (by have:=P.out;omega)⟩
      case measure=>simp [intOf];omega
     ·have X:decide ((0:Int)<(i:Int))=true:=by simp;omega
      have S:decide (0<i)=true:=by simp;omega
      have n:(0:Int)≤(i:Int) - 1:=by omega
      have o:(1:Int)≤(i:Int):=by omega
      have p:(i:Int)<(l.length:Int):=by omega
      have r:((i:Int) - 1)<(l.length:Int):=by omega
      obtain⟨b,f,rfl,g,K⟩:=(G.keep E).2 yz;have T:=Sl.id (B:=0) C.out K (i:=i - 1) yz;have U:=Sl.id (B:=0) C.out K (i:=i) hlt;have Q:IntKind.i64.wrap ((i:Int) - 1)=((i - 1:Nat):Int):=by rw[IntWalk.i64_in _ ⟨by omega,by omega⟩];omega
      have s:((i - 1:Nat):Int)<(l.length:Int):=by omega
      have Y:=hid T;clear T;have Z:=hid U;clear U;clear K;go_wp2_with fail;refine wp_region_still_tail 12 yy yy ?_;simp only[List.take_succ_cons,List.take_zero,List.drop_succ_cons,List.drop_zero]
      repeat still_step
      refine KL yx 41 _ rfl b _ rfl (idV (l[i - 1]'(by omega))) _ Y.out underlying41 rfl (by rw[kf,C.out _ (List.getElem_mem _)];exact js) ?_
      repeat still_step
      refine KL yx 41 _ rfl b _ rfl (idV l[i]) _ Z.out underlying41 rfl (by rw[kf,C.out _ (List.getElem_mem _)];exact js) ?_;refine wpStill_nil ?_;change wpList _ _ _ _ _ wr.drew;generalize hwd:wr.drew=w2;have L:Below w.heap.size w w2:=by rw[←hwd];exact E.drew
      clear hwd;clear Q;go_wp2_with fail;refine(QO (l[i - 1]'(by omega)) l[i] _ (C.out _ (List.getElem_mem _)) (C.out _ (List.getElem_mem _))).mono ?_;have F:0≤jK (l[i - 1]'(by omega)) l[i]→je l=false:=by
        intro h;rw[Bool.eq_false_iff];intro a;have:=Z5.1 a (i - 1) yz;simp only[show i - 1+1=i by omega] at this;omega
      have N:jK (l[i - 1]'(by omega)) l[i]<0→∀j (h:j+1<l.length),j+1<i+1→jK (l[j]'(by omega)) l[j+1]<0:=by
        intro h j D k;rcases (by omega:j+1<i∨j+1=i) with q|q
        ·exact R.out j D q
        ·have Q:j=i - 1:=by omega
         subst Q;simp only[show i - 1+1=i by omega];exact h
      have H:=hid F;clear F;have I:=hid N;clear N;generalize jK (l[i - 1]'(by omega)) l[i]=q at *;rintro e u ⟨V,rfl⟩;have M:=L.trans (V.mono L.size);by_cases hq:0≤q
      ·have O:=H.out hq;have J:=hid O;clear O;go_wp2_with fail;go_ret;exact⟨M,by rw[J.out];rfl⟩
      ·have W:q<0:=by omega
       go_wp2_with fail
       go_roundw
       case rel=>exact⟨i+1,by omega,by go_num,M,hid (I.out W)⟩
       case measure=>simp [intOf];omega
    ·go_wp2_with fail;go_ret;refine⟨E,?_⟩;have:je l=true:=Z5.2 fun j D=>R.out j D yz
     rw[this];rfl
def FindGives(l:List (List UInt8))(x:List UInt8)(w:World)(e:Ending)(w':World):Prop:=
  Below w.heap.size w w'∧∃n:Nat,e=.returned (.tuple #[.int .i64 n,.bool (je l && decide (x∈l))])∧n≤l.length∧((je l && decide (x∈l))=true→l[n]?=some x)
theorem FindGives.yes{l:List (List UInt8)}{x:List UInt8}{w w':World}{e:Ending}{n:Nat}(hs:je l=true)(h:l[n]?=some x)(hb:Below w.heap.size w w')(he:e=.returned (.tuple #[.int .i64 n,.bool true])):FindGives l x w e w':=by
  have A:(je l && decide (x∈l))=true:=by rw[hs];simpa using List.mem_of_getElem? h
  refine⟨hb,n,by rw[A];exact he,?_,fun _=>h⟩;have:=(List.getElem?_eq_some_iff.1 h).1;omega
theorem FindGives.no{l:List (List UInt8)}{x:List UInt8}{w w':World}{e:Ending}{n:Nat}(hm:(je l && decide (x∈l))=false)(hn:n≤l.length)(hb:Below w.heap.size w w')(he:e=.returned (.tuple #[.int .i64 n,.bool false])):FindGives l x w e w':=
  ⟨hb,n,by rw[hm];exact he,hn,fun h=>by rw[hm] at h;cases h⟩
def Halving(l:List (List UInt8))(x:List UInt8)(lo hi:Nat):Prop:=
  (∀j (h:j<l.length),j<lo→jK l[j] x<0)∧(∀j (h:j<l.length),hi≤j→0<jK l[j] x)
theorem Halving.start(l:List (List UInt8))(x:List UInt8):Halving l x 0 l.length:=⟨fun j _ h=>absurd h yz,fun j h A=>absurd h yz⟩
theorem Halving.up{l:List (List UInt8)}{x:List UInt8}{lo hi m:Nat}(h:Halving l x lo hi)(hs:je l=true)(hm:m<l.length)(hc:jK l[m] x<0):Halving l x (m+1) hi:=by
  refine⟨fun j A B=>?_,h.2⟩;rcases (by omega:j<m∨j=m) with q|q
  ·exact Jq ((List.pairwise_iff_getElem.1 (vu hs)) j m A hm q) hc
  ·subst q;exact hc
theorem Halving.down{l:List (List UInt8)}{x:List UInt8}{lo hi m:Nat}(h:Halving l x lo hi)(hs:je l=true)(hm:m<l.length)(hc:0<jK l[m] x):Halving l x lo m:=by
  refine⟨h.1,fun j A D=>?_⟩;rcases (by omega:m<j∨j=m) with q|q
  ·have B:=(List.pairwise_iff_getElem.1 (vu hs)) m j hm A q;have C:jK x l[m]<0:=by rw[U4];omega
   have:=Jq C B;rw[U4] at this;omega
  ·subst q;exact hc
theorem Halving.end{l:List (List UInt8)}{x:List UInt8}{lo hi:Nat}(h:Halving l x lo hi)(he:hi≤lo):x∉l:=by
  intro B;obtain⟨j,A,rfl⟩:=List.getElem_of_mem B;rcases (by omega:j<lo∨hi≤j) with q|q
  ·have:=h.1 j A q;rw[vP] at this;omega
  ·have:=h.2 j A q;rw[vP] at this;omega
theorem place_any(l:List (List UInt8))(x:List UInt8)(A:Option Addr)(c:Nat)(w:World)(hn:l.length≤1099511627776)(ho:IdsOk l)(hx:jp x)(hs:je l=true)(hsl:Sl w w.heap.size A l.length 32 (zf l)):
    Calls prog 256 #[.slice A l.length c,.agg (idV x).toArray] w (FindGives l x w):=by
  have L:=hid hsl;clear hsl;have G:=hid ho;clear ho;have H:=hid hs;clear hs;have r:(idV x).length=32:=by rw[kf];exact hx
  go_enter func256,ntmps256
  go_upto_region 1 with fail
  obtain⟨C,F⟩:∃C,w.alloc (.cells (idV x).toArray 41)=C:=⟨_,rfl⟩;have T:Below w.heap.size w C:=by rw[←F];exact(qB _ _).alloc (qR _) _
  have U:C.heap[w.heap.size]?=some (.cells (idV x).toArray 41 (0,0)):=by rw[←F];exact heap_alloc_new _ _
  have s:w.heap.size<C.heap.size:=by rw[←F];simp
  rw[F];have f:Hid (∀j u,(idV x)[j]?=some u→C.cell? ⟨w.heap.size,0+j,none⟩=some u):=hid (fun j u k=>by
    rw[qZ,cell_of_row C w.heap.size j _ _ _ U];simpa using k)
  clear F U;go_wp2_with fail
  go_loopw [6,7] (fun t6 t7 wr=>∃D E:Nat,D≤E∧E≤l.length∧t6=.int .i64 D∧t7=.int .i64 E∧Below C.heap.size C wr∧Hid (Halving l x D E)) (fun t6 t7 _=>(intOf t7).toNat - (intOf t6).toNat)
  case atStart=>exact⟨0,l.length,by omega,by omega,rfl,rfl,qB _ _,hid (Halving.start l x)⟩
  case round=>
    obtain⟨D,E,A0,A1,rfl,rfl,Q,n⟩:=hrel;have V:=T.trans (Q.mono yz);by_cases hlt:D<E
    ·obtain⟨m,y⟩:∃m,m=D+(E - D) / 2:=⟨_,rfl⟩;have A2:D≤m:=by omega
     have A3:m<E:=by omega
     have z:(D:Int)+((E:Int) - (D:Int)) / 2=(m:Int):=by omega
     clear y;have i0:(0:Int)≤(m:Int):=by omega
     have i1:(m:Int)<(l.length:Int):=by omega
     obtain⟨b,A4,rfl,A5,W⟩:=(L.keep V).2 yz;have C1:Hid _:=hid (Sl.id (B:=0) G.out W (i:=m) yz);have C2:Hid (∀j u,(idV x)[j]?=some u→wr.cell? ⟨w.heap.size,0+j,none⟩=some u):=hid (fun j u k=>(Q.cell (p:=⟨w.heap.size,0+j,none⟩) s).trans (f.out j u k));clear W
     go_upto_region 4 with fail
     clear z;refine wp_region_still_tail 5 yy yy ?_;simp only[List.take_succ_cons,List.take_zero,List.drop_succ_cons,List.drop_zero]
     repeat still_step
     refine KL yx 41 _ rfl b _ rfl (idV (l[m]'(by omega))) _ C1.out underlying41 rfl (by rw[kf,G.out _ (List.getElem_mem _)];exact js) ?_;refine KL yx 41 _ rfl w.heap.size 0 rfl (idV x) _ C2.out underlying41 rfl (by rw[r];exact js) ?_;refine wpStill_nil ?_;change wpList _ _ _ _ _ wr.drew;generalize hwd:wr.drew=w2;have R:Below C.heap.size C w2:=by rw[←hwd];exact Q.drew
     clear hwd;go_wp2_with fail;refine(QO (l[m]'(by omega)) x _ (G.out _ (List.getElem_mem _)) hx).mono ?_;have X:=n.up H.out (m:=m) yz;have Y:=n.down H.out (m:=m) yz;have Z:jK (l[m]'(by omega)) x=0→l[m]?=some x:=fun h=>by rw[List.getElem?_eq_getElem yz,J1.1 h]
     have M:=hid X;clear X;have N:=hid Y;clear Y;have O:=hid Z;clear Z;generalize jK (l[m]'(by omega)) x=q at *;rintro e w3 ⟨t,rfl⟩;have J:=R.trans (t.mono R.size);have o:=T.trans (J.mono yz);rcases (by omega:q=0∨q<0∨0<q) with K|K|K
     ·have v:=O.out K;have g:=hid v;clear v;have a:(q == 0)=true:=by simp [K]
      clear K;go_wp2_with fail;go_ret2;exact FindGives.yes H.out g.out o rfl
     ·have S:=M.out K;have I:=hid S;clear S;have a:(q == 0)=false:=by simp;omega
      go_wp2_with fail
      go_roundw
      case rel=>exact⟨m+1,E,by omega,by omega,by go_num,rfl,J,I⟩
      case measure=>simp [intOf];omega
     ·have S:=N.out K;have I:=hid S;clear S;have a:(q == 0)=false:=by simp;omega
      go_wp2_with fail
      go_roundw
      case rel=>exact⟨D,m,by omega,by omega,rfl,by go_num,J,I⟩
      case measure=>simp [intOf];omega
    ·have d:=n.end yz;have P:=hid d;clear d;go_wp2_with fail;go_ret2;exact FindGives.no (by simp [P.out]) yz V rfl
theorem find_any(l:List (List UInt8))(x:List UInt8)(A:Option Addr)(c:Nat)(w:World)(hn:l.length≤1099511627776)(ho:IdsOk l)(hx:jp x)(hsl:Sl w w.heap.size A l.length 32 (zf l)):
    Calls prog 231 #[.slice A l.length c,.agg (idV x).toArray] w (FindGives l x w):=by
  have D:=hid hsl;clear hsl;have K:=hid ho;clear ho;have P:(idV x).length=32:=by rw[kf];exact hx
  go_enter func231,ntmps231
  go_upto_region 1 with fail
  obtain⟨I,E⟩:∃I,w.alloc (.cells (idV x).toArray 41)=I:=⟨_,rfl⟩;have B:Below w.heap.size w I:=by rw[←E];exact(qB _ _).alloc (qR _) _
  have L:I.heap[w.heap.size]?=some (.cells (idV x).toArray 41 (0,0)):=by rw[←E];exact heap_alloc_new _ _
  have Q:w.heap.size<I.heap.size:=by rw[←E];simp
  rw[E];have M:Hid (∀j u,(idV x)[j]?=some u→I.cell? ⟨w.heap.size,0+j,none⟩=some u):=hid (fun j u O=>by
    rw[qZ,cell_of_row I w.heap.size j _ _ _ L];simpa using O)
  clear E L;have F:=hid ((D.keep B).more B.size);go_wp2_with fail;refine(Ui l A c _ hn K.out F.out).mono ?_;cases hs:je l
  ·have G:=hid hs;clear hs;rintro e R ⟨J,rfl⟩;go_wp2_with fail;go_ret2;exact FindGives.no (by rw[G.out];rfl) (Nat.zero_le _) (B.trans (J.mono B.size)) rfl
  ·have G:=hid hs;clear hs;rintro e R ⟨J,rfl⟩;have C:=B.trans (J.mono B.size);have H:=hid ((D.keep C).more C.size);have V:Hid (∀j u,(idV x)[j]?=some u→R.cell? ⟨w.heap.size,0+j,none⟩=some u):=hid (fun j u O=>(J.cell (p:=⟨w.heap.size,0+j,none⟩) Q).trans (M.out j u O))
   go_wp2_with (refine j9 rfl 41 _ rfl w.heap.size 0 rfl (idV x) _ V.out underlying41 rfl (by rw[P];exact js) ?_)
   refine(place_any l x A c _ hn K.out hx G.out H.out).mono ?_;rintro e W ⟨S,n,rfl,T,U⟩;have N:=hid U;clear U;go_wp2_with fail;go_ret2;exact⟨C.trans (S.mono C.size),n,rfl,T,N.out⟩
theorem zu(w:World):(Instr.build 41 #[]).run prog w=.ok (.agg (idV k7).toArray) w:=by kernel_rfl
theorem jS(w:World):(Instr.build 110 #[]).run prog w=.ok (.agg (kn kg).toArray) w:=by kernel_rfl
theorem zM:(prog.info? 110).map (·.size)=some 33:=by kernel_rfl
theorem qH(l:List (List UInt8))(A:Option Addr)(c most:Nat)(w:World)(hn:l.length≤1099511627776)(hm:most≤1099511627776)(ho:IdsOk l)(hsl:Sl w w.heap.size A l.length 32 (zf l)):
    Calls prog 225 #[.slice A l.length c,.int .i64 most] w fun e w'=>Below w.heap.size w w'∧e=.returned (.bool (ZU l most)):=by
  have D:=hid hsl;clear hsl;have E:=hid ho;clear ho;by_cases h1:l.length≤most
  ·have R:decide (((l.length:Nat):Int)≤(most:Int))=true:=by simpa using h1
   cases hs:je l
   ·have C:Hid (ZU l most=false):=hid (by unfold ZU;rw[hs];simp);have F:=hid hs;clear hs;go_enter func225,ntmps225
    go_wp2_with (go_at_call 248;refine(Ui l A c _ hn E.out D.out).mono ?_;rw[F.out];rintro e P ⟨H,rfl⟩)
    go_ret;exact⟨H,by rw[C.out];rfl⟩
   ·rcases Nat.eq_zero_or_pos l.length with S|G
    ·obtain rfl:=List.eq_nil_of_length_eq_zero S;have C:Hid (ZU [] most=true):=hid (by unfold ZU;rw[hs];simp);have F:=hid hs;clear hs;go_enter func225,ntmps225
     go_wp2_with (go_at_call 248;refine(Ui [] A c _ hn E.out D.out).mono ?_;rw[F.out];rintro e P ⟨H,rfl⟩)
     go_ret;exact⟨H,by rw[C.out];rfl⟩
    ·have M:l≠[]:=List.ne_nil_of_length_pos G;have N:l.headD []=l[0]:=by cases l with
       |nil=>cases G
       |cons a t=>rfl
     have C:Hid (ZU l most= !decide (l[0]=k7)):=hid (by unfold ZU;rw[hs,N];simp [h1,M]);have Q:=E.out _ (List.getElem_mem G);have F:=hid hs;clear hs;have d:(((l.length:Nat):Int) == 0)=false:=by simp;omega
     have g:(0:Int)<(l.length:Int):=by omega
     have T:=hid (fun (u:World)=>zY Q jL u);have U:=hid zu;have O:(prog.info? 41).map (·.size)=some (idV l[0]).length:=by rw[kf,show l[0].length=32 from Q];exact js
     have K:=hid O;have L:Hid (∀u:World,Below w.heap.size w u→∃b I,A=some ⟨b,I,none⟩∧u.rangeAt b I (idV l[0])):=hid (fun u V=>by
       obtain⟨b,I,W,f,J⟩:=(D.keep V).2 G;refine⟨b,I,W,?_⟩;have X:=Sl.id (B:=0) E.out J (i:=0) G;exact fun j v Y=>by simpa using X j v Y)
     clear N Q O M;go_enter func225,ntmps225;generalize l[0]=x at *
     go_wp2_with (first
       |(go_at_call 248;refine(Ui l A c _ hn E.out D.out).mono ?_;rw[F.out];rintro e P ⟨H,rfl⟩;obtain⟨b,I,rfl,J⟩:=L.out P H;have Z:=hid J;clear J)
       |(refine k5 yx (kc 41 _ rfl (p:=⟨b,I,none⟩) rfl (run_loadVar_mid _ _ _ _ _ _ Z.out underlying41 rfl K.out)) ?_)
       |(refine k5 yx (kj 41 #[] rfl (U.out _)) ?_)
       |(refine k5 yx (jb 41 _ _ _ rfl (xs:=(idV x).toArray) (ys:=(idV k7).toArray) rfl rfl (r:=decide (x=k7)) eqId.noGuard (T.out _)) ?_))
     go_ret;exact⟨H,by rw[C.out];rfl⟩
  ·have R:decide (((l.length:Nat):Int)≤(most:Int))=false:=by simp;omega
   have C:Hid (ZU l most=false):=hid (by unfold ZU;simp [h1]);go_enter func225,ntmps225;go_wp2_with fail;go_ret;exact⟨Below.refl _ _,by rw[C.out];rfl⟩
end
section
open Go.RowKit Go.Maps

end
section
open Go.RowKit Go.Maps
open Lib (hid)
def U8Ok(_:UInt8):Prop:=True
def u8K(k:UInt8):Value:=.int .u8 (k.toNat:Int)
def u8L(k:UInt8):Lit:=.int .u8 (k.toNat:Int)
theorem keyedU8:Keyed prog 5:=int_keyed underlying5
theorem u8_wf(k:UInt8):(Lit.int .u8 (k.toNat:Int)).wf=true:=by
  simp only[Lit.wf,IntKind.min,IntKind.max,IntKind.signed,IntKind.bits,Bool.and_eq_true];have:=k.toNat_lt;simp;omega
theorem qI:KeyEnc prog 5 U8Ok u8K u8L:=⟨keyedU8,fun k A=>by
  have A:=u8_wf k;simp [keyOf,mapKey,u8K,u8L,underlying5,A],fun a b h=>by
  unfold u8K at h;injection h with _ h;exact UInt8.toNat_inj.1 yz⟩
def Jc(p:qo):Value:=.agg #[.bool p.1,.bool p.2.1,.bool p.2.2.1,.bool p.2.2.2.1,.bool p.2.2.2.2]
def zT:qo:=(false,false,false,false,false)
def zD(k:UInt8):Option Value:=(kD k).map Jc
def PartsAt(w:World)(v:Value):Prop:=∃g n,v=.map (some g)∧MapV w prog 5 U8Ok u8L g n zD
theorem vZ{P:Program}{K:TypeId}{κ:Type}{ok:κ→Prop}{val:κ→Value}{kl:κ→Lit}{w:World}{b n:Nat}{m:κ→Option Value}{ops:Array Oper}{rest:List Oper}{o:Oper}{a:Act}{Q:Exit→Act→World→Prop}[DecidableEq κ](hg:o.guard=none)(mo x v:Operand)(t:TypeId)(hop:o.op=Op.insert t mo x v)
    (e:TypeId) (E:KeyEnc P K ok val kl) (ht:P.underlying t=some (.map K e)) (hm:a.eval mo=.map (some b)) (hown:MapV w P K ok kl b n m) (hn:n<maxLen) (k0:κ) (hk:ok k0) (hx:a.eval x=val k0) (v0:Value) (hv:a.eval v=v0)
    (h:∀w',MapV w' P K ok kl b (n+1) (fun k=>if k=k0 then some v0 else m k)→w.grownBy w' (some b)→wpList P ops Q rest (a.put o.dst undef) w'):
    wpList P ops Q (o::rest) a w:=by
  obtain⟨D,C,F,G,H⟩:=hown;refine wpList_plain hg fun O B=>?_
  obtain⟨w',A,I,J⟩:=C.update E.keyed ht hn (E.of k0 hk) (d:=.held v0) (ps:=[]) rfl;obtain⟨L,M,N⟩:=qw E F G H hk v0;unfold Oper.wp;simp [execOp,hop,hm,hx,hv,A,Result.andThen];exact B _ _ (h w' ⟨_,I,L,M,N⟩ J)
theorem qJ(w:World):(zeroValue 320).run prog w=.ok (Jc zT) w:=by kernel_rfl
theorem Qq(w:World):Calls prog 195 #[] w fun e w'=>Below w.heap.size w w'∧∃v,e=.returned v∧PartsAt w' v∧∃g,v=.map (some g)∧w.heap.size≤g:=by
  have Y:=@run_makeMap prog;have M:=MapV.made w prog 5 U8Ok u8L;have J:=hid M;clear M;have N:Below w.heap.size w (w.alloc (.map #[] 0)):=(Below.refl _ _).alloc (Nat.le_refl _) _;have I:=hid N;clear N;go_enter func195,ntmps195
  go_wp2_with (first
    |(refine vZ rfl _ _ _ 317 rfl 320 qI underlying317 rfl J.out yk 1 trivial rfl _ rfl ?_;intro Z O P;have E:=hid O;have A:=hid (I.grown P I.size (fun k e=>(by injection e with e;omega)));clear O P J I)
    |(refine vZ rfl _ _ _ 317 rfl 320 qI underlying317 rfl E.out yk 2 trivial rfl _ rfl ?_;intro a Q R;have F:=hid Q;have B:=hid (A.grown R A.size (fun k e=>(by injection e with e;omega)));clear Q R E A)
    |(refine vZ rfl _ _ _ 317 rfl 320 qI underlying317 rfl F.out yk 3 trivial rfl _ rfl ?_;intro b S T;have G:=hid S;have C:=hid (B.grown T B.size (fun k e=>(by injection e with e;omega)));clear S T F B)
    |(refine vZ rfl _ _ _ 317 rfl 320 qI underlying317 rfl G.out yk 4 trivial rfl _ rfl ?_;intro c U V;have H:=hid U;have D:=hid (C.grown V C.size (fun k e=>(by injection e with e;omega)));clear U V G C)
    |(refine vZ rfl _ _ _ 317 rfl 320 qI underlying317 rfl H.out yk 5 trivial rfl _ rfl ?_;intro d W X;have K:=hid W;have L:=hid (D.grown X D.size (fun k e=>(by injection e with e;omega)));clear W X H D))
  go_ret;refine⟨L.out,_,rfl,⟨w.heap.size,5,rfl,?_⟩,w.heap.size,rfl,Nat.le_refl _⟩;have:=K.out;refine cast (congrArg (MapV _ _ _ _ _ _ _) ?_) this
  funext k
  unfold zD kD;by_cases h1:k=1
  ·subst h1;rfl
  by_cases h2:k=2
  ·subst h2;rfl
  by_cases h3:k=3
  ·subst h3;rfl
  by_cases h4:k=4
  ·subst h4;rfl
  by_cases h5:k=5
  ·subst h5;rfl
  simp [h1,h2,h3,h4,h5]
end
section
open Go.RowKit Go.Maps
def UX:OpD:=(0,kg,kg,kM,0,kM)
def jN(p:qo):List Value:=[.bool p.1,.bool p.2.1,.bool p.2.2.1,.bool p.2.2.2.1,.bool p.2.2.2.2]
theorem UY(w:World):(zeroValue 112).run prog w=.ok (.agg (opV UX).toArray) w:=by kernel_rfl
theorem Kg:(prog.info? 112).map (·.size)=some 70:=by kernel_rfl
theorem ju:(prog.info? 320).map (·.size)=some 5:=by kernel_rfl
theorem Uj(w:World):(zeroValue 320).run prog w=.ok (.agg (jN zT).toArray) w:=by kernel_rfl
theorem Qr(k:UInt8):KR (k,kg,kg,kM,0,kM):=⟨⟨kI,kI,(by decide:(Lit.int .i64 0).wf=true)⟩,(show (0:Nat)≤maxLen by unfold maxLen;omega),(show (0:Nat)≤maxLen by unfold maxLen;omega)⟩
section
variable {w wx wy:World} {g b off c:Nat} {l:List UInt8} {z0 zx zp:Nat} {p:qo} {x y:OpD} {a a2:Nat}
end
def LRest{α:Type}(p:Ps α)(l:List UInt8)(n k1 i a:Nat)(xs:List α):Prop:=QJ p n (l.drop k1)=(QJ p (n - i) (l.drop a)).map fun q=>(xs++q.1,q.2)
theorem LRest.start{α:Type}(p:Ps α)(l:List UInt8)(n k1:Nat):LRest p l n k1 0 k1 []:=by
  unfold LRest;rw[Nat.sub_zero];cases QJ p n (l.drop k1)<;>simp
theorem LRest.next{α:Type}{p:Ps α}{l:List UInt8}{n k1 i a a2:Nat}{xs:List α}{x:α}(h:LRest p l n k1 i a xs)(hi:i<n)(hx:p (l.drop a)=some (x,l.drop a2)):LRest p l n k1 (i+1) a2 (xs++[x]):=by
  unfold LRest at h ⊢;rw[h,show n - i=(n - (i+1))+1 by omega];show Option.map _ (QI p _ (l.drop a))=_;rw[pBind_at hx];unfold QI;rcases QJ p (n - (i+1)) (l.drop a2) with _ |⟨A,r⟩
  ·rfl
  ·simp [pRet]
theorem LRest.fail{α:Type}{p:Ps α}{l:List UInt8}{n k1 i a:Nat}{xs:List α}(h:LRest p l n k1 i a xs)(hi:i<n)(hx:p (l.drop a)=none):QJ p n (l.drop k1)=none:=by
  unfold LRest at h;rw[h,show n - i=(n - (i+1))+1 by omega];show Option.map _ (QI p _ (l.drop a))=_;unfold QI;rw[hx];rfl
theorem LRest.end{α:Type}{p:Ps α}{l:List UInt8}{n k1 i a:Nat}{xs:List α}(h:LRest p l n k1 i a xs)(hi:n≤i):QJ p n (l.drop k1)=some (xs,l.drop a):=by
  unfold LRest at h;rw[h,show n - i=0 by omega];simp [QJ,pRet]
end
section
open Go.RowKit

theorem or128:∀x:Fin 256,bits BinOp.or IntKind.u8 ((x.val:Nat):Int) 128=((x.val % 128+128:Nat):Int):=by decide+kernel
theorem or128'(m:Nat):bits BinOp.or IntKind.u8 (IntKind.u8.wrap (m:Int)) 128=((m % 128+128:Nat):Int):=by
  have A:IntKind.u8.wrap (m:Int)=((m % 256:Nat):Int):=by
    show (m:Int) % 256=_;omega
  have h:=or128 ⟨m % 256,by omega⟩;simp only at h;rw[A,h,show m % 256 % 128=m % 128 by omega]
theorem uo(a b:List UInt8):idV (a++b)=idV a++idV b:=by simp [idV]
theorem kO{w:World}{base:Nat}{e:TypeId}{sz:Nat}{v:Value}{n:Nat}{xs:List Value}(h:w.ownsRow base e sz v n xs):∃A c,v=.slice A n c:=by
  rcases h.2 with⟨B,C⟩|⟨g,D,E,B,_⟩
  ·exact⟨none,0,by rw[B,C]⟩
  ·exact⟨_,_,B⟩
theorem jn{n:Nat}(h:n<18446744073709551616):(jq n).length≤10:=
  numB_len 10 n yz (by have e:128 ^ 10=1180591620717411303424:=by decide
                       omega)
theorem number_any(n:Nat)(hn:n<18446744073709551616)(v:Value)(k:Nat)(xs:List Value)(base:Nat)(w:World)(hown:w.ownsRow base 5 1 v k xs)(hbase:base≤w.heap.size)(hk:k≤1099511627776):
    Calls prog 254 #[v,.int .u64 n] w fun e w'=>∃I,e=.returned I∧w'.ownsRow base 5 1 I (k+(jq n).length) (xs++idV (jq n))∧Below base w w':=by
  have J:=jn hn;have E:=Lib.hid J;clear J;go_enter func254,ntmps254;go_wp2_with fail
  go_loopw [0,1] (fun t0 t1 wr=>∃(m:Nat) (A:List UInt8),t1=.int .u64 m∧m<18446744073709551616∧A.length≤10∧Hid (jq n=A++jq m)∧wr.ownsRow base 5 1 t0 (k+A.length) (xs++idV A)∧Below base w wr) (fun _ t1 _=>(intOf t1).toNat)
  case atStart=>exact⟨n,[],rfl,hn,by simp,Lib.hid rfl,by simpa [idV] using hown,qB _ _⟩
  case round=>
    obtain⟨m,A,rfl,S,Q,L,C,G⟩:=hrel;have R:=G.size;have N:A.length+(jq m).length≤10:=by
      have:=E.out;rw[L.out,List.length_append] at this;exact this
    have O:=ql m;obtain⟨T,U,M⟩:=kO C;subst M;by_cases h128:m<128
    ·have K:=UQ h128;have F:=Lib.hid K;clear K
     go_wp2_with (at_builtin;refine J3 rfl _ _ 169 rfl base 5 (.int .u8 0) 1 underlying169 jg rfl _ _ _ rfl C _ _ rfl rfl ?c1 ?c2 ?c3 ?_)
     case c1=>unfold maxLen;omega
     case c2=>omega
     case c3=>omega
     intro I P D B;have H:=B base w (qR _) G;clear B;go_wp2_with fail;go_ret;refine⟨_,rfl,?_,H⟩;rw[L.out,F.out,List.length_append,List.length_singleton,←Nat.add_assoc];have e:idV (A++[UInt8.ofNat m])=idV A++[.int .u8 (m:Int)]:=by
       simp only[idV,List.map_append,List.map_cons,List.map_nil];rw[u8_of yz]
     rw[e];exact D
    ·go_wp2_with (at_builtin;refine J3 rfl _ _ 169 rfl base 5 (.int .u8 0) 1 underlying169 jg rfl _ _ _ rfl C _ _ rfl rfl ?c1 ?c2 ?c3 ?_)
     case c1=>unfold maxLen;omega
     case c2=>omega
     case c3=>omega
     intro I P D B;have H:=B base w (qR _) G;clear B;go_wp2_with fail
     go_roundw
     case rel=>
       refine⟨m / 128,A++[UInt8.ofNat (m % 128+128)],congrArg (Value.int .u64) yz,by omega,by rw[List.length_append,List.length_singleton];omega,Lib.hid ?_,?_,H⟩
       ·rw[L.out,numB_big h128];simp
       ·rw[List.length_append,List.length_singleton,←Nat.add_assoc];have e:idV (A++[UInt8.ofNat (m % 128+128)])=idV A++[.int .u8 (bits BinOp.or IntKind.u8 (IntKind.u8.wrap (m:Int)) 128)]:=by
          simp only[idV,List.map_append,List.map_cons,List.map_nil];rw[u8_of yz];rw[or128' m]
        rw[e];exact D
     case measure=>simp [intOf];omega
theorem own_nil(w:World):Calls prog 255 #[.slice none 0 0] w fun e w'=>∃v,e=.returned v∧w'.ownsRow w.heap.size 5 1 v 0 []∧Below w.heap.size w w':=by
  obtain⟨E,F,A,B,C⟩:=info_parts jg;have D:∀w,(Instr.makeSlice 169 (.int .i64 0) (.int .i64 16)).run prog w=.ok (.slice (some ⟨w.heap.size,0,none⟩) 0 16) (w.alloc (.cells (List.replicate 16 (Value.int .u8 0)).toArray 5)):=fun _=>by kernel_rfl
  go_enter func255,ntmps255;go_wp2_with fail;go_ret;refine⟨_,rfl,?_,(qB _ _).alloc (qR _) _⟩;exact World.ownsRow_made w (List.replicate 16 (Value.int .u8 0)).toArray 16 (qR _) yk rfl
def PutGives(n:Nat)(w:World)(e:Ending)(w':World):Prop:=∃v,e=.returned (.tuple #[v,.int .i64 0])∧w'.ownsRow w.heap.size 5 1 v (jq n).length (idV (jq n))∧Below w.heap.size w w'
theorem put_nil(n:Nat)(hn:n<9223372036854775808)(w:World):Calls prog 229 #[.slice none 0 0,.int .i64 n] w (PutGives n w):=by
  have F:(n:Int)≤9223372036854775807:=by omega
  go_enter func229,ntmps229;go_wp2_with fail;refine(own_nil _).mono ?_;rintro e G ⟨v,rfl,C,B⟩;go_wp2_with fail;refine(number_any n yz v 0 [] w.heap.size _ C B.size yz).mono ?_;rintro e H ⟨E,rfl,A,D⟩;go_wp2_with fail;go_ret2;rw[qZ,List.nil_append] at A;exact⟨E,rfl,A,B.trans D⟩
def PutTextGives(s:ByteArray)(w:World)(e:Ending)(w':World):Prop:=∃v,e=.returned v∧w'.ownsRow w.heap.size 5 1 v (jH (L s)).length (idV (jH (L s)))∧Below w.heap.size w w'
theorem putText_nil(s:ByteArray)(hs:s.size≤1099511627776)(w:World):Calls prog 230 #[.slice none 0 0,.string s] w (PutTextGives s w):=by
  have P:(s.size:Int)≤9223372036854775807:=by omega
  go_enter func230,ntmps230;go_wp2_with fail;refine(own_nil _).mono ?_;rintro e R ⟨v,rfl,F,B⟩;go_wp2_with fail;refine(number_any s.size yz v 0 [] w.heap.size _ F B.size yz).mono ?_;rintro e S ⟨T,rfl,A,E⟩;rw[qZ,List.nil_append] at A;have Q:=jn (n:=s.size) yz;obtain⟨L,M,H,I,J⟩:=info_parts jg
  go_wp2_with (at_builtin;refine Lib.wpList_append_own_string _ rfl _ _ 169 9 rfl w.heap.size 5 L underlying169 underlying9 M H I J _ _ _ rfl A s rfl ?c1 ?c2 ?c3 ?_)
  case c1=>unfold maxLen;omega
  case c2=>omega
  case c3=>have:=B.size;have:=E.size;omega
  intro N U D G _;have C:=B.trans E;have K:=C.grown G C.size (fun k O=>(A.lt k O).1);go_wp2_with fail;go_ret;refine⟨N,rfl,?_,K⟩;unfold jH;rw[List.length_append,ji,uo];exact D
end
section
open Go.RowKit Go.Maps
theorem vv{P:Program}{o:Oper}{a:Act}{K:Act→World→Prop}{Q:Exit→Act→World→Prop}{w:World}(s x:Operand)(t:TypeId)
    (ho:o.op=.call { callee:=.builtin .append,args:=#[s,x],argTypes:=#[t,t]})
    (base:Nat) (e:TypeId) (z:Value) (size bytes:Nat) (ht:P.underlying t=some (.slice e)) (hinf:(P.info? e).map (fun i=>(i.zero,i.size,i.bytes))=some (some z,size,bytes))
    (hz1:z.cells.size=size) (hsz:0<size) (v:Value) (n:Nat) (xs:List Value) (hs:a.eval s=v) (hown:w.ownsRow base e size v n xs)
    (A:Addr) (m c:Nat) (news:List Value) (hx:a.eval x=.slice (some A) m c) (hl:news.length=m*size) (hnews:∀j u,news[j]?=some u→w.cell? (A.add j)=some u) (h1:∀u∈news,u.oneCell'=true)
    (hn:n+m≤maxLen) (hb:(n+m)*bytes≤140737488355328) (hbase:base≤w.heap.size)
    (h:∀B w',w'.ownsRow base e size B (n+m) (xs++news)→w.grownBy w' v.ownBlock→QK w.heap.size v B→K (a.put o.dst B) w'):o.wp P a w K Q:=by
  obtain⟨H,I,E,F,G⟩:=info_parts hinf;obtain⟨B,w',J,C,D,_⟩:=run_append_own (P:=P) w base t o.type e H z size bytes ht I E F G hz1 hsz v n xs hown A m c news hl hnews h1 hn hb hbase;have L:=vV (P:=P) (w:=w) base t o.type e H z size bytes ht I E F G hz1 hsz v n xs hown A m c news hl hnews h1 hn hb J;unfold Oper.wp execOp;simp only[ho,resolve,invoke,builtin,Sem.run_bind,Sem.run_pure,Result.andThen_ok,List.map_toArray,List.map_cons,List.map_nil,hs,hx,J];exact h B w' C D L
def WrAt(w:World)(g:Nat)(xs:List UInt8):Prop:=∃v,w.heap[g]?=some (.cells #[v] 269 (0,0))∧w.ownsRow (g+1) 5 1 v xs.length (idV xs)
def WrX(w:World)(g k:Nat):Prop:=k=g∨∃v T z,w.heap[g]?=some (.cells #[v] T z)∧v.ownBlock=some k
def WrGo(g:Nat)(w w':World):Prop:=But (WrX w g) w w'∧∀i,i<w.heap.size→WrX w' g i→WrX w g i
section
variable {g:Nat} {xs ys:List UInt8} {w w' w1 w2:World}
theorem WrAt.lt(h:WrAt w g xs):g<w.heap.size:=by
  obtain⟨v,A,_⟩:=h;exact(qX A)
theorem WrX.at_{v:Value}{T:TypeId}{z:Nat×Nat}(h:w.heap[g]?=some (.cells #[v] T z)){k:Nat}(hx:WrX w g k):k=g∨v.ownBlock=some k:=by
  rcases hx with q|⟨B,C,D,A,q⟩
  ·exact .inl q
  ·rw[h] at A;injection A with A;injection A with A _ _;injection A with A;injection A with A _;subst A;exact .inr q
theorem WrAt.low(h:WrAt w g xs){k:Nat}(hk:k<g):¬WrX w g k:=by
  obtain⟨v,A,B⟩:=h;intro C;rcases C.at_ A with q|q
  ·omega
  ·have:=(B.lt k q).1;omega
theorem WrAt.fresh(h:WrAt w g xs){k:Nat}(hk:w.heap.size≤k):¬WrX w g k:=by
  have D:=h.lt;obtain⟨v,A,B⟩:=h;intro C;rcases C.at_ A with q|q
  ·omega
  ·have:=(B.lt k q).2;omega
theorem WrGo.refl(g:Nat)(w:World):WrGo g w w:=⟨But.refl _ _,fun _ _ h=>h⟩
theorem WrGo.trans(h:WrGo g w w1)(k:WrGo g w1 w2):WrGo g w w2:=
  ⟨h.1.trans k.1 fun i A B=>h.2 i A B,fun i A B=>h.2 i A (k.2 i (qL A h.1.size) B)⟩
theorem WrGo.below(hg:g<w.heap.size)(h:Below w.heap.size w w'):WrGo g w w':=
  ⟨But.of_below h,fun i C A=>by
    rcases A with q|⟨v,T,z,B,q⟩
    ·exact .inl q
    ·exact .inr ⟨v,T,z,(h.block g hg).symm.trans B,q⟩⟩
theorem WrAt.keep(h:WrAt w g xs)(hb:Below w.heap.size w w'):WrAt w' g xs:=by
  have A:=h.lt;obtain⟨v,B,C⟩:=h;exact⟨v,(hb.block g A).trans B,(But.of_below (X:=NoB) hb).own C fun _ _ q=>q⟩
theorem WrAt.newNot(h:WrAt w g xs)(hb:Below w.heap.size w w'){k:Nat}(hk:w.heap.size≤k):¬WrX w' g k:=by
  intro A;refine h.fresh hk ?_;rcases A with q|⟨v,T,z,B,q⟩
  ·exact .inl q
  ·exact .inr ⟨v,T,z,(hb.block g h.lt).symm.trans B,q⟩
theorem WrAt.keepNot(h:WrAt w g xs)(hb:Below w.heap.size w w'){k:Nat}(hk:¬WrX w g k):¬WrX w' g k:=by
  intro A;refine hk ?_;rcases A with q|⟨v,T,z,B,q⟩
  ·exact .inl q
  ·exact .inr ⟨v,T,z,(hb.block g h.lt).symm.trans B,q⟩
theorem WrGo.apart(h:WrGo g w w'){k:Nat}(hk:k<w.heap.size)(hx:¬WrX w g k):w'.heap[k]?=w.heap[k]?∧¬WrX w' g k:=⟨h.1.block k hk hx,fun q=>hx (h.2 k hk q)⟩
theorem WrGo.cell(h:WrGo g w w'){k j:Nat}(hk:k<w.heap.size)(hx:¬WrX w g k):w'.cell? ⟨k,j,none⟩=w.cell? ⟨k,j,none⟩:=h.1.cell hk hx
theorem WrGo.belowG(h:WrGo g w w')(hw:WrAt w g xs):Below g w w':=h.1.below (Nat.le_of_lt hw.lt) fun k A=>hw.low A
theorem WrAt.put{v v':Value}(h1:w.heap[g]?=some (.cells #[v] 269 (0,0)))(h2:w.ownsRow (g+1) 5 1 v xs.length (idV xs))(hb:Below w.heap.size w w1)(ho:w2.ownsRow (g+1) 5 1 v' (xs.length+ys.length) (idV xs++idV ys))
    (hg:w1.grownBy w2 v.ownBlock) (hw:QK w1.heap.size v v'):w2.cell? ⟨g,0,none⟩=some v∧w2.frozen? ⟨g,0,none⟩=false∧WrAt (w2.setCell ⟨g,0,none⟩ v') g (xs++ys)∧WrGo g w (w2.setCell ⟨g,0,none⟩ v'):=by
  have D:=(qX h1);have E:=qL D hb.size;have H:v.ownBlock≠some g:=fun e=>by have:=(h2.lt g e).1;omega
  have F:v'.ownBlock≠some g:=fun e=>by have:=(ho.lt g e).1;omega
  have A:w2.heap[g]?=some (.cells #[v] 269 (0,0)):=((hg.block g E (fun e=>H e.symm)).trans (hb.block g D)).trans h1;have B:(w2.setCell ⟨g,0,none⟩ v').heap[g]?=some (.cells #[v'] 269 (0,0)):=by
    obtain⟨J,K⟩:=Array.getElem?_eq_some_iff.1 A;simp [World.setCell,Array.getElem?_modify,A]
  refine⟨?_,?_,⟨v',B,?_⟩,?_,?_⟩
  ·simp [World.cell?,A]
  ·simp [World.frozen?,A]
  ·have G:But (fun k=>k=g) w2 (w2.setCell ⟨g,0,none⟩ v'):=But.setCell (X:=fun k=>k=g) (But.refl _ _) (p:=⟨g,0,none⟩) (fun _=>rfl) v';have:=G.own ho fun k C e=>F (by rw[C,e])
   rw[List.length_append,uo];exact this
  ·refine But.setCell (But.grown (But.of_below hb) hg fun k C _=>.inr ⟨v,_,_,h1,C⟩) (fun _=>.inl rfl) v'
  ·intro i L I;rcases I.at_ B with q|q
   ·exact .inl q
   ·rcases hw with e|⟨k,e,C⟩
    ·exact .inr ⟨v,_,_,h1,by rw[←e];exact q⟩
    ·rw[e] at q;injection q with q;have:=hb.size;omega
end
theorem qK{w:World}{base:Nat}{e:TypeId}{sz:Nat}{v:Value}{n:Nat}{xs:List Value}(h:w.ownsRow base e sz v n xs)(hn:0<n):∃k c,v=.slice (some ⟨k,0,none⟩) n c∧∀j u,xs[j]?=some u→w.cell? ((⟨k,0,none⟩:Addr).add j)=some u:=by
  rcases h.2 with⟨_,C⟩|⟨k,A,B,rfl,r⟩
  ·omega
  ·exact⟨k,A,rfl,h.cells rfl⟩
theorem infoId:(prog.info? 41).map (fun i=>(i.zero,i.size,i.bytes))=some (some (.agg (idV k7).toArray),32,32):=by kernel_rfl
theorem ex_buildR{P:Program}{ρ:Operand→Value}{o:Oper}{w:World}(t:TypeId)(x:Operand)(ho:o.op=.buildSlice t 1 #[(0,x)])(e:TypeId)(ht:P.underlying t=some (.slice e))(z:Value)(size bytes:Nat)(hinf:(P.info? e).map (fun i=>(i.zero,i.size,i.bytes))=some (some z,size,bytes))(hz1:z.cells.size=size)(hsz:0<size)(hmax:size≤16777216)
    (us:List Value) (hl:us.length=size) (hx:ρ x=.agg us.toArray):(execOp ρ o).run P w=.ok (.value (.slice (some ⟨w.heap.size,0,none⟩) 1 1)) (w.alloc (.cells us.toArray e)):=by
  have A:=Ka w t e ht z size bytes hinf hz1 hsz [.agg us.toArray] (fun v B=>by rw[List.mem_singleton.1 B];exact hl) yq (by simpa using hmax);simp only[List.flatMap_cons,List.flatMap_nil,List.append_nil] at A;unfold execOp;have C:(Instr.buildSlice t 1 #[(0,.agg us.toArray)]).run P w=.ok (.slice (some ⟨w.heap.size,0,none⟩) 1 1) (w.alloc (.cells us.toArray e)):=A;simp only[ho,List.map_toArray,List.map_cons,List.map_nil,hx,Sem.run_bind,C,Result.andThen_ok,Sem.run_pure]
theorem own_not{w:World}{base n sz k:Nat}{e T:TypeId}{v:Value}{xs:List Value}{cs:List Value}(h:w.ownsRow base e sz v n xs)(hk:w.heap[k]?=some (.cells cs.toArray T (0,0)))(hne:e≠T):v.ownBlock≠some k:=by
  intro B;rcases h.2 with⟨C,_⟩|⟨g,D,E,C,_,A,_⟩
  ·rw[C] at B;cases B
  ·rw[C] at B;have:g=k:=by simpa [Value.ownBlock] using B
   subst this;rw[hk] at A;injection A with A;injection A with _ A _;exact hne A.symm
theorem idsV_snoc(xs:List (List UInt8))(i:List UInt8):zf (xs++[i])=zf xs++idV i:=by simp [zf]
theorem wp_allocM1{P:Program}{o:Oper}{w:World}{ops:Array Oper}{rest:List Oper}{a:Act}{Q:Exit→Act→World→Prop}(hw:Region.wanted o (yielded ops a.tmps)=true)(t:TypeId)(ho:o.op=.alloc t)(v:Value)(hv:v.cells=#[v])(hz:∀w:World,(zeroValue t).run P w=.ok v w)
    (h:∀W:World,Below w.heap.size w W→W.heap[w.heap.size]?=some (.cells [v].toArray t (0,0))→W.heap.size=w.heap.size+1→wpList P ops Q rest (a.put o.dst (.pointer (some ⟨w.heap.size,0,none⟩))) W):wpList P ops Q (o::rest) a w:=by
  refine BigFrame.wpList_want hw fun K A=>?_
  have B:(execOp a.eval o).run P w=.ok (.value (.pointer (some ⟨w.heap.size,0,none⟩))) (w.alloc (.cells [v].toArray t)):=by
    unfold execOp;simp [ho,Instr.alloc,newVar,newRow,hz,Result.andThen,Sem.run_bind,hv]
  unfold Oper.wp;rw[B];exact A _ _ (h _ ((Below.refl _ _).alloc (Nat.le_refl _) _) (heap_alloc_new _ _) yq)
theorem own_base8{w:World}{b b':Nat}{e:TypeId}{sz n:Nat}{v:Value}{xs:List Value}(h:w.ownsRow b e sz v n xs)(hb:b'≤b):w.ownsRow b' e sz v n xs:=by
  refine⟨h.1,?_⟩;rcases h.2 with D|⟨g,A,B,E,C,r⟩
  ·exact .inl D
  ·exact .inr ⟨g,A,B,E,qT hb C,r⟩
theorem Km(w:World)(cs:List Value)(T:TypeId):∀j u,cs[j]?=some u→(w.alloc (.cells cs.toArray T)).cell? ((⟨w.heap.size,0,none⟩:Addr).add j)=some u:=fun j u A=>by
  have B:(⟨w.heap.size,0,none⟩:Addr).add j=⟨w.heap.size,j,none⟩:=by unfold Addr.add;split<;>simp_all
  rw[B];exact(k4 (heap_alloc_new _ _) j).trans A
end
section
open Go.RowKit
section
variable {P:Program} {ρ:Operand→Value} {o:Oper} {w:World}
theorem ZY{e:TypeId}{size:Nat}(hs:(P.info? e).map (·.size)=some size)(w:World):(sizeOf e).run P w=.ok size w:=by
  cases hq:P.info? e with
  |none=>simp [hq] at hs
  |some i=>
   have:i.size=size:=by simpa [hq] using hs
   simp [sizeOf,typeInfo,hq,this]
theorem ex_slice_lh(t:TypeId)(x lo hi:Operand)(ho:o.op=.slice t x (some lo) (some hi) none){A:Option Addr}{n c l h:Nat}{kl kh:IntKind}(hx:ρ x=.slice A n c)(hl:ρ lo=.int kl (l:Int))(hh:ρ hi=.int kh (h:Int))
    (ht:P.underlying t=some (.slice (P.elem t))) {size:Nat} (hs:(P.info? (P.elem t)).map (·.size)=some size) (h1:l≤h) (h2:h≤c) {V:Value} (hV:sliced A l h c size=V):
    (execOp ρ o).run P w=.ok (.value V) w:=by
  subst hV;have B:=run_slice_lh w t A n c ht kl kh (l:Int) (h:Int) yz yz yz;rw[ZY hs] at B;simp only[Result.andThen,Int.toNat_natCast] at B;have C:=run_sliceAt_slice w t (.slice A n c) (some (.int kl (l:Int))) (some (.int kh (h:Int))) none ht;rw[B] at C;unfold execOp;simp only[ho,hx,hl,hh,Option.map_some,Option.map_none,Sem.run_bind,C,Result.andThen_ok,Sem.run_pure]
theorem uq(t:TypeId)(x lo:Operand)(ho:o.op=.slice t x (some lo) none none){A:Option Addr}{n c l:Nat}{kl:IntKind}(hx:ρ x=.slice A n c)(hl:ρ lo=.int kl (l:Int))
    (ht:P.underlying t=some (.slice (P.elem t))) {size:Nat} (hs:(P.info? (P.elem t)).map (·.size)=some size) (h1:l≤n) {V:Value} (hV:sliced A l n c size=V):
    (execOp ρ o).run P w=.ok (.value V) w:=by
  subst hV;have B:=run_slice_l w t A n c ht kl (l:Int) yz yz;rw[ZY hs] at B;simp only[Result.andThen,Int.toNat_natCast] at B;have C:=run_sliceAt_slice w t (.slice A n c) (some (.int kl (l:Int))) none none ht;rw[B] at C;unfold execOp;simp only[ho,hx,hl,Option.map_some,Option.map_none,Sem.run_bind,C,Result.andThen_ok,Sem.run_pure]
end
theorem run_copy_noneN{P:Program}(w:World)(dT sT ty elem:TypeId)(sz:Nat)(d a:Option Addr)(dLen dCap sLen sCap:Nat)(hu:P.underlying dT=some (.slice elem))(hs:(P.info? elem).map (·.size)=some sz)(hn:Nat.min sLen dLen=0):
    (Builtin.copy_ #[dT,sT] ty #[.slice d dLen dCap,.slice a sLen sCap]).run P w=.ok (goInt 0) w:=by
  cases hq:P.info? elem with
  |none=>simp [hq] at hs
  |some i=>
   have A:∀(x:Addr),(loadCells x 0).run P w=.ok #[] w:=fun x=>by simpa using run_loadCells_list (P:=P) w x [] yq
   cases d<;>cases a<;>simp [Builtin.copy_,run_underlying hu,Builtin.lenOf,Builtin.firstCells,sizeOf,typeInfo,hq,hn,storeCells,A]
theorem setRow_but(w:World)(g:Nat)(cs:Array Value):But (fun k=>k=g) w (w.setRow g cs):=
  ⟨rfl,rfl,rfl,by simp [World.setRow],fun k B A=>by
    unfold World.setRow;simp only[Array.getElem?_modify];rw[if_neg (fun e=>A e.symm)]⟩
theorem run_shift{P:Program}{α:Type}{enc:α→List Value}{sz:Nat}(w:World)(dT sT ty elem:TypeId)(hu:P.underlying dT=some (.slice elem))(hs:(P.info? elem).map (·.size)=some sz)
    {l:List α} (ho:∀x∈l,(enc x).length=sz) {i:Nat} (hi:i≤l.length) {z tail:List Value} (hz:z.length=sz) {g c:Nat} {t:TypeId}
    (hg:w.heap[g]?=some (.cells ((ke enc l++z)++tail).toArray t (0,0))) (hc:l.length+1≤c) (h1:∀u∈ke enc l,u.oneCell'=true):
    ∃m W,m.length=sz∧(Builtin.copy_ #[dT,sT] ty #[sliced (some ⟨g,0,none⟩) (i+1) (l.length+1) c sz,sliced (some ⟨g,0,none⟩) i (l.length+1) c sz]).run P w=.ok (goInt ((l.length - i:Nat):Int)) W∧
     W.heap[g]?=some (.cells (ke enc (l.take i)++(m++(ke enc (l.drop i)++tail))).toArray t (0,0))∧But (fun k=>k=g) w W∧W.heap.size=w.heap.size:=by
  have G:=jc ho;have A:∀x,(⟨g,0,none⟩:Addr).add x=⟨g,0+x,none⟩:=fun x=>by unfold Addr.add;split<;>simp_all
  rcases (by omega:i=l.length∨i<l.length) with rfl|N
  ·refine⟨z,w,hz,?_,?_,But.refl _ _,rfl⟩
   ·rw[show ((l.length - l.length:Nat):Int)=0 by simp];exact run_copy_noneN w dT sT ty elem sz _ _ _ _ _ _ hu hs (by show min _ (l.length+1 - (l.length+1))=0;omega)
   ·rw[hg,List.take_length,List.drop_length];simp [ke]
  ·obtain⟨m,H,E⟩:=shift_rows ho hi (tail:=tail) hz;have F:(ke enc (l.drop i)).length=(l.length - i)*sz:=by rw[jc fun x I=>ho x (List.mem_of_mem_drop I),List.length_drop]
   have J:sliced (some ⟨g,0,none⟩) (i+1) (l.length+1) c sz=.slice (some ⟨g,0+(i+1)*sz,none⟩) (l.length+1 - (i+1)) (c - (i+1)):=by
     unfold sliced;rw[if_neg yz];simp [A]
   have K:sliced (some ⟨g,0,none⟩) i (l.length+1) c sz=.slice (some ⟨g,0+i*sz,none⟩) (l.length+1 - i) (c - i):=by
     unfold sliced;rw[if_neg yz];simp [A]
   have B:Nat.min (l.length+1 - i) (l.length+1 - (i+1))=l.length - i:=by show min _ _=_;omega
   have D:=run_copy_rowN (P:=P) w dT sT ty elem sz g (0+(i+1)*sz) (l.length+1 - (i+1)) (c - (i+1)) ⟨g,0+i*sz,none⟩ (l.length+1 - i) (c - i) _ t (ke enc (l.drop i)) hu hs hg (by rw[F,B])
     (fun j u L=>by
       have M:(⟨g,0+i*sz,none⟩:Addr).add j=⟨g,0+i*sz+j,none⟩:=by unfold Addr.add;split<;>simp_all
       have C:=L;rw[rowsV_drop ho hi,List.getElem?_drop] at C;rw[M,k4 hg,show 0+i*sz+j=i*sz+j by omega,List.append_assoc,List.getElem?_append_left (List.getElem?_eq_some_iff.1 C).1];exact C)
     (by
       rw[List.size_toArray,List.length_append,List.length_append,G,hz,F,Nat.zero_add,←Nat.add_mul,show i+1+(l.length - i)=l.length+1 by omega,Nat.succ_mul];omega)
     (fun u hu=>h1 u (by rw[rowsV_drop ho hi] at hu;exact List.mem_of_mem_drop hu))
   refine⟨m,_,H,by rw[J,K,D,B],?_,setRow_but _ _ _,by simp [World.setRow]⟩;rw[setRow_heap w g _ _ t (0,0) hg];simp only[Nat.zero_add];rw[E]
end
section
open Go.RowKit Go.Maps
open Lib (hid)
theorem infoRun:(prog.info? 177).map (fun i=>(i.zero,i.size,i.bytes))=some (some (.agg runZ.toArray),36,80):=by kernel_rfl
theorem runZ_built(w:World):(Instr.build 177 #[]).run prog w=.ok (.agg runZ.toArray) w:=by kernel_rfl
theorem ex_copy{P:Program}{ρ:Operand→Value}{op:Oper}{w W:World}(d s:Operand)(dT sT:TypeId)(ho:op.op=.call { callee:=.builtin .copy,args:=#[d,s],argTypes:=#[dT,sT]}){v1 v2 r:Value}(hd:ρ d=v1)(hs:ρ s=v2)
    (h:(Builtin.copy_ #[dT,sT] op.type #[v1,v2]).run P w=.ok r W):(execOp ρ op).run P w=.ok (.value r) W:=by
  unfold execOp;simp only[ho,resolve,invoke,builtin,Sem.run_bind,Sem.run_pure,Result.andThen_ok,List.map_toArray,List.map_cons,List.map_nil,hd,hs,h]
def DPutGives(w:World)(B p:Nat)(v:Value)(rs:List zz)(e:Ending)(w':World):Prop:=
  e=.returned (.tuple #[])∧∃v',DocRows w' B p v' rs∧But (DocX p v) w w'∧Newer w v v'
theorem put_run(rs:List zz)(i:Nat)(r:zz)(B p:Nat)(v:Value)(w:World)(h:DocRows w B p v rs)(hr:RunIn w r)(hi:i≤rs.length)(hl:rs.length≤1073741824):
    Calls prog 159 #[.pointer (some ⟨p,0,none⟩),.int .i64 (i:Int),.agg (ja r).toArray] w (DPutGives w B p v (rs.take i++r::rs.drop i)):=by
  have D:=hid h;have HR:=hid hr
  have AB:=h.lt;have f:=jD hr;clear h hr;go_enter func159,ntmps159
  go_upto_region 1 with (first
    |(with_reducible refine kB ?_
      refine kr yx 177 _ rfl (ja r) _ rfl rfl (by rw[f];kernel_rfl) ?_;intro G A1 Am An;have F:=hid A1;have L:=hid Am;have A3:=hid An
      clear A1 Am An))
  obtain⟨T,A1⟩:∃T,w.heap.size=T:=⟨_,rfl⟩;have C:=hid (D.keep F.out);have U:=hid (show T<G.heap.size by have:=A3.out;omega);obtain⟨s,t,Af⟩:=C.box;have J:=hid Af;have c0:G.cell? ⟨p,0,none⟩=some v:=k4 Af 0;have V:=hid (show ¬DocX p v T from fun q=>by
    rcases q with q|q
    ·omega
    ·have:=(D.own.lt T q).2;omega)
  have A4:=hid (show ∀u∈ke ja rs,u.oneCell'=true from fun u hu=>by
    obtain⟨x,E,hu⟩:=List.mem_flatMap.1 hu;exact KX x (D.ins x E).2.1.one u hu)
  have A5:=hid (KX r HR.2.1.one);have o:=hid (fun (u:World) (hu:Below G.heap.size G u)=>(But.of_below (X:=NoB) hu).own C.own fun _ _ q=>q);have A6:=hid (show B≤G.heap.size from qT D.low (Nat.le_of_lt (qL AB F.size)));clear Af;rw[A1] at L ⊢;have A7:=hid (show v.ownBlock≠some p from fun e=>by
    obtain⟨AJ,hc⟩:=kE C.own e;exact jr hc J.out yv rfl)
  go_upto_region 2 with (first
    |(with_reducible refine kJ ?_
      refine k5 yx (kj 177 _ rfl (runZ_built _)) ?_)
    |(refine jJ yx 190 _ rfl 177 underlying190 (.agg runZ.toArray) 36 80 infoRun rfl yv yv runZ rfl rfl ?_)
    |(refine KM yx _ _ 190 rfl B 177 (.agg runZ.toArray) 36 80 underlying190 infoRun rfl yv v rs.length (ke ja rs) rfl (o.out _ ((qB _ _).alloc (qR _) _)) ⟨G.heap.size,0,none⟩ 1 1 runZ rfl rfl (Km G _ _) runZ_one yk yz (by have:=A6.out;simp;omega) ?_;intro v1 w1 Ao Ag Ap;obtain⟨A,I,A2,rfl,AC,Ah,Aq,AD,AE⟩:=KJ Ao yz;have M:=hid Ah;have Y:=hid ((Ag.block p (by simpa using Nat.lt_succ_of_lt (qX J.out)) (fun e=>A7.out e.symm)).trans ((heap_alloc_old G _ (qX J.out)).trans J.out));have A8:=hid (show But (DocX p v) G w1 from ((But.refl _ G).alloc _).grown Ag fun k e _=>.inr e);have N:=hid (show A<G.heap.size→DocX p v A from fun h=>by
         rcases Ap with q|⟨g,q,hz⟩
         ·exact .inr (q.symm.trans rfl)
         ·have:A=g:=by simpa [Value.ownBlock] using q
          subst this;simp at hz;omega)
      clear Ao Ag Ap Ah)
    |(with_reducible refine kw ?_
      refine ko yx 190 _ _ rfl p 0 [] [v] [.int .i64 s,.int .i64 t] [.slice (some ⟨A,0,none⟩) (rs.length+1) I] 192 (.slice (some ⟨A,0,none⟩) (rs.length+1) I) rfl rfl rfl rfl Y.out rfl yy (by intro u hu;rw[List.mem_singleton.1 hu];rfl) ?_;intro w2 Ar As AK;have Z:=hid Ar;have A9:=hid As
      clear Ar As))
  have K:=hid (show A≠p from jr M.out Y.out yv);have Aa:=hid ((Z.block A (qX M.out) K.out).trans M.out);have O:Hid (w2.heap[p]?=some (.cells [.slice (some ⟨A,0,none⟩) (rs.length+1) I,.int .i64 s,.int .i64 t].toArray 192 (0,0))):=hid (by simpa using A9.out);have y:Hid (But (DocX p v) G w1):=hid A8.out;have Q:Hid (But (DocX p v) G w2):=hid (y.trans Z.out fun k hk e=>.inl e);have AA:=hid (show w2.rangeAt T 0 (ja r) from fun j u hj=>by rw[qZ];exact(Q.cell (g:=T) (j:=j) U.out V.out).trans ((k4 L.out j).trans hj));obtain⟨m,W,hm,Ai,At,Au,AF⟩:=run_shift (P:=prog) (enc:=ja) (sz:=36) w2.drew 190 190 3 177 underlying190 zt (vW D.ins) hi (z:=runZ) (tail:=A2) yy (g:=A) (c:=I) (t:=177) Aa.out Aq (A4.out);have A0:=hid Ai;have Ab:=hid At;have a:=hid Au;have HM:=hid hm
  clear Ai At Au AF hm;have R:=hid ((a.block p (qX O.out) (fun e=>K.out e.symm)).trans O.out);have Ac:=hid (show IntKind.i64.wrap ((i:Int)+1)=((i+1:Nat):Int) by rw[IntWalk.i64_in _ yz];omega);refine rN 13 (fun u=>u.cell? ⟨p,0,none⟩=some (.slice (some ⟨A,0,none⟩) (rs.length+1) I)) (k4 O.out 0) fun Av=>?_
  refine tw 0 (.pointer (some ⟨p,0,none⟩)) ?_;go_frame;refine tw 1 (.pointer (some ⟨p,0,none⟩)) ?_;go_frame;refine tw 2 (.pointer (some ⟨p,0,none⟩)) ?_;go_frame;refine tl 3 (.slice (some ⟨A,0,none⟩) (rs.length+1) I) rfl Av (fun w' H=>l1 underlying190 H) ?_;go_frame;refine tw 4 (.int .i64 (i:Int)) ?_;go_frame;refine tw 5 (.int .i64 (IntKind.i64.wrap ((i:Int)+1))) ?_;go_frame;refine tk 6 (sliced (some ⟨A,0,none⟩) (i+1) (rs.length+1) I 36) rfl (fun w' H=>uq 190 _ _ rfl (l:=i+1) rfl (congrArg (Value.int .i64) Ac.out) underlying190 zt yz rfl) ?_;go_frame;refine tw 7 (.pointer (some ⟨p,0,none⟩)) ?_;go_frame;refine tw 8 (.pointer (some ⟨p,0,none⟩)) ?_;go_frame;refine tw 9 (.pointer (some ⟨p,0,none⟩)) ?_;go_frame;refine tl 10 (.slice (some ⟨A,0,none⟩) (rs.length+1) I) rfl Av (fun w' H=>l1 underlying190 H) ?_;go_frame;refine tw 11 (.int .i64 (i:Int)) ?_;go_frame;refine tk 12 (sliced (some ⟨A,0,none⟩) (i) (rs.length+1) I 36) rfl (fun w' H=>uq 190 _ _ rfl (l:=i) rfl rfl underlying190 zt yz rfl) ?_;go_frame;refine ta 13 ?_;refine zB _ rfl yy (ex_copy (v1:=(sliced (some ⟨A,0,none⟩) (i+1) (rs.length+1) I 36)) (v2:=(sliced (some ⟨A,0,none⟩) (i) (rs.length+1) I 36)) _ _ 190 190 rfl rfl rfl A0.out) ?_;refine⟨fun h=>absurd h yv,?_⟩;go_frame;refine ku yy ?_ _
  go_upto_region 3 with fail
  have S:Hid (But (DocX p v) G W):=hid ((Q.drew).trans a.out fun k hk e=>by subst e;exact N.out hk);have Ad:=hid (show W.rangeAt T 0 (ja r) from fun j u hj=>by rw[qZ];exact(S.cell (g:=T) (j:=j) U.out V.out).trans ((k4 L.out j).trans hj));refine rN 7 (fun u=>u.cell? ⟨p,0,none⟩=some (.slice (some ⟨A,0,none⟩) (rs.length+1) I)∧u.rangeAt T 0 (ja r)) ⟨k4 R.out 0,Ad.out⟩ fun Aw=>?_
  refine tw 0 (.pointer (some ⟨p,0,none⟩)) ?_;go_frame;refine tw 1 (.pointer (some ⟨p,0,none⟩)) ?_;go_frame;refine tw 2 (.pointer (some ⟨p,0,none⟩)) ?_;go_frame;refine tl 3 (.slice (some ⟨A,0,none⟩) (rs.length+1) I) rfl Aw (fun w' H=>l1 underlying190 H.1) ?_;go_frame;refine tw 4 (.int .i64 (i:Int)) ?_;go_frame;refine tl 5 (.agg (ja r).toArray) rfl Aw (fun w' H=>ldU f H.2) ?_;go_frame;refine tk 6 (.pointer (some ⟨A,0+i*36,none⟩)) rfl (fun w' H=>Kc 190 _ _ rfl (b:=A) (off:=0) (q:=i) (n:=rs.length+1) (c:=I) rfl rfl yz underlying190 zt) ?_;go_frame;refine ta 7 ?_;refine kW _ rfl yy 177 _ _ rfl A (0+i*36) (ke ja (rs.take i)) m (ke ja (rs.drop i)++A2) (ja r) 177 (.agg (ja r).toArray) rfl (by rw[jc (vW fun x E=>D.ins x (List.mem_of_mem_take E)),List.length_take,Nat.min_eq_left hi,Nat.zero_add]) rfl rfl Ab.out (by rw[HM.out,f]) (by rw[f];exact zt) A5.out ?_;intro W4 Ax Ay AG;have d:=hid Ax;have Ae:=hid Ay
  clear Ax Ay AG;refine⟨fun h=>absurd h yv,?_⟩;go_frame;refine ku yy ?_ _;go_wp2_with fail
  go_end0
  have Aj:But (DocX p v) G W4:=S.drew.trans d.out fun k hk e=>by
    have e2:k=A:=e;subst e2;exact N.out hk
  have AH:=(d.block p (qX R.out) (fun e=>K.out e.symm)).trans R.out;have Ak:KeepR G W4:=KeepR.but Aj C.at.noRunes;refine⟨rfl,.slice (some ⟨A,0,none⟩) (rs.length+1) I,⟨⟨s,t,AH⟩,D.low,fun x E=>?_,?_⟩,(But.of_below F.out).trans Aj (fun _ _ q=>q),fun k hk=>?_⟩
  ·rcases List.mem_append.1 E with E|E
   ·exact(C.ins x (List.mem_of_mem_take E)).keep Ak
   ·rcases List.mem_cons.1 E with rfl|E
    ·exact(HR.keep (KeepR.below F.out)).keep Ak
    ·exact(C.ins x (List.mem_of_mem_drop E)).keep Ak
  ·have Al:(rs.take i++r::rs.drop i).length=rs.length+1:=by simp;omega
   rw[Al];have Az:∀x∈rs.take i++r::rs.drop i,(ja x).length=36:=fun x E=>by
     rcases List.mem_append.1 E with E|E
     ·exact jD (D.ins x (List.mem_of_mem_take E))
     ·rcases List.mem_cons.1 E with rfl|E
      ·exact f
      ·exact jD (D.ins x (List.mem_of_mem_drop E))
   refine qv (by rw[jc Az,Al]) AC ?_ Aq AD AE;rw[Ae.out];simp [ke]
  ·have AI:A=k:=by simpa [Value.ownBlock] using hk
   subst AI;by_cases hz:A<G.heap.size
   ·rcases N.out hz with q|q
    ·exact absurd q K.out
    ·exact .inl q
   ·exact .inr (qT F.size yz)
end
section
open Go.RowKit Go.Maps
theorem docZ_built(w:World):(Instr.build 192 #[]).run prog w=.ok (.agg [.slice none 0 0,.int .i64 0,.int .i64 0].toArray) w:=by kernel_rfl
theorem docNew_any(B:Nat)(w:World)(hB:B≤w.heap.size):Calls prog 99 #[] w fun e w'=>e=.returned (.pointer (some ⟨w.heap.size,0,none⟩))∧Below w.heap.size w w'∧DocRows w' B w.heap.size (.slice none 0 0) []:=by
  go_enter func99,ntmps99
  go_wp2_with (first
    |(with_reducible refine kJ ?_
      refine k5 yx (kj 192 _ rfl (docZ_built _)) ?_)
    |(with_reducible refine kB ?_
      refine kr yx 192 _ rfl [.slice none 0 0,.int .i64 0,.int .i64 0] _ rfl rfl yy ?_;intro H D E F;have A:=Lib.hid D;have C:=Lib.hid E
      clear D E F))
  go_ret;exact⟨rfl,A.out,⟨0,0,C.out⟩,hB,fun r G=>(by cases G),World.ownsRow_nil _ _ _ _⟩
def qM(e:Int):List PanicEntry:=[{ v:=.iface 122 (.agg #[.int .i64 e]),recovered:=false}]
theorem JD(n:Int)(w:World):Calls prog 51 #[.bool true,.int .i64 n] w fun e w'=>e=.returned (.tuple #[])∧w'=w:=by
  go_enter func51,ntmps51
  go_wp2
  go_end0
  exact⟨rfl,rfl⟩
theorem stop_built(n:Int)(w:World):(Instr.build 122 #[(0,.int .i64 n)]).run prog w=.ok (.agg #[.int .i64 n]) w:=by kernel_rfl
theorem JR(n:Int)(w:World):Calls prog 51 #[.bool false,.int .i64 n] w fun e w'=>e=.panicked (qM n)∧w'=w:=by
  go_enter func51,ntmps51
  go_wp2_with (first
    |(with_reducible refine kJ ?_
      refine k5 yx (kj 122 _ rfl (stop_built n)) ?_))
  exact⟨rfl,rfl,rfl⟩
theorem shelf_built(m:Option Nat)(w:World):(Instr.build 84 #[(0,.map m)]).run prog w=.ok (.agg [.map m,.slice none 0 0].toArray) w:=by kernel_rfl
theorem state_built(m n:Option Nat)(w:World):(Instr.build 87 #[(0,.agg [.map m,.slice none 0 0].toArray),(1,.map n)]).run prog w=.ok (.agg [.map m,.slice none 0 0,.map n].toArray) w:=by kernel_rfl
theorem stateNew_any(B:Nat)(w:World)(hB:B≤w.heap.size):Calls prog 27 #[] w fun e w'=>Below w.heap.size w w'∧∃s q,e=.returned (.pointer (some ⟨s,0,none⟩))∧StateAt w' B s Jh q∧q.nd=0:=by
  have P:=@run_makeMap prog;have D:=Lib.hid (MapV.made w prog 89 kN uP);have E:=Lib.hid (MapV.made (w.alloc (.map #[] 0)) prog 41 jp idL);have F:=Lib.hid (D.alloc (.map #[] 0));have C:=Lib.hid (((qB w.heap.size w).alloc (qR _) (.map #[] 0)).alloc yq (.map #[] 0));go_enter func27,ntmps27
  go_wp2_with (first
    |(with_reducible refine kJ ?_
      refine k5 yx (kj 84 _ rfl (shelf_built _)) ?_)
    |(with_reducible refine kJ ?_
      refine k5 yx (kj 87 _ rfl (state_built _ _)) ?_)
    |(with_reducible refine kB ?_
      refine kr yx 87 _ rfl [.map (some w.heap.size),.slice none 0 0,.map (some (w.heap.size+1))] _ rfl rfl yy ?_;intro Q H I J;have A:=Lib.hid H;have G:=Lib.hid I
      clear H I J))
  go_ret;refine⟨C.trans (A.mono C.size),_,⟨w.heap.size,w.heap.size+1,0,.slice none 0 0,fun _=>0,fun _=>.slice none 0 0,fun _=>(.slice none 0 0,.slice none 0 0,.slice none 0 0)⟩,rfl,?_,rfl⟩;have K:=G.out;simp only[World.size_alloc] at K;refine⟨K,⟨by omega,hB,by show B≤w.heap.size+1;omega⟩,F.below A.out,?_,by show w.heap.size≠w.heap.size+1;omega,World.ownsRow_nil _ _ _ _,(fun c L=>by cases L),(fun k d M=>by cases M),(fun k R N=>by cases N),(fun i e O=>by cases O)⟩;have h:=E.below A.out;rw[World.size_alloc] at h;exact h
section
variable {P:Program} {K:TypeId} {κ:Type} {ok:κ→Prop} {val:κ→Value} {kl:κ→Lit} {w:World} {b n:Nat} {m:κ→Option Value} {ρ:Operand→Value} {o:Oper}
theorem KF{mo x:Operand}{t:TypeId}{e:TypeId}(E:KeyEnc P K ok val kl)(ht:P.underlying t=some (.map K e)){z:Value}(hz:(zeroValue e).run P w=.ok z w)(hown:MapV w P K ok kl b n m){k0:κ}(hk:ok k0){V:Value}(hV:(m k0).getD z=V)
    (hop:o.op=Op.lookup t mo x false:=by rfl) (hm:ρ mo=.map (some b):=by rfl) (hx:ρ x=val k0:=by rfl):(execOp ρ o).run P w=.ok (.value V) w:=by
  subst hV;obtain⟨D,F,L,G,H⟩:=hown;obtain⟨v,M,B,I⟩:=F.lookup E.keyed ht hz (zd:=.held z) (zp:=[]) rfl (E.of k0 hk);have C:v=(m k0).getD z:=by
    have A:(DataW.held v:DataW Value)=D.atKey (kl k0) (.held z):=congrArg Prod.fst (Option.some.inj I);rcases hmk:m k0 with _ |u
    ·have J:has D (kl k0)=false:=by rw[G k0 hk,hmk];rfl
     rw[atKey_of_not_has J] at A;injection A
    ·rw[H k0 u hk hmk] at A;injection A
  subst C;unfold execOp;simp [hop,hm,hx,B,Result.andThen]
theorem ex_mapGet2{mo x:Operand}{t:TypeId}{e:TypeId}(E:KeyEnc P K ok val kl)(ht:P.underlying t=some (.map K e)){z:Value}(hz:(zeroValue e).run P w=.ok z w)(hown:MapV w P K ok kl b n m){k0:κ}(hk:ok k0){V:Value}(hV: .tuple #[(m k0).getD z,.bool (m k0).isSome]=V)
    (hop:o.op=Op.lookup t mo x true:=by rfl) (hm:ρ mo=.map (some b):=by rfl) (hx:ρ x=val k0:=by rfl):(execOp ρ o).run P w=.ok (.value V) w:=by
  subst hV;obtain⟨D,G,L,C,H⟩:=hown;obtain⟨v,M,A,I⟩:=G.look_ok E.keyed ht hz (zd:=.held z) (zp:=[]) rfl (E.of k0 hk);have F:v=(m k0).getD z:=by
    have B:(DataW.held v:DataW Value)=D.atKey (kl k0) (.held z):=congrArg Prod.fst (Option.some.inj I);rcases hmk:m k0 with _ |u
    ·have J:has D (kl k0)=false:=by rw[C k0 hk,hmk];rfl
     rw[atKey_of_not_has J] at B;injection B
    ·rw[H k0 u hk hmk] at B;injection B
  subst F;rw[C k0 hk] at A;unfold execOp;simp [hop,hm,hx,A,Result.andThen]
end
end
section
open Go.RowKit Go.Maps
open Lib (hid)
def entryZ:List Value:=[.int .i64 0,.slice none 0 0,.string kM,.slice none 0 0,.slice none 0 0]
theorem KY(w:World):(zeroValue 105).run prog w=.ok (.agg entryZ.toArray) w:=by kernel_rfl
theorem entryZ_one:∀u∈entryZ,u.oneCell'=true:=by unfold entryZ;intro u A;simp only[List.mem_cons,List.not_mem_nil,or_false] at A;rcases A with rfl|rfl|rfl|rfl|rfl<;>rfl
theorem entryV_one(w:World)(e:vE)(m:Ql)(h:EntryIn w e m):∀u∈Kl e m,u.oneCell'=true:=by
  obtain⟨E,F,B⟩:=jd h.deps;obtain⟨G,H,C⟩:=jd h.ops;obtain⟨I,J,D⟩:=jd h.makes;unfold Kl;rw[B,C,D];intro u A;simp only[List.mem_cons,List.not_mem_nil,or_false] at A;rcases A with rfl|rfl|rfl|rfl|rfl<;>rfl
def KZ(S:kz)(q:j5)(i:List UInt8):List Value:=match kC S i with
  |some e=>Kl e (q.em i)
  |none=>entryZ
theorem Z9(S:kz)(q:j5)(i:List UInt8):((kC S i).map fun e=>Value.agg (Kl e (q.em i)).toArray).getD (.agg entryZ.toArray)=.agg (KZ S q i).toArray:=by
  unfold KZ;cases kC S i<;>rfl
theorem entryG_len(S:kz)(q:j5)(i:List UInt8):(KZ S q i).length=5:=by
  unfold KZ;cases kC S i<;>rfl
theorem entryG_one{w:World}{B s:Nat}{S:kz}{q:j5}(h:StateAt w B s S q)(i:List UInt8):∀u∈KZ S q i,u.oneCell'=true:=by
  unfold KZ;cases he:kC S i with
  |none=>exact entryZ_one
  |some e=>exact entryV_one w e _ (h.entries i e he).2
theorem has_nil(i:List UInt8)(w:World)(hi:jp i):Calls prog 26 #[.pointer none,.agg (idV i).toArray] w fun e w'=>Below w.heap.size w w'∧e=.returned (.bool false):=by
  have C:=hid hi;clear hi;go_enter func26,ntmps26
  go_wp2_with (first
    |(with_reducible refine kB ?_
      refine kr yx 41 _ rfl (idV i) _ rfl rfl (by rw[kf,C.out];kernel_rfl) ?_;intro F B D E;have A:=hid B;clear B D E))
  go_ret;exact⟨A.out,rfl⟩
theorem has_any(B s:Nat)(S:kz)(q:j5)(i:List UInt8)(w:World)(h:StateAt w B s S q)(hi:jp i):
    Calls prog 26 #[.pointer (some ⟨s,0,none⟩),.agg (idV i).toArray] w fun e w'=>Below w.heap.size w w'∧e=.returned (.bool (kC S i).isSome):=by
  have H:=hid hi;have V:=hid h
  have c:=qX h.box;clear hi h;go_enter func26,ntmps26
  go_upto_region 3 with (first
    |(with_reducible refine kB ?_
      refine kr yx 41 _ rfl (idV i) _ rfl rfl (by rw[kf,H.out];kernel_rfl) ?_;intro F I Q X;have C:=hid I;have D:=hid Q
      clear I Q X))
  obtain⟨O,I⟩:∃O,w.heap.size=O:=⟨_,rfl⟩;rw[I] at D ⊢;have A:=hid (V.keep C.out);have J:=hid (entryG_one A.out i);have K:Hid (∀u:World,Below F.heap.size F u→u.cell? ⟨s,2,none⟩=some (.map (some q.bc))∧u.rangeAt O 0 (idV i)∧MapV u prog 41 jp idL q.bc S.2.2.length (fun i=>(kC S i).map fun e=>.agg (Kl e (q.em i)).toArray)):=hid fun u W=>
    ⟨(W.cell (p:=⟨s,2,none⟩) (qX A.box)).trans (k4 A.box 2),fun j v b=>by rw[qZ];exact(W.cell (p:=⟨O,j,none⟩) (qX D.out)).trans ((k4 D.out j).trans b),A.mapC.below W⟩
  refine rN 10 (fun u=>u.cell? ⟨s,2,none⟩=some (.map (some q.bc))∧u.rangeAt O 0 (idV i)∧MapV u prog 41 jp idL q.bc S.2.2.length (fun i=>(kC S i).map fun e=>.agg (Kl e (q.em i)).toArray)) (K.out _ (qD _ _)) fun P=>?_
  refine tw 0 (.pointer (some ⟨s,0,none⟩)) ?_;go_frame;refine tw 1 (.pointer (some ⟨s,0,none⟩)) ?_;go_frame;refine tw 2 (.pointer (some ⟨s,2,none⟩)) ?_;go_frame;refine tl 3 (.map (some q.bc)) rfl P (fun w' G=>l1 underlying85 G.1) ?_;go_frame;refine tl 4 (.agg (idV i).toArray) rfl P (fun w' G=>ldD H.out G.2.1) ?_;go_frame;refine tl 5 (.tuple #[.agg (KZ S q i).toArray,.bool (kC S i).isSome]) rfl P (fun w' G=>ex_mapGet2 QM underlying85 (KY _) G.2.2 H.out (by rw[Z9];cases kC S i<;>rfl)) ?_;go_frame;refine tw 6 (.tuple #[.agg (KZ S q i).toArray,.bool (kC S i).isSome]) ?_;go_frame;refine tw 7 (.agg (KZ S q i).toArray) ?_;go_frame;refine tw 8 (.bool (kC S i).isSome) ?_;go_frame;refine ta 9 ?_;refine zV _ rfl yy 105 rfl entryZ (KY _) ?_;intro d R T Y;have L:=hid R;have M:=hid T
  clear R T Y;have E:=hid ((qD F.heap.size F).trans (L.mono (qD F.heap.size F).size));refine⟨fun _ _=>K.out _ E.out,?_⟩;go_frame;refine ta 10 ?_;refine kW _ rfl yy 105 _ _ rfl F.drew.heap.size 0 [] entryZ [] (KZ S q i) 105 (.agg (KZ S q i).toArray) rfl rfl rfl rfl (by simpa using M.out) (by rw[entryG_len];rfl) (by rw[entryG_len];kernel_rfl) J.out ?_;intro f U Z a;have N:=hid (U.below (B:=F.heap.size) E.size (fun k g e=>by
    have l:k=F.drew.heap.size:=e;have m:F.drew.heap.size=F.heap.size:=rfl;omega))
  clear U Z a;refine⟨fun h=>absurd h yv,?_⟩;go_frame;refine tw 11 (.bool (kC S i).isSome) ?_;go_frame;refine ku yy ?_ _;go_wp2_with fail;go_ret;exact⟨C.trans ((E.trans N.out).mono C.size),rfl⟩
end
section
open Go.RowKit Go.Maps
theorem infoKey15:(prog.info? 89).map (fun i=>(i.zero,i.size,i.bytes))=some (some (.agg (k8 (0,k7,0)).toArray),34,48):=by kernel_rfl
theorem Zv{t x:Int}{i:List UInt8}(hid:jp i)(w:World):(Instr.build 89 #[(0,.int .i64 t),(1,.agg (idV i).toArray),(2,.int .i64 x)]).run prog w=.ok (.agg (k8 (t,i,x)).toArray) w:=by
  obtain⟨j,B,C,_,_⟩:=info_parts infoKey15;have E:(idV k7).length=32:=rfl;have h:=zl (P:=prog) B underlying89 C [[.int .i64 0],idV k7,[.int .i64 0]] rfl (places:=[(0,1),(1,32),(33,1)]) yy yy [(0,.int .i64 t),(1,.agg (idV i).toArray),(2,.int .i64 x)] (by
    intro q A;simp only[List.mem_cons,List.not_mem_nil,or_false] at A;rcases A with rfl|rfl|rfl
    ·exact⟨by show 0<3;omega,rfl⟩
    ·exact⟨by show 1<3;omega,by show (idV i).toArray.size=32;rw[List.size_toArray,kf];exact hid⟩
    ·exact⟨by show 2<3;omega,rfl⟩)
  have D:=run_build (P:=prog) w 89 #[(0,.int .i64 t),(1,.agg (idV i).toArray),(2,.int .i64 x)] _ h;refine D.trans ?_;simp [k8,Value.cells]
theorem Uk(w:World):(Instr.build 41 #[]).run prog w=.ok (.agg (idV k7).toArray) w:=by kernel_rfl
structure AdderAt (w:World) (a s:Nat) (i:List UInt8) (c:kQ) (dv ov vm:Value):Prop where
  box:w.heap[a]?=some (.cells (Value.pointer (some ⟨s,0,none⟩)::(idV i++[.int .i64 c.1,dv,.string c.2.2.1,ov,vm])).toArray 127 (0,0))
  id:jp i
section
variable {w:World} {a s:Nat} {i:List UInt8} {c:kQ} {dv ov vm:Value}
theorem AdderAt.st(h:AdderAt w a s i c dv ov vm):w.cell? ⟨a,0,none⟩=some (.pointer (some ⟨s,0,none⟩)):=k4 h.box 0
theorem AdderAt.idAt(h:AdderAt w a s i c dv ov vm):w.rangeAt a 1 (idV i):=fun j u A=>by
  rw[k4 h.box,Nat.add_comm,List.getElem?_cons_succ,List.getElem?_append_left (List.getElem?_eq_some_iff.1 A).1];exact A
theorem AdderAt.rest(h:AdderAt w a s i c dv ov vm)(j:Nat):w.cell? ⟨a,33+j,none⟩=([.int .i64 c.1,dv,.string c.2.2.1,ov,vm]:List Value)[j]?:=by
  have A:(idV i).length=32:=by rw[kf];exact h.id
  rw[k4 h.box,show 33+j=(32+j)+1 by omega,List.getElem?_cons_succ,List.getElem?_append_right yz,A,Nat.add_sub_cancel_left]
theorem AdderAt.keep{w':World}(h:AdderAt w a s i c dv ov vm)(hb:Below w.heap.size w w'):AdderAt w' a s i c dv ov vm:=⟨(hb.block a (qX h.box)).trans h.box,h.id⟩
end
theorem QQ(S:kz)(q:j5)(i:List UInt8):∃g1 g2 g3 g4,KZ S q i=[.int .i64 (jM S i),g1,g2,g3,g4]:=by
  unfold KZ jM;cases kC S i with
  |none=>exact⟨_,_,_,_,rfl⟩
  |some e=>exact⟨_,_,_,_,rfl⟩
theorem kl15{t x:Int}{i:List UInt8}(h:jp i):(k8 (t,i,x)).length=34:=by simp [k8,kf,show i.length=32 from h]
theorem ZZ(B a s:Nat)(S:kz)(q:j5)(i:List UInt8)(c:kQ)(dv ov vm:Value)(r:zC)(w:World)(h:StateAt w B s S q)(hA:AdderAt w a s i c dv ov vm)(hr:za r):
    Calls prog 97 #[.pointer (some ⟨a,0,none⟩),.agg (kn r).toArray] w fun e w'=>Below w.heap.size w w'∧e=.returned (.agg (k8 (jy S i c.1 r)).toArray):=by
  have HS:=Lib.hid h;have HA:=Lib.hid hA;have HR:=Lib.hid hr
  have A7:=kq hr;obtain⟨C,E⟩:=r;have A:Hid (jp C):=Lib.hid hr.1;have G:Hid (jp i):=Lib.hid hA.id;clear h hA hr;have m:∀(eq:Bool),decide (C=k7)=eq→True:=fun _ _=>trivial
  clear m;go_enter func97,ntmps97
  go_upto_region 1 with (first
    |(with_reducible refine kB ?_
      refine kr yx 110 _ rfl (kn (C,E)) _ rfl rfl (by rw[A7];kernel_rfl) ?_;intro W0 W A0 A1;have L:=Lib.hid W;have M:=Lib.hid A0;have T:=Lib.hid A1
      clear W A0 A1)
    |(with_reducible refine kA ?_
      refine ks yx 89 rfl (k8 (0,k7,0)) (zq _) ?_;intro f X A2 A3;have N:=Lib.hid X;have O:=Lib.hid A2;have U:=Lib.hid A3
      clear X A2 A3))
  obtain⟨K,W⟩:∃K,w.heap.size=K:=⟨_,rfl⟩;obtain⟨J,X⟩:∃J,W0.heap.size=J:=⟨_,rfl⟩;have F:=Lib.hid (L.trans (N.mono L.size));have n:=qX M.out;have I:=Lib.hid ((N.block w.heap.size n).trans M.out);rw[W] at I ⊢;rw[X] at O ⊢;have P:=Lib.hid (HS.keep F.out);have g:=Lib.hid (HA.keep F.out)
  have b:Hid (∀u:World,Below f.heap.size f u→u.cell? ⟨a,33,none⟩=some (.int .i64 c.1)∧u.rangeAt a 1 (idV i)∧u.cell? ⟨K,32,none⟩=some (.int .i64 E)∧u.rangeAt K 0 (idV C)∧u.cell? ⟨a,0,none⟩=some (.pointer (some ⟨s,0,none⟩))∧u.cell? ⟨s,2,none⟩=some (.map (some q.bc))∧
      MapV u prog 41 jp idL q.bc S.2.2.length (fun i=>(kC S i).map fun e=>.agg (Kl e (q.em i)).toArray)):=Lib.hid fun u hu=>by
    obtain⟨g1,g2⟩:=kL HR.out;have o:=g.keep hu;have hZ:=(hu.block K (qX I.out)).trans I.out;exact⟨o.rest 0,o.idAt,(k4 hZ 32).trans g2,fun j v y=>by rw[qZ];exact(k4 hZ j).trans (g1 j v y),o.st,(hu.cell (p:=⟨s,2,none⟩) (qX P.box)).trans (k4 P.box 2),P.mapC.below hu⟩
  have V:=Lib.hid (show w.heap.size≤J by have:=T.out;omega);have A4:f.heap.size=J+1:=by have:=U.out;omega
  have R0:=Lib.hid (b.out f (qB _ _)).2.2.2.1;obtain⟨g1,g2,g3,g4,A5⟩:=QQ S q C;have l:=Lib.hid A5;clear A5;clear L N T U W X n I M;have A6:=Lib.hid A4;clear A4;by_cases hz:C=k7
  ·have EQ:Hid (decide (C=k7)=true):=Lib.hid (dT hz);have d:Hid (jy S i c.1 (C,E)=(c.1,i,E)):=Lib.hid (by unfold jy;rw[if_pos hz]);clear hz
   go_upto_region 2 with (first
     |(with_reducible refine k6 ?_
       refine k5 yx (ldD A.out R0.out) ?_)
     |(with_reducible refine kJ ?_
       refine k5 yx (kj 41 _ rfl (Uk _)) ?_)
     |(with_reducible refine kG ?_
       refine k5 yx (eqD A.out jL EQ.out) ?_))
   refine rN 12 (fun u=>u.cell? ⟨a,33,none⟩=some (.int .i64 c.1)∧u.rangeAt a 1 (idV i)∧u.cell? ⟨K,32,none⟩=some (.int .i64 E)∧u.rangeAt K 0 (idV C)∧u.cell? ⟨a,0,none⟩=some (.pointer (some ⟨s,0,none⟩))∧u.cell? ⟨s,2,none⟩=some (.map (some q.bc))∧MapV u prog 41 jp idL q.bc S.2.2.length (fun i=>(kC S i).map fun e=>.agg (Kl e (q.em i)).toArray)) (b.out _ (qD _ _)) fun H=>?_
   refine tw 0 (.pointer (some ⟨a,0,none⟩)) ?_;go_frame;refine tw 1 (.pointer (some ⟨a,0,none⟩)) ?_;go_frame;refine tw 2 (.pointer (some ⟨a,33,none⟩)) ?_;go_frame;refine tw 3 (.pointer (some ⟨a,33,none⟩)) ?_;go_frame;refine tl 4 (.int .i64 c.1) rfl H (fun w' D=>l1 underlying3 D.1) ?_;go_frame;refine tw 5 (.pointer (some ⟨a,0,none⟩)) ?_;go_frame;refine tw 6 (.pointer (some ⟨a,0,none⟩)) ?_;go_frame;refine tw 7 (.pointer (some ⟨a,1,none⟩)) ?_;go_frame;refine tl 8 (.agg (idV i).toArray) rfl H (fun w' D=>ldD G.out D.2.1) ?_;go_frame;refine tw 9 (.pointer (some ⟨K,32,none⟩)) ?_;go_frame;refine tl 10 (.int .i64 E) rfl H (fun w' D=>l1 underlying3 D.2.2.1) ?_;go_frame;refine tk 11 (.agg (k8 (c.1,i,E)).toArray) rfl (fun w' D=>kj 89 _ rfl (by simp only[List.map_toArray,List.map_cons,List.map_nil];exact Zv (t:=c.1) (x:=E) G.out _)) ?_;go_frame;refine ta 12 ?_;refine kW _ rfl yy 89 _ _ rfl J 0 [] (k8 (0,k7,0)) [] (k8 (c.1,i,E)) 89 (.agg (k8 (c.1,i,E)).toArray) rfl rfl rfl rfl (by simpa using (show f.drew.heap[J]?=_ from O.out)) (by rw[kl15 G.out];rfl) (by rw[kl15 G.out];kernel_rfl) (j4 _) ?_;intro W2 Y Z z;have Q:Hid (W2.rangeAt J 0 (k8 (c.1,i,E))):=Lib.hid (fun j u y=>by rw[qZ];exact(k4 Z j).trans (by simpa using y));have R:=Lib.hid (Y.below (B:=w.heap.size) F.size (fun k hk e=>by
     have e2:k=J:=e;have:=V.out;omega))
   clear Y Z z;refine⟨fun h=>absurd h yv,?_⟩;go_frame;refine ku yy ?_ _;go_wp2_with fail;refine bodyPost_ret (jk results97 _ _ rfl (qV _ J 0 89 (k8 (c.1,i,E)) _ Q.out underlying89 rfl (by rw[kl15 G.out];kernel_rfl))) rfl ?_;exact⟨F.drew.trans R.out,by rw[d.out]⟩
  ·have EQ:Hid (decide (C=k7)=false):=Lib.hid (dF hz);have d:Hid (jy S i c.1 (C,E)=(jM S C,C,E)):=Lib.hid (by unfold jy;rw[if_neg hz]);clear hz
   go_upto_region 3 with (first
     |(with_reducible refine k6 ?_
       refine k5 yx (ldD A.out R0.out) ?_)
     |(with_reducible refine kJ ?_
       refine k5 yx (kj 41 _ rfl (Uk _)) ?_)
     |(with_reducible refine kG ?_
       refine k5 yx (eqD A.out jL EQ.out) ?_))
   refine rN 17 (fun u=>u.cell? ⟨a,33,none⟩=some (.int .i64 c.1)∧u.rangeAt a 1 (idV i)∧u.cell? ⟨K,32,none⟩=some (.int .i64 E)∧u.rangeAt K 0 (idV C)∧u.cell? ⟨a,0,none⟩=some (.pointer (some ⟨s,0,none⟩))∧u.cell? ⟨s,2,none⟩=some (.map (some q.bc))∧MapV u prog 41 jp idL q.bc S.2.2.length (fun i=>(kC S i).map fun e=>.agg (Kl e (q.em i)).toArray)) (b.out _ (qD _ _)) fun H=>?_
   refine tw 0 (.pointer (some ⟨a,0,none⟩)) ?_;go_frame;refine tw 1 (.pointer (some ⟨a,0,none⟩)) ?_;go_frame;refine tw 2 (.pointer (some ⟨a,0,none⟩)) ?_;go_frame;refine tl 3 (.pointer (some ⟨s,0,none⟩)) rfl H (fun w' D=>l1 underlying24 D.2.2.2.2.1) ?_;go_frame;refine tw 4 (.pointer (some ⟨s,0,none⟩)) ?_;go_frame;refine tw 5 (.pointer (some ⟨s,2,none⟩)) ?_;go_frame;refine tl 6 (.map (some q.bc)) rfl H (fun w' D=>l1 underlying85 D.2.2.2.2.2.1) ?_;go_frame;refine tw 7 (.pointer (some ⟨K,0,none⟩)) ?_;go_frame;refine tl 8 (.agg (idV C).toArray) rfl H (fun w' D=>ldD A.out D.2.2.2.1) ?_;go_frame;refine tl 9 (.agg [.int .i64 (jM S C),g1,g2,g3,g4].toArray) rfl H (fun w' D=>KF QM underlying85 (KY _) D.2.2.2.2.2.2 A.out ((Z9 S q C).trans (by rw[l.out]))) ?_;go_frame;refine tw 10 (.agg [.int .i64 (jM S C),g1,g2,g3].toArray) ?_;go_frame;refine tw 11 (.int .i64 (jM S C)) ?_;go_frame;refine tw 12 (.pointer (some ⟨K,0,none⟩)) ?_;go_frame;refine tl 13 (.agg (idV C).toArray) rfl H (fun w' D=>ldD A.out D.2.2.2.1) ?_;go_frame;refine tw 14 (.pointer (some ⟨K,32,none⟩)) ?_;go_frame;refine tl 15 (.int .i64 E) rfl H (fun w' D=>l1 underlying3 D.2.2.1) ?_;go_frame;refine tk 16 (.agg (k8 ((jM S C),C,E)).toArray) rfl (fun w' D=>kj 89 _ rfl (by simp only[List.map_toArray,List.map_cons,List.map_nil];exact Zv (t:=jM S C) (x:=E) A.out _)) ?_;go_frame;refine ta 17 ?_;refine kW _ rfl yy 89 _ _ rfl J 0 [] (k8 (0,k7,0)) [] (k8 (jM S C,C,E)) 89 (.agg (k8 (jM S C,C,E)).toArray) rfl rfl rfl rfl (by simpa using (show f.drew.heap[J]?=_ from O.out)) (by rw[kl15 A.out];rfl) (by rw[kl15 A.out];kernel_rfl) (j4 _) ?_;intro W2 Y Z z;have Q:Hid (W2.rangeAt J 0 (k8 (jM S C,C,E))):=Lib.hid (fun j u y=>by rw[qZ];exact(k4 Z j).trans (by simpa using y));have R:=Lib.hid (Y.below (B:=w.heap.size) F.size (fun k hk e=>by
     have e2:k=J:=e;have:=V.out;omega))
   clear Y Z z;refine⟨fun h=>absurd h yv,?_⟩;go_frame;refine ku yy ?_ _;go_wp2_with fail;refine bodyPost_ret (jk results97 _ _ rfl (qV _ J 0 89 (k8 (jM S C,C,E)) _ Q.out underlying89 rfl (by rw[kl15 A.out];kernel_rfl))) rfl ?_;exact⟨F.drew.trans R.out,by rw[d.out]⟩
end
end Go.Proofs.YtdgbjhfkmembdaaGreatDoor