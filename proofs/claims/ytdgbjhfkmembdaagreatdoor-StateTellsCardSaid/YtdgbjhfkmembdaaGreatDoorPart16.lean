/-
  Facts and contracts that the walk needs. Conditions: as each says.
-/
import Derived.Test.YtdgbjhfkmembdaaGreatDoorPart15
import Derived.Great.BuildSlice
import Derived.Test.YtdgbjhfkmembdaaGreatDoorPart14
import Derived.Test.YtdgbjhfkmembdaaGreatDoorPart9
set_option linter.unusedVariables false
set_option linter.unusedSimpArgs false
set_option maxHeartbeats 4000000
set_option maxRecDepth 100000
open Go.Proofs.Tryz
namespace Go.Proofs.YtdgbjhfkmembdaaGreatDoor
section
open Go.RowKit Go.Maps Go.Shelf Go.Sort
open Lib (hid)
theorem namedInfo:(prog.info? 91).map (fun i=>(i.zero,i.size,i.bytes))=some (some (.agg (jW ((0,k9,0),ByteArray.empty)).toArray),35,64):=yq
theorem strInfo:(prog.info? 9).map (fun i=>(i.zero,i.size,i.bytes))=some (some (.string ByteArray.empty),1,16):=yq
theorem named_built{d:kE}(p:ByteArray)(hd:kJ d):prog.built 91 [(0,.agg (kc d).toArray),(1,.string p)]=some (jW (d,p)).toArray:=by
  obtain⟨i,B,C,_,_⟩:=info_parts namedInfo;have D:(kc (0,k9,0)).length=34:=rfl;have h:=zl (P:=prog) B underlying91 C [kc (0,k9,0),[.string ByteArray.empty]] rfl (places:=[(0,34),(34,1)]) yq yq [(0,.agg (kc d).toArray),(1,.string p)] (by
    intro q A;simp only[xK,YY,or_false] at A;rcases A with rfl|rfl
    ·exact⟨by show 0<2;omega,by show (kc d).toArray.size=34;rw[xz,ke hd]⟩
    ·exact⟨by show 1<2;omega,rfl⟩)
  rw[h];simp [jW,Value.cells]
section
variable {w w':World} {base n k size size2:Nat} {e e2:TypeId} {v v2:Value} {xs ys:List Value}
theorem rows_apart(h:w.ownsRow base e size v n xs)(h2:w.ownsRow base e2 size2 v2 k ys)(hne:e≠e2):v2.ownBlock=none∨v2.ownBlock≠v.ownBlock:=by
  rcases h.2 with⟨rfl,_⟩|⟨g,F,G,rfl,_,E,_⟩
  ·rcases h2.2 with⟨rfl,_⟩|⟨D,B,C,rfl,_⟩
   ·exact .inl rfl
   ·exact .inr (by simp [Value.ownBlock])
  ·rcases h2.2 with⟨rfl,_⟩|⟨D,B,C,rfl,_,A,_⟩
   ·exact .inl rfl
   ·refine .inr fun q=>?_
    have:D=g:=by simpa [Value.ownBlock] using q
    subst this;rw[E] at A;simp at A;exact hne A.2
end
theorem strs_app(a:List ByteArray)(b:ByteArray):strs (a++[b])=strs a++[.string b]:=by simp [strs]
theorem vQ{w w':World}{base n size:Nat}{e:TypeId}{v:Value}{xs:List Value}(h:w.ownsRow base e size v n xs)(hb:Below w.heap.size w w'):w'.ownsRow base e size v n xs:=by
  refine⟨h.1,?_⟩;rcases h.2 with E|⟨g,A,B,F,C,D,rest⟩
  ·exact .inl E
  ·exact .inr ⟨g,A,B,F,C,(hb.block g (Array.getElem?_eq_some_iff.1 D).1).trans D,rest⟩
theorem Ko{w:World}{base n size:Nat}{e:TypeId}{v:Value}{xs:List Value}(h:w.ownsRow base e size v n xs)(o:Obj):(w.alloc o).ownsRow base e size v n xs:=vQ h ((Below.refl _ _).alloc (xY _) _)
theorem own_shape{w:World}{base n size:Nat}{e:TypeId}{v:Value}{xs:List Value}(h:w.ownsRow base e size v n xs):∃A c,v=.slice A n c:=by
  rcases h.2 with⟨rfl,rfl⟩|⟨g,B,C,rfl,_⟩
  ·exact⟨_,_,rfl⟩
  ·exact⟨_,_,rfl⟩
theorem KeyBox.below{w w':World}{B:Nat}{k:kE}(h:KeyBox w B k)(hb:Below w.heap.size w w'):KeyBox w' B k:=(hb.block B (Array.getElem?_eq_some_iff.1 h).1).trans h
theorem KeyBox.alloc{w:World}{B:Nat}{k:kE}(h:KeyBox w B k)(o:Obj):KeyBox (w.alloc o) B k:=h.below ((Below.refl _ _).alloc (xY _) _)
theorem KeyBox.grown{w w':World}{base B n size:Nat}{e:TypeId}{v:Value}{xs:List Value}{k:kE}(h:KeyBox w B k)(hr:w.ownsRow base e size v n xs)(hne:e≠89)(hg:w.grownBy w' v.ownBlock):KeyBox w' B k:=by
  refine(hg.block B (Array.getElem?_eq_some_iff.1 h).1 fun q=>?_).trans h;rcases hr.2 with⟨rfl,_⟩|⟨g,C,D,rfl,_,A,_⟩
  ·simp [Value.ownBlock] at q
  ·have:B=g:=by simpa [Value.ownBlock] using q
   subst this;rw[show w.heap[B]?=_ from h] at A;simp at A;exact hne A.2.symm
def PathsAt(f:kE→Option kN)(ds:List kE)(base:Nat)(i:Nat)(v5 v6:Value)(wr:World):Prop:=
  ∃r:List Zi,(r.map fun x=>(x.1,L x.2))=zV f (ds.take i) []∧wr.ownsRow base 91 35 v5 r.length (kf jW r)∧wr.ownsRow base 9 1 v6 r.length (strs (r.map (·.2)))∧
   (∀x∈r,kJ x.1∧x.2.size≤1099511627776)∧r.length≤i
theorem docs_sorted{l:List kN}(hok:∀x∈l,Kx x){ss:List Zs}(h:Qb (Zr l) ss):(ordS ss).map (·.1)=Uk l:=by
  refine Rising.ext (ordS_rising h.1) (Qh _) fun k=>?_
  unfold Uk;rw[UJ,List.mem_map];constructor
  ·rintro⟨x,C,rfl⟩;have:=(ordS_mem h x).1 C;unfold Zr at this;rw[Option.isSome_map] at this;rcases hq:Kn l x.1 with _ |c
   ·rw[hq] at this;cases this
   ·obtain⟨D,E,_⟩:=ur hq;exact List.mem_map.2 ⟨c,D,E⟩
  ·intro F;obtain⟨c,A,rfl⟩:=List.mem_map.1 F;refine⟨⟨c.2.1,(hok c A).2.1⟩,(ordS_mem h _).2 ?_,rfl⟩;unfold Zr;rw[Option.isSome_map];obtain⟨G,B⟩:=lastOf_some A rfl;rw[B];rfl
theorem paths_anyN(N:Nat)(hN:N≤900)(l:List kN)(A:Option Addr)(c:Nat)(w:World)(hl:l.length≤N)(hok:∀x∈l,Kx x)(hsm:∀x∈l,x.2.2.2.size≤1073741824)(hsl:Sl w w.heap.size A l.length 70 (kf kT l))(hg:Glob w)(hit:ItoaB (N+2) w):
    Calls prog 35 #[.slice A l.length c] w fun e w'=>Below w.heap.size w w'∧∃A' c' r,e=.returned (.slice A' r.length c')∧(r.map fun x:Zi=>(x.1,L x.2))=Kj l∧(∀x∈r,kJ x.1∧x.2.size≤1099511627776)∧Sl w' w'.heap.size A' r.length 35 (kf jW r):=by
  have Ae:=hid hit;clear hit;have Af:=hid hsl;have G:=hid hok;have Ag:=hid hsm
  have h:=regRight_any l A c w yv hok hsl hg;clear hsl hok hsm;go_enter func35,ntmps35;go_wp2_with fail;refine h.mono ?_;rintro e z ⟨m,rfl⟩;clear h;have f:=hid m;have U:=lasts_any l A c z yv G.out ((Af.keep m).more m.size);have Bg:=m.size;clear m;cases hr:qK l with
  |false=>
   have s:=hid hr;clear hr U;go_wp2_with fail;go_ret;exact⟨f,none,0,[],rfl,by unfold Kj;rw[s.out];rfl,fun x D=>absurd D yZ,Sl.nil⟩
  |true=>
   have s:=hid hr;clear hr;go_wp2_with fail;refine U.mono ?_;rintro e w2 ⟨AC,rfl,nn,AV,hM⟩;clear U;have HM:=hid hM;have A1:(w2.alloc (.cells #[.map (some z.heap.size)] 159)).cell? ⟨w2.heap.size,0,none⟩=some (.map (some z.heap.size)):=by rw[World.cell?_alloc_new];rfl
   have A2:=sorted_keys z.heap.size nn (Zr l) (w2.alloc (.cells #[.map (some z.heap.size)] 159)) yv (hM.alloc _) w2.heap.size A1;have A3:=callsIn_wide.1 (keysSeq_in Fence.wide 5 trivial rfl (some z.heap.size) w2);have Q:=hid (Xx f.out AC);clear hM A1 AC
   go_wp2_with (go_at_call 76;refine A3.mono ?_;rintro e w3 ⟨rfl,rfl⟩)
   refine A2.mono ?_;rintro e K ⟨Ap,A4,c4,F,⟨ss,AD,n⟩,rfl,Aq⟩;rw[docs_sorted G.out AD] at n;clear A2 A3;have AE:MapV K prog 89 kJ Um z.heap.size nn (Zr l):=(HM.alloc _).below Ap;have AF:Below w.heap.size w K:=(Q.alloc Q.size _).trans (Ap.mono (Nat.le_trans Q.size yZ));have AG:∀d∈F,kJ d∧∃O,Kn l d=some O:=by
      intro d hd;rw[n] at hd;unfold Uk at hd;rw[UJ] at hd;obtain⟨x,D,rfl⟩:=List.mem_map.1 hd;exact⟨(G x D).2.1,lastOf_some D rfl⟩
   have Bh:F.length≤N:=by rw[n];have:=Zt l;omega
   have Ah:=hid n;have v:=hid Aq;have Ai:=hid AE;have H:=hid AF;have g:=hid AG
   clear n Aq AE AF AG AD HM Ap AV;go_wp2_with fail
   go_loopw [5,6,21] (fun v5 v6 t wr=>∃i:Nat,i≤F.length∧t=.int .i64 i∧Below K.heap.size K wr∧Hid (PathsAt (Kn l) F K.heap.size i v5 v6 wr)) (fun _ _ t _=>F.length - (intOf t).toNat)
   case atStart=>exact⟨0,by omega,rfl,Below.refl _ _,hid ⟨[],by simp [zV],⟨by simp [kf],.inl ⟨rfl,rfl⟩⟩,⟨by simp [strs],.inl ⟨rfl,rfl⟩⟩,fun x D=>absurd D yZ,xY _⟩⟩
   case round=>
      obtain⟨i,hi,rfl,P,hP⟩:=hrel;by_cases hlt:i<F.length
      ·obtain⟨b,Bi,rfl,Bj,Ar⟩:=(v.keep P).2 yv;have i0:(0:Int)≤(i:Int):=yv;have i1:(i:Int)<(F.length:Int):=yv;have As:=Sl.row (fun x D=>ke (g x D).1) Ar hlt;obtain⟨M,O,V⟩:=g.out _ (yQ hlt);have At:F.take (i+1)=F.take i++[F[i]]:=xj hlt;have A7:Kx O:=G.out O (ur V).1;have Be:O.2.2.2.size≤1073741824:=Ag.out O (ur V).1;obtain⟨r,o,X,A8,A9,AW⟩:=hP.out;have C:=vq (Kn l) F[i] (F.take i) [];rw[←At] at C;unfold QW at C;rw[V] at C;simp only[YZ] at C;have AH:Zr l F[i]=some (ZG O):=by unfold Zr;rw[V];rfl
       have AT:=hid Ar;have y:=hid As;have AU:=hid At;have Aj:=hid AH
       have R:=hid A7;have I:=hid C;have S:=hid o;have T:=hid A9
       clear Ar As At AH A7 C o A9 V hP;generalize F[i]=d at *;obtain⟨A6,c6,rfl⟩:=own_shape A8;have Ak:=hid X;have Al:=hid A8
       clear X A8
       go_upto_region 10 with (first
         |(refine kZ rfl 89 _ rfl b _ rfl (kc d) _ y underlying89 rfl (by rw[ke M];exact Jl) ?_)
         |(refine Ks (B:=wr.heap.size) (w0:=wr) rfl 89 _ _ rfl wr.heap.size _ rfl rfl 89 _ (heap_alloc_new _ _) (KW M) (by rw[xz,xz,ke M];rfl) (by simpa using j8 d) ((Below.refl _ _).alloc (xY _) _) (xY _) ?_;intro W2 A0 Aa _))
       have AX:=hid ((Ai.below P).below A0);have AI:KeyBox W2 wr.heap.size d:=Aa;have AJ:wr.heap.size<W2.heap.size:=(Array.getElem?_eq_some_iff.1 Aa).1;have AK:∀j u,(kc d)[j]?=some u→W2.cell? ⟨wr.heap.size,0+j,none⟩=some u:=fun j u hj=>by rw[Nat.zero_add];exact(jo Aa j).trans hj
       have K2:=hid AI;have Z2:=hid AJ;have R2:=hid AK;have B2:=hid A0
       clear AI AJ AK A0 Aa
       go_upto_region 11 with (first
         |(refine kZ rfl 89 _ rfl wr.heap.size 0 rfl (kc d) _ R2 underlying89 rfl (by rw[ke M];exact Jl) ?_)
         |(refine vG rfl _ _ 159 rfl 135 keyEnc underlying159 (ZG zeroC) (qg _) rfl AX d M rfl ?_;rw[Aj.out];simp only[Option.getD_some])
         |(refine Ks (B:=W2.heap.size) (w0:=W2) rfl 135 _ _ rfl W2.heap.size _ rfl rfl 135 _ (heap_alloc_new _ _) (by rw[xz,j6 R.out];exact ZH) (by rw[show (kT O).toArray.size=70 by rw[xz,j6 R.out]];rfl) (by simpa using JW O) ((Below.refl _ _).alloc (xY _) _) (xY _) ?_;intro W3 Y Au _))
       obtain⟨AL,AM⟩:=qS R.out;have AY:=(jo Au 68).trans AL;have Bk:=(jo Au 69).trans AM;have K3:=hid (K2.below Y);have Ab:Below wr.heap.size wr W3:=B2.trans (Y.mono (by have:=Z2.out;omega));have J:=hid Ab;have Z3:=hid (Nat.lt_of_lt_of_le Z2 Y.size)
       have AN:=hid (vQ Ak Ab);have Av:=hid (vQ Al Ab)
       clear AL AM Au Ab Y;by_cases hk5:O.2.2.1=5
       ·have W:=I.out;rw[if_pos hk5] at W;have E:=hid W;rw[hk5] at AY;clear W I hk5;go_wp2_with fail
        go_roundw
        case rel=>exact⟨i+1,by omega,by go_num,P.trans (J.mono P.size),hid ⟨r,by rw[S.out,E.out],AN.out,Av.out,T.out,by omega⟩⟩
        case measure=>simp [intOf];omega
       ·have W:=I.out;rw[if_neg hk5] at W;have E:=hid W;have Bf:((O.2.2.1:Int) == 5)=false:=by rw[beq_eq_false_iff_ne];omega
        have Aw:Ls (r.map (·.2))=(zV (Kn l) (F.take i) []).map (·.2):=by rw[←S.out];simp [Ls]
        have Ax:=fresh_anyN (N+2) yv O.2.2.2 (r.map (·.2)) A6 c6 W3 yv (by rw[Yv];omega) (fun t ht=>by
          obtain⟨x,D,rfl⟩:=List.mem_map.1 ht;have:=(T x D).2;omega) (Ae.next (H.trans ((Xx P J.out).mono H.size))) (by rw[Yv];exact(Sl.of_own Av))
        have Ay:=UD (L O.2.2.2) (Ls (r.map (·.2))) (by simp [Ls];omega);rw[Yv,Aw] at Ax;rw[Aw,jf] at Ay;have Am:=hid Ay;clear W I hk5 Aw Ay
        go_upto_region 13 with (go_at_call 79;refine Ax.mono ?_;rintro e w5 ⟨q,p,rfl,hp⟩)
        have AZ:p.size≤1099511627776:=by have h1:=congrArg List.length hp;rw[jf] at h1;have:=Am.2;omega
        have AO:=hid (vQ AN q);have Ac:=hid (vQ Av q);have K5:=hid (K3.below q)
        have B5:Hid (Below K.heap.size K w5):=(Xx P J.out).trans (q.mono (Nat.le_trans P.size J.size));have HP:=hid hp;have Bl:=B5.size;clear hp q Ax;obtain⟨is,B0,B1,B3,B4⟩:=info_parts strInfo;obtain⟨im,B8,B9,Ba,Bb⟩:=info_parts namedInfo;have q1:r.length+1≤maxLen:=by unfold maxLen;omega
        have q2:(r.length+1)*16≤140737488355328:=yv;have q3:(r.length+1)*64≤140737488355328:=yv
        go_upto_region 14 with (at_builtin;refine wpList_append_own _ rfl _ _ 52 rfl K.heap.size 9 is (.string ByteArray.empty) 1 16 underlying52 B0 B1 B3 B4 rfl yj _ _ _ rfl (Ko Ac _) ⟨w5.heap.size,0,none⟩ 1 1 [.string p] rfl rfl (cell_one_new _ _ _) (by simp [Value.oneCell']) q1 q2 yX ?_;intro v6 Z Ad AP _)
        have a:(w5.alloc (.cells #[.string p] 9)).grownBy Z (Value.slice A6 r.length c6).ownBlock:=AP;have Az:Hid (Z.ownsRow K.heap.size 91 35 u5 r.length (kf jW r)):=(Ko AO (.cells #[.string p] 9)).kept a (rows_apart (Ko Ac (.cells #[.string p] 9)) (Ko AO (.cells #[.string p] 9)) yj);have K6:Hid (KeyBox Z wr.heap.size d):=(K5.alloc (.cells #[.string p] 9)).grown (Ko Ac (.cells #[.string p] 9)) yj a;have B6:Hid (Below K.heap.size K Z):=(B5.alloc B5.size _).grown a yX (fun k e=>((Ko Ac (.cells #[.string p] 9)).lt k e).1);have AQ:=hid Ad;have Bm:=B6.size;have An:=hid (named_built p M);have C6:Hid (∀j u,(kc d)[j]?=some u→Z.cell? ⟨wr.heap.size,0+j,none⟩=some u):=fun j u hj=>by rw[Nat.zero_add];exact(jo K6 j).trans (by simpa using hj)
        have AR:(jW (d,p)).length=35:=JK ⟨M,by show p.size≤maxLen;unfold maxLen;omega⟩;have Ao:Hid (∀j u,(jW (d,p))[j]?=some u→(Z.alloc (.cells (jW (d,p)).toArray 91)).cell? ((⟨Z.heap.size,0,none⟩:Addr).add j)=some u):=by
          intro j u hj;rw[Addr.add_mid,jo (heap_alloc_new _ _)]
          simpa using hj
        clear Ad AP a
        go_wp2_with (first
          |(refine kZ rfl 89 _ rfl wr.heap.size 0 rfl (kc d) _ C6 underlying89 rfl (by rw[ke M];exact Jl) ?_)
          |((with_reducible refine wpList_buildTo rfl 91 _ rfl _ rfl (jW (d,p)).toArray ?_ ?_)
            ·simp only[xV,xX,Yy];exact An.out)
          |(refine zE yk 79 _ rfl 91 underlying79 (.agg (jW ((0,k9,0),ByteArray.empty)).toArray) 35 64 namedInfo rfl yj yj (jW (d,p)) AR rfl ?_)
          |(at_builtin;refine wpList_append_own _ rfl _ _ 79 rfl K.heap.size 91 im (.agg (jW ((0,k9,0),ByteArray.empty)).toArray) 35 64 underlying79 B8 B9 Ba Bb rfl yj _ _ _ rfl (Ko Az _) ⟨Z.heap.size,0,none⟩ 1 1 (jW (d,p)) rfl (by rw[AR]) Ao.out (qU (d,p)) q1 q3 yX ?_;intro v5 w7 AB Bc _))
        have AA:(Z.alloc (.cells (jW (d,p)).toArray 91)).grownBy w7 u5.ownBlock:=Bc;have Bd:=(Ko AQ (.cells (jW (d,p)).toArray 91)).kept AA (rows_apart (Ko Az (.cells (jW (d,p)).toArray 91)) (Ko AQ (.cells (jW (d,p)).toArray 91)) yj);have B7:RowKit.Below K.heap.size K w7:=(B6.alloc B6.size _).grown AA yX (fun k e=>((Ko Az (.cells (jW (d,p)).toArray 91)).lt k e).1)
        go_roundw
        case rel=>
          refine⟨i+1,by omega,by go_num,B7,hid ⟨r++[(d,p)],?_,?_,?_,?_,?_⟩⟩
          ·rw[List.map_append,S.out,E.out,xX,Yy,HP.out]
          ·rw[yV,vu,show kf jW [(d,p)]=jW (d,p) by simp [kf]];exact AB
          ·rw[yV,List.map_append,xX,Yy,strs_app];exact Bd
          ·intro x D;rcases xJ.1 D with D|D
           ·exact T.out x D
           ·rw[xZ.1 D];exact⟨M,AZ⟩
          ·simp;omega
        case measure=>simp [intOf];omega
      ·go_wp2_with fail;go_ret;obtain⟨r,o,X,A8,A9,AW⟩:=hP.out;rw[Yq yv] at o;obtain⟨A5,c5,AS⟩:=own_shape X;refine⟨H.trans (P.mono H.size),A5,c5,r,by rw[AS];rfl,?_,A9,?_⟩
       ·rw[o,Ah.out];unfold Kj;rw[s.out,if_pos rfl]
       ·rw[AS] at X;exact Sl.of_own X
end
section
open Go.RowKit Go.Maps Go.Shelf
open Lib (hid)
def zM:kE:=(0,k9,0)
theorem qh:kJ zM:=⟨by decide,jT,by decide⟩
theorem key_built0:prog.built 89 []=some (kc zM).toArray:=yq
theorem find_none{r:List Zi}{l:List kN}{p:ByteArray}(hr:(r.map fun x=>(x.1,L x.2))=Kj l)(h:∀j (hj:j<r.length),r[j].2≠p):zO l (L p)=none:=by
  unfold zO;rw[Option.map_eq_none_iff,List.find?_eq_none,←hr];intro x A;obtain⟨y,B,rfl⟩:=List.mem_map.1 A;obtain⟨j,hj,rfl⟩:=List.getElem_of_mem B;simp only[beq_iff_eq];exact fun e=>h j hj (L_inj e)
theorem find_hit{r:List Zi}{l:List kN}{p:ByteArray}(hr:(r.map fun x=>(x.1,L x.2))=Kj l){i:Nat}(hi:i<r.length)(hp:r[i].2=p)(h:∀j (hj:j<r.length),j<i→r[j].2≠p):zO l (L p)=some r[i].1:=by
  unfold zO;have:((Kj l).find? fun n=>n.2 == L p)=some (r[i].1,L r[i].2):=by
    rw[←hr,List.find?_eq_some_iff_getElem];refine⟨by simp [hp],i,by simpa using hi,by simp,fun j hj=>?_⟩;simp only[List.getElem_map,Bool.not_eq_true',beq_eq_false_iff_ne,ne_eq];exact fun e=>h j yv hj (L_inj e)
  rw[this];rfl
theorem find_anyN(N:Nat)(hN:N≤900)(l:List kN)(p:ByteArray)(A:Option Addr)(c:Nat)(w:World)(hl:l.length≤N)(hok:∀x∈l,Kx x)(hsm:∀x∈l,x.2.2.2.size≤1073741824)(hsl:Sl w w.heap.size A l.length 70 (kf kT l))(hg:Glob w)(hit:ItoaB (N+2) w):
    Calls prog 146 #[.slice A l.length c,.string p] w fun e w'=>Below w.heap.size w w'∧e=.returned (.tuple #[vI ((zO l (L p)).getD zM),.bool (zO l (L p)).isSome]):=by
  have H:Below w.heap.size w (w.alloc (.cells (kc zM).toArray 89)):=(Below.refl _ _).alloc (xY _) _;have h0:(w.alloc (.cells (kc zM).toArray 89)).heap[w.heap.size]?=some (.cells (kc zM).toArray 89 (0,0)):=heap_alloc_new _ _;have R:=paths_anyN N hN l A c (w.alloc (.cells (kc zM).toArray 89)) hl hok hsm ((hsl.keep H).more H.size) (hg.next H) (hit.next H);have A7:(w.alloc (.cells (kc zM).toArray 89)).heap.size=w.heap.size+1:=by simp
  have A8:(kc zM).length=34:=ke qh;clear hsl hok hsm hit;go_enter func146,ntmps146;go_wp2_with fail;refine R.mono ?_;generalize w.alloc (.cells (kc zM).toArray 89)=W0 at *;rintro e X ⟨m,A1,c1,r,rfl,hr,hk,hs⟩;have A2:Below w.heap.size w X:=H.trans (m.mono H.size);have Y:X.heap[w.heap.size]?=some (.cells (kc zM).toArray 89 (0,0)):=(m.block _ yv).trans h0;have A3:w.heap.size<X.heap.size:=(Array.getElem?_eq_some_iff.1 Y).1;have A9:r.length≤N:=by
    have h:=congrArg List.length hr;rw[Yv] at h;rw[h];unfold Kj
    split
    ·have:=KX (Kn l) (Uk l) [];have:=Zt l;omega
    ·simp
  have M:=find_none (p:=p) hr;have E:=fun i hi hp h=>find_hit (p:=p) hr (i:=i) hi hp h
  obtain⟨Aa,Z⟩:=Xy (zO l (L p));rw[Z] at M E;have F:=hid Z;have D:=hid M;have C:=hid E;have g:=hid hk;have HS:=hid hs;have O:=hid Y;have Q:=hid A2
  clear M E hk hs Y A2 m h0 H R hr A7 Z;go_wp2_with fail
  go_loopw [11] (fun t wr=>∃i:Nat,i≤r.length∧t=.int .i64 i∧Below X.heap.size X wr∧Hid (∀j (S:j<r.length),j<i→r[j].2≠p)) (fun t _=>r.length - (intOf t).toNat)
  case atStart=>exact⟨0,by omega,rfl,Below.refl _ _,hid fun j S h=>absurd h yv⟩
  case round=>
    obtain⟨i,hi,rfl,I,hI⟩:=hrel;by_cases hlt:i<r.length
    ·obtain⟨b,Ab,rfl,Ac,A4⟩:=(HS.keep I).2 yv;have i0:(0:Int)≤(i:Int):=yv;have i1:(i:Int)<(r.length:Int):=yv;have J:∀z∈r,Qw z:=fun z hz=>⟨(g z hz).1,by have:=(g z hz).2;unfold maxLen;omega⟩
     have n:=Sl.row (fun z hz=>JK (J z hz)) A4 hlt;have hn:=J _ (yQ hlt);have E:=C.out i hlt;have d:r[i].2≠p→∀j (S:j<r.length),j<i+1→r[j].2≠p:=by
       intro h j S Ad;rcases (by omega:j<i∨j=i) with q|rfl
       ·exact hI.out j S q
       ·exact h
     have T:=hid (fun h=>E h hI);have G:=hid d;have U:=hid n;have K:=hid hn
     clear n A4 E d J hn;generalize r[i]=z at *;have A5:=JK K.out;have A6:(prog.info? 91).map (·.size)=some (jW z).length:=by rw[A5];kernel_rfl
     go_upto_region 4 with (first
       |(refine kZ rfl 91 _ rfl b _ rfl (jW z) _ U underlying91 rfl A6 ?_)
       |(refine Ks (B:=wr.heap.size) (w0:=wr) rfl 91 _ _ rfl wr.heap.size _ rfl rfl 91 _ (heap_alloc_new _ _) (by rw[xz];exact A6) (by rw[xz,xz,A5];rfl) (by simpa using qU z) ((Below.refl _ _).alloc (xY _) _) (xY _) ?_;intro W2 o s _))
     have Ae:=(jo s 34).trans (named_cell K);have K2:Hid (∀j u,(kc z.1)[j]?=some u→W2.cell? ⟨wr.heap.size,0+j,none⟩=some u):=fun j u S=>(jo s (0+j)).trans (named_doc K j u S)
     have B2:Hid (Below X.heap.size X W2):=I.trans (o.mono I.size);have f:kJ z.1:=K.1;have v:Hid (W2.heap[w.heap.size]?=some (.cells (kc zM).toArray 89 (0,0))):=(B2.block _ A3).trans O.out;clear s o I;by_cases heq:z.2=p
     ·have y:=T.out heq;have V:=hid y;have e1:(z.2.toList == p.toList)=true:=by rw[heq];exact beq_self_eq_true _
      clear y heq T G D C
      go_wp2_with (first
        |(refine kZ rfl 89 _ rfl wr.heap.size 0 rfl (kc z.1) _ K2 underlying89 rfl (by rw[ke f];exact Jl) ?_)
        |(refine Ks (B:=w.heap.size) (w0:=w) rfl 89 _ _ rfl w.heap.size _ rfl rfl 89 _ v (KW f) (by rw[xz,xz,A8,ke f]) (by simpa using j8 z.1) (Xx Q.out B2.out) (xY _) ?_;intro W4 a A0 _))
      refine bodyPost_ret (Kt results146 _ _ rfl rfl (run_loadVar_row (P:=prog) _ w.heap.size 89 89 _ (0,0) _ A0 underlying89 rfl (KW f))) rfl ⟨a,?_⟩;rw[F.out,V.out];rfl
     ·have e1:(z.2.toList == p.toList)=false:=by
        rw[beq_eq_false_iff_ne];intro h;rw[JJ,JJ] at h;exact heq (L_inj h)
      have J:=G.out heq;have W:=hid J;clear J heq T G C;go_wp2_with fail
      go_roundw
      case rel=>exact⟨i+1,by omega,by go_num,B2.out,W⟩
      case measure=>simp [intOf];omega
    ·have y:=D.out (fun j S=>hI j S yv);have V:=hid y;have v:Hid (wr.heap[w.heap.size]?=some (.cells (kc zM).toArray 89 (0,0))):=(I.block _ A3).trans O.out;have k:=hid I;clear y I
     go_wp2_with (first
       |((with_reducible refine wpList_buildTo rfl 89 _ rfl _ rfl (kc zM).toArray ?_ ?_)
         ·simp only[xV,Yy];exact key_built0)
       |(refine Ks (B:=w.heap.size) (w0:=w) rfl 89 _ _ rfl w.heap.size _ rfl rfl 89 _ v (KW qh) rfl (by simpa using j8 zM) (Xx Q.out k.out) (xY _) ?_;intro W4 a A0 _))
     refine bodyPost_ret (Kt results146 _ _ rfl rfl (run_loadVar_row (P:=prog) _ w.heap.size 89 89 _ (0,0) _ A0 underlying89 rfl (KW qh))) rfl ⟨a,?_⟩;rw[F.out,V.out];rfl
end
section
open Go.RowKit Go.Maps
open Lib (hid)
def Ua(S:kj)(q:kV)(k:kE):Value:=((jv S k).map fun _=>Value.pointer (some ⟨q.ptr k,0,none⟩)).getD (.pointer none)
theorem docPtrZ15(w:World):(zeroValue 92).run prog w=.ok (.pointer none) w:=yq
theorem named_anyN(N:Nat)(hN:N≤900)(B s:Nat)(S:kj)(q:kV)(p:ByteArray)(w:World)(h:StateAt w B s S q)(hl:S.2.1.length≤N)(hsm:∀x∈S.2.1,x.2.2.2.size≤1073741824)(hg:Glob w)(hit:ItoaB (N+2) w)(hk:kJ ((zO S.2.1 (L p)).getD zM)):
    Calls prog 87 #[.pointer (some ⟨s,0,none⟩),.string p] w fun e w'=>Below w.heap.size w w'∧e=.returned (.tuple #[.agg (kc ((zO S.2.1 (L p)).getD zM)).toArray,Ua S q ((zO S.2.1 (L p)).getD zM),.bool (zO S.2.1 (L p)).isSome]):=by
  have a:=hid h;have H:=hid hk
  obtain⟨A,c,t⟩:=kX h.claims;have I:=hid (fun (u:World) (X:Below w.heap.size w u)=>find_anyN N hN S.2.1 p A c u hl h.claimsOk hsm (Sl.of_own (by have:=(h.keep X).claims;rw[t] at this;exact this)) (hg.next X) (hit.next X));have c1:w.cell? ⟨s,1,none⟩=some (.slice A S.2.1.length c):=(k6 h.box 1).trans (congrArg some t);clear h hk hsm hg t hit;obtain⟨k,Y⟩:=Xy ((zO S.2.1 (L p)).getD zM);obtain⟨bb,i⟩:=Xy ((zO S.2.1 (L p)).isSome);rw[Y,i];simp only[Y,i] at I;rw[Y] at H;clear Y i;have W:=ke H.out;have A4:Below w.heap.size w (w.alloc (.cells (kc (0,k9,0)).toArray 89)):=(qB _ _).alloc (qR _) _;go_enter func87,ntmps87
  go_upto_region 1 with (first
    |(with_reducible refine kF ?_
      refine kv yk 89 rfl (kc (0,k9,0)) (zG _) ?_;intro W0 J D A5))
  obtain⟨P,R⟩:=Xy w.heap.size;rw[R] at D ⊢;have b:=hid (show w.heap.size≤P by omega);have A0:W0.cell? ⟨s,1,none⟩=some (.slice A S.2.1.length c):=(J.cell (p:=⟨s,1,none⟩) (qX a.box)).trans c1;clear c1 R
  go_upto_region 2 with (first
    |(go_at_call 146;refine(I W0 J).mono ?_;rintro e l ⟨m,rfl⟩;have E:=hid m;clear m)
    |(with_reducible refine kF ?_
      refine kv yk 89 rfl (kc (0,k9,0)) (zG _) ?_;intro W2 K U A6)
    |(with_reducible refine kD ?_
      refine kr yk 89 _ _ rfl l.heap.size 0 [] (kc (0,k9,0)) [] (kc k) 89 (.agg (kc k).toArray) rfl rfl rfl rfl (by simpa using U.out) (by rw[W];rfl) (by rw[W];kernel_rfl) (j8 _) ?_;intro T A1 A2 A7;have V:=hid (E.trans ((K.trans (A1.below (B:=l.heap.size) K.size (fun k hk e=>by have e2:k=l.heap.size:=e;omega))).mono E.size));have M:Hid (T.heap[l.heap.size]?=some (.cells (kc k).toArray 89 (0,0))):=hid (by simpa using A2.out)))
  clear A0;obtain⟨y,n⟩:=Xy l.heap.size;have r:=hid (show P≠y by have:=qX D.out;have:=E.size;omega);rw[n] at M ⊢;have F:Hid (Below w.heap.size w T):=hid (Xx J.out V.out);have C:=hid (a.keep F);have O:=hid ((V.block P (qX D)).trans D);clear E K U n I;have G:=hid (show ∀u:World,But (fun k=>k=P) T u→u.rangeAt y 0 (kc k)∧u.cell? ⟨s,0,none⟩=some (.map (some q.bd))∧MapV u prog 89 kJ Um q.bd q.nd (fun k=>(jv S k).map fun _=>.pointer (some ⟨q.ptr k,0,none⟩)) from fun u X=>⟨fun j v z=>by rw[qZ];exact(k6 ((X.block y (qX M) fun e=>r e.symm).trans M) j).trans z,k6 ((X.block s (qX C.box) (ji C.box O yj)).trans C.box) 0,X.map C.mapD fun e=>JV O.out C.mapD_obj e.symm⟩);refine rN 11 (fun u=>But (fun k=>k=P) T u) (But.of_below (qD _ _)) fun Z=>?_
  refine tl 0 _ rfl Z (fun w' Q=>ldK H (G w' Q).1) ?_;go_frame;refine tw 1 _ ?_;go_frame;refine tw 2 _ ?_;go_frame;refine tw 3 _ ?_;go_frame;refine tl 4 _ rfl Z (fun w' Q=>l1 underlying81 (G w' Q).2.1) ?_;go_frame;refine tl 5 _ rfl Z (fun w' Q=>ldK H (G w' Q).1) ?_;go_frame;refine tl 6 _ rfl Z (fun w' Q=>Kd keyEnc underlying81 (docPtrZ15 _) (G w' Q).2.2 H rfl) ?_;go_frame;refine tw 7 _ ?_;go_frame;refine ta 8 ?_;refine kR _ rfl yq 89 _ _ rfl P 0 [] (kc (0,k9,0)) [] (kc k) 89 (.agg (kc k).toArray) rfl rfl rfl rfl (by simpa using (show T.drew.heap[P]?=_ from O)) (by rw[W];rfl) (by rw[W];kernel_rfl) (j8 _) ?_;intro W4 R o A3;have d:=hid (((qD T.heap.size T).mono F.size).trans (R.below (B:=w.heap.size) F.size (fun k hk e=>by have e2:k=P:=e;have:=b.out;omega)));have f:Hid (But (fun k=>k=P) T W4):=hid ((But.refl _ T).drew.trans R fun k _ e=>e);have g:Hid (W4.rangeAt P 0 (kc k)):=hid fun j u z=>by rw[qZ];exact(k6 o j).trans (by simpa using z)
  clear R o A3;refine⟨fun _ _=>f,?_⟩;go_frame;refine tw 9 _ ?_;go_frame;refine tw 10 _ ?_;go_frame;refine ku yq ?_ _;go_wp2_with fail;refine bodyPost_ret (Uz results87 _ _ rfl (qV _ P 0 89 (kc k) _ g underlying89 rfl (by rw[W];kernel_rfl))) rfl ?_;exact⟨F.trans d,rfl⟩
def QY(S:kj)(q:kV)(p:ByteArray):Value:=match zO S.2.1 (L p) with
  |none=>.tuple #[.agg (kc (0,k9,0)).toArray,.pointer none,.int .i64 4]
  |some k=>.tuple #[.agg (kc k).toArray,Ua S q k,.int .i64 0]
theorem sfind_anyN(N:Nat)(hN:N≤900)(B s:Nat)(S:kj)(q:kV)(p:ByteArray)(w:World)(h:StateAt w B s S q)(hl:S.2.1.length≤N)(hsm:∀x∈S.2.1,x.2.2.2.size≤1073741824)(hg:Glob w)(hit:ItoaB (N+2) w)(hk:kJ ((zO S.2.1 (L p)).getD zM)):
    Calls prog 40 #[.pointer (some ⟨s,0,none⟩),.string p] w fun e w'=>Below w.heap.size w w'∧e=.returned (QY S q p):=by
  have J:=hid hk;have I:=hid (fun (u:World) (hu:Below w.heap.size w u)=>named_anyN N hN B s S q p u (h.keep hu) hl hsm (hg.next hu) (hit.next hu) hk);clear h hl hsm hg hk hit;unfold QY;obtain⟨o,b⟩:=Xy (zO S.2.1 (L p));rw[b] at J ⊢;simp only[b] at I;clear b;have Q:=ke J.out;cases o with
  |none=>
   go_enter func40,ntmps40
   go_wp2_with (first
      |(go_at_call 87;refine(I _ A).mono ?_;rintro e V ⟨R,rfl⟩;have C:=hid R;have E:=hid ((R.block w.heap.size (qX D)).trans D);clear R)
      |(with_reducible refine kF ?_
        first
        |(refine kv yk 89 rfl (kc (0,k9,0)) (zG _) ?_;intro n T K f;have F:=hid (Xx C.out T.out);have G:=hid ((T.block w.heap.size (qX E)).trans E))
        |(refine kv yk 89 rfl (kc (0,k9,0)) (zG _) ?_;intro r A D g))
      |(with_reducible refine kL ?_
        refine k7 yk (kp 89 _ rfl (keyZ_built _)) ?_)
      |(with_reducible refine kD ?_
        first
        |(refine kr yk 89 _ _ rfl w.heap.size 0 [] (kc (0,k9,0)) [] (kc (0,k9,0)) 89 (.agg (kc (0,k9,0)).toArray) rfl rfl rfl rfl (by simpa using M.out) rfl yq (j8 _) ?_;intro c X Y i;have O:Hid (c.rangeAt w.heap.size 0 (kc (0,k9,0))):=hid fun j u Z=>by rw[qZ];exact(k6 Y j).trans (by simpa using Z)
          have P:=hid (H.trans (X.below (B:=w.heap.size) (qT A.size H.size) (fun k hk e=>by have d:k=w.heap.size:=e;omega))))
        |(refine kr yk 89 _ _ rfl V.heap.size 0 [] (kc (0,k9,0)) [] (kc zM) 89 (.agg (kc zM).toArray) rfl rfl rfl rfl (by simpa using K.out) rfl yq (j8 _) ?_;intro l U a m;have H:=hid (F.mono A.size|>.trans (U.below (B:=w.heap.size) (qT A.size F.size) (fun k hk e=>by have d:k=V.heap.size:=e;have:=A.size;have:=C.size;omega)));have M:=hid ((U.block w.heap.size (qX G) (by have:=qX D.out;have:=C.size;omega)).trans G.out))))
   refine bodyPost_ret (Uz results40 _ _ rfl (qV _ w.heap.size 0 89 (kc (0,k9,0)) _ O underlying89 rfl yq)) rfl ?_;exact⟨A.trans P,rfl⟩
  |some k=>
   replace J:Hid (kJ k):=J
   replace Q:(kc k).length=34:=Q
   simp only[Option.getD_some,Option.isSome_some] at I;go_enter func40,ntmps40
   go_wp2_with (first
      |(go_at_call 87;refine(I _ A).mono ?_;rintro e V ⟨R,rfl⟩;have C:=hid R;have E:=hid ((R.block w.heap.size (qX D)).trans D);clear R)
      |(with_reducible refine kF ?_
        first
        |(refine kv yk 89 rfl (kc (0,k9,0)) (zG _) ?_;intro n T K f;have F:=hid (Xx C.out T.out);have G:=hid ((T.block w.heap.size (qX E)).trans E))
        |(refine kv yk 89 rfl (kc (0,k9,0)) (zG _) ?_;intro r A D g))
      |(with_reducible refine k8 ?_
        refine k7 yk (ldK J W) ?_)
      |(with_reducible refine kD ?_
        first
        |(refine kr yk 89 _ _ rfl w.heap.size 0 [] (kc (0,k9,0)) [] (kc k) 89 (.agg (kc k).toArray) rfl rfl rfl rfl (by simpa using M.out) (by rw[Q];rfl) (by rw[Q];kernel_rfl) (j8 _) ?_;intro c X Y i;have O:Hid (c.rangeAt w.heap.size 0 (kc k)):=hid fun j u Z=>by rw[qZ];exact(k6 Y j).trans (by simpa using Z)
          have P:=hid (H.trans (X.below (B:=w.heap.size) (qT A.size H.size) (fun k hk e=>by have d:k=w.heap.size:=e;omega))))
        |(refine kr yk 89 _ _ rfl V.heap.size 0 [] (kc (0,k9,0)) [] (kc k) 89 (.agg (kc k).toArray) rfl rfl rfl rfl (by simpa using K.out) (by rw[Q];rfl) (by rw[Q];kernel_rfl) (j8 _) ?_;intro l U a m;have H:=hid (F.mono A.size|>.trans (U.below (B:=w.heap.size) (qT A.size F.size) (fun k hk e=>by have d:k=V.heap.size:=e;have:=A.size;have:=C.size;omega)));have W:Hid (l.rangeAt V.heap.size 0 (kc k)):=hid fun j u Z=>by rw[qZ];exact(k6 a j).trans (by simpa using Z)
          have M:=hid ((U.block w.heap.size (qX G) (by have:=qX D.out;have:=C.size;omega)).trans G.out))))
   refine bodyPost_ret (Uz results40 _ _ rfl (qV _ w.heap.size 0 89 (kc k) _ O underlying89 rfl (by rw[Q];kernel_rfl))) rfl ?_;exact⟨A.trans P,rfl⟩
theorem sfind_any(B s:Nat)(S:kj)(q:kV)(p:ByteArray)(w:World)(h:StateAt w B s S q)(hl:S.2.1.length≤90)(hsm:∀x∈S.2.1,x.2.2.2.size≤1073741824)(hg:Glob w)(hk:kJ ((zO S.2.1 (L p)).getD zM)):
    Calls prog 40 #[.pointer (some ⟨s,0,none⟩),.string p] w fun e w'=>Below w.heap.size w w'∧e=.returned (QY S q p):=
  sfind_anyN 90 yj B s S q p w h hl hsm hg ((itoaB_small w).less yj) hk
end
section
open Go.RowKit Go.Maps
theorem lives_any(d:Option Addr)(w:World):Calls prog 80 #[.pointer d] w fun e w'=>Below w.heap.size w w'∧w'.heap[w.heap.size]?=some (.cells [.pointer d].toArray 92 (0,0))∧e=.returned (.func (.func 132) #[] #[.pointer (some ⟨w.heap.size,0,none⟩)]):=by
  have C:∀(fn:Fn) (first cap:Array Value) (w:World),(Instr.makeFunc fn first cap).run prog w=.ok (.func fn first cap) w:=fun _ _ _ _=>rfl
  go_enter func80,ntmps80
  go_wp2_with (first
    |(with_reducible refine kG ?_
      refine kz yk 92 _ rfl [.pointer d] _ rfl rfl yq ?_;intro E A B D))
  go_ret;exact⟨A,B,rfl⟩
theorem livesIt_nil(b:Nat)(y:Value)(w:World)(h:w.heap[b]?=some (.cells [.pointer none].toArray 92 (0,0))):Calls prog 132 #[y,.pointer (some ⟨b,0,none⟩)] w fun e w'=>w'=w∧e=.returned (.tuple #[]):=by
  have A:w.cell? ⟨b,0,none⟩=some (.pointer none):=k6 h 0;clear h;go_enter func132,ntmps132
  go_wp2
  refine bodyPost_ret (results_none yq _ _ _) rfl ?_;exact⟨rfl,rfl⟩
end
end Go.Proofs.YtdgbjhfkmembdaaGreatDoor