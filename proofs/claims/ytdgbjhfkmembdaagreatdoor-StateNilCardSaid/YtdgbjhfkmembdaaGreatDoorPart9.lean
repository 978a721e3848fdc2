/-
  Plain facts, and contracts of the functions that the claim's walk comes to, one behind the other. Conditions: as each says.
-/
import Derived.Test.YtdgbjhfkmembdaaGreatDoorPart8
import Derived.Test.YtdgbjhfkmembdaaGreatDoorPart5
import Derived.Test.YtdgbjhfkmembdaaGreatDoorPart7
import Derived.Test.YtdgbjhfkmembdaaGreatDoorPart6
set_option linter.unusedVariables false
set_option linter.unusedSimpArgs false
set_option maxHeartbeats 4000000
set_option maxRecDepth 100000
open Go.Proofs.Tryz
namespace Go.Proofs.YtdgbjhfkmembdaaGreatDoor
def RunIx(d:List kX):Prop:=∀r∈d,0≤r.1.2.2∧r.1.2.2+(r.2.1.length:Int)≤2147483648
section
variable {d:List kX}
theorem RunIx.put(h:RunIx d){i:Nat}{r:kX}(h1:0≤r.1.2.2)(h2:r.1.2.2+(r.2.1.length:Int)≤2147483648):RunIx (qh d i r):=fun q A=>by
  unfold qh at A;rcases List.mem_append.1 A with A|A
  ·exact h q (List.mem_of_mem_take A)
  ·rcases List.mem_cons.1 A with rfl|A
   ·exact⟨h1,h2⟩
   ·exact h q (List.mem_of_mem_drop A)
theorem ix_head{r:kX}(h1:0≤r.1.2.2)(h2:r.1.2.2+(r.2.1.length:Int)≤2147483648)(n:Nat):0≤(uI r n).1.2.2∧(uI r n).1.2.2+((uI r n).2.1.length:Int)≤2147483648:=by
  refine⟨h1,?_⟩;show r.1.2.2+((r.2.1.take n).length:Int)≤2147483648;rw[List.length_take];omega
theorem ix_tail{r:kX}(h1:0≤r.1.2.2)(h2:r.1.2.2+(r.2.1.length:Int)≤2147483648){n:Nat}(hn:n≤r.2.1.length):0≤(zP r n).1.2.2∧(zP r n).1.2.2+((zP r n).2.1.length:Int)≤2147483648:=by
  show 0≤r.1.2.2+(n:Int)∧r.1.2.2+(n:Int)+((r.2.1.drop n).length:Int)≤2147483648;rw[List.length_drop];omega
theorem RunIx.cut(h:RunIx d)(i n:Nat):RunIx (Zo d i n):=by
  unfold Zo
  split
  ·exact h
  ·rename_i r D;have E:r∈d:=List.mem_of_getElem? D;obtain⟨B,C⟩:=h r E
   split
   ·rename_i F;intro q A;rcases List.mem_append.1 A with A|A
    ·exact h q (List.mem_of_mem_take A)
    ·rcases List.mem_cons.1 A with rfl|A
     ·exact ix_head B C n
     ·rcases List.mem_cons.1 A with rfl|A
      ·exact ix_tail B C yz
      ·exact h q (List.mem_of_mem_drop A)
   ·exact h
theorem RunIx.insert(h:RunIx d)(key at':kF)(first:Bool)(rs:List Nat):RunIx (jw d key at' first rs).1:=by
  unfold jw
  split
  ·exact h
  ·rename_i A;have B:0≤key.2.2:=by
     by_cases hq:key.2.2<0
     ·exact absurd (.inr (.inl hq)) A
     ·omega
   have C:key.2.2+(rs.length:Int)≤2147483648:=by
     by_cases hq:2147483648 - (rs.length:Int)<key.2.2
     ·exact absurd (.inr (.inr hq)) A
     ·omega
   split
   ·split
    ·exact h.put B C
    ·exact h
   ·split
    ·exact h
    ·split
     ·exact h
     ·split
      ·exact(h.cut _ _).put B C
      ·exact h
theorem RunIx.kill{r:kX}(h1:0≤r.1.2.2)(h2:r.1.2.2+(r.2.1.length:Int)≤2147483648)(k:kF)(n:Int)(hn:1≤n):RunIx (JN r k n):=by
  have D:∀{q:kX},0≤q.1.2.2→q.1.2.2+(q.2.1.length:Int)≤2147483648→¬q.1.2.2<k.2.2→RunIx (JN q k n):=fun {q} B C hlt=>by
    by_cases hm:z7 q k n=true
    ·by_cases hb:(k.2.2+n - q.1.2.2).toNat<q.2.1.length
     ·obtain⟨e,F⟩:=kill_cut2 hm hlt hb;have E:z7 (zP q (k.2.2+n - q.1.2.2).toNat) k n=false:=by
        have e:(zP q (k.2.2+n - q.1.2.2).toNat).1.2.2=k.2.2+n:=by show q.1.2.2+((k.2.2+n - q.1.2.2).toNat:Int)=k.2.2+n;omega
        unfold z7;rw[e,decide_eq_false (show ¬k.2.2+n<k.2.2+n by omega)];simp
      rw[e,Z4 E];intro x A;rcases List.mem_cons.1 A with rfl|A
      ·exact ix_head B C _
      ·rw[List.mem_singleton] at A;subst A;exact ix_tail B C yz
     ·rw[kill_all hm hlt hb];intro x A;rw[List.mem_singleton] at A;subst A;exact⟨B,C⟩
    ·rw[Z4 (by simpa using hm)];intro x A;rw[List.mem_singleton] at A;subst A;exact⟨B,C⟩
  by_cases hlt:r.1.2.2<k.2.2
  ·by_cases hm:z7 r k n=true
   ·obtain⟨e,F,G⟩:=kill_cut1 hm hn hlt;obtain⟨B,C⟩:=ix_tail h1 h2 (n:=(k.2.2 - r.1.2.2).toNat) yz;rw[e];intro x A;rcases List.mem_cons.1 A with rfl|A
    ·exact ix_head h1 h2 _
    ·refine D B C ?_ x A;show ¬r.1.2.2+((k.2.2 - r.1.2.2).toNat:Int)<k.2.2;omega
   ·rw[Z4 (by simpa using hm)];intro x A;rw[List.mem_singleton] at A;subst A;exact⟨h1,h2⟩
  ·exact D h1 h2 hlt
theorem RunIx.delete(h:RunIx d)(k:kF)(n:Int):RunIx (vo d k n).1:=by
  unfold vo
  split
  ·exact h
  ·split
   ·exact h
   ·intro q A;obtain⟨r,B,A⟩:=List.mem_flatMap.1 A;exact RunIx.kill (h r B).1 (h r B).2 k n yz q A
theorem RunIx.len(h:RunIx d){r:kX}(hr:r∈d):r.2.1.length≤2147483648:=by
  obtain⟨A,B⟩:=h r hr;omega
end
section
open Go.RowKit
def Z0(r:zz)(g off n:Nat):zz:=(r.1,.slice (some ⟨g,off,none⟩) n n,r.2.2.1.take n,r.2.2.2)
def Zw(r:zz)(g off cap n:Nat):zz:=(JM r.1 (n:Int),.slice (some ⟨g,off+n,none⟩) (r.2.2.1.length - n) (cap - n),r.2.2.1.drop n,r.2.2.2)
theorem headM_of(r:zz)(g off n:Nat):kZ (Z0 r g off n)=uI (kZ r) n:=rfl
theorem tailM_of(r:zz)(g off cap n:Nat):kZ (Zw r g off cap n)=zP (kZ r) n:=rfl
theorem laterD_ok{k:kF}(h:kN k){n:Nat}(h0:0≤k.2.2)(h1:k.2.2+(n:Int)≤2147483648):kN (JM k (n:Int)):=⟨h.1,h.2.1,by
  show (Lit.int .i64 (k.2.2+(n:Int))).wf=true;simp only[Lit.wf,IntKind.min,IntKind.max,IntKind.signed,IntKind.bits,Bool.and_eq_true];simp;omega⟩
section
variable {w:World} {r:zz} {g off cap n:Nat}
theorem RunIn.head(h:RunIn w r)(hv:r.2.1=.slice (some ⟨g,off,none⟩) r.2.2.1.length cap)(h0:0<n)(hn:n<r.2.2.1.length):RunIn w (Z0 r g off n):=by
  refine⟨h.1,?_,fun e=>?_⟩
  ·have:=h.2.1;rw[hv] at this;exact this.take yz
  ·have:=congrArg List.length e;simp only[Z0,List.length_take,List.length_nil] at this;omega
theorem RunIn.tail(h:RunIn w r)(hv:r.2.1=.slice (some ⟨g,off,none⟩) r.2.2.1.length cap)(hn:n<r.2.2.1.length)(hx:0≤r.1.2.2)(hy:r.1.2.2+(r.2.2.1.length:Int)≤2147483648):RunIn w (Zw r g off cap n):=by
  refine⟨laterD_ok h.1 hx yz,?_,fun e=>?_⟩
  ·have:=h.2.1;rw[hv] at this;exact this.drop yz
  ·have:=congrArg List.length e;simp only[Zw,List.length_drop,List.length_nil] at this;omega
end
theorem cutM_map{rs:List zz}{i n:Nat}(hi:i<rs.length)(h0:0<n)(hn:n<rs[i].2.2.1.length)(g off cap:Nat):
    (rs.take i++Z0 rs[i] g off n::Zw rs[i] g off cap n::rs.drop (i+1)).map kZ=Zo (rs.map kZ) i n:=by
  unfold Zo;rw[List.getElem?_map,List.getElem?_eq_getElem hi];simp only[Option.map_some];rw[if_pos ⟨h0,hn⟩];simp only[List.map_append,List.map_cons,List.map_take,List.map_drop,headM_of,tailM_of]
theorem cut_same{d:List kX}{i n:Nat}{r:kX}(hr:d[i]?=some r)(h:n=0∨r.2.1.length≤n):Zo d i n=d:=by
  unfold Zo;rw[hr];dsimp only;rw[if_neg yz]
theorem put_set{α:Type}{l:List α}{i:Nat}(hi:i<l.length)(a b:α):((l.take (i+1)++b::l.drop (i+1)).take i++a::(l.take (i+1)++b::l.drop (i+1)).drop (i+1))=l.take i++a::b::l.drop (i+1):=by
  have A:(l.take (i+1)).length=i+1:=by rw[List.length_take];omega
  rw[List.take_append_of_le_length yz,List.take_take,Nat.min_eq_left yz,List.drop_append_of_le_length yz,List.drop_of_length_le yz];rfl
end
section
open Go.RowKit Go.Maps
open Lib (hid)
def DTurn(w:World)(B p:Nat)(v:Value)(d:List kX)(w':World):Prop:=∃v',DocAt w' B p v' d∧But (DocX p v) w w'∧Newer w v v'
theorem DTurn.same{w w':World}{B p:Nat}{v:Value}{d:List kX}(h:DocAt w B p v d)(hb:Below w.heap.size w w'):DTurn w B p v d w':=⟨v,h.keep hb,But.of_below hb,Newer.refl _ _⟩
theorem DTurn.trans{w w' w2:World}{B p:Nat}{v v':Value}{d':List kX}(h1:But (DocX p v) w w')(h2:Newer w v v')(hs:w.heap.size≤w'.heap.size)(k:DTurn w' B p v' d' w2):DTurn w B p v d' w2:=by
  obtain⟨A,C,D,E⟩:=k;exact⟨A,C,h1.trans D fun j F G=>DocX.of h2 F G,h2.trans E hs⟩
theorem DocRows.set{w w':World}{B p:Nat}{rs:List zz}{i:Nat}{x:zz}{g c:Nat}{tail:List Value}(h:DocRows w B p (.slice (some ⟨g,0,none⟩) rs.length c) rs)(hi:i<rs.length)(hx:RunIn w x)(hB:B≤g)(hc:rs.length≤c)(hm:c≤maxLen)(ht:tail.length=(c - rs.length)*36)
    (hg:w'.heap[g]?=some (.cells (ke ja (rs.take i)++(ja x++(ke ja (rs.drop (i+1))++tail))).toArray 177 (0,0))) {cur:Array Value} (hgw:w.heap[g]?=some (.cells cur 177 (0,0))) (hb:But (fun k=>k=g) w w'):
    DocRows w' B p (.slice (some ⟨g,0,none⟩) (rs.take i++x::rs.drop (i+1)).length c) (rs.take i++x::rs.drop (i+1)):=by
  obtain⟨s,t,E⟩:=h.box;have G:p≠g:=jr E hgw yv;have D:(rs.take i++x::rs.drop (i+1)).length=rs.length:=by simp;omega
  have I:KeepR w w':=KeepR.but hb fun k J K L M H A=>by
    subst J;rw[hgw] at A;injection A with A;injection A with _ A;subst A;exact absurd H yv
  have F:∀r∈rs.take i++x::rs.drop (i+1),RunIn w r:=fun r C=>by
    rcases List.mem_append.1 C with C|C
    ·exact h.ins r (List.mem_of_mem_take C)
    ·rcases List.mem_cons.1 C with rfl|C
     ·exact hx
     ·exact h.ins r (List.mem_of_mem_drop C)
  refine⟨⟨s,t,by rw[D];exact(hb.block p (qX E) G).trans E⟩,h.low,fun r C=>(F r C).keep I,?_⟩;rw[D];refine qv (by rw[jc (vW F),D]) hB ?_ hc hm ht;rw[hg];simp [ke]
theorem ex_slice_hm{P:Program}{ρ:Operand→Value}{o:Oper}{w:World}(t:TypeId)(x hi mx:Operand)(ho:o.op=.slice t x none (some hi) (some mx)){A:Option Addr}{n c h m:Nat}{kh km:IntKind}(hx:ρ x=.slice A n c)(hh:ρ hi=.int kh (h:Int))(hm:ρ mx=.int km (m:Int))
    (ht:P.underlying t=some (.slice (P.elem t))) {size:Nat} (hs:(P.info? (P.elem t)).map (·.size)=some size) (h1:h≤m) (h2:m≤c) {V:Value} (hV:sliced A 0 h m size=V):
    (execOp ρ o).run P w=.ok (.value V) w:=by
  subst hV;have B:=run_slice_hm (w:=w) t A n c ht kh km (h:Int) (m:Int) yz yz yz;rw[ZY hs] at B;simp only[Result.andThen,Int.toNat_natCast] at B;have C:=run_sliceAt_slice w t (.slice A n c) none (some (.int kh (h:Int))) (some (.int km (m:Int))) ht;rw[B] at C;unfold execOp;simp only[ho,hx,hh,hm,Option.map_some,Option.map_none,Sem.run_bind,C,Result.andThen_ok,Sem.run_pure]
theorem infoI32:(prog.info? 21).map (·.size)=some 1:=by kernel_rfl
theorem Qs(k:kF)(hk:kN k)(x:Value)(hx:x.oneCell'=true)(d:Bool)(w:World):(Instr.build 177 #[(0,.agg (k8 k).toArray),(1,x),(2,.bool d)]).run prog w=.ok (.agg (k8 k++([x]++[Value.bool d])).toArray) w:=by
  obtain⟨j,C,D,_,_⟩:=info_parts infoRun;have A:x.cells=#[x]:=by cases x<;>first|rfl|cases hx
  have h:=zl (P:=prog) C underlying177 D [k8 (0,k7,0),[.slice none 0 0],[.bool false]] rfl (places:=[(0,34),(34,1),(35,1)]) yy yy [(0,.agg (k8 k).toArray),(1,x),(2,.bool d)] (by
    intro q B;simp only[List.mem_cons,List.not_mem_nil,or_false] at B;rcases B with rfl|rfl|rfl
    ·exact⟨by show 0<3;omega,by show (k8 k).toArray.size=34;rw[List.size_toArray,k9 hk]⟩
    ·exact⟨by show 1<3;omega,by show x.cells.size=1;rw[A];rfl⟩
    ·exact⟨by show 2<3;omega,rfl⟩)
  have E:=run_build (P:=prog) w 177 #[(0,.agg (k8 k).toArray),(1,x),(2,.bool d)] _ h;refine E.trans ?_;have F:(Value.agg (k8 k).toArray).cells=(k8 k).toArray:=rfl;have G:(Value.bool d).cells=#[.bool d]:=rfl;simp [F,G,A]
theorem dcut_mid(rs:List zz)(i m:Nat)(B p:Nat)(v:Value)(w:World)(h:DocRows w B p v rs)(hi:i<rs.length)(h0:0<m)(hm:m<rs[i].2.2.1.length)(hx:0≤rs[i].1.2.2)(hy:rs[i].1.2.2+(rs[i].2.2.1.length:Int)≤2147483648)(hl:rs.length≤1073741823):
    Calls prog 158 #[.pointer (some ⟨p,0,none⟩),.int .i64 (i:Int),.int .i64 (m:Int)] w fun e w'=>e=.returned (.tuple #[])∧DTurn w B p v (Zo (rs.map kZ) i m) w':=by
  have HD:=hid h;have Bk:=h.lt;have Y:=hid fun g off C=>cutM_map (rs:=rs) (i:=i) (n:=m) hi h0 hm g off C
  have B7:=hid (List.getElem?_eq_getElem hi);obtain⟨g,c',B9,AJ,Bl,Ba⟩:=h.row hi;have N:=hid (h.ins _ (List.getElem_mem hi));have Z:=hid AJ;clear h AJ Ba;generalize rs[i]=r at *;subst B9;have AK:=jD N.out;have Az:=hid (KX r N.2.1.one);obtain⟨A,off,C,Bm,fr,Ak,Bn,Bo,_,_⟩:=N.2.1;have HK:Hid (kN r.1):=hid N.1;have O:Hid (RunIn w (Zw r A off C m)):=hid (N.tail Ak hm hx hy);have a:Hid (RunIn w (Z0 r A off m)):=hid (N.head Ak h0 hm);obtain⟨p0,p1,p2,p3,p4,p5⟩:=J9 N.1;have P3:=hid (p3.trans (congrArg some Ak));have P4:=hid p4;have P5:=hid p5
  have B8:=hid Ak;have A9:=hid (fun w=>later_any r.1 (m:Int) w N.1 (by unfold Ix;omega) (by unfold Ix;omega));clear p0 p1 p2 p3 p4 p5 Ak hx hy;have i0:(0:Int)≤(i:Int):=by omega
  have i1:(i:Int)<(rs.length:Int):=by omega
  have c0:w.cell? ⟨p,0,none⟩=some (.slice (some ⟨g,0,none⟩) rs.length c'):=by
    obtain⟨s,t,hb⟩:=HD.box;exact k4 hb 0
  go_enter func158,ntmps158
  go_upto_region 1 with (first
    |(with_reducible refine k6 ?_
      refine j9 rfl 177 _ rfl g _ rfl (ja r) _ Z.out underlying177 rfl (by rw[AK];exact zt) ?_)
    |(with_reducible refine kA ?_
      refine ks yx 177 rfl runZ (Zu _) ?_;intro W6 As AS AT;have Aa:=hid As;have Ab:=hid AS;have Ac:=hid AT
      clear As AS AT)
    |(with_reducible refine kw ?_
      refine ko yx 177 _ _ rfl w.heap.size 0 [] runZ [] (ja r) 177 _ rfl rfl rfl rfl (by simpa using Ab.out) (by rw[AK];rfl) (by rw[AK];exact zt) Az.out ?_;intro G AU AV Bb;have Ad:=hid AU;have P:Hid (G.heap[w.heap.size]?=some (.cells (ja r).toArray 177 (0,0))):=hid (by simpa using AV);clear AU AV Bb))
  have d:Hid (Below w.heap.size w G):=hid (Aa.trans (Ad.below (by have:=Ac.out;omega) (fun k hk e=>by omega)));obtain⟨W,As⟩:∃W,w.heap.size=W:=⟨_,rfl⟩;have AA:=hid (show w.heap.size≤G.heap.size from d.size);rw[As] at P ⊢;clear c0 Aa Ab Ac Ad;have Bc:G.cell? ⟨W,34,none⟩=some (.slice (some ⟨A,off,none⟩) r.2.2.1.length C):=(k4 P.out 34).trans P3.out;have j0:¬m=0:=by omega
  have j1:¬r.2.2.1.length≤m:=by omega
  go_upto_region 2 with fail
  clear Bc;have f:Hid (∀u:World,Below G.heap.size G u→u.rangeAt W 0 (k8 r.1)∧u.cell? ⟨W,34,none⟩=some (.slice (some ⟨A,off,none⟩) r.2.2.1.length C)∧u.cell? ⟨W,35,none⟩=some (.bool r.2.2.2)):=hid fun u hu=>by
    have hZ:=(hu.block W (qX P.out)).trans P.out;exact⟨fun j u2 hj=>(k4 hZ (0+j)).trans (P5.out j u2 hj),(k4 hZ 34).trans P3.out,(k4 hZ 35).trans P4.out⟩
  refine rN 11 (fun u=>Below G.heap.size G u) (qD _ _) fun X=>?_
  refine tw 0 (.pointer (some ⟨W,0,none⟩)) ?_;go_frame;refine tl 1 (.agg (k8 r.1).toArray) rfl X (fun w' D=>ldK HK.out (f.out w' D).1) ?_;go_frame;refine tw 2 (.pointer (some ⟨W,34,none⟩)) ?_;go_frame;refine tl 3 (.slice (some ⟨A,off,none⟩) r.2.2.1.length C) rfl X (fun w' D=>l1 underlying175 (f.out w' D).2.1) ?_;go_frame;refine tw 4 (.int .i64 (m:Int)) ?_;go_frame;refine tw 5 (.int .i64 (m:Int)) ?_;go_frame;refine tk 6 (.slice (some ⟨A,off,none⟩) m m) rfl (fun w' D=>ex_slice_hm 175 _ _ _ rfl rfl rfl rfl underlying175 infoI32 (qR _) yz (by simp [sliced,Addr.add])) ?_;go_frame;refine tw 7 (.pointer (some ⟨W,35,none⟩)) ?_;go_frame;refine tl 8 (.bool r.2.2.2) rfl X (fun w' D=>l1 underlying4 (f.out w' D).2.2) ?_;go_frame;refine tk 9 (.agg (ja (Z0 r A off m)).toArray) rfl (fun w' D=>kj 177 _ rfl (by simp only[List.map_toArray,List.map_cons,List.map_nil];exact Qs r.1 HK.out _ rfl _ _)) ?_;go_frame;refine ta 10 ?_;refine zV _ rfl yy 177 rfl runZ (Zu _) ?_;intro W8 At AW AX;have T:=hid At;have Ae:=hid AW;have AB:=hid AX
  clear At AW AX;refine⟨fun _ _=>(qD G.heap.size G).trans (T.mono (qD G.heap.size G).size),?_⟩;go_frame;refine ta 11 ?_;have AL:=jD a.out;have Af:=hid (KX _ a.2.1.one);refine kW _ rfl yy 177 _ _ rfl G.drew.heap.size 0 [] runZ [] (ja (Z0 r A off m)) 177 (.agg (ja (Z0 r A off m)).toArray) rfl rfl rfl rfl (by simpa using Ae.out) (by rw[AL];rfl) (by rw[AL];exact zt) Af.out ?_;intro M AY AZ Bd;have Q:=hid (((qD G.heap.size G).trans (T.mono (qD G.heap.size G).size)).trans (AY.below (B:=G.heap.size) (qT (qD G.heap.size G).size T.size) (fun k hk e=>by
    have e2:k=G.drew.heap.size:=e;have e3:G.drew.heap.size=G.heap.size:=rfl;omega)))
  have U:Hid (M.heap[G.drew.heap.size]?=some (.cells (ja (Z0 r A off m)).toArray 177 (0,0))):=hid (by simpa using AZ);clear AY AZ Bd;refine⟨fun h=>absurd h yv,?_⟩;go_frame;refine ku yy ?_ _;obtain⟨b8,At⟩:∃b8,G.drew.heap.size=b8:=⟨_,rfl⟩;rw[At] at U ⊢;have V:=hid fun u (hu:Below M.heap.size M u)=>f.out u (Q.trans (hu.mono Q.size))
  clear T Ae AB X
  go_upto_region 3 with fail
  have B0:=enE func89 rfl;have Al:=jD O.out;have Ag:=hid (KX _ O.2.1.one);have J:=hid (qD M.heap.size M)
  go_cut [8] from 35 to 45 (fun t8 wx=>∃Au,t8=.pointer (some ⟨Au,0,none⟩)∧Hid (Below M.heap.size M wx)∧Hid (wx.heap[Au]?=some (.cells (ja (Zw r A off C m)).toArray 177 (0,0))))
  case first=>
    refine rN 12 (fun u=>Below M.heap.size M u) J.out fun X=>?_
    refine tw 0 (.pointer (some ⟨W,0,none⟩)) ?_;go_frame;refine tl 1 (.agg (k8 r.1).toArray) rfl X (fun w' D=>ldK HK.out (V.out w' D).1) ?_;go_frame;refine tw 2 (.int .i64 (m:Int)) ?_;go_frame;refine tw 4 (.pointer (some ⟨W,34,none⟩)) ?_;go_frame;refine tl 5 (.slice (some ⟨A,off,none⟩) r.2.2.1.length C) rfl X (fun w' D=>l1 underlying175 (V.out w' D).2.1) ?_;go_frame;refine tw 6 (.int .i64 (m:Int)) ?_;go_frame;refine tk 7 (.slice (some ⟨A,off+m,none⟩) (r.2.2.1.length - m) (C - m)) rfl (fun w' D=>uq 175 _ _ rfl rfl rfl underlying175 infoI32 yz (by rw[sliced,if_neg (show ¬C=m by omega)];simp [Addr.add];omega)) ?_;go_frame;refine tw 8 (.pointer (some ⟨W,35,none⟩)) ?_;go_frame;refine tl 9 (.bool r.2.2.2) rfl X (fun w' D=>l1 underlying4 (V.out w' D).2.2) ?_;go_frame;refine um (rs:=[3,11]) yy yq ?_;intro q hq;simp only[List.mem_cons,List.not_mem_nil,or_false] at hq;rcases hq with rfl|rfl
    focus
      refine tc #[.agg (k8 r.1).toArray,.int .i64 (m:Int)] B0 rfl ?_;refine(A9.out _).mono ?_;rintro e u3 ⟨A4,rfl⟩;have H:=hid (J.trans (A4.mono J.size));clear A4;refine⟨_,rfl,fun _ _=>H.out,?_⟩;go_frame;refine tk 10 (.agg (ja (Zw r A off C m)).toArray) rfl (fun w' D=>kj 177 _ rfl (by simp only[List.map_toArray,List.map_cons,List.map_nil];exact Qs _ O.1 _ rfl _ _)) ?_;go_frame;refine ta 11 ?_;refine zV _ rfl yy 177 rfl runZ (Zu _) ?_;intro AM A1 A2 Aq;have E:=hid (H.trans (A1.mono H.size));have S:=hid A2
      have o:=hid (show u3.heap.size<AM.heap.size by omega);clear A1 A2 Aq;refine⟨fun _ _=>E.out,?_⟩;go_frame;have y:=hid (show M.heap.size≤u3.heap.size from H.size);refine ta 12 ?_;refine kW _ rfl yy 177 _ _ rfl u3.heap.size 0 [] runZ [] (ja (Zw r A off C m)) 177 (.agg (ja (Zw r A off C m)).toArray) rfl rfl rfl rfl (by simpa using S.out) (by rw[Al];rfl) (by rw[Al];exact zt) Ag.out ?_;intro AN A5 A6 AO;have F:=hid (E.trans (A5.below (B:=M.heap.size) E.size (fun k hk e=>by
        have e2:k=u3.heap.size:=e;have h1:=y.out;omega)))
      have L:Hid (AN.heap[u3.heap.size]?=some (.cells (ja (Zw r A off C m)).toArray 177 (0,0))):=hid (by simpa using A6)
    rotate_left
    focus
      refine zV _ rfl yy 177 rfl runZ (Zu _) ?_;intro AM A1 A2 Aq;have E:=hid (J.trans (A1.mono J.size));have S:=hid A2
      have o:=hid (show M.drew.heap.size<AM.heap.size by omega);clear A1 A2 Aq;refine⟨fun _ _=>E.out,?_⟩;go_frame;have y:=hid (show M.heap.size≤M.drew.heap.size from J.size);refine ta 3 ?_;refine tc #[.agg (k8 r.1).toArray,.int .i64 (m:Int)] B0 rfl ?_;refine(A9.out _).mono ?_;rintro e u3 ⟨A4,rfl⟩;have AC:=hid ((A4.block M.drew.heap.size o.out).trans S.out);have H:=hid (E.trans (A4.mono E.size));clear A4;refine⟨_,rfl,fun _ _=>H.out,?_⟩;go_frame;refine tk 10 (.agg (ja (Zw r A off C m)).toArray) rfl (fun w' D=>kj 177 _ rfl (by simp only[List.map_toArray,List.map_cons,List.map_nil];exact Qs _ O.1 _ rfl _ _)) ?_;go_frame;refine ta 12 ?_;refine kW _ rfl yy 177 _ _ rfl M.drew.heap.size 0 [] runZ [] (ja (Zw r A off C m)) 177 (.agg (ja (Zw r A off C m)).toArray) rfl rfl rfl rfl (by simpa using AC.out) (by rw[Al];rfl) (by rw[Al];exact zt) Ag.out ?_;intro AN A5 A6 AO;have F:=hid (H.trans (A5.below (B:=M.heap.size) H.size (fun k hk e=>by
        have e2:k=M.drew.heap.size:=e;have h1:=y.out;omega)))
      have L:Hid (AN.heap[M.drew.heap.size]?=some (.cells (ja (Zw r A off C m)).toArray 177 (0,0))):=hid (by simpa using A6)
    all_goals
      clear A5 A6 AO;refine⟨fun h=>absurd h yv,?_⟩;go_frame;refine ku yy ?_ _;go_wp2_with fail
      go_meet
      case rel=>exact⟨_,rfl,F,L⟩
  case rest=>
    obtain⟨Au,rfl,F,L⟩:=hcut;have z:=hid ((F.block b8 (qX U.out)).trans U.out);have R:Hid (Below w.heap.size w wc):=hid (d.trans ((Q.trans (F.mono Q.size)).mono d.size));have Ah:=hid (HD.keep R.out);have AD:Hid (RunIn wc (Zw r A off C m)):=hid (O.keep (KeepR.below R.out));have AE:Hid (wc.rangeAt Au 0 (ja (Zw r A off C m))):=hid fun j u hj=>by rw[qZ];exact(k4 L.out j).trans hj
    have ew:IntKind.i64.wrap ((i:Int)+1)=((i+1:Nat):Int):=by rw[IntWalk.i64_in _ yz];omega
    clear f V Z P F Q U;have AF:=hid (show ¬DocX p (.slice (some ⟨g,0,none⟩) rs.length c') b8 from fun q=>by
      have h1:=AA.out;have h2:G.drew.heap.size=G.heap.size:=rfl;rcases q with q|q
      ·omega
      ·have:g=b8:=by simpa [Value.ownBlock] using q
       omega)
    have Ar:=AL
    go_upto_region 5 with (first
      |(refine k5 yx (ldU Al AE.out) ?_)
      |(go_at_call 159;refine(put_run rs (i+1) _ B p _ wc Ah.out AD.out yz yz).mono ?_;rintro e Av ⟨rfl,v',B1,Aw,B2⟩;have I:=hid B1;have A0:=hid Aw;have Ai:=hid B2
        clear B1 Aw B2))
    have Am:=hid ((A0.block b8 (qX z.out) AF.out).trans z.out);have AG:Hid (RunIn Av (Z0 r A off m)):=hid ((a.keep (KeepR.below R.out)).keep (KeepR.but A0.out Ah.at.noRunes));obtain⟨K,A7⟩:∃x,rs.take (i+1)++Zw r A off C m::rs.drop (i+1)=x:=⟨_,rfl⟩;have Bj:K.length=rs.length+1:=by rw[←A7];simp;omega
    have AH:Hid ((K.take i++Z0 r A off m::K.drop (i+1)).map kZ=Zo (rs.map kZ) i m):=hid (by
      rw[←A7,put_set hi];exact Y.out A off C)
    rw[A7] at I;obtain⟨g1,c1,AR,rfl,Be,A8,Bf,Bg,Bh⟩:=KJ I.own yz;have Ax:i<K.length:=by omega
    rw[(rows_set (enc:=ja) (vW I.ins) Ax (r:=Z0 r A off m)).1] at A8;simp only[List.append_assoc] at A8;have Aj:=hid A8;have Bi:=jD (I.ins _ (List.getElem_mem Ax));have B3:=jc (enc:=ja) (sz:=36) (l:=K.take i) (vW fun x hx=>I.ins x (List.mem_of_mem_take hx));rw[List.length_take,Nat.min_eq_left yz] at B3;clear A8 A7 Y;obtain⟨Bp,Bq,Ay⟩:=I.box;have An:Hid (Av.rangeAt b8 0 (ja (Z0 r A off m))):=hid fun j u hj=>by rw[qZ];exact(k4 Am.out j).trans hj
    have AI:=hid (k4 Ay 0);clear Ay;refine rN 7 (fun u=>u.cell? ⟨p,0,none⟩=some (.slice (some ⟨g1,0,none⟩) K.length c1)∧u.rangeAt b8 0 (ja (Z0 r A off m))) ⟨AI.out,An.out⟩ fun B4=>?_
    refine tw 0 (.pointer (some ⟨p,0,none⟩)) ?_;go_frame;refine tw 1 (.pointer (some ⟨p,0,none⟩)) ?_;go_frame;refine tw 2 (.pointer (some ⟨p,0,none⟩)) ?_;go_frame;refine tl 3 (.slice (some ⟨g1,0,none⟩) K.length c1) rfl B4 (fun w' D=>l1 underlying190 D.1) ?_;go_frame;refine tw 4 (.int .i64 (i:Int)) ?_;go_frame;refine tl 5 (.agg (ja (Z0 r A off m)).toArray) rfl B4 (fun w' D=>ldU Ar D.2) ?_;go_frame;refine tk 6 (.pointer (some ⟨g1,0+i*36,none⟩)) rfl (fun w' D=>Kc 190 _ _ rfl (b:=g1) (off:=0) (q:=i) (n:=K.length) (c:=c1) rfl rfl Ax underlying190 zt) ?_;go_frame;refine ta 7 ?_;refine kW _ rfl yy 177 _ _ rfl g1 (0+i*36) (ke ja (K.take i)) (ja K[i]) (ke ja (K.drop (i+1))++AR) (ja (Z0 r A off m)) 177 (.agg (ja (Z0 r A off m)).toArray) rfl (by rw[B3,Nat.zero_add]) rfl rfl Aj.out (by rw[Bi,Ar]) (by rw[Ar];exact zt) Af.out ?_;intro AP A3 AQ B5;have Ao:=hid A3;have Ap:=hid AQ
    clear A3 AQ B5;refine⟨fun h=>absurd h yv,?_⟩;go_frame;refine ku yy ?_ _;go_wp2_with fail
    go_end0
    have A3:But (fun k=>k=g1) Av AP:=(But.refl _ Av).drew.trans Ao.out fun k _ q=>q
    have B6:=I.set Ax AG.out Be Bf Bg Bh Ap.out Aj.out A3;have hd:DocAt AP B p (.slice (some ⟨g1,0,none⟩) (K.take i++Z0 r A off m::K.drop (i+1)).length c1) (Zo (rs.map kZ) i m):=by rw[←AH.out];exact B6.at
    have Aw:But (DocX p (.slice (some ⟨g,0,none⟩) rs.length c')) wc AP:=A0.trans A3 fun k hk e=>by
      subst e;rcases Ai.out k rfl with q|q
      ·exact .inr q
      ·omega
    exact⟨rfl,DTurn.trans (But.of_below R.out) (Newer.refl _ _) R.size ⟨_,hd,Aw,fun k hk=>Ai.out k (by simpa [Value.ownBlock] using hk)⟩⟩
theorem cut_same_run(rs:List zz)(i m:Nat)(B p:Nat)(v:Value)(w:World)(h:DocRows w B p v rs)(hi:i<rs.length)(hm:m=0∨rs[i].2.2.1.length≤m)(hl:rs.length≤1073741823):
    Calls prog 158 #[.pointer (some ⟨p,0,none⟩),.int .i64 (i:Int),.int .i64 (m:Int)] w fun e w'=>e=.returned (.tuple #[])∧Below w.heap.size w w':=by
  have S:=hid h;have x:=h.lt;obtain⟨g,b,V,L,y,W⟩:=h.row hi;have A:=hid (h.ins _ (List.getElem_mem hi));have I:=hid L;clear h L W;generalize rs[i]=r at *;subst V;have M:=jD A.out;have K:=hid (KX r A.2.1.one);obtain⟨c,X,Y,z,fr,N,A0,A1,_,_⟩:=A.2.1;obtain⟨d,f,j,Z,l,n⟩:=J9 A.1;have o:=hid (Z.trans (congrArg some N));clear d f j Z l n N;have i0:(0:Int)≤(i:Int):=by omega
  have i1:(i:Int)<(rs.length:Int):=by omega
  have q:w.cell? ⟨p,0,none⟩=some (.slice (some ⟨g,0,none⟩) rs.length b):=by
    obtain⟨s,t,u⟩:=S.box;exact k4 u 0
  go_enter func158,ntmps158
  go_upto_region 1 with (first
    |(with_reducible refine k6 ?_
      refine j9 rfl 177 _ rfl g _ rfl (ja r) _ I.out underlying177 rfl (by rw[M];exact zt) ?_)
    |(with_reducible refine kA ?_
      refine ks yx 177 rfl runZ (Zu _) ?_;intro W6 J O P;have C:=hid J;have D:=hid O;have E:=hid P
      clear J O P)
    |(with_reducible refine kw ?_
      refine ko yx 177 _ _ rfl w.heap.size 0 [] runZ [] (ja r) 177 _ rfl rfl rfl rfl (by simpa using D.out) (by rw[M];rfl) (by rw[M];exact zt) K.out ?_;intro T Q R a;have F:=hid Q;have G:Hid (T.heap[w.heap.size]?=some (.cells (ja r).toArray 177 (0,0))):=hid (by simpa using R);clear Q R a))
  have H:Hid (Below w.heap.size w T):=hid (C.trans (F.below (by have:=E.out;omega) (fun k hk e=>by omega)));obtain⟨U,J⟩:∃U,w.heap.size=U:=⟨_,rfl⟩;rw[J] at G ⊢;clear q C D E F;have A2:T.cell? ⟨U,34,none⟩=some (.slice (some ⟨c,X,none⟩) r.2.2.1.length Y):=(k4 G.out 34).trans o.out;by_cases h0:m=0
  ·clear hm;subst h0;go_wp2_with fail;refine bodyPost_ret (results_none yy _ _ _) rfl ?_;exact⟨rfl,H.out⟩
  ·have j1:r.2.2.1.length≤m:=by omega
   clear hm;go_wp2_with fail;refine bodyPost_ret (results_none yy _ _ _) rfl ?_;exact⟨rfl,H.out⟩
theorem cut_any(d:List kX)(i m:Nat)(B p:Nat)(v:Value)(w:World)(h:DocAt w B p v d)(hi:i<d.length)(hx:RunIx d)(hl:d.length≤1073741823):
    Calls prog 158 #[.pointer (some ⟨p,0,none⟩),.int .i64 (i:Int),.int .i64 (m:Int)] w fun e w'=>e=.returned (.tuple #[])∧DTurn w B p v (Zo d i m) w':=by
  obtain⟨A,rfl,C⟩:=h.runs;rw[List.length_map] at hi hl;obtain⟨D,E⟩:=hx (kZ A[i]) (List.mem_map_of_mem (List.getElem_mem hi));by_cases hm:0<m∧m<A[i].2.2.1.length
  ·exact dcut_mid A i m B p v w C hi hm.1 hm.2 D E hl
  ·have e:Zo (A.map kZ) i m=A.map kZ:=cut_same (r:=kZ A[i]) (by rw[List.getElem?_map,List.getElem?_eq_getElem hi];rfl) (by show m=0∨A[i].2.2.1.length≤m;omega);rw[e];exact(cut_same_run A i m B p v w C hi yz hl).mono fun e w' ⟨F,G⟩=>⟨F,DTurn.same h G⟩
end
section
open Go.RowKit Go.Maps
theorem Um{P:Program}{ρ:Operand→Value}{o:Oper}{w:World}(x y:Operand)(t':TypeId)(ho:o.op=.binOp .lss 3 x y t'){m n:Int}(hx:ρ x=.int .i64 m)(hy:ρ y=.int .i64 n){r:Bool}(hr:decide (m<n)=r):(execOp ρ o).run P w=.ok (.value (.bool r)) w:=by
  subst hr;unfold execOp;simp only[ho,hx,hy];rfl
theorem uu{P:Program}{ρ:Operand→Value}{o:Oper}{w:World}(x y:Operand)(t':TypeId)(ho:o.op=.binOp .gtr 3 x y t'){m n:Int}(hx:ρ x=.int .i64 m)(hy:ρ y=.int .i64 n){r:Bool}(hr:decide (n<m)=r):(execOp ρ o).run P w=.ok (.value (.bool r)) w:=by
  subst hr;unfold execOp;simp only[ho,hx,hy];rfl
theorem RuneAt.of_own{w:World}{B c:Nat}{A:Option Addr}{l:List Nat}(h:w.ownsRow B 21 1 (.slice A l.length c) l.length (qy l))(hl:0<l.length):RuneAt w (.slice A l.length c) l:=by
  obtain⟨g,I,D,E,_,F,G,H,_⟩:=KJ h hl;injection E with e1 _ e2;subst e1 e2;refine⟨g,0,c,_,_,rfl,G,H,F,fun j u C=>?_⟩;rw[Nat.zero_add,List.getElem?_toArray,List.getElem?_append_left (List.getElem?_eq_some_iff.1 C).1];exact C
def vd(w:World)(B p:Nat)(v:Value)(d:List kX)(e:Ending)(w':World):Prop:=(∃n:Int,e=.returned (.int .i64 n))∧DTurn w B p v d w'
theorem insert_bad(d:List kX)(key at':kF)(s:ByteArray)(l:List Nat)(B p:Nat)(v:Value)(w:World)(h:DocAt w B p v d)(hk:kN key)(ha:kN at')(hix:RunIx d)(hl:d.length≤1073741822)(hs:s.size≤1099511627776)(hr:jx s=some l)(hln:l.length≤1099511627776)(hkx:Ix key.2.2)(first:Bool)(hb:l=[]∨key.2.2<0∨2147483648 - (l.length:Int)<key.2.2):
    Calls prog 101 #[.pointer (some ⟨p,0,none⟩),.agg (k8 key).toArray,.agg (k8 at').toArray,.bool first,.string s] w (vd w B p v (jw d key at' first l).1):=by
  have P:=Lib.hid h;have m:=Lib.hid hk;have HA:=Lib.hid ha;have r:=Lib.hid hix;have M:=Lib.hid hr
  have A1:=h.lt;have z:=k9 hk;have A0:=k9 ha;clear h hk ha hix hr;unfold Ix at hkx;obtain⟨o,q,O⟩:=key;dsimp only at hkx;obtain⟨q0,q1,q2⟩:=J7 m.out;have Q1:=Lib.hid q1;clear q0 q1 q2;go_enter func101,ntmps101
  go_upto_region 1 with (first
    |(with_reducible refine kB ?_
      refine kr yx 89 _ rfl (k8 (o,q,O)) _ rfl rfl (by rw[z];kernel_rfl) ?_;intro W0 X Y Z;have E:=Lib.hid X;have I:=Lib.hid Y;have Q:=Lib.hid Z
      clear X Y Z)
    |(with_reducible refine kB ?_
      refine kr yx 89 _ rfl (k8 at') _ rfl rfl (by rw[A0];kernel_rfl) ?_;intro W1 a b f;have J:=Lib.hid a;have F:=Lib.hid b;have R:=Lib.hid f
      clear a b f))
  obtain⟨U,g⟩:∃U,w.heap.size=U:=⟨_,rfl⟩;obtain⟨V,i⟩:∃V,W0.heap.size=V:=⟨_,rfl⟩;have K:=Lib.hid (E.trans (J.mono E.size));have G:=Lib.hid ((J.block w.heap.size (qX I.out)).trans I.out);rw[g] at G ⊢;rw[i] at F ⊢;have t:=Lib.hid (show w.heap.size≤U by omega);have u:=Lib.hid (show w.heap.size≤V by have:=E.size;omega);clear E J Q R g i I
  go_upto_region 2 with (first
    |(go_at_call 155;refine(ut s W1 hs).mono ?_;rintro e W ⟨j,⟨L,A,c,N,rfl,k⟩|⟨N,_⟩⟩
      rotate_left
      ·exact absurd (M.symm.trans N) yq
      obtain rfl:L=l:=Option.some.inj (N.symm.trans M.out);have H:=Lib.hid j;have HO:=Lib.hid k
      clear j k N))
  have S:=Lib.hid ((H.block U (qX G.out)).trans G.out);have x:=Lib.hid ((H.block V (qX F.out)).trans F.out);have C:Hid (Below w.heap.size w W):=Lib.hid (K.trans (H.mono K.size));have A2:W.cell? ⟨U,33,none⟩=some (.int .i64 O):=(k4 S.out 33).trans Q1.out;have y:=Lib.hid (P.keep C.out);clear G F H K;have A3:IntKind.i64.wrap (2147483647 - (L.length:Int))=2147483647 - (L.length:Int):=IntWalk.i64_in _ yz;have A4:IntKind.i64.wrap (2147483647 - (L.length:Int)+1)=2147483648 - (L.length:Int):=by rw[IntWalk.i64_in _ yz];omega
  have T:Hid ((jw d (o,q,O) at' first L).1=d):=Lib.hid (by unfold jw;rw[if_pos hb])
  try dsimp only at hb
  have D:Hid (∀w' n,Below W.heap.size W w'→vd w B p v (jw d (o,q,O) at' first L).1 (.returned (.int .i64 n)) w'):=Lib.hid fun w' n hb=>by
    rw[T.out];exact⟨⟨n,rfl⟩,DTurn.same P.out (C.trans (hb.mono C.size))⟩
  by_cases h0:L.length=0
  ·go_wp2_with fail;go_ret;exact D.out _ _ (qB _ _)
  by_cases h1:O<0
  ·go_wp2_with fail;go_ret;exact D.out _ _ (qB _ _)
  ·have h2:2147483648 - (L.length:Int)<O:=by
     rcases hb with rfl|hb|hb
     ·simp at h0
     ·omega
     ·exact hb
   go_wp2_with fail;go_ret;exact D.out _ _ (qB _ _)
theorem DocRows.setBox{w w':World}{B p:Nat}{v:Value}{rs:List zz}{s t:Int}(h:DocRows w B p v rs)(hbx:w'.heap[p]?=some (.cells [v,.int .i64 s,.int .i64 t].toArray 192 (0,0)))(hb:But (fun k=>k=p) w w'):DocRows w' B p v rs:=by
  obtain⟨J,K,C⟩:=h.box;have E:KeepR w w':=KeepR.but hb fun k F L M N D A=>by
    subst F;rw[C] at A;injection A with A;injection A with _ A;subst A;exact absurd D yv
  exact⟨⟨s,t,hbx⟩,h.low,fun r G=>(h.ins r G).keep E,hb.own h.own fun g H e=>by
    obtain⟨c,I⟩:=kE h.own H;exact jr I C yv e⟩
theorem run_built2(k:kF)(hk:kN k)(x:Value)(hx:x.oneCell'=true)(w:World):(Instr.build 177 #[(0,.agg (k8 k).toArray),(1,x)]).run prog w=.ok (.agg (k8 k++([x]++[Value.bool false])).toArray) w:=by
  obtain⟨j,C,D,_,_⟩:=info_parts infoRun;have A:x.cells=#[x]:=by cases x<;>first|rfl|cases hx
  have h:=zl (P:=prog) C underlying177 D [k8 (0,k7,0),[.slice none 0 0],[.bool false]] rfl (places:=[(0,34),(34,1),(35,1)]) yy yy [(0,.agg (k8 k).toArray),(1,x)] (by
    intro q B;simp only[List.mem_cons,List.not_mem_nil,or_false] at B;rcases B with rfl|rfl
    ·exact⟨by show 0<3;omega,by show (k8 k).toArray.size=34;rw[List.size_toArray,k9 hk]⟩
    ·exact⟨by show 1<3;omega,by show x.cells.size=1;rw[A];rfl⟩)
  have E:=run_build (P:=prog) w 177 #[(0,.agg (k8 k).toArray),(1,x)] _ h;refine E.trans ?_;have F:(Value.agg (k8 k).toArray).cells=(k8 k).toArray:=rfl;simp [F,A]
theorem cutR_ge(d:List kX)(i n:Nat):d.length≤(Zo d i n).length:=by
  unfold Zo
  split
  ·exact Nat.le_refl _
  ·rename_i r A
   split
   ·have B:=(List.getElem?_eq_some_iff.1 A).1;simp;omega
   ·exact Nat.le_refl _
theorem cutR_le(d:List kX)(i n:Nat):(Zo d i n).length≤d.length+1:=by
  unfold Zo
  split
  ·omega
  ·rename_i r A
   split
   ·have B:=(List.getElem?_eq_some_iff.1 A).1;simp;omega
   ·omega
theorem insert_first(d:List kX)(key at':kF)(s:ByteArray)(l:List Nat)(B p:Nat)(v:Value)(w:World)(h:DocAt w B p v d)(hk:kN key)(ha:kN at')(hix:RunIx d)(hl:d.length≤1073741822)(hs:s.size≤1099511627776)(hr:jx s=some l)(hln:l.length≤1099511627776)(hkx:Ix key.2.2)(h0:0<l.length)(h1:0≤key.2.2)(h2:key.2.2≤2147483648 - (l.length:Int)):
    Calls prog 101 #[.pointer (some ⟨p,0,none⟩),.agg (k8 key).toArray,.agg (k8 at').toArray,.bool true,.string s] w (vd w B p v (jw d key at' true l).1):=by
  have HD:=Lib.hid h;have L:=Lib.hid hk;have HA:=Lib.hid ha;have Ay:=Lib.hid hix;have Ae:=Lib.hid hr
  have Bz:=h.lt;have Bh:=k9 hk;have Bi:=k9 ha;clear h hk ha hix hr;unfold Ix at hkx;obtain⟨G,H,E⟩:=key;dsimp only at hkx;obtain⟨q0,q1,q2⟩:=J7 L.out;have Q1:=Lib.hid q1;clear q0 q1 q2;go_enter func101,ntmps101
  go_upto_region 1 with (first
    |(with_reducible refine kB ?_
      refine kr yx 89 _ rfl (k8 (G,H,E)) _ rfl rfl (by rw[Bh];kernel_rfl) ?_;intro W0 B0 B1 B2;have V:=Lib.hid B0;have o:=Lib.hid B1;have Az:=Lib.hid B2
      clear B0 B1 B2)
    |(with_reducible refine kB ?_
      refine kr yx 89 _ rfl (k8 at') _ rfl rfl (by rw[Bi];kernel_rfl) ?_;intro W1 Av B3 B4;have y:=Lib.hid Av;have W:=Lib.hid B3;have AA:=Lib.hid B4
      clear Av B3 B4))
  obtain⟨b6,Ap⟩:∃b6,w.heap.size=b6:=⟨_,rfl⟩;obtain⟨b7,Aq⟩:∃b7,W0.heap.size=b7:=⟨_,rfl⟩;have z:=Lib.hid (V.trans (y.mono V.size));have X:=Lib.hid ((y.block w.heap.size (qX o.out)).trans o.out);rw[Ap] at X ⊢;rw[Aq] at W ⊢;have Be:=Lib.hid (show w.heap.size≤b6 by omega);have Bf:=Lib.hid (show w.heap.size≤b7 by have:=V.size;omega);clear V y Az AA Ap Aq o
  go_upto_region 2 with (first
    |(go_at_call 155;refine(ut s W1 hs).mono ?_;rintro e W2 ⟨B5,⟨C,A,c,Aw,rfl,B6⟩|⟨Aw,_⟩⟩
      rotate_left
      ·exact absurd (Ae.symm.trans Aw) yq
      obtain rfl:C=l:=Option.some.inj (Aw.symm.trans Ae.out);have Y:=Lib.hid B5;have HO:=Lib.hid B6
      clear B5 B6 Aw))
  have Q:=Lib.hid ((Y.block b6 (qX X.out)).trans X.out);have AB:=Lib.hid ((Y.block b7 (qX W.out)).trans W.out);have I:Hid (Below w.heap.size w W2):=Lib.hid (z.trans (Y.mono z.size));have Bj:W2.cell? ⟨b6,33,none⟩=some (.int .i64 E):=(k4 Q.out 33).trans Q1.out;have Af:=Lib.hid (HD.keep I.out);clear X W Y z;have Bk:IntKind.i64.wrap (2147483647 - (C.length:Int))=2147483647 - (C.length:Int):=IntWalk.i64_in _ yz;have Bl:IntKind.i64.wrap (2147483647 - (C.length:Int)+1)=2147483648 - (C.length:Int):=by rw[IntWalk.i64_in _ yz];omega
  try dsimp only at h1 h2
  have g0:¬C.length=0:=by omega
  have g1:¬E<0:=by omega
  have g2:¬2147483648 - (C.length:Int)<E:=by omega
  have AC:Hid (C≠[]):=Lib.hid (List.length_pos_iff.1 h0);have Ag:Hid (¬(C=[]∨E<0∨2147483648 - (C.length:Int)<E)):=Lib.hid (by
    rintro (rfl|q|q)
    ·simp at h0
    ·omega
    ·omega)
  obtain⟨c0,B7⟩:∃x,c=x:=⟨_,rfl⟩;rw[B7] at HO ⊢;clear B7;have Ah:=Lib.hid (RuneAt.of_own HO.out h0);obtain⟨Ab,Ad,AS⟩:=Af.runs;have R:=Lib.hid AS;have S:=Lib.hid Ad;have J:=Lib.hid (show (∀r∈Ab,Ix r.1.2.2)∧(∀r∈Ab,r.2.2.1.length≤2305843009213693952) from by
    have h:∀r∈Ab,0≤r.1.2.2∧r.1.2.2+(r.2.2.1.length:Int)≤2147483648:=fun r hr=>Ay.out (kZ r) (by rw[←Ad];exact List.mem_map_of_mem hr)
    exact⟨fun r hr=>by have:=h r hr;unfold Ix;omega,fun r hr=>by have:=h r hr;omega⟩)
  have AT:Ab.length≤1099511627776:=by rw[←List.length_map (f:=kZ),Ad];omega
  clear Ad AS;have Z:Hid (∀w' n dd,dd=d→Below W2.heap.size W2 w'→vd w B p v dd (.returned (.int .i64 n)) w'):=Lib.hid fun w' n dd Bm hb=>by
    subst Bm;exact⟨⟨n,rfl⟩,DTurn.same HD.out (I.trans (hb.mono I.size))⟩
  have A0:=Lib.hid (show W2.rangeAt b6 0 (k8 (G,H,E)) from fun j x hj=>by rw[qZ];exact(k4 Q.out j).trans hj);cases hfr:ug d (G,H,E) (C.length:Int)
  ·have A1:=Lib.hid hfr;have AD:Hid ((jw d (G,H,E) at' true C).1=d):=Lib.hid (by unfold jw;rw[if_neg Ag.out,if_pos rfl,if_neg (by rw[hfr];exact Bool.false_ne_true)]);clear hfr
   go_wp2_with (first
     |(refine k5 yx (ldK L.out A0.out) ?_)
     |(go_at_call 157;refine(Ug Ab (G,H,E) (C.length:Int) B p v W2 R.out L.out J.1 (by unfold Ix;omega) (by unfold Ix;omega) J.2 AT).mono ?_;rintro e W3 ⟨m,rfl⟩;rw[S.out,show UW d (G,H,E) (C.length:Int)=11 from if_neg (by rw[A1.out];exact Bool.false_ne_true)];have F:=Lib.hid m;clear m))
   go_ret;exact Z.out _ _ _ AD.out F.out
  ·have A1:=Lib.hid hfr;have A2:Hid ((jw d (G,H,E) at' true C).1=qh d (vC d (G,H,E) 0) ((G,H,E),C,false)):=Lib.hid (by unfold jw;rw[if_neg Ag.out,if_pos rfl,if_pos hfr]);clear hfr
   go_upto_region 20 with (first
     |(refine k5 yx (ldK L.out A0.out) ?_)
     |(go_at_call 157;refine(Ug Ab (G,H,E) (C.length:Int) B p v W2 R.out L.out J.1 (by unfold Ix;omega) (by unfold Ix;omega) J.2 AT).mono ?_;rintro e P ⟨m,rfl⟩;rw[S.out,show UW d (G,H,E) (C.length:Int)=0 from if_pos A1.out];have F:=Lib.hid m;clear m))
   clear Bj Bk Bl;have A3:=Lib.hid (I.trans (F.mono I.size));have A4:=Lib.hid (HD.keep A3.out);have A5:Hid (But (DocX p v) w P):=Lib.hid (But.of_below A3.out);have A6:=Lib.hid (Newer.refl w v);have Ai:=Lib.hid ((F.block b6 (qX Q.out)).trans Q.out);have AE:=Lib.hid (Ah.keep (KeepR.below F.out));clear R S J AT F Q Ah A0 Af AB Z HO;have B8:d.length≤1073741823:=by omega
   obtain⟨dL,Ax⟩:∃x,d=x:=⟨_,rfl⟩;obtain⟨j0,AU⟩:∃x:Nat,0=x:=⟨_,rfl⟩;obtain⟨vL,At⟩:∃x,v=x:=⟨_,rfl⟩;have A4:Hid (DocAt P B p vL dL):=Lib.hid (by rw[←Ax,←At];exact A4.out);have A2:Hid ((jw d (G,H,E) at' true C).1=qh dL (vC dL (G,H,E) j0) ((G,H,E),C,false)):=Lib.hid (by rw[←Ax,←AU];exact A2.out);have A6:Hid (Newer w v vL):=Lib.hid (by rw[←At];exact A6.out);have B8:dL.length≤1073741823:=by rw[←Ax];exact B8
   have By:j0≤dL.length:=by omega
   have AF:=Lib.hid AU;clear Ax At AU;obtain⟨D,AV,Ar⟩:=A4.runs;have M:=Lib.hid Ar;have A7:=Lib.hid AV
   have BA:D.length=dL.length:=by rw[←AV,List.length_map]
   clear Ar AV;have AW:=M.lt;have Bn:∃A c,vL=.slice A D.length c:=jd M.own;obtain⟨AL,cL,Bo⟩:=Bn;subst Bo;have Aj:=Lib.hid (show P.cell? ⟨p,0,none⟩=some (.slice AL D.length cL) by
     obtain⟨s1,t1,Av⟩:=M.box;exact k4 Av 0)
   have Bg:=Lib.hid (show w.heap.size≤P.heap.size from A5.size);have A8:=Lib.hid (show ∀u:World,Below P.heap.size P u→u.rangeAt b6 0 (k8 (G,H,E)) from fun u hu j x hj=>by rw[qZ];exact(k4 ((hu.block b6 (qX Ai.out)).trans Ai.out) j).trans hj)
   go_loopw [15] (fun t wr=>∃j:Nat,j0≤j∧j≤D.length∧t=.int .i64 (j:Int)∧Hid (Below P.heap.size P wr)∧Hid (∀q (hq:q<D.length),j0≤q→q<j→0<zG D[q].1 (G,H,E))) (fun t _=>D.length - (intOf t).toNat)
   case atStart=>exact⟨j0,Nat.le_refl _,by omega,(by rw[←AF.out];rfl),Lib.hid (qB _ _),Lib.hid (fun q _ h1 h2=>absurd h1 yz)⟩
   case round=>
     obtain⟨j,Bp,BB,rfl,Ak,T⟩:=hrel;obtain⟨c,hc⟩:∃c:Bool,(if h:j<D.length then decide (0<zG D[j].1 (G,H,E)) else false)=c:=⟨_,rfl⟩;have i:=Lib.hid hc;clear hc;have B9:=enE func78 rfl;have N:=Lib.hid (Ak.trans ((qD wr.heap.size wr).mono Ak.size))
     repeat go_step
     go_cut [107] from 88 to 107 (fun t wx=>t=.bool c∧Hid (Below P.heap.size P wx))
     case first=>
       by_cases U:j<D.length
       ·have As:decide ((j:Int)<(D.length:Int))=true:=dT yz;have A9:=Lib.hid As;obtain⟨g,c',Bq,AX,Br,Bs⟩:=M.row U;injection Bq with hA _ hc';subst hA hc';have Al:=Lib.hid (M.ins _ (List.getElem_mem U));have Aa:Hid (decide (0<zG D[j].1 (G,H,E))=c):=Lib.hid (by have:=i.out;rw[dif_pos U] at this;exact this);obtain⟨_,_,_,_,_,p5⟩:=J9 Al.1;have AG:=Lib.hid (show ∀u:World,Below P.heap.size P u→u.rangeAt g (0+j*36+0) (k8 D[j].1) from fun u hu q x hq=>by
          have h1:=AX _ _ (p5 q x hq);have h2:=(hu.cell (p:=⟨g,j*36+(0+q),none⟩) Br).trans h1;rw[show 0+j*36+0+q=j*36+(0+q) by omega];exact h2)
        clear AX Bs p5 As;have a:=Lib.hid (show ∀u:World,Below P.heap.size P u→u.cell? ⟨p,0,none⟩=some (.slice (some ⟨g,0,none⟩) D.length cL) from fun u hu=>(hu.cell (p:=⟨p,0,none⟩) AW).trans Aj.out);have Am:Hid (kN D[j].1):=Lib.hid Al.1;generalize D[j]=r at *;refine rN 20 (fun u=>Below P.heap.size P u) N.out fun Ac=>?_
        refine tw 0 (.int .i64 (j:Int)) ?_;go_frame;refine tw 1 (.pointer (some ⟨p,0,none⟩)) ?_;go_frame;refine tw 2 (.pointer (some ⟨p,0,none⟩)) ?_;go_frame;refine tw 3 (.pointer (some ⟨p,0,none⟩)) ?_;go_frame;refine tl 4 (.slice (some ⟨g,0,none⟩) D.length cL) rfl Ac (fun w' K=>l1 underlying190 (a.out w' K)) ?_;go_frame;refine tk 5 (.int .i64 (D.length:Int)) rfl (fun w' K=>un 190 _ rfl rfl underlying190) ?_;go_frame;refine tk 6 (.bool true) rfl (fun w' K=>Um _ _ _ rfl rfl rfl A9.out) ?_;go_frame;refine tw 7 (.bool true) ?_;go_frame;refine tw 8 (.pointer (some ⟨p,0,none⟩)) ?_;go_frame;refine tw 9 (.pointer (some ⟨p,0,none⟩)) ?_;go_frame;refine tw 10 (.pointer (some ⟨p,0,none⟩)) ?_;go_frame;refine tl 11 (.slice (some ⟨g,0,none⟩) D.length cL) rfl Ac (fun w' K=>l1 underlying190 (a.out w' K)) ?_;go_frame;refine tw 12 (.int .i64 (j:Int)) ?_;go_frame;refine tk 13 (.pointer (some ⟨g,0+j*36,none⟩)) rfl (fun w' K=>Kc 190 _ _ rfl (b:=g) (off:=0) (q:=j) (n:=D.length) (c:=cL) rfl rfl U underlying190 zt) ?_;go_frame;refine tw 14 (.pointer (some ⟨g,0+j*36+0,none⟩)) ?_;go_frame;refine tl 15 (.agg (k8 r.1).toArray) rfl Ac (fun w' K=>ldK Am.out (AG.out w' K)) ?_;go_frame;refine tl 16 (.agg (k8 (G,H,E)).toArray) rfl Ac (fun w' K=>ldK L.out (A8.out w' K)) ?_;go_frame;refine ta 17 ?_;refine tc #[.agg (k8 r.1).toArray,.agg (k8 (G,H,E)).toArray] B9 rfl ?_;refine(uS _ _ _ Am.out L.out).mono ?_;rintro e u3 ⟨m,rfl⟩;have F:=Lib.hid (N.trans (m.mono N.size));clear m;refine⟨_,rfl,fun _ _=>F.out,?_⟩;go_frame;refine tk 18 (.bool c) rfl (fun w' K=>uu _ _ _ rfl rfl rfl Aa.out) ?_;go_frame;refine tw 19 (.bool c) ?_;go_frame;refine ku yy ?_ _;go_wp2_with fail
        go_meet
        case rel=>exact⟨rfl,F⟩
       ·have As:decide ((j:Int)<(D.length:Int))=false:=dF yz;have A9:=Lib.hid As;have Aa:Hid (c=false):=Lib.hid (by have:=i.out;rw[dif_neg U] at this;exact this.symm);have a:=Lib.hid (show ∀u:World,Below P.heap.size P u→u.cell? ⟨p,0,none⟩=some (.slice AL D.length cL) from fun u hu=>(hu.cell (p:=⟨p,0,none⟩) AW).trans Aj.out);clear As;refine rN 20 (fun u=>Below P.heap.size P u) N.out fun Ac=>?_
        refine tw 0 (.int .i64 (j:Int)) ?_;go_frame;refine tw 1 (.pointer (some ⟨p,0,none⟩)) ?_;go_frame;refine tw 2 (.pointer (some ⟨p,0,none⟩)) ?_;go_frame;refine tw 3 (.pointer (some ⟨p,0,none⟩)) ?_;go_frame;refine tl 4 (.slice AL D.length cL) rfl Ac (fun w' K=>l1 underlying190 (a.out w' K)) ?_;go_frame;refine tk 5 (.int .i64 (D.length:Int)) rfl (fun w' K=>un 190 _ rfl rfl underlying190) ?_;go_frame;refine tk 6 (.bool false) rfl (fun w' K=>Um _ _ _ rfl rfl rfl A9.out) ?_;go_frame;refine tw 7 (.bool false) ?_;go_frame;refine tn 8 ?_;go_frame;refine tn 9 ?_;go_frame;refine tn 10 ?_;go_frame;refine tn 11 ?_;go_frame;refine tn 12 ?_;go_frame;refine tn 13 ?_;go_frame;refine tn 14 ?_;go_frame;refine tn 15 ?_;go_frame;refine tn 16 ?_;go_frame;refine tn 17 ?_;go_frame;refine tn 18 ?_;go_frame;refine tw 19 (.bool false) ?_;go_frame;refine ku yy ?_ _;go_wp2_with fail
        go_meet
        case rel=>exact⟨by rw[Aa.out],N⟩
     case rest=>
       obtain⟨rfl,O⟩:=hcut;have BC:IntKind.i64.wrap ((j:Int)+1)=((j+1:Nat):Int):=by rw[IntWalk.i64_in _ yz];omega
       clear B9 N;cases c with
       |true=>
        have U:j<D.length:=by
           by_cases h:j<D.length
           ·exact h
           ·have:=i.out;rw[dif_neg h] at this;cases this
        have HP:=Lib.hid (show 0<zG D[j].1 (G,H,E) by have:=i.out;rw[dif_pos U] at this;exact of_decide_eq_true this);go_wp2_with fail
        go_roundw
        case rel=>
           refine⟨j+1,by omega,by omega,by go_num,O,Lib.hid (fun q hq h1 h2=>?_)⟩;rcases (by omega:q<j∨q=j) with h3|rfl
           ·exact T.out q hq h1 h3
           ·exact HP.out
        case measure=>(simp [intOf])<;>omega
       |false=>
        have AH:Hid (vC dL (G,H,E) j0=j):=Lib.hid (by
           refine placeR_is Bp yz (fun q hq h1 h2=>?_) fun hn=>?_
           ·have AY:q<D.length:=by omega
            have:=T.out q AY h1 h2;have e:dL[q].1=D[q].1:=by simp only[←A7.out,List.getElem_map];rfl
            rw[e];exact this
           ·have AY:j<D.length:=by omega
            have:=i.out;rw[dif_pos AY] at this;have e:dL[j].1=D[j].1:=by simp only[←A7.out,List.getElem_map];rfl
            rw[e];exact of_decide_eq_false this)
        have AI:=Lib.hid (M.keep O.out);have AJ:=Lib.hid (A8.out wc O.out);have AK:Hid (RunIn wc ((G,H,E),.slice A C.length c0,C,false)):=Lib.hid ⟨L.out,AE.keep (KeepR.below O.out),AC.out⟩;clear i T A8
        go_upto_region 23 with (first
           |(refine k5 yx (ldK L.out AJ.out) ?_)
           |(with_reducible refine kJ ?_
             refine k5 yx (kj 177 _ rfl (by simp only[List.map_toArray,List.map_cons,List.map_nil];exact run_built2 _ L.out _ rfl _)) ?_)
           |(go_at_call 159;refine(put_run D j ((G,H,E),.slice A C.length c0,C,false) B p _ wc AI.out AK.out yz yz).mono ?_;rintro e W5 ⟨rfl,v5,Ar,Ba,Bb⟩;have An:=Lib.hid Ar;have AM:=Lib.hid Ba;have AN:=Lib.hid Bb
             clear Ar Ba Bb))
        obtain⟨s5,t5,Au⟩:=An.box;have AO:=Lib.hid Au;have Bt:W5.cell? ⟨p,1,none⟩=some (.int .i64 s5):=k4 Au 1;clear Au
        go_upto_region 24 with (first
           |(with_reducible refine kw ?_
             refine ko yx 3 _ _ rfl p 1 [v5] [.int .i64 s5] [.int .i64 t5] [.int .i64 (wrap64 (s5+(C.length:Int)))] 192 (.int .i64 (wrap64 (s5+(C.length:Int)))) rfl rfl rfl rfl AO.out rfl yy (by intro u hu;rw[List.mem_singleton.1 hu];rfl) ?_;intro W6 Ap Bc Bu;have AP:=Lib.hid Ap;have Ao:=Lib.hid Bc
             clear Ap Bc Bu))
        have Bv:W6.cell? ⟨p,2,none⟩=some (.int .i64 t5):=k4 Ao.out 2;clear Bt
        go_upto_region 25 with (first
           |(with_reducible refine kw ?_
             refine ko yx 3 _ _ rfl p 2 [v5,.int .i64 (wrap64 (s5+(C.length:Int)))] [.int .i64 t5] [] [.int .i64 (wrap64 (t5+(C.length:Int)))] 192 (.int .i64 (wrap64 (t5+(C.length:Int)))) rfl rfl rfl rfl Ao.out rfl yy (by intro u hu;rw[List.mem_singleton.1 hu];rfl) ?_;intro W7 Aq Bd Bw;have AQ:=Lib.hid Aq;have AR:=Lib.hid Bd
             clear Aq Bd Bw))
        clear Bv;go_wp2_with fail;go_ret;have AZ:But (fun k=>k=p) W5 W7:=AP.trans AQ.out fun k _ q=>q
        have Bx:=An.setBox (s:=wrap64 (s5+(C.length:Int))) (t:=wrap64 (t5+(C.length:Int))) (by simpa using AR.out) AZ;refine⟨⟨_,rfl⟩,DTurn.trans A5.out A6.out A5.size ⟨v5,?_,((But.of_below O.out).trans AM.out fun k hk hx=>hx).trans AZ fun k hk e=>.inl e,?_⟩⟩
        ·have e:(D.take j++((G,H,E),Value.slice A C.length c0,C,false)::D.drop j).map kZ=(jw d (G,H,E) at' true C).1:=by
            rw[A2.out,AH.out,putR_map,A7.out];rfl
         rw[←e];exact Bx.at
        ·intro k hk;rcases AN.out k hk with q|q
         ·exact .inl q
         ·exact .inr (qT O.size q)
theorem insert_at(d:List kX)(key at':kF)(s:ByteArray)(l:List Nat)(B p:Nat)(v:Value)(w:World)(h:DocAt w B p v d)(hk:kN key)(ha:kN at')(hix:RunIx d)(hl:d.length≤1073741822)(hs:s.size≤1099511627776)(hr:jx s=some l)(hln:l.length≤1099511627776)(hkx:Ix key.2.2)(h0:0<l.length)(h1:0≤key.2.2)(h2:key.2.2≤2147483648 - (l.length:Int))(hax:Ix at'.2.2):
    Calls prog 101 #[.pointer (some ⟨p,0,none⟩),.agg (k8 key).toArray,.agg (k8 at').toArray,.bool false,.string s] w (vd w B p v (jw d key at' false l).1):=by
  have HD:=Lib.hid h;have K:=Lib.hid hk;have X:=Lib.hid ha;have Ac:=Lib.hid hix;have Aw:=Lib.hid hr
  have BY:=h.lt;have BF:=k9 hk;have BG:=k9 ha;clear h hk ha hix hr;unfold Ix at hkx;obtain⟨I,J,D⟩:=key;dsimp only at hkx;obtain⟨q0,q1,q2⟩:=J7 K.out;have Q1:=Lib.hid q1;clear q0 q1 q2;go_enter func101,ntmps101
  go_upto_region 1 with (first
    |(with_reducible refine kB ?_
      refine kr yx 89 _ rfl (k8 (I,J,D)) _ rfl rfl (by rw[BF];kernel_rfl) ?_;intro W0 Bl Bm Bn;have A1:=Lib.hid Bl;have Ad:=Lib.hid Bm;have AV:=Lib.hid Bn
      clear Bl Bm Bn)
    |(with_reducible refine kB ?_
      refine kr yx 89 _ rfl (k8 at') _ rfl rfl (by rw[BG];kernel_rfl) ?_;intro W1 AR Bo Bp;have Ae:=Lib.hid AR;have A2:=Lib.hid Bo;have AW:=Lib.hid Bp
      clear AR Bo Bp))
  obtain⟨z,AI⟩:∃z,w.heap.size=z:=⟨_,rfl⟩;obtain⟨b7,AJ⟩:∃b7,W0.heap.size=b7:=⟨_,rfl⟩;have Af:=Lib.hid (A1.trans (Ae.mono A1.size));have A3:=Lib.hid ((Ae.block w.heap.size (qX Ad.out)).trans Ad.out);rw[AI] at A3 ⊢;rw[AJ] at A2 ⊢;have AX:=Lib.hid (show w.heap.size≤z by omega);have BD:=Lib.hid (show w.heap.size≤b7 by have:=A1.size;omega);clear A1 Ae AV AW AI AJ Ad
  go_upto_region 2 with (first
    |(go_at_call 155;refine(ut s W1 hs).mono ?_;rintro e W2 ⟨Bq,⟨E,A,c,AS,rfl,Br⟩|⟨AS,_⟩⟩
      rotate_left
      ·exact absurd (Aw.symm.trans AS) yq
      obtain rfl:E=l:=Option.some.inj (AS.symm.trans Aw.out);have A4:=Lib.hid Bq;have HO:=Lib.hid Br
      clear Bq Br AS))
  have M:=Lib.hid ((A4.block z (qX A3.out)).trans A3.out);have Ag:=Lib.hid ((A4.block b7 (qX A2.out)).trans A2.out);have O:Hid (Below w.heap.size w W2):=Lib.hid (Af.trans (A4.mono Af.size));have AT:W2.cell? ⟨z,33,none⟩=some (.int .i64 D):=(k4 M.out 33).trans Q1.out;have A5:=Lib.hid (HD.keep O.out);clear A3 A2 A4 Af;have BH:IntKind.i64.wrap (2147483647 - (E.length:Int))=2147483647 - (E.length:Int):=IntWalk.i64_in _ yz;have BI:IntKind.i64.wrap (2147483647 - (E.length:Int)+1)=2147483648 - (E.length:Int):=by rw[IntWalk.i64_in _ yz];omega
  try dsimp only at h1 h2
  have g0:¬E.length=0:=by omega
  have g1:¬D<0:=by omega
  have g2:¬2147483648 - (E.length:Int)<D:=by omega
  have AY:Hid (E≠[]):=Lib.hid (List.length_pos_iff.1 h0);have A6:Hid (¬(E=[]∨D<0∨2147483648 - (E.length:Int)<D)):=Lib.hid (by
    rintro (rfl|q|q)
    ·simp at h0
    ·omega
    ·omega)
  obtain⟨c0,Bs⟩:∃x,c=x:=⟨_,rfl⟩;rw[Bs] at HO ⊢;clear Bs;have Ax:=Lib.hid (RuneAt.of_own HO.out h0);obtain⟨Aa,Av,Bc⟩:=A5.runs;have V:=Lib.hid Bc;have P:=Lib.hid Av;have H:=Lib.hid (show (∀r∈Aa,Ix r.1.2.2)∧(∀r∈Aa,r.2.2.1.length≤2305843009213693952) from by
    have h:∀r∈Aa,0≤r.1.2.2∧r.1.2.2+(r.2.2.1.length:Int)≤2147483648:=fun r hr=>Ac.out (kZ r) (by rw[←Av];exact List.mem_map_of_mem hr)
    exact⟨fun r hr=>by have:=h r hr;unfold Ix;omega,fun r hr=>by have:=h r hr;omega⟩)
  have AK:Aa.length≤1099511627776:=by rw[←List.length_map (f:=kZ),Av];omega
  clear Av Bc;have N:Hid (∀w' n dd,dd=d→Below W2.heap.size W2 w'→vd w B p v dd (.returned (.int .i64 n)) w'):=Lib.hid fun w' n dd BJ hb=>by
    subst BJ;exact⟨⟨n,rfl⟩,DTurn.same HD.out (O.trans (hb.mono O.size))⟩
  have Ah:=Lib.hid (show ∀u:World,Below W2.heap.size W2 u→u.rangeAt z 0 (k8 (I,J,D)) from fun u hu j x hj=>by rw[qZ];exact(k4 ((hu.block z (qX M.out)).trans M.out) j).trans hj);have Ai:=Lib.hid (show ∀u:World,Below W2.heap.size W2 u→u.rangeAt b7 0 (k8 at') from fun u hu j x hj=>by rw[qZ];exact(k4 ((hu.block b7 (qX Ag.out)).trans Ag.out) j).trans hj);have Z:=Lib.hid (Ai.out W2 (qB _ _));clear AT;cases hfd:uF d at' with
  |none=>
   have Q:=Lib.hid hfd;have Y:Hid ((jw d (I,J,D) at' false E).1=d):=Lib.hid (by unfold jw;rw[if_neg A6.out,if_neg Bool.false_ne_true,hfd]);clear hfd;have AT:W2.cell? ⟨z,33,none⟩=some (.int .i64 D):=(k4 M.out 33).trans Q1.out
   go_wp2_with (first
      |(refine k5 yx (ldK X.out Z.out) ?_)
      |(go_at_call 156;refine(find_run Aa at' B p v W2 V.out X.out H.1 hax AK).mono ?_;rintro e W3 ⟨Ab,rfl⟩;rw[P.out,Q.out];unfold findV;have C:=Lib.hid Ab;clear Ab))
   go_ret;exact N.out _ _ _ Y.out C.out
  |some x=>
   obtain⟨i,k⟩:=x;have Q:=Lib.hid hfd;obtain⟨Bd,At,BB⟩:=findR_lt hfd;have BC:k≤2147483648∧i<1073741823:=by
      obtain⟨g1,g2⟩:=Ac.out d[i] (List.getElem_mem Bd);unfold KD at At;simp only[Bool.and_eq_true,decide_eq_true_eq] at At;omega
   clear hfd At BB;have AT:W2.cell? ⟨z,33,none⟩=some (.int .i64 D):=(k4 M.out 33).trans Q1.out
   go_upto_region 10 with (first
      |(refine k5 yx (ldK X.out Z.out) ?_)
      |(go_at_call 156;refine(find_run Aa at' B p v W2 V.out X.out H.1 hax AK).mono ?_;rintro e W3 ⟨Ab,rfl⟩;rw[P.out,Q.out];unfold findV;have C:=Lib.hid Ab;clear Ab))
   clear AT BH BI Z;have Aj:=Lib.hid (Ai.out W3 C.out);have Ak:=Lib.hid (Ah.out W3 C.out);by_cases hcmp:0≤zG at' (I,J,D)
   ·have Y:Hid ((jw d (I,J,D) at' false E).1=d):=Lib.hid (by unfold jw;rw[if_neg A6.out,if_neg Bool.false_ne_true,Q.out];dsimp only;rw[if_pos hcmp])
    go_wp2_with (first
       |(refine k5 yx (ldK X.out Aj.out) ?_)
       |(refine k5 yx (ldK K.out Ak.out) ?_)
       |(go_at_call 78;refine(uS at' (I,J,D) W3 X.out K.out).mono ?_;rintro e W4 ⟨AM,rfl⟩;have L:=Lib.hid (C.trans (AM.mono C.size));clear AM))
    go_ret;exact N.out _ _ _ Y.out L.out
   ·have a:=Lib.hid hcmp
    go_upto_region 12 with (first
       |(refine k5 yx (ldK X.out Aj.out) ?_)
       |(refine k5 yx (ldK K.out Ak.out) ?_)
       |(go_at_call 78;refine(uS at' (I,J,D) W3 X.out K.out).mono ?_;rintro e W4 ⟨AM,rfl⟩;have L:=Lib.hid (C.trans (AM.mono C.size));clear AM))
    clear hcmp C Aj Ak;have Al:=Lib.hid (Ah.out W4 L.out);have m:=Lib.hid (V.keep L.out);cases hfr:ug d (I,J,D) (E.length:Int)
    ·have A7:=Lib.hid hfr;have Y:Hid ((jw d (I,J,D) at' false E).1=d):=Lib.hid (by unfold jw;rw[if_neg A6.out,if_neg Bool.false_ne_true,Q.out];dsimp only;rw[if_neg (by have:=a.out;omega),if_neg (by rw[hfr];exact Bool.false_ne_true)]);clear hfr
     go_wp2_with (first
        |(refine k5 yx (ldK K.out Al.out) ?_)
        |(go_at_call 157;refine(Ug Aa (I,J,D) (E.length:Int) B p v W4 m.out K.out H.1 (by unfold Ix;omega) (by unfold Ix;omega) H.2 AK).mono ?_;rintro e W5 ⟨AN,rfl⟩;rw[P.out,show UW d (I,J,D) (E.length:Int)=11 from if_neg (by rw[A7.out];exact Bool.false_ne_true)];have G:=Lib.hid (L.trans (AN.mono L.size));clear AN))
     go_ret;exact N.out _ _ _ Y.out G.out
    ·have A7:=Lib.hid hfr;have Am:Hid ((jw d (I,J,D) at' false E).1=qh (Zo d i (k+1)) (vC (Zo d i (k+1)) (I,J,D) (i+1)) ((I,J,D),E,false)):=Lib.hid (by unfold jw;rw[if_neg A6.out,if_neg Bool.false_ne_true,Q.out];dsimp only;rw[if_neg (by have:=a.out;omega),if_pos hfr]);clear hfr;have BK:IntKind.i64.wrap ((k:Int)+1)=((k+1:Nat):Int):=by rw[IntWalk.i64_in _ yz];omega
     have BL:IntKind.i64.wrap ((i:Int)+1)=((i+1:Nat):Int):=by rw[IntWalk.i64_in _ yz];omega
     go_upto_region 20 with (first
        |(refine k5 yx (ldK K.out Al.out) ?_)
        |(go_at_call 157;refine(Ug Aa (I,J,D) (E.length:Int) B p v W4 m.out K.out H.1 (by unfold Ix;omega) (by unfold Ix;omega) H.2 AK).mono ?_;rintro e W5 ⟨AN,rfl⟩;rw[P.out,show UW d (I,J,D) (E.length:Int)=0 from if_pos A7.out];have G:=Lib.hid (L.trans (AN.mono L.size));clear AN)
        |(go_at_call 158;refine(cut_any d i (k+1) B p v W5 (A5.keep G.out) Bd Ac.out yz).mono ?_;rintro e W ⟨rfl,vL,Bt,Bu,Bv⟩;have Ay:=Lib.hid Bt;have A8:=Lib.hid Bu;have Az:=Lib.hid Bv
          clear Bt Bu Bv))
     have o:=Lib.hid (O.trans (G.mono O.size));have An:Hid (But (DocX p v) w W):=Lib.hid ((But.of_below o.out).trans A8.out fun j hj hx=>hx);have AZ:Hid (Newer w v vL):=Lib.hid fun j hj=>(Az.out j hj).elim .inl fun q=>.inr (qT o.size q)
     have Ao:=Lib.hid ((G.block z (qX M.out)).trans M.out);have AA:=Lib.hid (show ¬DocX p v z from fun hx=>by
        have h1:=AX.out;rcases hx with q|q
        ·omega
        ·obtain⟨BZ,_,_,ho⟩:=HD.rows;have:=(ho.lt z q).2;omega)
     have AB:=Lib.hid ((A8.block z (qX Ao.out) AA.out).trans Ao.out);have B0:=Lib.hid ((Ax.keep (KeepR.below G.out)).keep (KeepR.but A8.out (A5.keep G.out).noRunes));have BM:(Zo d i (k+1)).length≤1073741823:=by have:=cutR_le d i (k+1);omega
     have Be:i+1≤(Zo d i (k+1)).length:=by have:=cutR_ge d i (k+1);omega
     clear V P H AK L G M Ao Ax Ah Ai Al m A5 Ag N HO o A8 Az BK BL AA;obtain⟨dL,Bf⟩:∃x,Zo d i (k+1)=x:=⟨_,rfl⟩;obtain⟨j0,AU⟩:∃x:Nat,i+1=x:=⟨_,rfl⟩;rw[Bf] at Ay BM Be;have Am:Hid ((jw d (I,J,D) at' false E).1=qh dL (vC dL (I,J,D) j0) ((I,J,D),E,false)):=Lib.hid (by rw[←Bf,←AU];exact Am.out);rw[AU] at Be;have B1:=Lib.hid AU;clear Bf AU Bd BC Q a A7;obtain⟨F,Bg,AO⟩:=Ay.runs;have S:=Lib.hid AO;have Ap:=Lib.hid Bg
     have C0:F.length=dL.length:=by rw[←Bg,List.length_map]
     clear AO Bg;have Bh:=S.lt;have BN:∃A c,vL=.slice A F.length c:=jd S.own;obtain⟨AL,cL,BO⟩:=BN;subst BO;have AC:=Lib.hid (show W.cell? ⟨p,0,none⟩=some (.slice AL F.length cL) by
        obtain⟨s1,t1,AR⟩:=S.box;exact k4 AR 0)
     have BE:=Lib.hid (show w.heap.size≤W.heap.size from An.size);have Aq:=Lib.hid (show ∀u:World,Below W.heap.size W u→u.rangeAt z 0 (k8 (I,J,D)) from fun u hu j x hj=>by rw[qZ];exact(k4 ((hu.block z (qX AB.out)).trans AB.out) j).trans hj)
     go_loopw [15] (fun t wr=>∃j:Nat,j0≤j∧j≤F.length∧t=.int .i64 (j:Int)∧Hid (Below W.heap.size W wr)∧Hid (∀q (hq:q<F.length),j0≤q→q<j→0<zG F[q].1 (I,J,D))) (fun t _=>F.length - (intOf t).toNat)
     case atStart=>exact⟨j0,Nat.le_refl _,by omega,(by rw[←B1.out];rfl),Lib.hid (qB _ _),Lib.hid (fun q _ h1 h2=>absurd h1 yz)⟩
     case round=>
        obtain⟨j,BP,C1,rfl,AD,y⟩:=hrel;obtain⟨c,hc⟩:∃c:Bool,(if h:j<F.length then decide (0<zG F[j].1 (I,J,D)) else false)=c:=⟨_,rfl⟩;have HC:=Lib.hid hc;clear hc;have Bw:=enE func78 rfl;have T:=Lib.hid (AD.trans ((qD wr.heap.size wr).mono AD.size))
        repeat go_step
        go_cut [107] from 88 to 107 (fun t wx=>t=.bool c∧Hid (Below W.heap.size W wx))
        case first=>
          by_cases A0:j<F.length
          ·have AP:decide ((j:Int)<(F.length:Int))=true:=dT yz;have Ar:=Lib.hid AP;obtain⟨g,c',BQ,Bi,BR,BS⟩:=S.row A0;injection BQ with hA _ hc';subst hA hc';have AE:=Lib.hid (S.ins _ (List.getElem_mem A0));have As:Hid (decide (0<zG F[j].1 (I,J,D))=c):=Lib.hid (by have:=HC.out;rw[dif_pos A0] at this;exact this);obtain⟨_,_,_,_,_,p5⟩:=J9 AE.1;have B2:=Lib.hid (show ∀u:World,Below W.heap.size W u→u.rangeAt g (0+j*36+0) (k8 F[j].1) from fun u hu q x hq=>by
             have h1:=Bi _ _ (p5 q x hq);have h2:=(hu.cell (p:=⟨g,j*36+(0+q),none⟩) BR).trans h1;rw[show 0+j*36+0+q=j*36+(0+q) by omega];exact h2)
           clear Bi BS p5 AP;have A9:=Lib.hid (show ∀u:World,Below W.heap.size W u→u.cell? ⟨p,0,none⟩=some (.slice (some ⟨g,0,none⟩) F.length cL) from fun u hu=>(hu.cell (p:=⟨p,0,none⟩) Bh).trans AC.out);have AF:Hid (kN F[j].1):=Lib.hid AE.1;generalize F[j]=r at *;refine rN 20 (fun u=>Below W.heap.size W u) T.out fun Au=>?_
           refine tw 0 (.int .i64 (j:Int)) ?_;go_frame;refine tw 1 (.pointer (some ⟨p,0,none⟩)) ?_;go_frame;refine tw 2 (.pointer (some ⟨p,0,none⟩)) ?_;go_frame;refine tw 3 (.pointer (some ⟨p,0,none⟩)) ?_;go_frame;refine tl 4 (.slice (some ⟨g,0,none⟩) F.length cL) rfl Au (fun w' R=>l1 underlying190 (A9.out w' R)) ?_;go_frame;refine tk 5 (.int .i64 (F.length:Int)) rfl (fun w' R=>un 190 _ rfl rfl underlying190) ?_;go_frame;refine tk 6 (.bool true) rfl (fun w' R=>Um _ _ _ rfl rfl rfl Ar.out) ?_;go_frame;refine tw 7 (.bool true) ?_;go_frame;refine tw 8 (.pointer (some ⟨p,0,none⟩)) ?_;go_frame;refine tw 9 (.pointer (some ⟨p,0,none⟩)) ?_;go_frame;refine tw 10 (.pointer (some ⟨p,0,none⟩)) ?_;go_frame;refine tl 11 (.slice (some ⟨g,0,none⟩) F.length cL) rfl Au (fun w' R=>l1 underlying190 (A9.out w' R)) ?_;go_frame;refine tw 12 (.int .i64 (j:Int)) ?_;go_frame;refine tk 13 (.pointer (some ⟨g,0+j*36,none⟩)) rfl (fun w' R=>Kc 190 _ _ rfl (b:=g) (off:=0) (q:=j) (n:=F.length) (c:=cL) rfl rfl A0 underlying190 zt) ?_;go_frame;refine tw 14 (.pointer (some ⟨g,0+j*36+0,none⟩)) ?_;go_frame;refine tl 15 (.agg (k8 r.1).toArray) rfl Au (fun w' R=>ldK AF.out (B2.out w' R)) ?_;go_frame;refine tl 16 (.agg (k8 (I,J,D)).toArray) rfl Au (fun w' R=>ldK K.out (Aq.out w' R)) ?_;go_frame;refine ta 17 ?_;refine tc #[.agg (k8 r.1).toArray,.agg (k8 (I,J,D)).toArray] Bw rfl ?_;refine(uS _ _ _ AF.out K.out).mono ?_;rintro e u3 ⟨Ab,rfl⟩;have C:=Lib.hid (T.trans (Ab.mono T.size));clear Ab;refine⟨_,rfl,fun _ _=>C.out,?_⟩;go_frame;refine tk 18 (.bool c) rfl (fun w' R=>uu _ _ _ rfl rfl rfl As.out) ?_;go_frame;refine tw 19 (.bool c) ?_;go_frame;refine ku yy ?_ _;go_wp2_with fail
           go_meet
           case rel=>exact⟨rfl,C⟩
          ·have AP:decide ((j:Int)<(F.length:Int))=false:=dF yz;have Ar:=Lib.hid AP;have As:Hid (c=false):=Lib.hid (by have:=HC.out;rw[dif_neg A0] at this;exact this.symm);have A9:=Lib.hid (show ∀u:World,Below W.heap.size W u→u.cell? ⟨p,0,none⟩=some (.slice AL F.length cL) from fun u hu=>(hu.cell (p:=⟨p,0,none⟩) Bh).trans AC.out);clear AP;refine rN 20 (fun u=>Below W.heap.size W u) T.out fun Au=>?_
           refine tw 0 (.int .i64 (j:Int)) ?_;go_frame;refine tw 1 (.pointer (some ⟨p,0,none⟩)) ?_;go_frame;refine tw 2 (.pointer (some ⟨p,0,none⟩)) ?_;go_frame;refine tw 3 (.pointer (some ⟨p,0,none⟩)) ?_;go_frame;refine tl 4 (.slice AL F.length cL) rfl Au (fun w' R=>l1 underlying190 (A9.out w' R)) ?_;go_frame;refine tk 5 (.int .i64 (F.length:Int)) rfl (fun w' R=>un 190 _ rfl rfl underlying190) ?_;go_frame;refine tk 6 (.bool false) rfl (fun w' R=>Um _ _ _ rfl rfl rfl Ar.out) ?_;go_frame;refine tw 7 (.bool false) ?_;go_frame;refine tn 8 ?_;go_frame;refine tn 9 ?_;go_frame;refine tn 10 ?_;go_frame;refine tn 11 ?_;go_frame;refine tn 12 ?_;go_frame;refine tn 13 ?_;go_frame;refine tn 14 ?_;go_frame;refine tn 15 ?_;go_frame;refine tn 16 ?_;go_frame;refine tn 17 ?_;go_frame;refine tn 18 ?_;go_frame;refine tw 19 (.bool false) ?_;go_frame;refine ku yy ?_ _;go_wp2_with fail
           go_meet
           case rel=>exact⟨by rw[As.out],T⟩
        case rest=>
          obtain⟨rfl,U⟩:=hcut;have C2:IntKind.i64.wrap ((j:Int)+1)=((j+1:Nat):Int):=by rw[IntWalk.i64_in _ yz];omega
          clear Bw T;cases c with
          |true=>
           have A0:j<F.length:=by
              by_cases h:j<F.length
              ·exact h
              ·have:=HC.out;rw[dif_neg h] at this;cases this
           have HP:=Lib.hid (show 0<zG F[j].1 (I,J,D) by have:=HC.out;rw[dif_pos A0] at this;exact of_decide_eq_true this);go_wp2_with fail
           go_roundw
           case rel=>
              refine⟨j+1,by omega,by omega,by go_num,U,Lib.hid (fun q hq h1 h2=>?_)⟩;rcases (by omega:q<j∨q=j) with h3|rfl
              ·exact y.out q hq h1 h3
              ·exact HP.out
           case measure=>(simp [intOf])<;>omega
          |false=>
           have B3:Hid (vC dL (I,J,D) j0=j):=Lib.hid (by
              refine placeR_is BP yz (fun q hq h1 h2=>?_) fun hn=>?_
              ·have Bj:q<F.length:=by omega
               have:=y.out q Bj h1 h2;have e:dL[q].1=F[q].1:=by simp only[←Ap.out,List.getElem_map];rfl
               rw[e];exact this
              ·have Bj:j<F.length:=by omega
               have:=HC.out;rw[dif_pos Bj] at this;have e:dL[j].1=F[j].1:=by simp only[←Ap.out,List.getElem_map];rfl
               rw[e];exact of_decide_eq_false this)
           have B4:=Lib.hid (S.keep U.out);have B5:=Lib.hid (Aq.out wc U.out);have B6:Hid (RunIn wc ((I,J,D),.slice A E.length c0,E,false)):=Lib.hid ⟨K.out,B0.keep (KeepR.below U.out),AY.out⟩;clear HC y Aq
           go_upto_region 23 with (first
              |(refine k5 yx (ldK K.out B5.out) ?_)
              |(with_reducible refine kJ ?_
                refine k5 yx (kj 177 _ rfl (by simp only[List.map_toArray,List.map_cons,List.map_nil];exact run_built2 _ K.out _ rfl _)) ?_)
              |(go_at_call 159;refine(put_run F j ((I,J,D),.slice A E.length c0,E,false) B p _ wc B4.out B6.out yz yz).mono ?_;rintro e W5 ⟨rfl,v5,AO,Bx,By⟩;have AG:=Lib.hid AO;have G:=Lib.hid Bx;have B7:=Lib.hid By
                clear AO Bx By))
           obtain⟨s5,t5,AQ⟩:=AG.box;have B8:=Lib.hid AQ;have BT:W5.cell? ⟨p,1,none⟩=some (.int .i64 s5):=k4 AQ 1;clear AQ
           go_upto_region 24 with (first
              |(with_reducible refine kw ?_
                refine ko yx 3 _ _ rfl p 1 [v5] [.int .i64 s5] [.int .i64 t5] [.int .i64 (wrap64 (s5+(E.length:Int)))] 192 (.int .i64 (wrap64 (s5+(E.length:Int)))) rfl rfl rfl rfl B8.out rfl yy (by intro u hu;rw[List.mem_singleton.1 hu];rfl) ?_;intro W6 AI Bz BU;have B9:=Lib.hid AI;have AH:=Lib.hid Bz
                clear AI Bz BU))
           have BV:W6.cell? ⟨p,2,none⟩=some (.int .i64 t5):=k4 AH.out 2;clear BT
           go_upto_region 25 with (first
              |(with_reducible refine kw ?_
                refine ko yx 3 _ _ rfl p 2 [v5,.int .i64 (wrap64 (s5+(E.length:Int)))] [.int .i64 t5] [] [.int .i64 (wrap64 (t5+(E.length:Int)))] 192 (.int .i64 (wrap64 (t5+(E.length:Int)))) rfl rfl rfl rfl AH.out rfl yy (by intro u hu;rw[List.mem_singleton.1 hu];rfl) ?_;intro W7 AJ BA BW;have Ba:=Lib.hid AJ;have Bb:=Lib.hid BA
                clear AJ BA BW))
           clear BV;go_wp2_with fail;go_ret;have Bk:But (fun k=>k=p) W5 W7:=B9.trans Ba.out fun k _ q=>q
           have BX:=AG.setBox (s:=wrap64 (s5+(E.length:Int))) (t:=wrap64 (t5+(E.length:Int))) (by simpa using Bb.out) Bk;refine⟨⟨_,rfl⟩,DTurn.trans An.out AZ.out An.size ⟨v5,?_,((But.of_below U.out).trans G.out fun k hk hx=>hx).trans Bk fun k hk e=>.inl e,?_⟩⟩
           ·have e:(F.take j++((I,J,D),Value.slice A E.length c0,E,false)::F.drop j).map kZ=(jw d (I,J,D) at' false E).1:=by
               rw[Am.out,B3.out,putR_map,Ap.out];rfl
            rw[←e];exact BX.at
           ·intro k hk;rcases B7.out k hk with q|q
            ·exact .inl q
            ·exact .inr (qT U.size q)
theorem insert_any(d:List kX)(key at':kF)(first:Bool)(s:ByteArray)(l:List Nat)(B p:Nat)(v:Value)(w:World)(h:DocAt w B p v d)(hk:kN key)(ha:kN at')(hix:RunIx d)(hl:d.length≤1073741822)(hs:s.size≤1099511627776)(hr:jx s=some l)(hln:l.length≤1099511627776)(hkx:Ix key.2.2)(hax:Ix at'.2.2):
    Calls prog 101 #[.pointer (some ⟨p,0,none⟩),.agg (k8 key).toArray,.agg (k8 at').toArray,.bool first,.string s] w (vd w B p v (jw d key at' first l).1):=by
  by_cases hb:l=[]∨key.2.2<0∨2147483648 - (l.length:Int)<key.2.2
  ·exact insert_bad d key at' s l B p v w h hk ha hix hl hs hr hln hkx first hb
  ·have A:0<l.length:=List.length_pos_iff.2 fun e=>hb (.inl e)
   have C:0≤key.2.2:=by
     by_cases hq:key.2.2<0
     ·exact absurd (.inr (.inl hq)) hb
     ·omega
   have D:key.2.2≤2147483648 - (l.length:Int):=by
     by_cases hq:2147483648 - (l.length:Int)<key.2.2
     ·exact absurd (.inr (.inr hq)) hb
     ·omega
   cases first
   ·exact insert_at d key at' s l B p v w h hk ha hix hl hs hr hln hkx A C D hax
   ·exact insert_first d key at' s l B p v w h hk ha hix hl hs hr hln hkx A C D
end
end Go.Proofs.YtdgbjhfkmembdaaGreatDoor