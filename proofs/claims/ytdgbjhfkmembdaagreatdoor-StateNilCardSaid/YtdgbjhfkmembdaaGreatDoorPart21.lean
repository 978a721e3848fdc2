/-
  Plain facts, and contracts of the functions that the claim's walk comes to, one behind the other. Conditions: as each says.
-/
import Derived.Test.YtdgbjhfkmembdaaGreatDoorPart17
import Derived.Test.YtdgbjhfkmembdaaGreatDoorPart20
import Derived.Test.YtdgbjhfkmembdaaGreatDoorPart7
import Derived.Test.YtdgbjhfkmembdaaGreatDoorPart16
import Derived.Test.YtdgbjhfkmembdaaGreatDoorPart15
import Derived.Test.YtdgbjhfkmembdaaGreatDoorPart6
import Derived.Test.YtdgbjhfkmembdaaGreatDoorPart5
set_option linter.unusedVariables false
set_option linter.unusedSimpArgs false
set_option maxHeartbeats 4000000
set_option maxRecDepth 100000
open Go.Proofs.Tryz
namespace Go.Proofs.YtdgbjhfkmembdaaGreatDoor
section
open Go.RowKit
theorem qd:jp i15:=rfl
theorem j15_ok:jp j15:=rfl
def o15d:OpD:=(1,(i15,0),(i15,2),bangS,0,kM)
theorem Qg:KR o15d:=⟨⟨⟨rfl,by decide⟩,⟨rfl,by decide⟩,by decide⟩,by decide,by decide⟩
theorem d15_ops:∀x∈d15.2.2.2,KR x:=fun x A=>by
  rw[List.mem_singleton.1 A];exact Qg
theorem d15_ok:Zt d15:=⟨by decide,(fun x A=>by rw[List.mem_singleton.1 A];exact qd),fun x A=>(d15_ops x A).1⟩
theorem fine15a:Qy Jh o15a:=⟨uB,⟨uB.1.1,by decide,by decide⟩,⟨uB.1.2.1,by decide,by decide⟩,by decide,by decide,by decide,by decide⟩
theorem fine15b:Qy Jh o15b:=⟨uC,⟨uC.1.1,by decide,by decide⟩,⟨uC.1.2.1,by decide,by decide⟩,by decide,by decide,by decide,by decide⟩
theorem fine15d:Qy s15 o15d:=⟨Qg,⟨Qg.1.1,by decide,by decide⟩,⟨Qg.1.2.1,by decide,by decide⟩,by decide,by decide,by decide,by decide⟩
theorem addFine15(q:j5)(h:q.nd=0):Q6 Jh q c15:=
  ⟨c15_ok,c15_ops,by decide,by decide,by decide,(fun _ x A=>by
    rcases List.mem_cons.1 A with rfl|A
    ·exact fine15a
    ·rw[List.mem_singleton.1 A];exact fine15b),by decide,(by rw[h];decide),by decide,(fun x A=>by cases A),⟨0,0,⟨by decide,fun x A=>by cases A⟩,by decide,by decide⟩⟩
theorem docsIx15:DocsIx s15:=fun x A=>by
  rw[List.mem_singleton.1 A];intro r B;rw[List.mem_singleton.1 B];exact⟨by decide,by decide⟩
theorem addFine15d(q:j5)(h:q.nd≤2):Q6 s15 q d15:=
  ⟨d15_ok,d15_ops,by decide,by decide,by decide,(fun _ x A=>by
    rw[List.mem_singleton.1 A];exact fine15d),by decide,(by show q.nd+1≤_;omega),by decide,docsIx15,⟨1,2,⟨by decide,fun x A=>by rw[List.mem_singleton.1 A];decide⟩,by decide,by decide⟩⟩
theorem encC15:encC c15=0:=enc15
theorem encC15d:encC d15=0:=enc15d
theorem idC15d:idC d15=j15:=id15d
theorem find15:Ks t15.2.1 (L aS)=some (1,i15,0):=by kernel_rfl
def doc15:List kX:=[((1,i15,1),[104,105],false),((2,j15,0),[33],false)]
theorem doc15_at:jR t15 (1,i15,0)=some doc15:=by kernel_rfl
theorem small15:QD doc15:=by
  refine⟨by decide,fun r B=>?_⟩;rcases List.mem_cons.1 B with rfl|B
  ·refine⟨by decide,fun u A=>?_⟩;rcases List.mem_cons.1 A with rfl|A
   ·exact fun w=>uE 104 yv w
   ·rw[List.mem_singleton.1 A];exact fun w=>uE 105 yv w
  ·rw[List.mem_singleton.1 B];refine⟨by decide,fun u A=>?_⟩;rw[List.mem_singleton.1 A];exact fun w=>uE 33 yv w
theorem ix15:RunIx doc15:=fun r A=>by
  rcases List.mem_cons.1 A with rfl|A
  ·exact⟨by decide,by decide⟩
  ·rw[List.mem_singleton.1 A];exact⟨by decide,by decide⟩
theorem runs15:RunsOf (fun k=>(kC t15 k.2.1).isSome=true) doc15:=fun r A=>by
  rcases List.mem_cons.1 A with rfl|A
  ·exact⟨by decide+kernel,by decide⟩
  ·rw[List.mem_singleton.1 A];exact⟨by decide+kernel,by decide⟩
theorem pieces15:Ki doc15=[((1,i15,1),2,[104,105]),((2,j15,0),1,[33])]:=by decide+kernel
theorem pieceOk15:∀x∈Ki doc15,Jo x:=fun x A=>by
  rw[pieces15] at A;rcases List.mem_cons.1 A with rfl|A
  ·exact⟨⟨by decide,qd,by decide⟩,by decide,by decide⟩
  ·rw[List.mem_singleton.1 A];exact⟨⟨by decide,j15_ok,by decide⟩,by decide,by decide⟩
theorem key15:kN ((Ks t15.2.1 (L aS)).getD zO):=by
  rw[find15];exact⟨by decide,qd,by decide⟩
theorem text15:textAt t15 aS=[104,105,33]:=by
  unfold textAt;rw[find15];dsimp only;rw[doc15_at];decide+kernel
theorem blame15:Qf t15 aS=[(i15,vn,[104,105]),(j15,Qz,[33])]:=by
  unfold Qf;rw[find15];dsimp only;rw[doc15_at,Option.getD_some,pieces15];decide+kernel
theorem err15:errAt t15 aS=0:=by
  unfold errAt;rw[find15]
theorem claims15:t15.2.1.length≤90:=by decide
theorem csize15:∀x∈t15.2.1,x.2.2.2.size≤1073741824:=fun x A=>by
  rw[List.mem_singleton.1 A];decide
theorem docs15:∀k d,Ks t15.2.1 (L aS)=some k→jR t15 k=some d→QD d∧RunIx d∧RunsOf (fun k=>(kC t15 k.2.1).isSome=true) d∧∀x∈Ki d,Jo x:=fun k d A B=>by
  rw[find15] at A;cases A
  rw[doc15_at] at B;cases B
  exact⟨small15,ix15,runs15,pieceOk15⟩
end
section
open Go.RowKit Go.Maps
open Lib (hid)
theorem add15_first(B s:Nat)(q:j5)(A:Option Addr)(w:World)(h:StateAt w B s Jh q)(hnd:q.nd=0)(h2:Sl w w.heap.size A 2 70 (ke opV c15.2.2.2))(hg:Glob w)(hsg:ShaG w):
    Calls prog 17 #[.pointer (some ⟨s,0,none⟩),.agg (idV i15).toArray,.agg (chC 1 none 0 0 vn A 2 2).toArray] w fun e w'=>e=.returned (.int .i64 0)∧∃C,StateAt w' B s s15 C∧But (StX s Jh q) w w'∧C.nd≤2:=by
  refine(add_any B s Jh q i15 c15 none 0 A 2 w h qd Sl.nil h2 (addFine15 q hnd) hg hsg).mono fun e w' F=>?_
  rcases F with⟨D,_⟩|⟨_,D⟩
  ·exact absurd encC15 D
  ·rw[idC15,add15] at D;obtain⟨G,C,H,I,_,E⟩:=D;refine⟨G,C,H,I,?_⟩;rw[hnd] at E;exact E
theorem add15_second(B s:Nat)(q:j5)(Ad Ao:Option Addr)(w:World)(h:StateAt w B s s15 q)(hnd:q.nd≤2)(h1:Sl w w.heap.size Ad 1 32 (zf [i15]))(h2:Sl w w.heap.size Ao 1 70 (ke opV d15.2.2.2))(hg:Glob w)(hsg:ShaG w):
    Calls prog 17 #[.pointer (some ⟨s,0,none⟩),.agg (idV j15).toArray,.agg (chC 2 Ad 1 1 Qz Ao 1 1).toArray] w fun e w'=>e=.returned (.int .i64 0)∧∃A,StateAt w' B s t15 A∧But (StX s s15 q) w w':=by
  refine(add_any B s s15 q j15 d15 Ad 1 Ao 1 w h j15_ok h1 h2 (addFine15d q hnd) hg hsg).mono fun e w' C=>?_
  rcases C with⟨h1,_⟩|⟨_,h1⟩
  ·exact absurd encC15d h1
  ·rw[idC15d,add15d] at h1;obtain⟨D,A,E,F,_,G⟩:=h1;exact⟨D,A,E,F⟩
theorem ref15a_built(w:World):(Instr.build 110 #[(0,.agg (idV i15).toArray)]).run prog w=.ok (.agg (kn (i15,0)).toArray) w:=by kernel_rfl
theorem ref15b_built(w:World):(Instr.build 110 #[(0,.agg (idV i15).toArray),(1,.int .i64 2)]).run prog w=.ok (.agg (kn (i15,2)).toArray) w:=by kernel_rfl
theorem o15d_built(w:World):(Instr.build 112 #[(0,.int .u8 1),(1,.agg (kn (i15,0)).toArray),(2,.agg (kn (i15,2)).toArray),(3,.string ⟨#[33]⟩)]).run prog w=.ok (.agg (opV o15d).toArray) w:=by kernel_rfl
theorem d15_built(a b:Addr)(w:World):(Instr.build 37 #[(0,.int .i64 2),(1,.slice (some a) 1 1),(2,.string ⟨#[66,111,98]⟩),(3,.slice (some b) 1 1)]).run prog w=.ok (.agg (chC 2 (some a) 1 1 Qz (some b) 1 1).toArray) w:=by kernel_rfl
theorem rows15d:ke opV d15.2.2.2=opV o15d:=by
  show ke opV [o15d]=_;simp [ke]
theorem ids15d:zf [i15]=idV i15:=by simp [zf]
theorem blame15_at{w:World}{B:Nat}{v:Value}(h:w.ownsRow B 43 34 v [(i15,vn,([104,105]:List UInt8)),(j15,Qz,[33])].length (ke zy [(i15,vn,[104,105]),(j15,Qz,[33])])):
    ∃g c,v=.slice (some ⟨g,0,none⟩) 2 c∧B≤g∧g<w.heap.size∧w.cell? ⟨g,66,none⟩=some (.string ⟨#[66,111,98]⟩)∧w.cell? ⟨g,33,none⟩=some (.string ⟨#[104,105]⟩):=by
  obtain⟨g,c,D,E,F,A,_⟩:=blame_last (l:=[(i15,vn,[104,105])]) (q:=(j15,Qz,[33])) h fun x C=>by
    rcases List.mem_cons.1 C with rfl|C
    ·exact qd
    ·rw[List.mem_singleton.1 C];exact j15_ok
  exact⟨g,c,E,F,qX A,(k4 A 66).trans rfl,(k4 A 33).trans rfl⟩
theorem awake15_any(w:World)(hg:Glob w)(hsg:ShaG w):Calls prog 15 #[] w fun e w'=>e=.returned (.bool true)∧Below w.heap.size w w':=by
  have HG:=hid hg;have Z:=hid hsg;have Ax:=HG
  clear hg hsg;have Bc:(idV i15).length=32:=rfl;have D:=hid Bc;have Bd:(idV j15).length=32:=rfl;have W:=hid Bd;clear Bc Bd;go_enter func15,ntmps15
  go_upto_region 3 with (first
    |(go_at_call 27;refine(stateNew_any w.heap.size w (qR _)).mono ?_;rintro e W1 ⟨Bv,s,q,rfl,A0,AQ⟩;have E:=hid Bv;have A2:=hid A0;have Ay:=hid AQ
      clear Bv A0 AQ)
    |(go_at_call 45;refine(hello15_any W1 (HG.next E.out) (Z.next E.out)).mono ?_;rintro e W2 ⟨AR,A,rfl,Bw⟩;have a:=hid AR;have Az:=hid Bw
      clear AR Bw)
    |(with_reducible refine kA ?_
      first
      |(refine ks yx 41 rfl (idV k7) yy ?_;intro W3 AS Bx By;have A3:=hid AS;have A4:=hid Bx;have I:=hid By
        clear AS Bx By)
      |(refine ks yx 37 rfl (chC 0 none 0 0 kM none 0 0) (Us _) ?_;intro W4 Ar Bz BA;have AA:=hid Ar;have A5:=hid Bz;have AB:=hid BA
        have A6:=hid ((Ar.block W2.heap.size (qX A4.out)).trans A4.out);clear Ar Bz BA))
    |(with_reducible refine kw ?_
      first
      |(refine ko yx 41 _ _ rfl W2.heap.size 0 [] (idV k7) [] (idV i15) 41 (.agg (idV i15).toArray) rfl rfl rfl rfl (by simpa using A6.out) (by rw[D.out];rfl) (by rw[D.out];kernel_rfl) (kV _) ?_;intro W5 As BB BL;have AC:=hid As;have A7:Hid (W5.heap[W2.heap.size]?=some (.cells (idV i15).toArray 41 (0,0))):=hid (by simpa using BB);have X:=hid ((As.block W3.heap.size (qX A5.out) (by have:=I.out;omega)).trans A5.out);clear As BB BL)
      |(refine ko yx 37 _ _ rfl W3.heap.size 0 [] (chC 0 none 0 0 kM none 0 0) [] (chC 1 none 0 0 vn A 2 2) 37 (.agg (chC 1 none 0 0 vn A 2 2).toArray) rfl rfl rfl rfl (by simpa using X.out) rfl yy (Q7 _ _ _ _ _ _ _ _) ?_;intro W6 Be BC BM;have AD:=hid Be;have A8:Hid (W6.heap[W3.heap.size]?=some (.cells (chC 1 none 0 0 vn A 2 2).toArray 37 (0,0))):=hid (by simpa using BC);have J:=hid ((Be.block W2.heap.size (qX A7.out) (by have:=I.out;omega)).trans A7.out);clear Be BC BM)))
  obtain⟨b2,AR⟩:∃z,W2.heap.size=z:=⟨_,rfl⟩;obtain⟨b3,AS⟩:∃z,W3.heap.size=z:=⟨_,rfl⟩;have AT:Below W2.heap.size W2 W6:=(A3.trans (AA.mono A3.size)).trans (((AC.below (B:=W2.heap.size) (by have:=I.out;have:=AB.out;omega) fun k hk e=>by have e2:k=W2.heap.size:=e;omega)).trans (AD.below (B:=W2.heap.size) (by have:=qX X.out;have:=I.out;omega) fun k hk e=>by have e2:k=W3.heap.size:=e;have:=I.out;omega));have F:Hid (Below w.heap.size w W6):=hid ((E.trans (a.mono E.size)).trans (AT.mono (E.trans (a.mono E.size)).size));have K:=hid ((A2.keep a.out).keep AT);have A9:=hid ((Az.keep AT).more AT.size);rw[AR] at J ⊢;rw[AS] at A8 ⊢;clear AT AR AS A7 X A4 A6 A5 A3 AA AC AD I AB A2 Az E a;have AE:=hid (add15_first w.heap.size s q A W6 K.out Ay.out A9.out (HG.next F.out) (Z.next F.out));have AF:=hid (show W6.rangeAt b2 0 (idV i15) from fun j u U=>by rw[qZ];exact(k4 J.out j).trans U);have AG:=hid (show W6.rangeAt b3 0 (chC 1 none 0 0 vn A 2 2) from fun j u U=>by rw[qZ];exact(k4 A8.out j).trans U)
  go_upto_region 5 with (first
    |(with_reducible refine k6 ?_
      first
      |refine k5 yx (ldD qd AF.out) ?_
      |refine k5 yx (kc 37 _ rfl (p:=⟨b3,0,none⟩) rfl (qV _ b3 0 _ _ _ AG.out underlying37 rfl yy)) ?_)
    |(go_at_call 17;refine AE.mono ?_;rintro e r ⟨rfl,q1,A0,At,AQ⟩;have Aa:=hid A0;have AV:=hid AQ
      have G:Hid (Below w.heap.size w r):=hid (F.trans (At.below F.size fun k hk hx=>by have:=(K.lowX hx).1;omega));have T:Hid (r.heap[b2]?=some (.cells (idV i15).toArray 41 (0,0))):=hid (K.keepCells At J.out yv);clear A0 At AQ))
  have AH:=hid (HG.next G.out);have Ab:=hid (Z.next G.out)
  have Ac:=hid (show r.rangeAt b2 0 (idV i15) from fun j u U=>by rw[qZ];exact(k4 T.out j).trans U);clear AE AF AG J A8 K A9 F HG Z Ay;obtain⟨x,hx⟩:∃z,i15=z:=⟨_,rfl⟩;obtain⟨y,hy⟩:∃z,j15=z:=⟨_,rfl⟩;have HX:=hid hx;have HY:=hid hy
  have AI:Hid (jp x):=hid (by rw[←hx];exact qd);have B4:Hid (jp y):=hid (by rw[←hy];exact j15_ok);rw[hx] at Ac T D;rw[hy] at W
  try rw[hx]
  clear hx hy;have B5:=hid (fun u:World=>show (Instr.build 110 #[(0,.agg (idV x).toArray)]).run prog u=.ok (.agg (kn (x,0)).toArray) u from by rw[←HX.out];exact ref15a_built u);have B6:=hid (fun u:World=>show (Instr.build 110 #[(0,.agg (idV x).toArray),(1,.int .i64 2)]).run prog u=.ok (.agg (kn (x,2)).toArray) u from by rw[←HX.out];exact ref15b_built u);obtain⟨oV,Bf⟩:∃z,opV o15d=z:=⟨_,rfl⟩;have AJ:=hid Bf;have B7:=hid (fun u:World=>show (Instr.build 112 #[(0,.int .u8 1),(1,.agg (kn (x,0)).toArray),(2,.agg (kn (x,2)).toArray),(3,.string ⟨#[33]⟩)]).run prog u=.ok (.agg oV.toArray) u from by rw[←HX.out,←AJ.out];exact o15d_built u);have AK:Hid (oV.length=70):=hid (by rw[←Bf];exact kH Qg);clear Bf
  go_upto_region 6 with (first
    |(with_reducible refine k6 ?_
      first
      |(refine k5 yx (ldD AI.out AL.out) ?_;go_frame)
      |(refine k5 yx (ldD AI.out Ac.out) ?_;go_frame))
    |(with_reducible refine kJ ?_
      first
      |(refine k5 (o:=⟨some 28,_,_,_,_,_⟩) yx (kj 112 _ rfl (by simp only[List.map_toArray,List.map_cons,List.map_nil];exact B7.out _)) ?_;go_frame)
      |(refine k5 (o:=⟨some 30,_,_,_,_,_⟩) yx (kj 37 _ rfl (by simp only[List.map_toArray,List.map_cons,List.map_nil];exact d15_built _ _ _)) ?_;go_frame)
      |(refine k5 (o:=⟨some 25,_,_,_,_,_⟩) yx (kj 110 _ rfl (by simp only[List.map_toArray,List.map_cons,List.map_nil];exact B5.out _)) ?_;go_frame)
      |(refine k5 (o:=⟨some 27,_,_,_,_,_⟩) yx (kj 110 _ rfl (by simp only[List.map_toArray,List.map_cons,List.map_nil];exact B6.out _)) ?_;go_frame))
    |(with_reducible refine kA ?_
      refine ks yx 37 rfl (chC 0 none 0 0 kM none 0 0) (Us _) ?_;intro BO Bg Bh Bi;have Ad:=hid Bg;have Ae:=hid Bh;have Af:=hid Bi
      clear Bg Bh Bi)
    |(with_reducible refine kw ?_
      refine ko yx 37 _ _ rfl W9.heap.size 0 [] (chC 0 none 0 0 kM none 0 0) [] (chC 2 (some ⟨r.heap.size,0,none⟩) 1 1 Qz (some ⟨t.heap.size,0,none⟩) 1 1) 37 (.agg (chC 2 (some ⟨r.heap.size,0,none⟩) 1 1 Qz (some ⟨t.heap.size,0,none⟩) 1 1).toArray) rfl rfl rfl rfl (by simpa using Ae.out) rfl yy (Q7 _ _ _ _ _ _ _ _) ?_;intro H Bj Bk BI;have Ag:=hid Bj;have C:Hid (H.heap[W9.heap.size]?=some (.cells (chC 2 (some ⟨r.heap.size,0,none⟩) 1 1 Qz (some ⟨t.heap.size,0,none⟩) 1 1).toArray 37 (0,0))):=hid (by simpa using Bk);clear Bj Bk BI)
    |(refine jJ yx 34 _ rfl 41 underlying34 (.agg (idV k7).toArray) 32 32 infoId rfl yv yv (idV x) D.out rfl ?_;obtain⟨t,B2⟩:∃z,r.alloc (.cells (idV x).toArray 41)=z:=⟨_,rfl⟩;rw[B2];have b:Hid (Below r.heap.size r t):=hid (by rw[←B2];exact(qB _ _).alloc (qR _) _);have f:Hid (t.heap[r.heap.size]?=some (.cells (idV x).toArray 41 (0,0))):=hid (by rw[←B2];exact heap_alloc_new _ _);have AL:Hid (t.rangeAt b2 0 (idV x)):=hid fun j u U=>by rw[qZ];exact(k4 ((b.block b2 (qX T.out)).trans T.out) j).trans U
      clear B2;go_frame)
    |(refine jJ yx 35 _ rfl 112 underlying35 (.agg (opV (0,kg,kg,kM,0,kM)).toArray) 70 128 infoOp15 rfl yv yv oV AK.out rfl ?_;obtain⟨W9,B3⟩:∃z,t.alloc (.cells oV.toArray 112)=z:=⟨_,rfl⟩;rw[B3];have Ah:Hid (Below t.heap.size t W9):=hid (by rw[←B3];exact(qB _ _).alloc (qR _) _);have h:Hid (W9.heap[t.heap.size]?=some (.cells oV.toArray 112 (0,0))):=hid (by rw[←B3];exact heap_alloc_new _ _);clear B3;go_frame))
  have B0:Below W9.heap.size W9 H:=Ad.trans (Ag.below (by have:=Af.out;omega) fun k hk e=>by have e2:k=W9.heap.size:=e;omega);have B1:Below t.heap.size t H:=Ah.trans (B0.mono Ah.size);have Aq:Below r.heap.size r H:=b.trans (B1.mono b.size);have i:Hid (Below w.heap.size w H):=hid (G.trans (Aq.mono G.size));have l:=hid (Aa.keep Aq);have L:=hid ((B1.block r.heap.size (qX f.out)).trans f.out);have M:=hid ((B0.block t.heap.size (qX h.out)).trans h.out);have N:=hid (AH.next (Aq.mono (qR _)));have O:=hid (Ab.next (Aq.mono (qR _)))
  obtain⟨gd,BD⟩:∃z,r.heap.size=z:=⟨_,rfl⟩;obtain⟨go,BE⟩:∃z,t.heap.size=z:=⟨_,rfl⟩;obtain⟨b4,Ar⟩:∃z,W9.heap.size=z:=⟨_,rfl⟩;have BH:=hid (show gd<go∧go<b4∧b4<H.heap.size from by have:=qX f.out;have:=qX h.out;have:=qX C.out;omega);rw[BD] at L C ⊢;rw[BE] at M C ⊢;rw[Ar] at C ⊢;clear B0 B1 Aq BD BE Ar b Ah Ad Ag f h Ac AL Ae Af T Aa G AH Ab;have B8:Hid (zf d15.2.1=idV x):=hid (by rw[←HX.out];exact ids15d);have B9:Hid (ke opV d15.2.2.2=oV):=hid (by rw[←AJ.out];exact rows15d);have Ai:Hid (Sl H H.heap.size (some ⟨gd,0,none⟩) d15.2.1.length 32 (zf d15.2.1)):=hid (by
    rw[B8.out];exact⟨D.out,fun _=>⟨gd,0,rfl,qX L.out,fun j u U=>by rw[qZ];exact(k4 L.out j).trans U⟩⟩)
  have Aj:Hid (Sl H H.heap.size (some ⟨go,0,none⟩) d15.2.2.2.length 70 (ke opV d15.2.2.2)):=hid (by
    rw[B9.out];exact⟨AK.out,fun _=>⟨go,0,rfl,qX M.out,fun j u U=>by rw[qZ];exact(k4 M.out j).trans U⟩⟩)
  have AM:=hid (Ur (1,d15,kK) _ H (vg (cd:=1) (co:=1) d15_ok d15_ops yv Ai.out Aj.out) yv yv yv yv N.out O.out (hid rfl));have m:=hid (show H.rangeAt b4 0 (chC 2 (some ⟨gd,0,none⟩) 1 1 Qz (some ⟨go,0,none⟩) 1 1) from fun j u U=>by rw[qZ];exact(k4 C.out j).trans U)
  go_upto_region 7 with (first
    |(with_reducible refine k6 ?_
      refine k5 yx (kc 37 _ rfl (p:=⟨b4,0,none⟩) rfl (qV _ b4 0 _ _ _ m.out underlying37 rfl yy)) ?_)
    |(with_reducible refine kJ ?_
      refine k5 yx (kj 70 _ rfl (by simp only[List.map_toArray,List.map_cons,List.map_nil];exact Zz _ _ _ _ _ _ _ _ _)) ?_)
    |(go_at_call 46;refine AM.mono ?_;rintro e AU ⟨rfl,Bl⟩;rw[id15d,HY.out,enc15d];have Y:=hid Bl;clear Bl)
    |(with_reducible refine kA ?_
      refine ks yx 41 rfl (idV k7) yy ?_;intro BP Bm Bn Bo;have Ak:=hid Bm;have Al:=hid Bn;have Am:=hid Bo
      clear Bm Bn Bo)
    |(with_reducible refine kw ?_
      refine ko yx 41 _ _ rfl AU.heap.size 0 [] (idV k7) [] (idV y) 41 (.agg (idV y).toArray) rfl rfl rfl rfl (by simpa using Al.out) (by rw[W.out];rfl) (by rw[W.out];kernel_rfl) (kV _) ?_;intro A1 Bp Bq BJ;have An:=hid Bp;have Ao:Hid (A1.heap[AU.heap.size]?=some (.cells (idV y).toArray 41 (0,0))):=hid (by simpa using Bq);clear Bp Bq BJ))
  have V:Below H.heap.size H A1:=Y.trans ((Ak.trans (An.below (B:=AU.heap.size) (by have:=Am.out;omega) fun k hk e=>by have e2:k=AU.heap.size:=e;omega)).mono Y.size);obtain⟨b5,As⟩:∃z,AU.heap.size=z:=⟨_,rfl⟩;rw[As] at Ao ⊢;have P:Hid (Below w.heap.size w A1):=hid (i.trans (V.mono i.size));have Q:=hid (l.keep V);have AN:=hid (show A1.rangeAt b5 0 (idV y) from fun j u U=>by rw[qZ];exact(k4 Ao.out j).trans U);have m:=hid (show A1.rangeAt b4 0 (chC 2 (some ⟨gd,0,none⟩) 1 1 Qz (some ⟨go,0,none⟩) 1 1) from fun j u U=>by rw[qZ];exact(k4 ((V.block b4 (qX C.out)).trans C.out) j).trans U);have AO:Hid (Calls prog 17 #[.pointer (some ⟨s,0,none⟩),.agg (idV y).toArray,.agg (chC 2 (some ⟨gd,0,none⟩) 1 1 Qz (some ⟨go,0,none⟩) 1 1).toArray] A1 fun e w'=>e=.returned (.int .i64 0)∧∃q',StateAt w' w.heap.size s t15 q'∧But (StX s s15 q1) A1 w'):=hid (by
    rw[←HY.out];exact add15_second w.heap.size s q1 (some ⟨gd,0,none⟩) (some ⟨go,0,none⟩) A1 Q.out AV.out ((Ai.keep V).more V.size) ((Aj.keep V).more V.size) (N.next (V.mono (qR _))) (O.next (V.mono (qR _))))
  have AW:=hid (N.next (V.mono (qR _)));clear V As Y Ak An Al Am AM l Ai Aj O N
  go_upto_region 8 with (first
    |(with_reducible refine k6 ?_
      first
      |refine k5 yx (ldD B4.out AN.out) ?_
      |refine k5 yx (kc 37 _ rfl (p:=⟨b4,0,none⟩) rfl (qV _ b4 0 _ _ _ m.out underlying37 rfl yy)) ?_)
    |(go_at_call 17;refine AO.mono ?_;rintro e Br ⟨rfl,q2,A0,At⟩;have n:=hid A0;have R:Hid (Below w.heap.size w Br):=hid (P.trans (At.below P.size fun k hk hx=>by have:=(Q.lowX hx).1;omega));have AX:Hid (Glob Br):=hid (Ax.next R.out);clear A0 At))
  clear AO m AN Q P AW
  go_upto_region 9 with (first
    |(go_at_call 12;refine(sblame_any w.heap.size s t15 q2 aS Br n.out claims15 csize15 AX.out key15 docs15).mono ?_;rintro e BN ⟨Bs,v,rfl,hv⟩;rw[err15];rw[blame15] at hv;obtain⟨g,c,rfl,BF,BG,Bt,Bu⟩:=blame15_at hv;have Ap:=hid Bs;have AP:=hid BG;have Ba:=hid Bt;have Bb:=hid Bu;have BK:=hid BF
      clear Bs BG Bt Bu BF hv))
  have Au:=hid (n.keep Ap.out);have S:=hid (R.trans (Ap.mono R.size));have AY:=hid (Ax.next S.out)
  go_upto_region 10 with (first
    |(go_at_call 25;refine(stext_any w.heap.size s t15 q2 aS BN Au.out claims15 csize15 AY.out key15 fun k d h1 h2=>(docs15 k d h1 h2).1).mono ?_;rintro e BQ ⟨Aw,rfl⟩;rw[err15,text15];have Bt:=(Aw.cell (p:=⟨g,66,none⟩) AP.out).trans Ba.out;have Bu:=(Aw.cell (p:=⟨g,33,none⟩) AP.out).trans Bb.out;have AZ:=hid Aw;clear Aw))
  have Av:=hid (S.trans (AZ.mono S.size));go_wp2_with fail;go_ret;exact⟨rfl,Av.out⟩
abbrev ChM:=kQ×(Option Addr×Nat×Option Addr×Nat)
def chV(x:ChM):List Value:=chC x.1.1 x.2.1 x.1.2.1.length x.2.2.1 x.1.2.2.1 x.2.2.2.1 x.1.2.2.2.length x.2.2.2.2
theorem qe(x:ChM):(chV x).length=4:=rfl
structure ChMIn (w:World) (B:Nat) (x:ChM):Prop where
  ok:Zt x.1
  ops:∀y∈x.1.2.2.2,KR y
  author:x.1.2.2.1.size≤maxLen
  sd:Sl w B x.2.1 x.1.2.1.length 32 (zf x.1.2.1)
  so:Sl w B x.2.2.2.1 x.1.2.2.2.length 70 (ke opV x.1.2.2.2)
  ld:x.1.2.1.length≤maxLen
  lo:x.1.2.2.2.length≤maxLen
structure ChsIn (w:World) (B:Nat) (A:Option Addr) (l:List ChM):Prop where
  sl:Sl w B A l.length 4 (ke chV l)
  each:∀x∈l,ChMIn w B x
  len:l.length≤maxLen
theorem ChMIn.keep{w w':World}{B:Nat}{x:ChM}(h:ChMIn w B x)(hb:Below B w w'):ChMIn w' B x:=⟨h.ok,h.ops,h.author,h.sd.keep hb,h.so.keep hb,h.ld,h.lo⟩
theorem ChsIn.keep{w w':World}{B:Nat}{A:Option Addr}{l:List ChM}(h:ChsIn w B A l)(hb:Below B w w'):ChsIn w' B A l:=⟨h.sl.keep hb,fun x C=>(h.each x C).keep hb,h.len⟩
theorem size15_some(l:List ChM)(A:Option Addr)(c:Nat)(w:World)(h:ChsIn w w.heap.size A l):
    Calls prog 33 #[.slice A l.length c,.int .i64 200] w fun e w'=>w=w'∧∃n:Int,e=.returned (.int .i64 n):=by
  have L:=h.len;unfold maxLen at L;have H:=hid h;clear h;go_enter func33,ntmps33;go_wp2_with fail
  go_loop [5,6] (fun t5 t6=>∃(n:Int) (i:Nat),i≤l.length∧t5=.int .i64 n∧t6=.int .i64 (i:Int)) (fun _ t6=>l.length - (intOf t6).toNat)
  case atStart=>exact⟨0,0,Nat.zero_le _,rfl,rfl⟩
  case round=>
    obtain⟨n,i,f,rfl,rfl⟩:=hrel;by_cases hlt:i<l.length
    ·have g:(0:Int)≤(i:Int):=by omega
     have Q:(i:Int)<(l.length:Int):=by omega
     have R:decide ((i:Int)<(l.length:Int))=true:=dT Q;have M:decide (i<l.length)=true:=dT hlt;by_cases hle:n≤200
     ·have S:decide (n≤200)=true:=dT yz;obtain⟨b,N,rfl,Z,G⟩:=H.sl.2 yz;have F:=Sl.row (fun x _=>qe x) G hlt;have C:=hid (H.each _ (List.getElem_mem hlt));generalize l[i]=x at *;have k:w.cell? ⟨b,N+i*4+3,none⟩=some (.slice x.2.2.2.1 x.1.2.2.2.length x.2.2.2.2):=F 3 _ rfl;have O:=C.lo;unfold maxLen at O;have D:=hid C.so;have B:=hid C.ops;clear F G;generalize x.2.2.2.1=Ao at *;generalize x.2.2.2.2=co at *;generalize x.1.2.2.2=os at *
      go_upto_region 6 with fail
      go_loop [5,7] (fun t5 t7=>∃(m:Int) (j:Nat),j≤os.length∧t5=.int .i64 m∧t7=.int .i64 (j:Int)) (fun _ t7=>os.length - (intOf t7).toNat)
      case atStart=>exact⟨n,0,Nat.zero_le _,rfl,rfl⟩
      case round=>
        obtain⟨m,j,o,rfl,rfl⟩:=hrel;by_cases hlj:j<os.length
        ·have p:(0:Int)≤(j:Int):=by omega
         have T:(j:Int)<(os.length:Int):=by omega
         have U:decide ((j:Int)<(os.length:Int))=true:=dT T;have P:decide (j<os.length)=true:=dT hlj;by_cases hlm:m≤200
         ·have V:decide (m≤200)=true:=dT yz;obtain⟨W,X,rfl,a,I⟩:=D.2 yz;have J:=Sl.row (fun x Y=>kH (B.out x Y)) I hlj;have K:=hid (B.out _ (List.getElem_mem hlj));generalize os[j]=y at *;have E:=hid (kp K.out);have d:w.cell? ⟨W,X+j*70+(3+64),none⟩=some (.string y.2.2.2.1):=J 67 _ E.2.2.2.1;generalize y.2.2.2.1=t at *;clear I J;go_wp2_with fail
          go_round
          case rel=>exact⟨_,j+1,by omega,rfl,by go_num⟩
          case measure=>(simp [intOf])<;>omega
         ·have V:decide (m≤200)=false:=dF yz;go_wp2_with fail
          go_round
          case rel=>exact⟨m,i+1,by omega,rfl,by go_num⟩
          case measure=>(simp [intOf])<;>omega
        ·have U:decide ((j:Int)<(os.length:Int))=false:=dF yz;have P:decide (j<os.length)=false:=dF hlj;go_wp2_with fail
         go_round
         case rel=>exact⟨m,i+1,by omega,rfl,by go_num⟩
         case measure=>(simp [intOf])<;>omega
     ·have S:decide (n≤200)=false:=dF yz;go_wp2_with fail;go_ret;exact⟨rfl,n,rfl⟩
    ·have R:decide ((i:Int)<(l.length:Int))=false:=dF yz;have M:decide (i<l.length)=false:=dF hlt;go_wp2_with fail;go_ret;exact⟨rfl,n,rfl⟩
def ZF(x:ChM):Bool:=ZE (0,x.1,kK)
def FewIs(P:Int→Prop)(l:List ChM)(most:Nat)(b:Bool):Prop:=(b=true→l.length≤most∧(∃n,P n∧n≤200)∧l.all ZF=true)∧(b=false→l.length≤most→l.all ZF=true→∃n,P n∧200<n)
def obC0(x:ChM):List Value:=.int .u8 0::(chV x++[.slice none 0 0,.slice none 0 0,.string kM,.string kM,.int .i64 0])
theorem obj0_built(x:ChM)(w:World):(Instr.build 70 #[(1,.agg (chV x).toArray)]).run prog w=.ok (.agg (obC0 x).toArray) w:=by kernel_rfl
theorem obj0_in{w:World}{B:Nat}{x:ChM}(h:ChMIn w B x):ObjIn w B (.agg (obC0 x).toArray) (0,x.1,kK):=
  ⟨⟨h.ok,(fun x A=>by cases A),(fun x A=>by cases A),(by decide:(Lit.int .i64 0).wf=true)⟩,h.ops,h.author,(by show (0:Nat)≤maxLen;omega),(by show (0:Nat)≤maxLen;omega),x.2.1,x.2.2.1,x.2.2.2.1,x.2.2.2.2,none,0,none,0,rfl,h.sd,h.so,Sl.nil,Sl.nil⟩
theorem few15_core(P:Int→Prop)(l:List ChM)(A:Option Addr)(c most:Nat)(w:World)(h:ChsIn w w.heap.size A l)(hm:most≤1000)
    (hs:Calls prog 33 #[.slice A l.length c,.int .i64 200] w fun e w'=>w=w'∧∃n,e=.returned (.int .i64 n)∧P n):
    Calls prog 9 #[.slice A l.length c,.int .i64 (most:Int)] w fun e w'=>Below w.heap.size w w'∧∃b,e=.returned (.bool b)∧FewIs P l most b:=by
  have W:=h.len;unfold maxLen at W;have H:=hid h;have J:=hid hs
  clear h hs;by_cases h0:most<l.length
  ·have a:decide ((most:Int)<(l.length:Int))=true:=dT yz;have X:decide (most<l.length)=true:=dT h0;go_enter func9,ntmps9;go_wp2_with fail;go_ret;exact⟨qB _ _,_,rfl,⟨(fun h=>by cases h),fun _ h=>absurd h yz⟩⟩
  ·have a:decide ((most:Int)<(l.length:Int))=false:=dF yz;have X:decide (most<l.length)=false:=dF h0;clear hm;go_enter func9,ntmps9;go_wp2_with fail;go_at_call 33;refine J.mono ?_;rintro e m ⟨rfl,n,rfl,Y⟩;have K:=hid Y;clear Y;by_cases h1:200<n
   ·have d:decide ((200:Int)<n)=true:=dT h1;go_wp2_with fail;go_ret;exact⟨qB _ _,_,rfl,⟨(fun h=>by cases h),fun _ _ _=>⟨n,K.out,h1⟩⟩⟩
   ·have d:decide ((200:Int)<n)=false:=dF h1;have U:Hid (n≤200):=hid yz;clear h1
    go_upto_region 4 with fail
    go_loopw [5] (fun t5 wr=>∃i:Nat,i≤l.length∧t5=.int .i64 (i:Int)∧Hid (Below w.heap.size w wr)∧Hid ((l.take i).all ZF=true)) (fun t5 _=>l.length - (intOf t5).toNat)
    case atStart=>exact⟨0,Nat.zero_le _,rfl,hid (qB _ _),hid rfl⟩
    case round=>
      obtain⟨i,o,rfl,B,E⟩:=hrel;by_cases hlt:i<l.length
      ·have q:(0:Int)≤(i:Int):=by omega
       have r:(i:Int)<(l.length:Int):=by omega
       have L:=hid (H.keep B.out);obtain⟨b,Z,rfl,k,T⟩:=L.sl.2 yz;have S:=Sl.row (fun x _=>qe x) T hlt;have V:=hid (L.each _ (List.getElem_mem hlt));have M:=hid (all_next (p:=ZF) hlt);have N:=hid (fun h=>all_stop (p:=ZF) hlt h);generalize l[i]=x at *;have F:=hid (show wr.rangeAt b (Z+i*4) (chV x) from fun j u f=>S j u f);have G:=hid (light_any (0,x.1,kK) _ wr ((obj0_in V.out).more B.size));clear S T;cases hlx:ZF x
       ·have C:Hid (ZE (0,x.1,kK)=false):=hid hlx;have O:Hid (l.all ZF=false):=hid (N.out hlx);clear hlx
        go_wp2_with (first
          |(with_reducible refine k6 ?_
            refine j9 rfl 37 _ rfl b _ rfl (chV x) _ F.out underlying37 rfl yy ?_)
          |(with_reducible refine kJ ?_
            refine k5 yx (kj 70 _ rfl (by simp only[List.map_toArray,List.map_cons,List.map_nil];exact obj0_built x _)) ?_)
          |(go_at_call 34;refine G.mono ?_;rintro e g ⟨I,rfl⟩;rw[C.out];have D:=hid (B.trans (I.mono B.size));clear I))
        go_ret;exact⟨D.out,_,rfl,⟨(fun h=>by cases h),fun _ _ h=>by rw[O.out] at h;cases h⟩⟩
       ·have C:Hid (ZE (0,x.1,kK)=true):=hid hlx;have Q:=hid (show (l.take (i+1)).all ZF=true by rw[M.out,E.out,hlx];rfl);clear hlx
        go_wp2_with (first
          |(with_reducible refine k6 ?_
            refine j9 rfl 37 _ rfl b _ rfl (chV x) _ F.out underlying37 rfl yy ?_)
          |(with_reducible refine kJ ?_
            refine k5 yx (kj 70 _ rfl (by simp only[List.map_toArray,List.map_cons,List.map_nil];exact obj0_built x _)) ?_)
          |(go_at_call 34;refine G.mono ?_;rintro e g ⟨I,rfl⟩;rw[C.out];have D:=hid (B.trans (I.mono B.size));clear I))
        go_roundw
        case rel=>exact⟨i+1,by omega,by go_num,D,Q⟩
        case measure=>(simp [intOf])<;>omega
      ·have R:Hid (l.all ZF=true):=hid (by
         have h:=E.out;rw[List.take_of_length_le (show l.length≤i by omega)] at h;exact h)
       go_wp2_with fail;go_ret;exact⟨B.out,_,rfl,⟨(fun _=>⟨by omega,⟨n,K.out,U.out⟩,R.out⟩),fun h=>by cases h⟩⟩
theorem few15_some(l:List ChM)(A:Option Addr)(c most:Nat)(w:World)(h:ChsIn w w.heap.size A l)(hm:most≤1000):
    Calls prog 9 #[.slice A l.length c,.int .i64 (most:Int)] w fun e w'=>Below w.heap.size w w'∧∃b,e=.returned (.bool b)∧(b=true→l.length≤most∧l.all ZF=true):=
  (few15_core (fun _=>True) l A c most w h hm ((size15_some l A c w h).mono fun e w' ⟨B,n,C⟩=>⟨B,n,C,trivial⟩)).mono fun e w' ⟨B,b,C,D⟩=>⟨B,b,C,fun E=>⟨(D.1 E).1,(D.1 E).2.2⟩⟩
theorem refId_any(o:ZT)(v:Value)(w:World)(h:ObjIn w w.heap.size v o)(hl1:o.2.1.2.1.length≤1099511627776)(hl2:o.2.1.2.2.2.length≤1099511627776)(hl3:o.2.2.1.length≤1099511627776)(hl4:o.2.2.2.1.length≤1099511627776)(hone:RowKit.Hid (o.1=1)):
    Calls prog 54 #[v] w fun e w'=>e=.returned (.tuple #[.agg (idV (idD o)).toArray,.int .i64 (JL o)])∧Below w.heap.size w w':=by
  obtain⟨c0,rfl,q,r⟩:=h.ten;have O:=hid h;have G:=hid q;have A6:=hid r
  clear h q r;go_enter func54,ntmps54
  go_upto_region 1 with (first
    |(with_reducible refine kB ?_
      refine kr yx 70 _ rfl c0 (.agg (c0).toArray) rfl rfl (by rw[G.out];kernel_rfl) ?_;intro W0 s t y;have H:=hid s;have P:=hid t;have I:=hid y
      clear s t y)
    |(with_reducible refine kA ?_
      refine ks yx 41 rfl (List.replicate 32 (.int .u8 0)) yy ?_;intro f z A0 A1;have J:=hid z;have Q:=hid A0;have R:=hid A1
      clear z A0 A1))
  obtain⟨zb,g⟩:∃x,w.heap.size=x:=⟨_,rfl⟩;obtain⟨F,i⟩:∃x,W0.heap.size=x:=⟨_,rfl⟩;have A:=hid (H.trans (J.mono H.size));have C:=hid (show w.heap.size<F∧F<f.heap.size by have:=I.out;have:=R.out;omega);have S:Hid (f.heap[zb]?=some (.cells c0.toArray 70 (0,0))):=hid (by rw[←g];exact(J.block _ (by have:=I.out;omega)).trans P.out);have T:Hid (f.heap[F]?=some (.cells (List.replicate 32 (.int .u8 0)).toArray 41 (0,0))):=hid (by rw[←i];exact Q.out);rw[g,i]
  try go_frame
  clear g i P Q H J I R;by_cases hok:zk o=true∧¬262144<(J5 o).length
  ·have HR:=hid hok.1;have Z:=hid hok.2
   have D:=hid (show JL o=0 by unfold JL;rw[if_pos hok.1,if_neg hok.2]);have A5:(J5 o).length≤1099511627776:=by have:=hok.2;omega
   clear hok
   go_upto_region 4 with (first
     |(with_reducible refine k6 ?_
       refine k5 yx (kc 70 _ rfl (p:=⟨zb,0,none⟩) rfl (vf S.out G.out)) ?_)
     |(go_at_call 103;refine(UI o _ f ((O.keep A.out).more A.size) hl1 hl2 hl3 hl4 hone).mono ?_;rintro e W2 ⟨M,N⟩;unfold JT at N;rw[if_pos HR.out,if_neg Z.out] at N;obtain⟨A2,c2,rfl,A3,A4⟩:=N;have a:=hid A3;have A7:=hid A4
       clear A3 A4;have B:=hid (A.trans (M.mono A.size));have E:=hid ((M.block F C.2).trans T.out);clear M))
   go_wp2_with (first
     |(go_at_call 104;refine(refSum_any (J5 o) A2 c2 W2 a.out A5).mono ?_;rintro e W5 ⟨rfl,k⟩;have b:=hid ((k.block F (qX E.out)).trans E.out);have U:=hid (B.trans (k.mono B.size));clear k)
     |(with_reducible refine kw ?_
       refine ko yx 41 _ _ rfl F 0 [] (List.replicate 32 (.int .u8 0)) [] (idV (ZJ (J5 o))) 41 (.agg (idV (ZJ (J5 o))).toArray) rfl rfl rfl rfl (by simpa using b.out) (by rw[Zm,J0];rfl) (by rw[Zm,J0];kernel_rfl) (kV _) ?_;intro V6 W X l;have K:=hid W;have L:Hid (V6.heap[F]?=some (.cells (idV (ZJ (J5 o))).toArray 41 (0,0))):=hid (by simpa using X);clear W X l))
   have V:=hid (show (idV (ZJ (J5 o))).length=32 by rw[Zm,J0]);refine bodyPost_ret (K8 results54 _ _ rfl rfl (qV _ F 0 41 (idV (ZJ (J5 o))) _ (fun j u hj=>by rw[qZ];exact(k4 L.out j).trans hj) underlying41 rfl (by first|kernel_rfl|(rw[V.out];kernel_rfl)))) rfl ?_;exact⟨by unfold idD;rw[if_pos D.out,D.out];rfl,U.trans (K.below U.size fun kk hk e=>by have:=C.out;omega)⟩
  ·obtain⟨m,Y⟩:∃m:Int,JL o=m:=⟨_,rfl⟩;have n:m≠0:=by
     rw[←Y];unfold JL
     split
     ·split
      ·decide
      ·exact absurd ⟨‹_›,‹_›⟩ hok
     ·decide
   have D:=hid Y;have e1:(m != 0)=true:=by rw[bne_iff_ne];exact n
   have c:Hid (∀(e:Ending) (w':World),JT o e w'→e=.returned (.tuple #[.slice none 0 0,.int .i64 m])):=hid (fun e w' h=>by
     unfold JT at h;rw[←Y];unfold JL
     split at h
     ·rename_i N;rw[if_pos N]
      split at h
      ·rename_i h2;rw[if_pos h2];exact h
      ·rename_i h2;exact absurd ⟨N,h2⟩ hok
     ·rename_i N;rw[if_neg N];exact h)
   have d:=hid n;clear hok Y n
   go_wp2_with (first
     |(with_reducible refine k6 ?_
       refine k5 yx (kc 70 _ rfl (p:=⟨zb,0,none⟩) rfl (vf S.out G.out)) ?_)
     |(go_at_call 103;refine(UI o _ f ((O.keep A.out).more A.size) hl1 hl2 hl3 hl4 hone).mono ?_;rintro e W2 ⟨M,N⟩;obtain rfl:=c.out _ _ N;clear N;have B:=hid (A.trans (M.mono A.size));have E:=hid ((M.block F C.2).trans T.out);clear M)
     |(with_reducible refine kJ ?_
       refine k5 yx (kj 41 #[] rfl (id0_built _)) ?_)
     |(with_reducible refine kw ?_
       refine ko yx 41 _ _ rfl F 0 [] (List.replicate 32 (.int .u8 0)) [] (idV (List.replicate 32 0)) 41 (.agg (idV (List.replicate 32 0)).toArray) rfl rfl rfl rfl (by simpa using E.out) (by rw[Zm,List.length_replicate];rfl) (by rw[Zm,List.length_replicate];kernel_rfl) (kV _) ?_;intro V6 W X l;have K:=hid W;have L:Hid (V6.heap[F]?=some (.cells (idV (List.replicate 32 0)).toArray 41 (0,0))):=hid (by simpa using X);clear W X l))
   refine bodyPost_ret (K8 results54 _ _ rfl rfl (qV _ F 0 41 (idV (List.replicate 32 0)) _ (fun j u hj=>by rw[qZ];exact(k4 L.out j).trans hj) underlying41 rfl (by first|kernel_rfl|(rw[V.out];kernel_rfl)))) rfl ?_;exact⟨by unfold idD;rw[D.out,if_neg d.out];rfl,B.trans (K.below B.size fun kk hk e=>by have:=C.out;omega)⟩
theorem told15_any(c:kQ)(Ad:Option Addr)(cd:Nat)(Ao:Option Addr)(co:Nat)(w:World)(hok:Zt c)(hops:∀x∈c.2.2.2,KR x)(hau:c.2.2.1.size≤maxLen)(h1:Sl w w.heap.size Ad c.2.1.length 32 (zf c.2.1))(h2:Sl w w.heap.size Ao c.2.2.2.length 70 (ke opV c.2.2.2))(hl1:c.2.1.length≤1073741824)(hl2:c.2.2.2.length≤1073741824):
    Calls prog 18 #[.agg (chC c.1 Ad c.2.1.length cd c.2.2.1 Ao c.2.2.2.length co).toArray] w fun e w'=>Below w.heap.size w w'∧e=.returned (.agg (idV (idC c)).toArray):=by
  have H1:=hid h1;have H2:=hid h2;have O:=hid hok;have P:=hid hops;have Q:=hid hau
  clear h1 h2 hok hops hau;have b:(idV (idC c)).length=32:=by rw[kf];exact JH _
  have A:=hid b;clear b;go_enter func18,ntmps18
  go_upto_region 1 with (first
    |(with_reducible refine kB ?_
      refine kr yx 37 _ rfl (chC c.1 Ad c.2.1.length cd c.2.2.1 Ao c.2.2.2.length co) _ rfl rfl yy ?_;intro W0 o q r;have C:=hid o;have D:=hid q;have K:=hid r
      clear o q r)
    |(with_reducible refine kA ?_
      refine ks yx 41 rfl (idV k7) yy ?_;intro d N s t;have E:=hid N;have F:=hid s;have L:=hid t
      clear N s t))
  obtain⟨f,N⟩:∃z,w.heap.size=z:=⟨_,rfl⟩;obtain⟨J,v⟩:∃z,W0.heap.size=z:=⟨_,rfl⟩;have B:Hid (Below w.heap.size w d):=hid (C.trans (E.mono C.size));have G:=hid ((E.block w.heap.size (qX D.out)).trans D.out);rw[N] at G ⊢;rw[v] at F ⊢;have HL:=hid (show w.heap.size≤f∧f<J∧J<d.heap.size from by have:=K.out;have:=L.out;omega);clear C E K L D N v;have R:=hid (show d.rangeAt f 0 (chC c.1 Ad c.2.1.length cd c.2.2.1 Ao c.2.2.2.length co) from fun j u g=>by rw[qZ];exact(k4 G.out j).trans g);have S:=hid (refId_any (1,c,kK) _ d (vg (cd:=cd) (co:=co) O.out P.out Q.out ((H1.keep B.out).more B.size) ((H2.keep B.out).more B.size)) (by show c.2.1.length≤_;omega) (by show c.2.2.2.length≤_;omega) (by show (0:Nat)≤_;omega) (by show (0:Nat)≤_;omega) (hid rfl))
  go_wp2_with (first
    |(with_reducible refine k6 ?_
      first
      |refine k5 yx (kc 37 _ rfl (p:=⟨f,0,none⟩) rfl (qV _ f 0 _ _ _ R.out underlying37 rfl yy)) ?_
      |refine k5 yx (ldD (JH _) T.out) ?_)
    |(with_reducible refine kJ ?_
      refine k5 yx (kj 70 _ rfl (by simp only[List.map_toArray,List.map_cons,List.map_nil];exact Zz _ _ _ _ _ _ _ _ _)) ?_)
    |(go_at_call 54;refine S.mono ?_;rintro e n ⟨rfl,i⟩;have H:=hid i;have I:=hid ((i.block J (qX F.out)).trans F.out);clear i)
    |(with_reducible refine kA ?_
      refine ks yx 41 rfl (idV k7) yy ?_;intro W4 l y A3;have U:=hid l;have V:=hid y
      have M:=hid ((l.block J (qX I.out)).trans I.out);clear l y A3)
    |(with_reducible refine kw ?_
      first
      |(refine ko yx 41 _ _ rfl n.heap.size 0 [] (idV k7) [] (idV (idC c)) 41 (.agg (idV (idC c)).toArray) rfl rfl rfl rfl (by simpa using V.out) (by rw[A.out];rfl) (by rw[A.out];kernel_rfl) (kV _) ?_;intro W5 m A0 A4;have W:=hid m;have X:Hid (W5.heap[n.heap.size]?=some (.cells (idV (idC c)).toArray 41 (0,0))):=hid (by simpa using A0);have T:=hid (show W5.rangeAt n.heap.size 0 (idV (idC c)) from fun j u g=>by rw[qZ];exact(k4 X.out j).trans g);have Y:=hid ((m.block J (qX M.out) (by have:=qX I.out;omega)).trans M.out);clear m A0 A4)
      |(refine ko yx 41 _ _ rfl J 0 [] (idV k7) [] (idV (idC c)) 41 (.agg (idV (idC c)).toArray) rfl rfl rfl rfl (by simpa using Y.out) (by rw[A.out];rfl) (by rw[A.out];kernel_rfl) (kV _) ?_;intro W6 A1 A2 A5;have Z:=hid A1;have a:Hid (W6.rangeAt J 0 (idV (idC c))):=hid fun j u g=>by rw[qZ];exact(k4 A2 j).trans (by simpa using g)
        clear A1 A2 A5)))
  refine bodyPost_ret (jk results18 _ _ rfl (qV _ J 0 41 (idV (idC c)) _ a.out underlying41 rfl (by rw[A.out];kernel_rfl))) rfl ?_;have h5:But (fun k=>k=J) d W6:=((But.of_below (H.trans (U.mono H.size))).trans W.out fun k hk e=>by have e2:k=n.heap.size:=e;have:=H.size;omega).trans Z.out fun k _ e=>e
  exact⟨B.trans (h5.below B.size fun k hk e=>by have:=HL.out;omega)|> fun h=>h,rfl⟩
theorem ChMIn.more{w:World}{B B':Nat}{x:ChM}(h:ChMIn w B x)(hb:B≤B'):ChMIn w B' x:=⟨h.ok,h.ops,h.author,h.sd.more hb,h.so.more hb,h.ld,h.lo⟩
theorem infoCh15:(prog.info? 37).map (fun i=>(i.zero,i.size,i.bytes))=some (some (.agg changeZ.toArray),4,72):=by kernel_rfl
theorem idZ_built15(w:World):(Instr.build 41 #[]).run prog w=.ok (.agg (idV k7).toArray) w:=by kernel_rfl
theorem chM_told{w:World}{x:ChM}(h:ChMIn w w.heap.size x)(hl:ZF x=true):
    Calls prog 18 #[.agg (chV x).toArray] w fun e w'=>Below w.heap.size w w'∧e=.returned (.agg (idV (idC x.1)).toArray):=by
  obtain⟨A,B,_,_⟩:=QW hl;exact told15_any x.1 x.2.1 x.2.2.1 x.2.2.2.1 x.2.2.2.2 w h.ok h.ops h.author h.sd h.so (Nat.le_trans B yv) (Nat.le_trans A yv)
namespace stateNil
open Go.RowKit Go.Maps
theorem walk(x:ChM)(p:ByteArray)(w:World)(h:ChMIn w w.heap.size x)(hp:p.size≤maxLen)(hg:Glob w)(hsg:ShaG w):
    Calls prog 7 #[.agg (chV x).toArray,.string p] w fun e w'=>e=.returned (.bool true)∧Below w.heap.size w w':=by
  have H:=hid h;have i:=hid hg;have R:=hid hsg
  clear h hg hsg;have A0:(idV (idC x.1)).length=32:=by rw[kf];exact JH _
  have Ae:=hid A0;clear A0;go_enter func7,ntmps7
  go_upto_region 1 with (first
    |(with_reducible refine kB ?_
      refine kr yx 37 _ rfl (chV x) _ rfl rfl yy ?_;intro P A2 A3 A4;have S:=hid A2;have I:=hid A3;have T:=hid A4
      clear A2 A3 A4))
  obtain⟨c,A5⟩:∃z,w.heap.size=z:=⟨_,rfl⟩;have l:=hid (show c<P.heap.size from by have:=T.out;omega);rw[A5] at I ⊢;clear T A5;have m:=hid (show P.rangeAt c 0 (chV x) from fun j u hj=>by rw[qZ];exact(k4 I.out j).trans hj)
  go_wp2_with (first
    |(with_reducible refine k6 ?_
      refine k5 yx (kc 37 _ rfl (p:=⟨c,0,none⟩) rfl (qV _ c 0 _ _ _ m.out underlying37 rfl yy)) ?_)
    |(refine jJ yx 22 _ rfl 37 underlying22 (.agg changeZ.toArray) 4 72 infoCh15 rfl yv yv (chV x) rfl rfl ?_;obtain⟨g,f⟩:∃z,P.alloc (.cells (chV x).toArray 37)=z:=⟨_,rfl⟩;rw[f];have F:Hid (Below P.heap.size P g):=hid (by rw[←f];exact(qB _ _).alloc (qR _) _);have U:Hid (g.heap[P.heap.size]?=some (.cells (chV x).toArray 37 (0,0))):=hid (by rw[←f];exact heap_alloc_new _ _);clear f))
  have D:Hid (Below w.heap.size w g):=hid (S.trans (F.mono S.size));have V:Hid (ChsIn g g.heap.size (some ⟨P.heap.size,0,none⟩) [x]):=hid ⟨⟨by simp [ke,qe],fun _=>⟨P.heap.size,0,rfl,qX U.out,fun j u hj=>by
    rw[qZ];exact(k4 U.out j).trans (by simpa [ke] using hj)⟩⟩,fun y hy=>by rw[List.mem_singleton.1 hy];exact(H.keep D.out).more D.size,(by show 1≤maxLen;decide)⟩
  go_at_call 9;refine(few15_some [x] _ _ 1 g V.out yv).mono ?_;rintro e W2 ⟨A6,b,rfl,hf⟩;have J:=hid A6;have HF:=hid hf
  clear A6 hf V;have E:Hid (Below w.heap.size w W2):=hid (D.trans (J.mono D.size));cases b
  ·go_wp2_with fail;go_ret;exact⟨rfl,E.out⟩
  have o:Hid (ZF x=true):=hid (by
    have:=(HF.out rfl).2
    simpa using this)
  by_cases hlt:100<p.size
  ·have d1:decide ((100:Int)<(p.size:Int))=true:=dT yz;have Af:decide (100<p.size)=true:=dT hlt;go_wp2_with fail;go_ret;exact⟨rfl,E.out⟩
  have d1:decide ((100:Int)<(p.size:Int))=false:=dF yz;have Af:decide (100<p.size)=false:=dF hlt
  go_upto_region 7 with (first
    |(go_at_call 12;refine(blame_nil p W2).mono ?_;rintro e W3 ⟨A7,rfl⟩;have K:=hid A7;clear A7)
    |(go_at_call 25;refine(stext_nil p W3).mono ?_;rintro e W4 ⟨A8,rfl⟩;have L:=hid A8;clear A8)
    |(with_reducible refine kJ ?_
      refine k5 yx (kj 41 _ rfl (by simp only[List.map_toArray,List.map_nil];exact idZ_built15 _)) ?_)
    |(go_at_call 13;refine(change_nil k7 W4 rfl).mono ?_;rintro e W5 ⟨A9,rfl⟩;have M:=hid A9;clear A9)
    |(with_reducible refine kA ?_
      refine ks yx 37 rfl changeZ (ka0 _) ?_;intro W6 Aa Ab Ac;have W:=hid Aa;have X:=hid Ab;have Y:=hid Ac
      clear Aa Ab Ac)
    |(with_reducible refine kw ?_
      refine ko yx 37 _ _ rfl W5.heap.size 0 [] changeZ [] changeZ 37 (.agg changeZ.toArray) rfl rfl rfl rfl (by simpa using X.out) rfl yy (Q7 _ _ _ _ _ _ _ _) ?_;intro C Ad Ag Ah;have Z:=hid Ad;clear Ad Ag Ah))
  have A1:Below W5.heap.size W5 C:=W.trans (Z.below (B:=W5.heap.size) (by have:=Y.out;omega) fun k hk e=>by have e2:k=W5.heap.size:=e;omega);have d:Below W2.heap.size W2 C:=K.trans ((L.trans ((M.trans (A1.mono M.size)).mono L.size)).mono K.size);have A:Hid (Below w.heap.size w C):=hid (E.trans (d.mono E.size));have N:Hid (Below P.heap.size P C):=hid ((F.trans (J.mono F.size)).trans (d.mono (F.trans (J.mono F.size)).size));clear A1 d K L M W Z X Y;have a:=hid (show ∀u,Below C.heap.size C u→ChMIn u u.heap.size x from fun u O=>by
    have G:=A.trans (O.mono A.size);exact(H.keep G).more G.size)
  have q:=hid (show ∀u,(∃n:Wd C.heap.size C,u=n.val)→u.rangeAt c 0 (chV x) from fun u ⟨n,hn⟩ j y hj=>by
    rw[qZ,hn];exact(k4 (((N.trans (n.2.mono N.size)).block c l.out).trans I.out) j).trans hj)
  have HT:=hid (show ∀u,Below C.heap.size C u→Calls prog 18 #[.agg (chV x).toArray] u fun e w'=>Below u.heap.size u w'∧e=.returned (.agg (idV (idC x.1)).toArray) from fun u O=>chM_told (a.out u O) o.out);have HA:=hid (show ∀u,Below C.heap.size C u→Calls prog 17 #[.pointer none,.agg (idV (idC x.1)).toArray,.agg (chV x).toArray] u fun e w'=>Below u.heap.size u w'∧e=.returned (.int .i64 1) from fun u O=>add_nil (idC x.1) _ _ _ _ u (JH _));have HH:=hid (show ∀u,Below C.heap.size C u→Calls prog 26 #[.pointer none,.agg (idV (idC x.1)).toArray] u fun e w'=>Below u.heap.size u w'∧e=.returned (.bool false) from fun u O=>has_nil (idC x.1) u (JH _));have HI:=hid (show ∀u,Below C.heap.size C u→Calls prog 16 #[.pointer none] u fun e w'=>Below u.heap.size u w'∧e=.returned (.slice none 0 0) from fun u O=>(ids_nil u).mono fun e w' ⟨Q,G⟩=>⟨Q▸qB _ _,G⟩);have r:=hid (show ∀u,Below C.heap.size C u→Calls prog 21 #[.pointer none] u fun e w'=>Below u.heap.size u w'∧e=.returned (.int .i64 0) from fun u O=>(time_nil u).mono fun e w' ⟨Q,G⟩=>⟨Q▸qB _ _,G⟩);have s:=hid (show ∀u,Below C.heap.size C u→Calls prog 11 #[.pointer none] u fun e w'=>Below u.heap.size u w'∧e=.returned (.slice none 0 0) from fun u O=>(files_nil u).mono fun e w' ⟨Q,G⟩=>⟨Q▸qB _ _,G⟩);have t:=hid (show ∀u,Below C.heap.size C u→Calls prog 24 #[.pointer none] u fun e w'=>Below u.heap.size u w'∧e=.returned (.pointer none) from fun u O=>(copy_nil15 u).mono fun e w' ⟨Q,G⟩=>⟨Q▸qB _ _,G⟩);have v:=hid (show ∀u,Below C.heap.size C u→Calls prog 15 #[] u fun e w'=>Below u.heap.size u w'∧e=.returned (.bool true) from fun u O=>by
    have G:=A.trans (O.mono A.size);exact(awake15_any u (i.next G) (R.next G)).mono fun e w' ⟨Q,h3⟩=>⟨h3,Q⟩)
  clear a i R H;refine zj (base:=C.heap.size) C (qB _ _) yy yy ?_
  repeat (first
    |go_big_quiet_skip
    |(go_big_quiet_want
      first
         |(refine kR (fun w' Ai=>kc 37 _ rfl (p:=⟨c,0,none⟩) rfl (qV w' c 0 _ _ _ (q.out w' Ai) underlying37 rfl yy)) ?_
           go_big_quiet_on
           go_frame)
         |(go_big_quiet_op
           first
              |go_big_quiet_on
              |go_big_quiet_call (first
                  |(go_at_call 18;with_reducible exact Wd.call HT.out (qR _) _)
                  |(go_at_call 17;with_reducible exact Wd.call HA.out (qR _) _)
                  |(go_at_call 26;with_reducible exact Wd.call HH.out (qR _) _)
                  |(go_at_call 16;with_reducible exact Wd.call HI.out (qR _) _)
                  |(go_at_call 21;with_reducible exact Wd.call r.out (qR _) _)
                  |(go_at_call 11;with_reducible exact Wd.call s.out (qR _) _)
                  |(go_at_call 24;with_reducible exact Wd.call t.out (qR _) _)
                  |(go_at_call 15;with_reducible exact Wd.call v.out (qR _) _)))))
  refine wpQuiet_nil ?_;rintro w' ⟨kk,rfl⟩;have Aj:=kk.2;generalize kk.val=w9 at *;clear kk;go_wp2_with fail;go_ret;exact⟨rfl,A.trans (Aj.mono A.size)⟩
end stateNil
end
section
open Go.RowKit Go.ChangeShapes Go.WideShapes Go.ChangeAt
section
variable {H:Type} {enc:TypeId×Value→H} {W:World} {base:Nat} {spare:Nat→Bool} {held:Bool} {fuel:Nat} {cs:List Value} {x:DataW H×List MemPlace}
theorem trodId8(h:DataW.trod enc prog W base spare held fuel 41 cs=some x):∃l:List UInt8,jp l∧cs=idV l:=
  trod_id underlying41 underlying5 cellsU8 ZG h
theorem U3{l:List Value}{a b:Nat}:(l.drop a)=(l.drop a).take b++l.drop (a+b):=by rw[←List.drop_drop,List.take_append_drop]
theorem trodRef(h:DataW.trod enc prog W base spare held fuel 110 cs=some x):∃r:zC,za r∧cs=kn r:=by
  obtain⟨B,n,_,_,C,D,E⟩:=DataW.trod_struct underlying110 h;rw[vY] at C;have H:B.length=2:=D;have F:DataW.trod enc prog W base spare held n 41 ((cs.drop 0).take (prog.cellsOf 41))=B[0]?:=E 0 _ rfl;have G:DataW.trod enc prog W base spare held n 3 ((cs.drop 32).take (prog.cellsOf 3))=B[1]?:=E 1 _ rfl;rw[ZG,List.getElem?_eq_getElem yz] at F;rw[vQ,List.getElem?_eq_getElem yz] at G;obtain⟨l,I,J⟩:=trodId8 F;obtain⟨K,L,_,M⟩:=DataW.trod_int underlying3 G;refine⟨(l,K),⟨I,M⟩,?_⟩;have A:cs=(cs.drop 0).take 32++(cs.drop 32).take 1:=by
    rw[List.take_of_length_le (show (cs.drop 32).length≤1 by simp;omega),List.drop_zero,List.take_append_drop]
  rw[A,J,L];rfl
theorem u8_arg{n:Int}(h:(Lit.int .u8 n).wf=true):∃k:UInt8,n=(k.toNat:Int):=by
  simp only[Lit.wf,IntKind.min,IntKind.max,IntKind.signed,IntKind.bits,Bool.and_eq_true] at h;simp at h;refine⟨UInt8.ofNat n.toNat,?_⟩;rw[UInt8.toNat_ofNat_of_lt' (by show n.toNat<256;omega)];omega
theorem trodOp(h:DataW.trod enc prog W base spare held fuel 112 cs=some x):∃o:OpD,KR o∧cs=opV o:=by
  obtain⟨A,n,_,_,D,E,B⟩:=DataW.trod_struct underlying112 h;rw[show prog.cellsOf 112=70 by kernel_rfl] at D;have L:A.length=6:=E;have F:DataW.trod enc prog W base spare held n 5 ((cs.drop 0).take (prog.cellsOf 5))=A[0]?:=B 0 _ rfl;have G:DataW.trod enc prog W base spare held n 110 ((cs.drop 1).take (prog.cellsOf 110))=A[1]?:=B 1 _ rfl;have H:DataW.trod enc prog W base spare held n 110 ((cs.drop 34).take (prog.cellsOf 110))=A[2]?:=B 2 _ rfl;have I:DataW.trod enc prog W base spare held n 9 ((cs.drop 67).take (prog.cellsOf 9))=A[3]?:=B 3 _ rfl;have J:DataW.trod enc prog W base spare held n 3 ((cs.drop 68).take (prog.cellsOf 3))=A[4]?:=B 4 _ rfl;have K:DataW.trod enc prog W base spare held n 9 ((cs.drop 69).take (prog.cellsOf 9))=A[5]?:=B 5 _ rfl;rw[cellsU8,List.getElem?_eq_getElem yz] at F;rw[vY,List.getElem?_eq_getElem yz] at G;rw[vY,List.getElem?_eq_getElem yz] at H;rw[cellsStr,List.getElem?_eq_getElem yz] at I;rw[vQ,List.getElem?_eq_getElem yz] at J;rw[cellsStr,List.getElem?_eq_getElem yz] at K;obtain⟨Z,M,_,N⟩:=DataW.trod_int underlying5 F;obtain⟨d,O,P⟩:=trodRef G;obtain⟨a,Q,R⟩:=trodRef H;obtain⟨t,S,_,T⟩:=DataW.trod_string underlying9 I;obtain⟨c,U,_,V⟩:=DataW.trod_int underlying3 J;obtain⟨q,X,_,Y⟩:=DataW.trod_string underlying9 K;obtain⟨k,rfl⟩:=u8_arg N;refine⟨(k,d,a,t,c,q),⟨⟨O,Q,V⟩,T,Y⟩,?_⟩;have C:cs=(cs.drop 0).take 1++((cs.drop 1).take 33++((cs.drop 34).take 33++((cs.drop 67).take 1++((cs.drop 68).take 1++(cs.drop 69).take 1)))):=by
    rw[List.take_of_length_le (show (cs.drop 69).length≤1 by simp;omega),←U3 (a:=68) (b:=1),←U3 (a:=67) (b:=1),←U3 (a:=34) (b:=33),←U3 (a:=1) (b:=33),←U3 (a:=0) (b:=1),List.drop_zero]
  rw[C,M,P,R,S,U,X];simp [opV]
theorem trodSlice{t e:TypeId}(ht:prog.underlying t=some (.slice e))(h:DataW.trod enc prog W 0 (fun _=>true) true fuel t cs=some x):∃A n c,cs=[.slice A n c]∧DataW.Trod enc prog W 0 (fun _=>true) true t (.slice A n c) x.1 x.2:=by
  rcases Go.Deep.open_slice ht h with⟨rfl,_⟩|⟨a,B,C,m,n,D,Pl,rfl,_⟩
  ·exact⟨none,0,0,rfl,fuel,h⟩
  ·exact⟨some a,B,C,rfl,fuel,h⟩
instance:Inhabited (List UInt8):=⟨[]⟩
instance:Inhabited OpD:=⟨(0,kg,kg,kM,0,kM)⟩
theorem ids_in8{A:Option Addr}{n c:Nat}{d:DataW H}{ps:List MemPlace}(h:DataW.Trod enc prog W 0 (fun _=>true) true 34 (.slice A n c) d ps):
    ∃l:List (List UInt8),l.length=n∧n≤maxLen∧n≤c∧IdsOk l∧Sl W W.heap.size A l.length 32 (zf l):=by
  obtain⟨l,C,D,E,F,G⟩:=open_rows (ok:=jp) (enc:=idV) underlying34 ZG yv (fun x B=>by rw[kf];exact B) (fun n I x B=>trodId8 B) h;exact⟨l,C,D,E,F,by unfold zf;exact G⟩
theorem ops_in8{A:Option Addr}{n c:Nat}{d:DataW H}{ps:List MemPlace}(h:DataW.Trod enc prog W 0 (fun _=>true) true 35 (.slice A n c) d ps):
    ∃l:List OpD,l.length=n∧n≤maxLen∧n≤c∧(∀x∈l,KR x)∧Sl W W.heap.size A l.length 70 (ke opV l):=by
  obtain⟨l,C,D,E,F,G⟩:=open_rows (ok:=KR) (enc:=opV) underlying35 (show prog.cellsOf 112=70 by kernel_rfl) yv (fun x B=>kH B) (fun n I x B=>trodOp B) h;exact⟨l,C,D,E,F,G⟩
end
theorem change_arg{H:Type}{enc:TypeId×Value→H}{W:World}{r:Reach}{b0:Nat}{v:Value}{d:DataW H}{ps:List MemPlace}(hv:Value.okWide prog W r b0 37 v)
    (h:DataW.Trod enc prog W 0 (fun _=>true) true 37 v d ps):∃x:ChM,ChMIn W W.heap.size x∧v=.agg (chV x).toArray:=by
  obtain⟨R,rfl,_⟩:=okWide_struct underlying37 hv;obtain⟨G,S⟩:=h;obtain⟨A,F⟩:∃A,R.toList=A:=⟨_,rfl⟩;have T:DataW.trod enc prog W 0 (fun _=>true) true G 37 A=some (d,ps):=by rw[←F];exact S
  obtain⟨C,D,_,_,E,I,B⟩:=DataW.trod_struct underlying37 T;rw[(show prog.cellsOf 37=4 by kernel_rfl)] at E;have Q:C.length=4:=I;have b0:DataW.trod enc prog W 0 (fun _=>true) true D 3 ((A.drop 0).take (prog.cellsOf 3))=C[0]?:=B 0 _ rfl;have J:DataW.trod enc prog W 0 (fun _=>true) true D 34 ((A.drop 1).take (prog.cellsOf 34))=C[1]?:=B 1 _ rfl;have K:DataW.trod enc prog W 0 (fun _=>true) true D 9 ((A.drop 2).take (prog.cellsOf 9))=C[2]?:=B 2 _ rfl;have L:DataW.trod enc prog W 0 (fun _=>true) true D 35 ((A.drop 3).take (prog.cellsOf 35))=C[3]?:=B 3 _ rfl;rw[vQ,List.getElem?_eq_getElem yz] at b0;rw[(show prog.cellsOf 34=1 by kernel_rfl),List.getElem?_eq_getElem yz] at J;rw[cellsStr,List.getElem?_eq_getElem yz] at K;rw[(show prog.cellsOf 35=1 by kernel_rfl),List.getElem?_eq_getElem yz] at L;obtain⟨U,V,_,X⟩:=DataW.trod_int underlying3 b0;obtain⟨Y,w,Z,c,e⟩:=trodSlice underlying34 J;obtain⟨f,g,_,M⟩:=DataW.trod_string underlying9 K;obtain⟨i,y,j,k,l⟩:=trodSlice underlying35 L;obtain⟨m,rfl,n,z,o,p⟩:=ids_in8 e;obtain⟨q,rfl,s,k2,N,t⟩:=ops_in8 l;have O:A=(A.drop 0).take 1++((A.drop 1).take 1++((A.drop 2).take 1++(A.drop 3).take 1)):=by
    rw[List.take_of_length_le (show (A.drop 3).length≤1 by simp;omega),←U3 (a:=2) (b:=1),←U3 (a:=1) (b:=1),←U3 (a:=0) (b:=1),List.drop_zero]
  rw[V,c,g,k,←F] at O;refine⟨((U,m,f,q),(Y,Z,i,j)),⟨⟨X,o,fun x u=>(N x u).1⟩,N,M,p,t,n,s⟩,?_⟩;have P:=congrArg List.toArray O;rw[Array.toArray_toList] at P;exact congrArg Value.agg P
def chData(H:Type):DataW H:=.agg [.lit (.int .i64 0),.nil,.lit (.string []),.nil]
def chZ15:List Value:=chC 0 none 0 0 kM none 0 0
end
end Go.Proofs.YtdgbjhfkmembdaaGreatDoor