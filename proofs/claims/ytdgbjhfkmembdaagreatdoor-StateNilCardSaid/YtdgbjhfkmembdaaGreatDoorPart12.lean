/-
  Plain facts, and contracts of the functions that the claim's walk comes to, one behind the other. Conditions: as each says.
-/
import Derived.Test.YtdgbjhfkmembdaaGreatDoorPart4
import Derived.Test.YtdgbjhfkmembdaaGreatDoorPart7
import Derived.Test.YtdgbjhfkmembdaaGreatDoorPart11
import Derived.Test.YtdgbjhfkmembdaaGreatDoorPart10
import Derived.Test.YtdgbjhfkmembdaaGreatDoorPart6
import Derived.Defers
import Derived.Recover
import Derived.Test.YtdgbjhfkmembdaaGreatDoorPart5
set_option linter.unusedVariables false
set_option linter.unusedSimpArgs false
set_option maxHeartbeats 4000000
set_option maxRecDepth 100000
open Go.Proofs.Tryz
namespace Go.Proofs.YtdgbjhfkmembdaaGreatDoor
section
open Go.RowKit Go.Maps
open Lib (hid)
theorem madeL_ok{l:List OpD}(h:∀x∈l,KR x):∀m∈zZ l,vM m:=by
  intro m A;unfold zZ at A;obtain⟨x,B,A⟩:=List.mem_flatMap.1 A;unfold zL at A
  split at A
  ·rw[List.mem_singleton.1 A];exact kI
  ·split at A
   ·rw[List.eq_of_mem_replicate A];exact(h x B).1.1
   ·cases A
theorem rightChange_any(c:kQ)(v:Value)(B:Nat)(w:World)(h:ChIn w B v c)(hB:B≤w.heap.size)(hl1:c.2.1.length≤1099511627776)(hl2:c.2.2.2.length≤1099511627776)(hg:Glob w):Calls prog 189 #[v] w fun e w'=>Below w.heap.size w w'∧e=.returned (.bool (j6 c)):=by
  obtain⟨ho,Aw,ha,Ad,X,Ao,co,rfl,sd,so⟩:=h;obtain⟨n,J,a,E⟩:=c;have d:=hid ho;have s:=hid sd;have Aa:=hid so;have A0:=hid Aw;have HG:=hid hg
  replace hd:J.length≤1099511627776:=hl1
  replace hl:E.length≤1099511627776:=hl2
  replace ha:a.size≤maxLen:=ha
  clear ho sd so Aw hg hl1 hl2;dsimp only at d s Aa A0 ⊢;by_cases h0:n<1
  ·have d0:decide (n<1)=true:=dT yz;have P:Hid (j6 (n,J,a,E)=false):=hid (by unfold j6;dsimp only;rw[dF (show ¬(1:Int)≤n by omega)];simp);clear h0;go_enter func189,ntmps189
   go_upto_region 1 with (first
     |(with_reducible refine kB ?_
       refine kr yx 37 _ rfl [.int .i64 n,.slice Ad J.length X,.string a,.slice Ao E.length co] _ rfl rfl yy ?_;intro I N O Y;have K:=hid N;have A:=hid O
       clear N O Y;go_frame))
   have G:w.heap.size<I.heap.size:=(qX A.out)
   have H:=hid (fun (u:World) (hu:Below I.heap.size I u)=>(show u.cell? ⟨w.heap.size,0,none⟩=some (.int .i64 n)∧u.cell? ⟨w.heap.size,1,none⟩=some (.slice Ad J.length X)∧u.cell? ⟨w.heap.size,2,none⟩=some (.string a)∧u.cell? ⟨w.heap.size,3,none⟩=some (.slice Ao E.length co) from
     ⟨(hu.cell (p:=⟨w.heap.size,0,none⟩) G).trans (k4 A.out 0),(hu.cell (p:=⟨w.heap.size,1,none⟩) G).trans (k4 A.out 1),(hu.cell (p:=⟨w.heap.size,2,none⟩) G).trans (k4 A.out 2),(hu.cell (p:=⟨w.heap.size,3,none⟩) G).trans (k4 A.out 3)⟩))
   have D:=hid (qB I.heap.size I);obtain⟨T,U,V,W⟩:=H.out _ D.out;have C:=K;go_wp2_with fail;go_ret;exact⟨C.out,by rw[P.out];rfl⟩
  by_cases h1:1099511627776<n
  ·have d0:decide (n<1)=false:=dF yz;have d1:decide (1099511627776<n)=true:=dT yz;have P:Hid (j6 (n,J,a,E)=false):=hid (by unfold j6;dsimp only;rw[dT (show (1:Int)≤n by omega),dF (show ¬n≤1099511627776 by omega)];simp);clear h0 h1;go_enter func189,ntmps189
   go_upto_region 1 with (first
     |(with_reducible refine kB ?_
       refine kr yx 37 _ rfl [.int .i64 n,.slice Ad J.length X,.string a,.slice Ao E.length co] _ rfl rfl yy ?_;intro I N O Y;have K:=hid N;have A:=hid O
       clear N O Y;go_frame))
   have G:w.heap.size<I.heap.size:=(qX A.out)
   have H:=hid (fun (u:World) (hu:Below I.heap.size I u)=>(show u.cell? ⟨w.heap.size,0,none⟩=some (.int .i64 n)∧u.cell? ⟨w.heap.size,1,none⟩=some (.slice Ad J.length X)∧u.cell? ⟨w.heap.size,2,none⟩=some (.string a)∧u.cell? ⟨w.heap.size,3,none⟩=some (.slice Ao E.length co) from
     ⟨(hu.cell (p:=⟨w.heap.size,0,none⟩) G).trans (k4 A.out 0),(hu.cell (p:=⟨w.heap.size,1,none⟩) G).trans (k4 A.out 1),(hu.cell (p:=⟨w.heap.size,2,none⟩) G).trans (k4 A.out 2),(hu.cell (p:=⟨w.heap.size,3,none⟩) G).trans (k4 A.out 3)⟩))
   have D:=hid (qB I.heap.size I);obtain⟨T,U,V,W⟩:=H.out _ D.out;have C:=K;go_wp2_with fail;go_ret;exact⟨C.out,by rw[P.out];rfl⟩
  rcases Bool.eq_false_or_eq_true (ZU J 4096) with r|r
  rotate_left
  ·have d0:decide (n<1)=false:=dF yz;have d1:decide (1099511627776<n)=false:=dF yz;have P:Hid (j6 (n,J,a,E)=false):=hid (by unfold j6;dsimp only;rw[dT (show (1:Int)≤n by omega),dT (show n≤1099511627776 by omega),r];simp);have Z:=hid r;clear r;clear h0 h1;go_enter func189,ntmps189
   go_upto_region 1 with (first
     |(with_reducible refine kB ?_
       refine kr yx 37 _ rfl [.int .i64 n,.slice Ad J.length X,.string a,.slice Ao E.length co] _ rfl rfl yy ?_;intro I N O Y;have K:=hid N;have A:=hid O
       clear N O Y;go_frame))
   have G:w.heap.size<I.heap.size:=(qX A.out)
   have H:=hid (fun (u:World) (hu:Below I.heap.size I u)=>(show u.cell? ⟨w.heap.size,0,none⟩=some (.int .i64 n)∧u.cell? ⟨w.heap.size,1,none⟩=some (.slice Ad J.length X)∧u.cell? ⟨w.heap.size,2,none⟩=some (.string a)∧u.cell? ⟨w.heap.size,3,none⟩=some (.slice Ao E.length co) from
     ⟨(hu.cell (p:=⟨w.heap.size,0,none⟩) G).trans (k4 A.out 0),(hu.cell (p:=⟨w.heap.size,1,none⟩) G).trans (k4 A.out 1),(hu.cell (p:=⟨w.heap.size,2,none⟩) G).trans (k4 A.out 2),(hu.cell (p:=⟨w.heap.size,3,none⟩) G).trans (k4 A.out 3)⟩))
   have D:=hid (qB I.heap.size I);obtain⟨T,U,V,W⟩:=H.out _ D.out;have C:=K;go_wp2_with fail;refine(qH J Ad X 4096 I hd yv d.2.1 ((s.keep (C.mono hB)).more (qT hB C.size))).mono ?_;rintro e W1 ⟨M,rfl⟩;rw[Z.out];have F:=hid (D.trans (M.mono D.size));have L:=hid (C.trans (M.mono C.size));clear M T U V W;obtain⟨T,U,V,W⟩:=H.out _ F.out;go_wp2_with fail;go_ret;exact⟨L.out,by rw[P.out];rfl⟩
  rcases Bool.eq_false_or_eq_true (zK a) with h3|h3
  rotate_left
  ·have d0:decide (n<1)=false:=dF yz;have d1:decide (1099511627776<n)=false:=dF yz;have P:Hid (j6 (n,J,a,E)=false):=hid (by unfold j6;dsimp only;rw[dT (show (1:Int)≤n by omega),dT (show n≤1099511627776 by omega),r,h3];simp);have Z:=hid r;clear r;have t:=hid h3;clear h3;clear h0 h1;go_enter func189,ntmps189
   go_upto_region 1 with (first
     |(with_reducible refine kB ?_
       refine kr yx 37 _ rfl [.int .i64 n,.slice Ad J.length X,.string a,.slice Ao E.length co] _ rfl rfl yy ?_;intro I N O Y;have K:=hid N;have A:=hid O
       clear N O Y;go_frame))
   have G:w.heap.size<I.heap.size:=(qX A.out)
   have H:=hid (fun (u:World) (hu:Below I.heap.size I u)=>(show u.cell? ⟨w.heap.size,0,none⟩=some (.int .i64 n)∧u.cell? ⟨w.heap.size,1,none⟩=some (.slice Ad J.length X)∧u.cell? ⟨w.heap.size,2,none⟩=some (.string a)∧u.cell? ⟨w.heap.size,3,none⟩=some (.slice Ao E.length co) from
     ⟨(hu.cell (p:=⟨w.heap.size,0,none⟩) G).trans (k4 A.out 0),(hu.cell (p:=⟨w.heap.size,1,none⟩) G).trans (k4 A.out 1),(hu.cell (p:=⟨w.heap.size,2,none⟩) G).trans (k4 A.out 2),(hu.cell (p:=⟨w.heap.size,3,none⟩) G).trans (k4 A.out 3)⟩))
   have D:=hid (qB I.heap.size I);obtain⟨T,U,V,W⟩:=H.out _ D.out;have C:=K;go_wp2_with fail;refine(qH J Ad X 4096 I hd yv d.2.1 ((s.keep (C.mono hB)).more (qT hB C.size))).mono ?_;rintro e W1 ⟨M,rfl⟩;rw[Z.out];have F:=hid (D.trans (M.mono D.size));have L:=hid (C.trans (M.mono C.size));clear M T U V W;obtain⟨T,U,V,W⟩:=H.out _ F.out;go_wp2_with fail;refine(uj a W1 ha).mono ?_;rintro e W2 ⟨M,rfl⟩;rw[t.out];have Q:=hid (F.trans (M.mono F.size));have S:=hid (L.trans (M.mono L.size));clear M T U V W;obtain⟨T,U,V,W⟩:=H.out _ Q.out;go_wp2_with fail;go_ret;exact⟨S.out,by rw[P.out];rfl⟩
  by_cases h4:E.length<1
  ·have d0:decide (n<1)=false:=dF yz;have d1:decide (1099511627776<n)=false:=dF yz;have d4:decide ((E.length:Int)<1)=true:=dT yz;have Ax:decide (E.length<1)=true:=dT yz;have P:Hid (j6 (n,J,a,E)=false):=hid (by unfold j6;dsimp only;rw[dT (show (1:Int)≤n by omega),dT (show n≤1099511627776 by omega),r,h3,dF (show ¬1≤E.length by omega)];simp);have Z:=hid r;clear r;have t:=hid h3;clear h3;clear h0 h1 h4;go_enter func189,ntmps189
   go_upto_region 1 with (first
     |(with_reducible refine kB ?_
       refine kr yx 37 _ rfl [.int .i64 n,.slice Ad J.length X,.string a,.slice Ao E.length co] _ rfl rfl yy ?_;intro I N O Y;have K:=hid N;have A:=hid O
       clear N O Y;go_frame))
   have G:w.heap.size<I.heap.size:=(qX A.out)
   have H:=hid (fun (u:World) (hu:Below I.heap.size I u)=>(show u.cell? ⟨w.heap.size,0,none⟩=some (.int .i64 n)∧u.cell? ⟨w.heap.size,1,none⟩=some (.slice Ad J.length X)∧u.cell? ⟨w.heap.size,2,none⟩=some (.string a)∧u.cell? ⟨w.heap.size,3,none⟩=some (.slice Ao E.length co) from
     ⟨(hu.cell (p:=⟨w.heap.size,0,none⟩) G).trans (k4 A.out 0),(hu.cell (p:=⟨w.heap.size,1,none⟩) G).trans (k4 A.out 1),(hu.cell (p:=⟨w.heap.size,2,none⟩) G).trans (k4 A.out 2),(hu.cell (p:=⟨w.heap.size,3,none⟩) G).trans (k4 A.out 3)⟩))
   have D:=hid (qB I.heap.size I);obtain⟨T,U,V,W⟩:=H.out _ D.out;have C:=K;go_wp2_with fail;refine(qH J Ad X 4096 I hd yv d.2.1 ((s.keep (C.mono hB)).more (qT hB C.size))).mono ?_;rintro e W1 ⟨M,rfl⟩;rw[Z.out];have F:=hid (D.trans (M.mono D.size));have L:=hid (C.trans (M.mono C.size));clear M T U V W;obtain⟨T,U,V,W⟩:=H.out _ F.out;go_wp2_with fail;refine(uj a W1 ha).mono ?_;rintro e W2 ⟨M,rfl⟩;rw[t.out];have Q:=hid (F.trans (M.mono F.size));have S:=hid (L.trans (M.mono L.size));clear M T U V W;obtain⟨T,U,V,W⟩:=H.out _ Q.out;go_wp2_with fail;go_ret;exact⟨S.out,by rw[P.out];rfl⟩
  by_cases h5:4096<E.length
  ·have d0:decide (n<1)=false:=dF yz;have d1:decide (1099511627776<n)=false:=dF yz;have d4:decide ((E.length:Int)<1)=false:=dF yz;have Ax:decide (E.length<1)=false:=dF yz;have d5:decide (4096<(E.length:Int))=true:=dT yz;have AH:decide (4096<E.length)=true:=dT yz;have P:Hid (j6 (n,J,a,E)=false):=hid (by unfold j6;dsimp only;rw[dT (show (1:Int)≤n by omega),dT (show n≤1099511627776 by omega),r,h3,dT (show 1≤E.length by omega),dF (show ¬E.length≤4096 by omega)];simp);have Z:=hid r;clear r;have t:=hid h3;clear h3;clear h0 h1 h4;clear h5;go_enter func189,ntmps189
   go_upto_region 1 with (first
     |(with_reducible refine kB ?_
       refine kr yx 37 _ rfl [.int .i64 n,.slice Ad J.length X,.string a,.slice Ao E.length co] _ rfl rfl yy ?_;intro I N O Y;have K:=hid N;have A:=hid O
       clear N O Y;go_frame))
   have G:w.heap.size<I.heap.size:=(qX A.out)
   have H:=hid (fun (u:World) (hu:Below I.heap.size I u)=>(show u.cell? ⟨w.heap.size,0,none⟩=some (.int .i64 n)∧u.cell? ⟨w.heap.size,1,none⟩=some (.slice Ad J.length X)∧u.cell? ⟨w.heap.size,2,none⟩=some (.string a)∧u.cell? ⟨w.heap.size,3,none⟩=some (.slice Ao E.length co) from
     ⟨(hu.cell (p:=⟨w.heap.size,0,none⟩) G).trans (k4 A.out 0),(hu.cell (p:=⟨w.heap.size,1,none⟩) G).trans (k4 A.out 1),(hu.cell (p:=⟨w.heap.size,2,none⟩) G).trans (k4 A.out 2),(hu.cell (p:=⟨w.heap.size,3,none⟩) G).trans (k4 A.out 3)⟩))
   have D:=hid (qB I.heap.size I);obtain⟨T,U,V,W⟩:=H.out _ D.out;have C:=K;go_wp2_with fail;refine(qH J Ad X 4096 I hd yv d.2.1 ((s.keep (C.mono hB)).more (qT hB C.size))).mono ?_;rintro e W1 ⟨M,rfl⟩;rw[Z.out];have F:=hid (D.trans (M.mono D.size));have L:=hid (C.trans (M.mono C.size));clear M T U V W;obtain⟨T,U,V,W⟩:=H.out _ F.out;go_wp2_with fail;refine(uj a W1 ha).mono ?_;rintro e W2 ⟨M,rfl⟩;rw[t.out];have Q:=hid (F.trans (M.mono F.size));have S:=hid (L.trans (M.mono L.size));clear M T U V W;obtain⟨T,U,V,W⟩:=H.out _ Q.out;go_wp2_with fail;go_ret;exact⟨S.out,by rw[P.out];rfl⟩
  replace h5:E.length≤4096:=by omega
  have d0:decide (n<1)=false:=dF yz;have d1:decide (1099511627776<n)=false:=dF yz;have d4:decide ((E.length:Int)<1)=false:=dF yz;have Ax:decide (E.length<1)=false:=dF yz;have d5:decide (4096<(E.length:Int))=false:=dF yz;have AH:decide (4096<E.length)=false:=dF yz;have P:Hid (j6 (n,J,a,E)=Zr J [] E):=hid (by unfold j6;dsimp only;rw[dT (show (1:Int)≤n by omega),dT (show n≤1099511627776 by omega),r,h3,dT (show 1≤E.length by omega),dT (show E.length≤4096 by omega)];rfl);have Z:=hid r;clear r;have t:=hid h3;clear h3;clear h0 h1 h4;have AI:E.length≤4096:=h5;clear h5;go_enter func189,ntmps189
  go_upto_region 1 with (first
    |(with_reducible refine kB ?_
      refine kr yx 37 _ rfl [.int .i64 n,.slice Ad J.length X,.string a,.slice Ao E.length co] _ rfl rfl yy ?_;intro I N O Y;have K:=hid N;have A:=hid O
      clear N O Y;go_frame))
  have G:w.heap.size<I.heap.size:=(qX A.out)
  have H:=hid (fun (u:World) (hu:Below I.heap.size I u)=>(show u.cell? ⟨w.heap.size,0,none⟩=some (.int .i64 n)∧u.cell? ⟨w.heap.size,1,none⟩=some (.slice Ad J.length X)∧u.cell? ⟨w.heap.size,2,none⟩=some (.string a)∧u.cell? ⟨w.heap.size,3,none⟩=some (.slice Ao E.length co) from
    ⟨(hu.cell (p:=⟨w.heap.size,0,none⟩) G).trans (k4 A.out 0),(hu.cell (p:=⟨w.heap.size,1,none⟩) G).trans (k4 A.out 1),(hu.cell (p:=⟨w.heap.size,2,none⟩) G).trans (k4 A.out 2),(hu.cell (p:=⟨w.heap.size,3,none⟩) G).trans (k4 A.out 3)⟩))
  have D:=hid (qB I.heap.size I);obtain⟨T,U,V,W⟩:=H.out _ D.out;have C:=K;go_wp2_with fail;refine(qH J Ad X 4096 I hd yv d.2.1 ((s.keep (C.mono hB)).more (qT hB C.size))).mono ?_;rintro e W1 ⟨M,rfl⟩;rw[Z.out];have F:=hid (D.trans (M.mono D.size));have L:=hid (C.trans (M.mono C.size));clear M T U V W;obtain⟨T,U,V,W⟩:=H.out _ F.out;go_wp2_with fail;refine(uj a W1 ha).mono ?_;rintro e W2 ⟨M,rfl⟩;rw[t.out];have Q:=hid (F.trans (M.mono F.size));have S:=hid (L.trans (M.mono L.size));clear M T U V W;obtain⟨T,U,V,W⟩:=H.out _ Q.out
  go_upto_region 4 with (first
    |(with_reducible refine kJ ?_
      refine k5 yx (kj 349 _ rfl (by kernel_rfl:(Instr.build 349 #[(0,.slice Ad J.length X)]).run prog _=.ok (.agg #[.slice Ad J.length X,.slice none 0 0]) _)) ?_)
    |(with_reducible refine kB ?_
      refine kr yx 349 _ rfl [.slice Ad J.length X,.slice none 0 0] _ rfl rfl yy ?_;intro W4 Ay Az AJ;have A2:=hid Ay;have A3:=hid Az
      clear Ay Az AJ;go_frame))
  have AK:W2.heap.size<W4.heap.size:=(qX A3.out);obtain⟨T,U,V,W⟩:=H.out _ (Q.trans (A2.mono Q.size));have A8:w.heap.size≤W2.heap.size:=S.size;obtain⟨g,AA⟩:∃g,W2.heap.size=g:=⟨_,rfl⟩;rw[AA] at A3 AK A2 A8;have m:Hid (Below w.heap.size w W4):=hid (S.trans (A2.mono A8));have Am:=hid (HG.next m.out);have Ai:Hid (CkAt W4 g J []):=hid ⟨Ad,X,_,A3.out,(s.keep (m.mono hB)).more (qT hB A8),World.ownsRow_nil _ _ _ _⟩;have Aj:Hid (Sl W4 g Ao E.length 70 (ke opV E)):=hid ((Aa.keep (m.mono hB)).more (qT hB A8))
  try rw[AA]
  go_wp2_with fail
  go_loopw [45] (fun v wr=>∃i:Nat,i≤E.length∧v=.int .i64 (i:Int)∧Hid (Zr J [] (E.take i)=true)∧Hid (CkAt wr g J (zZ (E.take i)))∧Hid (Below g W4 wr)) (fun v _=>E.length - (intOf v).toNat)
  case atStart=>exact⟨0,Nat.zero_le _,rfl,hid rfl,Ai,hid (qB _ _)⟩
  case round=>
    obtain⟨i,hi,rfl,A4,o,q⟩:=hrel;by_cases hlt:i<E.length
    ·obtain⟨b,AO,rfl,AL,AB⟩:=(Aj.keep q.out).2 yz;have i0:(0:Int)≤(i:Int):=by omega
     have i1:(i:Int)<(E.length:Int):=by omega
     have Ak:=hid (Sl.row (fun x hx=>kH (A0.out x hx)) AB hlt);have z:=hid (A0.out _ (List.getElem_mem hlt));have Ab:=hid (Qt (deps:=J) hlt);have Ac:=hid (fun h=>opsB_stop (deps:=J) hlt h);have Ae:=hid (madeL_next hlt);have AM:(E.take i).length≤4096:=qT (by rw[List.length_take];exact Nat.min_le_left _ _) (qT hi AI);have Au:(zZ (E.take i)).length≤1000000000:=qT (Qu A4.out) yz;clear AM;have A5:=hid (madeL_ok (l:=E.take i) (fun x hx=>A0.out x (List.mem_of_mem_take hx)));have Af:=hid (Am.keep q.out (qL HG.lt A8));clear AB AL;generalize E[i]=x at *;obtain⟨mi,Av⟩:∃mi,zZ (E.take i)=mi:=⟨_,rfl⟩;rw[Av] at o Ab Ac Ae Au A5;clear Av
     go_upto_region 7 with (first
       |(with_reducible refine k6 ?_
         refine j9 rfl 112 _ rfl b _ rfl (opV x) _ Ak.out underlying112 rfl (by rw[kH z.out];exact Kg) ?_)
       |(with_reducible refine kA ?_
         refine ks yx 112 rfl (opV UX) (UY _) ?_;intro W6 AC AD AE;have An:=hid AC;have Ap:=hid AD;have Aq:=hid AE
         clear AC AD AE)
       |(with_reducible refine kw ?_
         refine ko yx 112 _ _ rfl wr.heap.size 0 [] (opV UX) [] (opV x) 112 _ rfl rfl rfl rfl (by simpa using Ap.out) (by rw[kH z.out];exact kH (Qr 0)) (by rw[kH z.out];exact Kg) (Ud _) ?_;intro W7 AF AG AN;have Ar:=hid AF;have Ag:Hid (W7.heap[wr.heap.size]?=some (.cells (opV x).toArray 112 (0,0))):=hid (by simpa using AG);clear AF AG AN))
     have R:Hid (Below wr.heap.size wr W7):=hid (An.trans (Ar.below (by have:=Aq.out;omega) (fun k hk e=>by omega)));rcases Bool.eq_false_or_eq_true (opB J mi x) with A9|A9
     ·have A1:=hid A9;have As:Hid (Zr J [] (E.take (i+1))=true):=hid (by rw[Ab.out,A4.out,A9];rfl);clear A9
      go_wp2_with (first
        |(with_reducible refine k6 ?_
          refine k5 yx (ldO (b:=wr.heap.size) (f:=0) (y:=x) z.out (fun j u hj=>by rw[qZ];exact(k4 Ag.out j).trans hj)) ?_)
        |(go_at_call 227;refine(ckop_any g J mi x W7 (o.keep R.out) d.2.1 hd Au A5.out z.out (Af.next R.out)).mono ?_;rintro e W8 ⟨Ah,rfl,Al⟩;rw[A1.out];have A6:=hid (q.trans ((zw (Nat.le_of_lt o.lt) R.out).trans Ah));have At:=hid (Al A1.out);clear Ah Al))
      go_roundw
      case rel=>exact⟨i+1,by omega,by go_num,As,hid (by rw[Ae.out];exact At.out),A6⟩
      case measure=>(simp [intOf])<;>omega
     ·have A1:=hid A9;have A7:Hid (j6 (n,J,a,E)=false):=hid (by rw[P.out];exact Ac.out A9);clear A9
      go_wp2_with (first
        |(with_reducible refine k6 ?_
          refine k5 yx (ldO (b:=wr.heap.size) (f:=0) (y:=x) z.out (fun j u hj=>by rw[qZ];exact(k4 Ag.out j).trans hj)) ?_)
        |(go_at_call 227;refine(ckop_any g J mi x W7 (o.keep R.out) d.2.1 hd Au A5.out z.out (Af.next R.out)).mono ?_;rintro e W8 ⟨Ah,rfl,Al⟩;rw[A1.out];have A6:=hid (q.trans ((zw (Nat.le_of_lt o.lt) R.out).trans Ah));clear Ah Al))
      go_ret;exact⟨m.trans (A6.mono A8),by rw[A7.out];rfl⟩
    ·have A7:Hid (j6 (n,J,a,E)=true):=hid (by rw[P.out,←A4.out,List.take_of_length_le yz]);go_wp2_with fail;go_ret;exact⟨m.trans (q.mono A8),by rw[A7.out];rfl⟩
theorem mid1{v0 v1 v2 v3 v4 v5 v6 v7 v8 v9:Value}{j:Nat}{y:Value}(h:[v1,v2,v3,v4][j]?=some y):[v0,v1,v2,v3,v4,v5,v6,v7,v8,v9][1+j]?=some y:=by
  rcases j with _ | _ | _ | _ |j<;>simp_all
theorem mid5{v0 v1 v2 v3 v4 v5 v6 v7 v8 v9:Value}{j:Nat}{y:Value}(h:[v5,v6,v7,v8,v9][j]?=some y):[v0,v1,v2,v3,v4,v5,v6,v7,v8,v9][5+j]?=some y:=by
  rcases j with _ | _ | _ | _ | _ |j<;>simp_all
theorem right_any(o:ZT)(v:Value)(B:Nat)(w:World)(h:ObjIn w B v o)(hB:B≤w.heap.size)(hl1:o.2.1.2.1.length≤1099511627776)(hl2:o.2.1.2.2.2.length≤1099511627776)(hl3:o.2.2.1.length≤1099511627776)(hl4:o.2.2.2.1.length≤1099511627776)(hg:Glob w)(hone:RowKit.Hid (o.1=1)):Calls prog 148 #[v] w fun e w'=>Below w.heap.size w w'∧e=.returned (.bool (zk o)):=by
  obtain⟨q,g,z,i,hm,Ad,Y,Ao,Z,Ap,S,Ac,T,rfl,sd,so,sp,sc⟩:=h;obtain⟨k,⟨n,H,a,I⟩,⟨p,s,G,m,x⟩⟩:=o;dsimp only at *;have c:Hid (ChIn w B (.agg [.int .i64 n,.slice Ad H.length Y,.string a,.slice Ao I.length Z].toArray) (n,H,a,I)):=hid ⟨q.1,g,z,Ad,Y,Ao,Z,rfl,sd,so⟩;have Q:Hid (CmIn w B (.agg [.slice Ap p.length S,.slice Ac s.length T,.string G,.string m,.int .i64 x].toArray) (p,s,G,m,x)):=hid ⟨q.2,i,hm,Ap,S,Ac,T,rfl,sp,sc⟩;have h1:H.length≤1099511627776:=hl1;have h2:I.length≤1099511627776:=hl2;have h3:p.length≤1099511627776:=hl3;have h4:s.length≤1099511627776:=hl4;have l:=hid hg;clear q g z i hm sd so sp sc hl1 hl2 hl3 hl4 hg;by_cases hk1:k=1
  ·subst hk1;have L:Hid (zk (1,(n,H,a,I),(p,s,G,m,x))=(jz (p,s,G,m,x) && j6 (n,H,a,I))):=hid rfl;rcases Bool.eq_false_or_eq_true (jz (p,s,G,m,x)) with K|K
   rotate_left
   ·have P:Hid (zk (1,(n,H,a,I),(p,s,G,m,x))=false):=hid (by rw[L.out,K];rfl);have r:=hid K;clear K;go_enter func148,ntmps148
    go_upto_region 1 with (first
      |(with_reducible refine kB ?_
        refine kr yx 70 _ rfl [.int .u8 1,.int .i64 n,.slice Ad H.length Y,.string a,.slice Ao I.length Z,.slice Ap p.length S,.slice Ac s.length T,.string G,.string m,.int .i64 x] _ rfl rfl yy ?_;intro F U V f;have M:=hid U;have A:=hid V
        clear U V f;go_frame))
    have W:w.heap.size<F.heap.size:=(qX A.out);have b0:F.cell? ⟨w.heap.size,0,none⟩=some (.int .u8 1):=k4 A.out 0;have R:=hid (fun (u:World) (hu:Below F.heap.size F u)=>(show u.rangeAt w.heap.size 1 [.int .i64 n,.slice Ad H.length Y,.string a,.slice Ao I.length Z] from fun j y b=>(hu.cell (p:=⟨w.heap.size,1+j,none⟩) W).trans ((k4 A.out (1+j)).trans (mid1 b))));have N:=hid (fun (u:World) (hu:Below F.heap.size F u)=>(show u.rangeAt w.heap.size 5 [.slice Ap p.length S,.slice Ac s.length T,.string G,.string m,.int .i64 x] from fun j y b=>(hu.cell (p:=⟨w.heap.size,5+j,none⟩) W).trans ((k4 A.out (5+j)).trans (mid5 b))));have C:=M;have D:=hid (qB F.heap.size F)
    go_wp2_with (first
      |(with_reducible refine k6 ?_
        refine k5 yx (kc 68 _ rfl (p:=⟨w.heap.size,5,none⟩) rfl (qV _ _ _ _ [.slice Ap p.length S,.slice Ac s.length T,.string G,.string m,.int .i64 x] _ (N.out _ D.out) underlying68 rfl yy)) ?_))
    refine(qU (p,s,G,m,x) _ _ F ((Q.keep (C.mono hB)).more (qT hB C.size))).mono ?_;rintro e W1 ⟨O,rfl⟩;rw[r.out];have J:=hid (D.trans (O.mono D.size));have E:=hid (C.trans (O.mono C.size));clear O;go_wp2_with fail;go_ret;exact⟨E.out,by rw[P.out];rfl⟩
   go_enter func148,ntmps148
   go_upto_region 1 with (first
     |(with_reducible refine kB ?_
       refine kr yx 70 _ rfl [.int .u8 1,.int .i64 n,.slice Ad H.length Y,.string a,.slice Ao I.length Z,.slice Ap p.length S,.slice Ac s.length T,.string G,.string m,.int .i64 x] _ rfl rfl yy ?_;intro F U V f;have M:=hid U;have A:=hid V
       clear U V f;go_frame))
   have W:w.heap.size<F.heap.size:=(qX A.out);have b0:F.cell? ⟨w.heap.size,0,none⟩=some (.int .u8 1):=k4 A.out 0;have R:=hid (fun (u:World) (hu:Below F.heap.size F u)=>(show u.rangeAt w.heap.size 1 [.int .i64 n,.slice Ad H.length Y,.string a,.slice Ao I.length Z] from fun j y b=>(hu.cell (p:=⟨w.heap.size,1+j,none⟩) W).trans ((k4 A.out (1+j)).trans (mid1 b))));have N:=hid (fun (u:World) (hu:Below F.heap.size F u)=>(show u.rangeAt w.heap.size 5 [.slice Ap p.length S,.slice Ac s.length T,.string G,.string m,.int .i64 x] from fun j y b=>(hu.cell (p:=⟨w.heap.size,5+j,none⟩) W).trans ((k4 A.out (5+j)).trans (mid5 b))));have C:=M;have D:=hid (qB F.heap.size F);rcases Bool.eq_false_or_eq_true (j6 (n,H,a,I)) with X|X
   focus
     have P:Hid (zk (1,(n,H,a,I),(p,s,G,m,x))=true):=hid (by rw[L.out,K,X];rfl)
   rotate_left
   focus
     have P:Hid (zk (1,(n,H,a,I),(p,s,G,m,x))=false):=hid (by rw[L.out,K,X];rfl)
   all_goals
     have r:=hid K;have Q2:=hid X
     clear K X
     go_wp2_with (first
       |(with_reducible refine k6 ?_
         refine k5 yx (kc 68 _ rfl (p:=⟨w.heap.size,5,none⟩) rfl (qV _ _ _ _ [.slice Ap p.length S,.slice Ac s.length T,.string G,.string m,.int .i64 x] _ (N.out _ D.out) underlying68 rfl yy)) ?_))
     refine(qU (p,s,G,m,x) _ _ F ((Q.keep (C.mono hB)).more (qT hB C.size))).mono ?_;rintro e W1 ⟨O,rfl⟩;rw[r.out];have J:=hid (D.trans (O.mono D.size));have E:=hid (C.trans (O.mono C.size));clear O
     go_wp2_with (first
       |(with_reducible refine k6 ?_
         refine k5 yx (kc 37 _ rfl (p:=⟨w.heap.size,1,none⟩) rfl (qV _ _ _ _ [.int .i64 n,.slice Ad H.length Y,.string a,.slice Ao I.length Z] _ (R.out _ J.out) underlying37 rfl yy)) ?_))
     refine(rightChange_any (n,H,a,I) _ _ W1 ((c.keep (E.mono hB)).more (qT hB E.size)) (qR _) h1 h2 (l.next E.out)).mono ?_;rintro e W2 ⟨O,rfl⟩;rw[Q2.out];have t:=hid (J.trans (O.mono J.size));have d:=hid (E.trans (O.mono E.size));clear O;go_wp2_with fail;go_ret;exact⟨d.out,by rw[P.out];rfl⟩
  exact absurd hone.out hk1
end
section
open Go.RowKit Go.Maps

section
variable {w0 w wy:World} {g b off c:Nat} {l:List UInt8} {rb zo a a2:Nat} {cs cs':List Value}
end
section
variable {r1 r2 r3 r4 r5:List UInt8} {t:Nat} {ds:List (List UInt8)} {au:ByteArray} {ops:List OpD}
end
theorem ObjIn.ten{w:World}{B:Nat}{v:Value}{o:ZT}(h:ObjIn w B v o):∃cs:List Value,v=.agg cs.toArray∧cs.length=10∧∀u∈cs,u.oneCell'=true:=by
  obtain⟨_,_,_,_,_,Ad,C,Ao,D,Ap,E,Ac,F,rfl,_⟩:=h;refine⟨[.int .u8 (o.1.toNat:Int),.int .i64 o.2.1.1,.slice Ad o.2.1.2.1.length C,.string o.2.1.2.2.1,.slice Ao o.2.1.2.2.2.length D,.slice Ap o.2.2.1.length E,.slice Ac o.2.2.2.1.length F,.string o.2.2.2.2.1,.string o.2.2.2.2.2.1,.int .i64 o.2.2.2.2.2.2],rfl,rfl,?_⟩;intro u A;simp only[List.mem_cons,List.not_mem_nil,or_false] at A;rcases A with rfl|rfl|rfl|rfl|rfl|rfl|rfl|rfl|rfl|rfl<;>rfl
theorem Sl.small{X:Nat→Prop}{w w':World}{B n sz:Nat}{A:Option Addr}{xs:List Value}(h:Sl w B A n sz xs)(hb:But X w w')(hB:B≤w.heap.size)(hsz:32≤sz)(hx:∀k,X k→∃(cs:List Value) (T:TypeId),w.heap[k]?=some (.cells cs.toArray T (0,0))∧cs.length<32):Sl w' B A n sz xs:=by
  refine⟨h.1,fun D=>?_⟩;obtain⟨b,E,e,C,F⟩:=h.2 D;refine⟨b,E,e,C,fun j u H=>?_⟩;have I:¬X b:=fun q=>by
    obtain⟨cs,T,J,K⟩:=hx b q;have G:31<xs.length:=by rw[h.1];exact qL yz (qT hsz (Nat.le_mul_of_pos_left sz D))
    have:=F 31 _ (List.getElem?_eq_getElem G);rw[k4 J] at this;have:=(List.getElem?_eq_some_iff.1 this).1;omega
  exact(hb.cell (qL C hB) I).trans (F j u H)
theorem ObjIn.small{X:Nat→Prop}{w w':World}{B:Nat}{v:Value}{o:ZT}(h:ObjIn w B v o)(hb:But X w w')(hB:B≤w.heap.size)(hx:∀k,X k→∃(cs:List Value) (T:TypeId),w.heap[k]?=some (.cells cs.toArray T (0,0))∧cs.length<32):ObjIn w' B v o:=by
  obtain⟨A,C,D,E,F,Ad,G,Ao,H,Ap,I,Ac,J,K,L,M,N,O⟩:=h;exact⟨A,C,D,E,F,Ad,G,Ao,H,Ap,I,Ac,J,K,L.small hb hB yv hx,M.small hb hB yv hx,N.small hb hB yv hx,O.small hb hB yv hx⟩
theorem vf{w:World}{zo:Nat}{cs:List Value}(h:w.heap[zo]?=some (.cells cs.toArray 70 (0,0)))(hl:cs.length=10):(loadVar 70 ⟨zo,0,none⟩).run prog w=.ok (.agg cs.toArray) w:=
  qV _ zo 0 70 cs _ (fun j u A=>by rw[qZ];exact(k4 h j).trans A) underlying70 rfl (by rw[hl];kernel_rfl)
end
section
open Go.RowKit Go.Maps
open Lib (hid)
theorem own_cap{w:World}{base n sz:Nat}{e:TypeId}{A:Option Addr}{m c:Nat}{xs:List Value}(h:w.ownsRow base e sz (.slice A m c) n xs):n≤c:=by
  rcases h.2 with⟨B,C⟩|⟨g,D,E,B,_,_,C,_⟩
  ·omega
  ·injection B with _ _ h2;omega
def JT(o:ZT)(e:Ending)(w':World):Prop:=
  if zk o=true then (if 262144<(J5 o).length then e=.returned (.tuple #[.slice none 0 0,.int .i64 2]) else ∃A c,e=.returned (.tuple #[.slice A (J5 o).length c,.int .i64 0])∧Sl w' w'.heap.size A (J5 o).length 1 (idV (J5 o))∧(J5 o).length≤c)
  else e=.returned (.tuple #[.slice none 0 0,.int .i64 1])
theorem UH(o:ZT)(v:Value)(w:World)(h:ObjIn w w.heap.size v o)(hl1:o.2.1.2.1.length≤1099511627776)(hl2:o.2.1.2.2.2.length≤1099511627776)(hl3:o.2.2.1.length≤1099511627776)(hl4:o.2.2.2.1.length≤1099511627776)(hg:Glob w)(hone:RowKit.Hid (o.1=1)):
    Calls prog 91 #[v] w fun e w'=>Below w.heap.size w w'∧JT o e w':=by
  have W:=hid h;obtain⟨ok,A4,ha,A5,hm,Ad,g,Ao,i,Ap,l,Ac,m,rfl,sd,so,sp,sc⟩:=h;obtain⟨k,⟨n,E,F,G⟩,⟨R,S,T,U,V⟩⟩:=o;dsimp only at *;have r:=hid hg;have s:Hid (ChIn w w.heap.size (.agg [.int .i64 n,.slice Ad E.length g,.string F,.slice Ao G.length i].toArray) (n,E,F,G)):=hid ⟨ok.1,A4,ha,Ad,g,Ao,i,rfl,sd,so⟩;have A8:Hid (CmIn w w.heap.size (.agg [.slice Ap R.length l,.slice Ac S.length m,.string T,.string U,.int .i64 V].toArray) (R,S,T,U,V)):=hid ⟨ok.2,A5,hm,Ap,l,Ac,m,rfl,sp,sc⟩;have h1:=hl1;have h2:=hl2;have h3:=hl3;have h4:=hl4
  have Af:=(zJ ok.2.2.2).2;clear ok A4 ha A5 hm sd so sp sc hg hl1 hl2 hl3 hl4;rcases Bool.eq_false_or_eq_true (zk (k,(n,E,F,G),(R,S,T,U,V))) with b|b
  ·have I:=hid b;by_cases hk:k=1
   ·subst hk;have t:Hid (j6 (n,E,F,G)=true):=hid (by unfold zk at b;rw[if_pos rfl,Bool.and_eq_true] at b;exact b.2);have X:Hid (J5 (1,(n,E,F,G),(R,S,T,U,V))=J4 (n,E,F,G)):=hid (by unfold J5;rw[if_pos rfl]);clear b;go_enter func91,ntmps91
    go_upto_region 1 with (first
      |(with_reducible refine kB ?_
        refine kr yx 70 _ rfl [.int .u8 ((1:UInt8).toNat:Int),.int .i64 n,.slice Ad E.length g,.string F,.slice Ao G.length i,.slice Ap R.length l,.slice Ac S.length m,.string T,.string U,.int .i64 V] _ rfl rfl yy ?_;intro z c d f;have A:=hid c;have B:=hid d;have C:=hid f
        clear c d f))
    have H:=hid (show w.heap.size<z.heap.size by have:=C.out;omega);obtain⟨J,P⟩:∃J,w.heap.size=J:=⟨_,rfl⟩;have D:=H;rw[P] at B D ⊢;have x:=hid P;clear P C
    go_upto_region 3 with (first
      |(with_reducible refine k6 ?_
        refine k5 yx (kc 70 _ rfl (p:=⟨J,0,none⟩) rfl (qV _ _ _ _ [.int .u8 ((1:UInt8).toNat:Int),.int .i64 n,.slice Ad E.length g,.string F,.slice Ao G.length i,.slice Ap R.length l,.slice Ac S.length m,.string T,.string U,.int .i64 V] _ (fun j u hj=>(k4 B.out (0+j)).trans (by rw[qZ];exact hj)) underlying70 rfl yy)) ?_)
      |(go_at_call 148;refine(right_any ((1:UInt8),(n,E,F,G),(R,S,T,U,V)) _ w.heap.size z (W.keep A.out) A.size h1 h2 h3 h4 (r.next A.out) hone).mono ?_;rintro e q ⟨Q,rfl⟩;have K:=hid ((Q.block J D.out).trans B.out);have L:=hid Q;rw[I.out];clear Q))
    go_upto_region 4 with (first
      |(with_reducible refine kB ?_
        refine kr yx 269 _ rfl [.slice none 0 0] _ rfl rfl yy ?_;intro W3 A0 A6 Aa;have M:Hid (WrAt W3 q.heap.size []):=hid ⟨_,A6,World.ownsRow_nil _ _ _ _⟩;have Y:=hid ((A0.block J (qX K.out)).trans K.out);have y:=hid A0;clear A0 A6 Aa))
    have N:Hid (Below w.heap.size w q):=hid (A.trans (L.mono A.size));have O:Hid (Below w.heap.size w W3):=hid (N.trans (y.mono N.size));have A1:w.heap.size≤q.heap.size:=N.size;have Ag:W3.cell? ⟨J,0,none⟩=some (.int .u8 1):=(k4 Y.out 0).trans rfl
    go_upto_region 7 with (first
      |(with_reducible refine k6 ?_
        refine k5 yx (kc 37 _ rfl (p:=⟨J,1,none⟩) rfl (qV _ _ _ _ [.int .i64 n,.slice Ad E.length g,.string F,.slice Ao G.length i] _ (fun j u hj=>(k4 Y.out (1+j)).trans (mid1 hj)) underlying37 rfl yy)) ?_)
      |(go_at_call 149;refine(wchange_any q.heap.size (n,E,F,G) _ W3 M.out ((s.keep O.out).more A1) t.out).mono ?_;rintro e W4 ⟨rfl,Ae,A7⟩;have Z:=hid ((A7.belowG M.out));obtain⟨v,A2,A3⟩:=Ae;obtain⟨Ab,cb,rfl⟩:=kO A3;have Ah:W4.cell? ⟨q.heap.size,0,none⟩=some (.slice Ab _ cb):=k4 A2 0;have a:=hid A3;have A9:=hid A2
        clear A7 A2 A3))
    by_cases hlong:262144<(J4 (n,E,F,G)).length
    ·have i2:(262144:Int)<((J4 (n,E,F,G)).length:Int):=by omega
     go_wp2_with fail;go_ret2;exact⟨O.trans (Z.mono A1),by unfold JT;rw[if_pos I.out,X.out,if_pos hlong];rfl⟩
    ·have i2:¬(262144:Int)<((J4 (n,E,F,G)).length:Int):=by omega
     go_wp2_with fail;go_ret2;exact⟨O.trans (Z.mono A1),by unfold JT;rw[if_pos I.out,X.out,if_neg hlong];exact⟨Ab,cb,rfl,Sl.of_own a.out,own_cap a.out⟩⟩
   ·exact absurd hone.out hk
  ·have I:=hid b;clear b;go_enter func91,ntmps91
   go_upto_region 1 with (first
     |(with_reducible refine kB ?_
       refine kr yx 70 _ rfl [.int .u8 (k.toNat:Int),.int .i64 n,.slice Ad E.length g,.string F,.slice Ao G.length i,.slice Ap R.length l,.slice Ac S.length m,.string T,.string U,.int .i64 V] _ rfl rfl yy ?_;intro z c d f;have A:=hid c;have B:=hid d;have C:=hid f
       clear c d f))
   have H:=hid (show w.heap.size<z.heap.size by have:=C.out;omega);obtain⟨J,P⟩:∃J,w.heap.size=J:=⟨_,rfl⟩;have D:=H;rw[P] at B D ⊢;have x:=hid P;clear P C
   go_wp2_with (first
     |(with_reducible refine k6 ?_
       refine k5 yx (kc 70 _ rfl (p:=⟨J,0,none⟩) rfl (qV _ _ _ _ [.int .u8 (k.toNat:Int),.int .i64 n,.slice Ad E.length g,.string F,.slice Ao G.length i,.slice Ap R.length l,.slice Ac S.length m,.string T,.string U,.int .i64 V] _ (fun j u hj=>(k4 B.out (0+j)).trans (by rw[qZ];exact hj)) underlying70 rfl yy)) ?_)
     |(go_at_call 148;refine(right_any (k,(n,E,F,G),(R,S,T,U,V)) _ w.heap.size z (W.keep A.out) A.size h1 h2 h3 h4 (r.next A.out) hone).mono ?_;rintro e q ⟨Q,rfl⟩;have K:=hid ((Q.block J D.out).trans B.out);have L:=hid Q;rw[I.out];clear Q))
   go_ret2;exact⟨A.trans (L.mono A.size),by unfold JT;rw[if_neg (by rw[I.out];decide)];rfl⟩
def UZ(x:OpD):Bool:= !(decide (300<x.2.2.2.1.size) && decide (x.2.2.2.1.size≤4096))
def ZE(o:ZT):Bool:=decide (o.2.1.2.2.2.length≤60) && decide (o.2.1.2.1.length≤100) && decide (o.2.2.1.length≤100) && decide (o.2.2.2.1.length≤200) && o.2.1.2.2.2.all UZ
theorem QW{o:ZT}(h:ZE o=true):o.2.1.2.2.2.length≤60∧o.2.1.2.1.length≤100∧o.2.2.1.length≤100∧o.2.2.2.1.length≤200:=by
  unfold ZE at h;simp only[Bool.and_eq_true,decide_eq_true_eq] at h;exact⟨h.1.1.1.1,h.1.1.1.2,h.1.1.2,h.1.2⟩
theorem Un{o:ZT}(h:¬(o.2.1.2.2.2.length≤60∧o.2.1.2.1.length≤100∧o.2.2.1.length≤100∧o.2.2.2.1.length≤200)):ZE o=false:=by
  rcases Bool.eq_false_or_eq_true (ZE o) with q|q
  ·exact absurd (QW q) h
  ·exact q
theorem all_next{α:Type}{p:α→Bool}{l:List α}{i:Nat}(h:i<l.length):(l.take (i+1)).all p=((l.take i).all p && p l[i]):=by
  rw[List.take_succ_eq_append_getElem h,List.all_append];simp
theorem all_stop{α:Type}{p:α→Bool}{l:List α}{i:Nat}(h:i<l.length)(hp:p l[i]=false):l.all p=false:=by
  rcases Bool.eq_false_or_eq_true (l.all p) with q|q
  ·have:=List.all_eq_true.1 q _ (List.getElem_mem h);rw[hp] at this;cases this
  ·exact q
theorem light_any(o:ZT)(v:Value)(w:World)(h:ObjIn w w.heap.size v o):
    Calls prog 34 #[v] w fun e w'=>Below w.heap.size w w'∧e=.returned (.bool (ZE o)):=by
  obtain⟨ok,c,ha,A0,hm,Ad,cd,Ao,co,Ap,cp,Ac,cc,rfl,sd,so,sp,sc⟩:=h;obtain⟨k,⟨n,I,r,B⟩,⟨J,K,y,z,st⟩⟩:=o;dsimp only at *;have T:=hid so;have L:=hid c
  clear ok c ha A0 hm sd so sp sc;go_enter func34,ntmps34
  go_upto_region 1 with (first
    |(with_reducible refine kB ?_
      refine kr yx 70 _ rfl [.int .u8 (k.toNat:Int),.int .i64 n,.slice Ad I.length cd,.string r,.slice Ao B.length co,.slice Ap J.length cp,.slice Ac K.length cc,.string y,.string z,.int .i64 st] _ rfl rfl yy ?_;intro N d f A1;have C:=hid d;have A:=hid f
      clear d f A1))
  have g:=(qX A.out);have c4:N.cell? ⟨w.heap.size,4,none⟩=some (.slice Ao B.length co):=k4 A.out 4;have c2:N.cell? ⟨w.heap.size,2,none⟩=some (.slice Ad I.length cd):=k4 A.out 2;have c5:N.cell? ⟨w.heap.size,5,none⟩=some (.slice Ap J.length cp):=k4 A.out 5;have c6:N.cell? ⟨w.heap.size,6,none⟩=some (.slice Ac K.length cc):=k4 A.out 6
  try go_frame
  clear A;by_cases h0:60<B.length
  ·have d0:decide ((60:Int)<(B.length:Int))=true:=dT yz;have A2:decide (60<B.length)=true:=dT yz;go_wp2_with fail;go_ret;exact⟨C.out,by rw[Un (by intro q;have O:=q.1;have P:=q.2.1;have Q:=q.2.2.1;have R:=q.2.2.2;dsimp only at O P Q R;omega)];rfl⟩
  have d0:decide ((60:Int)<(B.length:Int))=false:=dF yz;have A2:decide (60<B.length)=false:=dF yz;by_cases h1:100<I.length
  ·have d1:decide ((100:Int)<(I.length:Int))=true:=dT yz;have A3:decide (100<I.length)=true:=dT yz;go_wp2_with fail;go_ret;exact⟨C.out,by rw[Un (by intro q;have O:=q.1;have P:=q.2.1;have Q:=q.2.2.1;have R:=q.2.2.2;dsimp only at O P Q R;omega)];rfl⟩
  have d1:decide ((100:Int)<(I.length:Int))=false:=dF yz;have A3:decide (100<I.length)=false:=dF yz;by_cases h2:100<J.length
  ·have d2:decide ((100:Int)<(J.length:Int))=true:=dT yz;have A4:decide (100<J.length)=true:=dT yz;go_wp2_with fail;go_ret;exact⟨C.out,by rw[Un (by intro q;have O:=q.1;have P:=q.2.1;have Q:=q.2.2.1;have R:=q.2.2.2;dsimp only at O P Q R;omega)];rfl⟩
  have d2:decide ((100:Int)<(J.length:Int))=false:=dF yz;have A4:decide (100<J.length)=false:=dF yz;by_cases h3:200<K.length
  ·have d3:decide ((200:Int)<(K.length:Int))=true:=dT yz;have A5:decide (200<K.length)=true:=dT yz;go_wp2_with fail;go_ret;exact⟨C.out,by rw[Un (by intro q;have O:=q.1;have P:=q.2.1;have Q:=q.2.2.1;have R:=q.2.2.2;dsimp only at O P Q R;omega)];rfl⟩
  have d3:decide ((200:Int)<(K.length:Int))=false:=dF yz;have A5:decide (200<K.length)=false:=dF yz;have j:=c4;have U:=hid (fun (u:World) (hu:Below N.heap.size N u)=>(hu.cell (p:=⟨w.heap.size,4,none⟩) g).trans j)
  go_upto_region 4 with fail
  clear c4 c2 c5 c6 j
  go_loopw [3] (fun t wr=>∃i:Nat,i≤B.length∧t=.int .i64 i∧Hid ((B.take i).all UZ=true)∧Hid (Below N.heap.size N wr)) (fun t _=>B.length - (intOf t).toNat)
  case atStart=>exact⟨0,by omega,rfl,hid rfl,hid (qB _ _)⟩
  case round=>
    obtain⟨i,hi,rfl,E,D⟩:=hrel;have F:=hid (C.trans (D.mono (Nat.le_of_lt g)));have e4:=U.out wr D.out;by_cases hlt:i<B.length
    ·obtain⟨b,A6,rfl,A7,l⟩:=(T.keep F.out).2 yz;have i0:(0:Int)≤(i:Int):=by omega
     have i1:(i:Int)<(B.length:Int):=by omega
     have Z:=Sl.row (fun x hx=>kH (L.out x hx)) l hlt;have m:=hid (L.out _ (List.getElem_mem hlt));have M:=hid (all_next (p:=UZ) hlt);have V:=hid (fun h=>all_stop (p:=UZ) hlt h);generalize B[i]=x at *;have W:=hid (kp m.out);have A8:wr.cell? ⟨b,A6+i*70+(3+64),none⟩=some (.string x.2.2.2.1):=Z 67 _ W.2.2.2.1;have G:Hid (UZ x= !(decide (300<x.2.2.2.1.size) && decide (x.2.2.2.1.size≤4096))):=hid rfl;generalize x.2.2.2.1=s at *;clear l A7 Z;by_cases hs1:300<s.size
     ·have g1:decide ((300:Int)<(s.size:Int))=true:=dT yz;have S:decide (300<s.size)=true:=dT yz;by_cases hs2:s.size≤4096
      ·have g2:decide ((s.size:Int)≤4096)=true:=dT yz;have a:decide (s.size≤4096)=true:=dT yz;have X:Hid (ZE (k,(n,I,r,B),(J,K,y,z,st))=false):=hid (by unfold ZE;dsimp only;rw[V.out (by rw[G.out,S,a];rfl),Bool.and_false]);go_wp2_with fail;go_ret;exact⟨F.out,by rw[X.out];rfl⟩
      ·have g2:decide ((s.size:Int)≤4096)=false:=dF yz;have a:decide (s.size≤4096)=false:=dF yz;have H:=hid (show (B.take (i+1)).all UZ=true by rw[M.out,E.out,G.out,S,a];rfl);go_wp2_with fail
       go_roundw
       case rel=>exact⟨i+1,by omega,by go_num,H,D⟩
       case measure=>simp [intOf];omega
     ·have g1:decide ((300:Int)<(s.size:Int))=false:=dF yz;have S:decide (300<s.size)=false:=dF yz;have H:=hid (show (B.take (i+1)).all UZ=true by rw[M.out,E.out,G.out,S];rfl);go_wp2_with fail
      go_roundw
      case rel=>exact⟨i+1,by omega,by go_num,H,D⟩
      case measure=>simp [intOf];omega
    ·have i1:¬(i:Int)<(B.length:Int):=by omega
     have Y:Hid (ZE (k,(n,I,r,B),(J,K,y,z,st))=true):=hid (by
       have h:=E.out;rw[List.take_of_length_le yz] at h;unfold ZE;dsimp only;rw[h,dT (show B.length≤60 by omega),dT (show I.length≤100 by omega),dT (show J.length≤100 by omega),dT (show K.length≤200 by omega)];rfl)
     go_wp2_with fail;go_ret;exact⟨F.out,by rw[Y.out];rfl⟩
end
section
open Go.RowKit Go.Maps
theorem zeroCm_run(w:World):(zeroValue 68).run prog w=.ok (.agg ([.slice none 0 0,.slice none 0 0,.string kM,.string kM,.int .i64 0]:List Value).toArray) w:=by kernel_rfl
end
def uv(l:List (List UInt8)):Prop:=l.Pairwise fun a b=>jK a b≤0
theorem idLe_trans{a b c:List UInt8}(h1:jK a b≤0)(h2:jK b c≤0):jK a c≤0:=by
  rcases (by omega:jK a b<0∨jK a b=0) with q|q
  ·rcases (by omega:jK b c<0∨jK b c=0) with r|r
   ·have:=Jq q r;omega
   ·rw[←J1.1 r];exact h1
  ·rw[J1.1 q];exact h2
structure Mg (a b out ra rb:List (List UInt8)):Prop where
  perm:(out++ra++rb).Perm (a++b)
  sorted:uv out
  le:∀x∈out,∀y∈ra++rb,jK x y≤0
  sra:uv ra
  srb:uv rb
theorem Mg.start{a b:List (List UInt8)}(ha:uv a)(hb:uv b):Mg a b [] a b:=⟨List.Perm.refl _,List.Pairwise.nil,fun x A=>absurd A yq,ha,hb⟩
section
variable {a b out ra rb:List (List UInt8)} {x:List UInt8}
theorem Mg.left(h:Mg a b out (x::ra) rb)(hc:∀y t,rb=y::t→jK x y≤0):Mg a b (out++[x]) ra rb:=by
  have C:=List.pairwise_cons.1 h.sra;refine⟨by rw[show out++[x]++ra++rb=out++(x::ra)++rb by simp];exact h.perm,List.pairwise_append.2 ⟨h.sorted,List.pairwise_singleton _ _,fun p B q A=>?_⟩,fun p B q A=>?_,C.2,h.srb⟩
  ·obtain rfl:q=x:=by simpa using A
   exact h.le p B _ yq
  ·rcases List.mem_append.1 B with B|B
   ·refine h.le p B q ?_;rcases List.mem_append.1 A with A|A
    ·simp [A]
    ·simp [A]
   ·obtain rfl:p=x:=by simpa using B
    rcases List.mem_append.1 A with A|A
    ·exact C.1 q A
    ·cases rb with
     |nil=>cases A
     |cons y t=>
      have D:=hc y t rfl;rcases List.mem_cons.1 A with rfl|A
      ·exact D
      ·exact idLe_trans D ((List.pairwise_cons.1 h.srb).1 q A)
theorem Mg.swap(h:Mg a b out ra rb):Mg b a out rb ra:=
  ⟨by
    rw[List.append_assoc];refine(List.Perm.append_left out List.perm_append_comm).trans ?_;rw[←List.append_assoc];exact h.perm.trans List.perm_append_comm,h.sorted,fun p B q A=>h.le p B q (by simp only[List.mem_append] at A ⊢;exact A.symm),h.srb,h.sra⟩
theorem Mg.right(h:Mg a b out ra (x::rb))(hc:∀y t,ra=y::t→jK x y≤0):Mg a b (out++[x]) ra rb:=(h.swap.left hc).swap
theorem Mg.done(h:Mg a b out ra rb)(he:ra=[]∨rb=[]):uv (out++ra++rb)∧(out++ra++rb).Perm (a++b):=by
  refine⟨?_,h.perm⟩;rw[List.append_assoc];refine List.pairwise_append.2 ⟨h.sorted,?_,h.le⟩;rcases he with rfl|rfl
  ·exact h.srb
  ·rw[List.append_nil];exact h.sra
end
structure Dd (s out:List (List UInt8)) (k:Nat):Prop where
  set:out.Pairwise fun a b=>jK a b<0
  mem:∀x,x∈out↔x∈s.take k
theorem Dd.start(s:List (List UInt8)):Dd s [] 0:=⟨List.Pairwise.nil,fun x=>by simp⟩
section
variable {s out:List (List UInt8)} {k:Nat}
theorem Dd.add(h:Dd s out k)(hs:uv s)(hk:k<s.length)(hn:∀A:0<out.length,out[out.length - 1]≠s[k]):Dd s (out++[s[k]]) (k+1):=by
  refine⟨List.pairwise_append.2 ⟨h.set,List.pairwise_singleton _ _,fun x C y D=>?_⟩,fun x=>?_⟩
  ·obtain rfl:y=s[k]:=by simpa using D
   obtain⟨q,E,rfl⟩:=List.getElem_of_mem C;have A:0<out.length:=by omega
   have F:out[out.length - 1]∈s.take k:=(h.mem _).1 (List.getElem_mem _);obtain⟨p,G,B⟩:=List.getElem_of_mem F;rw[List.length_take] at G;rw[List.getElem_take] at B;have H:jK out[out.length - 1] s[k]≤0:=by
     rw[←B];exact(List.pairwise_iff_getElem.1 hs) p k yz hk yz
   have I:jK out[out.length - 1] s[k]≠0:=fun e=>hn A (J1.1 e)
   rcases (by omega:q=out.length - 1∨q<out.length - 1) with r|r
   ·subst r;omega
   ·exact Jq ((List.pairwise_iff_getElem.1 h.set) q (out.length - 1) E yz r) yz
  ·rw[List.take_succ_eq_append_getElem hk,List.mem_append,List.mem_append,h.mem]
theorem Dd.skip(h:Dd s out k)(hk:k<s.length)(ho:0<out.length)(he:out[out.length - 1]=s[k]):Dd s out (k+1):=by
  refine⟨h.set,fun x=>?_⟩;rw[List.take_succ_eq_append_getElem hk,List.mem_append,←h.mem];constructor
  ·exact .inl
  ·rintro (q|q)
   ·exact q
   ·obtain rfl:x=s[k]:=by simpa using q
    rw[←he];exact List.getElem_mem _
theorem Dd.done(h:Dd s out k)(hk:s.length≤k):je out=true∧∀x,x∈out↔x∈s:=⟨isSetB_of_pair h.set,fun x=>by rw[h.mem,List.take_of_length_le hk]⟩
end
section
open Go.RowKit
section
variable {P:Program} {ρ:Operand→Value} {o:Oper} {w:World}
end
section
variable {w:World} {B n c sz:Nat} {A:Option Addr} {xs:List Value}
end
end
section
open Go.RowKit Go.Maps
theorem zR{P:Program}{ops:Array Oper}{rest:List Oper}{o:Oper}{a:Act}{w:World}{Q:Exit→Act→World→Prop}(hw:Region.wanted o (yielded ops a.tmps)=true)(s x:Operand)(t:TypeId)
    (ho:o.op=.call { callee:=.builtin .append,args:=#[s,x],argTypes:=#[t,t]})
    (base:Nat) (e:TypeId) (z:Value) (size bytes:Nat) (ht:P.underlying t=some (.slice e)) (hinf:(P.info? e).map (fun i=>(i.zero,i.size,i.bytes))=some (some z,size,bytes))
    (hzs:z.cells.size=size) (hsz:0<size)
    (v:Value) (n:Nat) (xs:List Value) (hs:a.eval s=v) (hown:w.ownsRow base e size v n xs)
    (A:Option Addr) (m c B:Nat) (news:List Value) (hx:a.eval x=.slice A m c) (hsl:Sl w B A m size news) (h1:∀u∈news,u.oneCell'=true)
    (h63:n+m≤maxLen) (hbytes:(n+m)*bytes≤140737488355328) (hbase:base≤w.heap.size)
    (h:∀C w',w'.ownsRow base e size C (n+m) (xs++news)→w.grownBy w' v.ownBlock→wpList P ops Q rest (a.put o.dst C) w'):wpList P ops Q (o::rest) a w:=by
  obtain⟨i,G,D,E,F⟩:=info_parts hinf;refine BigFrame.wpList_want hw fun K H=>?_
  exact JQ s x t ho base e i z size bytes ht G D E F hzs hsz v n xs hs hown A m c B news hx hsl h1 h63 hbytes hbase fun C w' I J=>H _ _ (h C w' I J)
theorem own_cap8{w:World}{base n sz:Nat}{e:TypeId}{A:Option Addr}{m c:Nat}{xs:List Value}(h:w.ownsRow base e sz (.slice A m c) n xs):n≤c:=by
  rcases h.2 with⟨B,F⟩|⟨g,C,D,B,_,_,E,_⟩
  ·omega
  ·injection B with _ _ h3;omega
structure MgAt (w1:World) (pa pb out ra rb:List (List UInt8)) (Aa:Option Addr) (na ca:Nat) (Ab:Option Addr) (nb cb:Nat) (Ao:Option Addr) (no co:Nat) (w:World):Prop where
  mg:Mg pa pb out ra rb
  bel:Below w1.heap.size w1 w
  ena:ra.length=na
  enb:rb.length=nb
  eno:out.length=no
  sa:Sl w w1.heap.size Aa na 32 (zf ra)
  lca:na≤ca
  sb:Sl w w1.heap.size Ab nb 32 (zf rb)
  lcb:nb≤cb
  own:w.ownsRow w1.heap.size 41 32 (.slice Ao no co) no (zf out)
  oka:IdsOk ra
  okb:IdsOk rb
  len:no+na+nb≤1099511627776
theorem MgAt.swap{w1 w:World}{pa pb out ra rb:List (List UInt8)}{Aa Ab Ao:Option Addr}{na ca nb cb no co:Nat}(h:MgAt w1 pa pb out ra rb Aa na ca Ab nb cb Ao no co w):MgAt w1 pb pa out rb ra Ab nb cb Aa na ca Ao no co w:=
  ⟨h.mg.swap,h.bel,h.enb,h.ena,h.eno,h.sb,h.lcb,h.sa,h.lca,h.own,h.okb,h.oka,by have:=h.len;omega⟩
theorem MgAt.left{w1 w w9:World}{pa pb out ra rb:List (List UInt8)}{Aa Ab Ao A' A9:Option Addr}{na ca nb cb no co c9:Nat}{x:List UInt8}(h:MgAt w1 pa pb out (x::ra) rb Aa na ca Ab nb cb Ao no co w)(hc:∀y t,rb=y::t→jK x y≤0)
    (hb:Below w1.heap.size w w9) (ho:w9.ownsRow w1.heap.size 41 32 (.slice A9 (no+1) c9) (no+1) (zf out++idV x)) (hs:Sl w9 w1.heap.size A' (na - 1) 32 (zf ra)):MgAt w1 pa pb (out++[x]) ra rb A' (na - 1) (ca - 1) Ab nb cb A9 (no+1) c9 w9:=by
  have A:=h.ena;have C:=h.lca;have D:=h.len;have B:=h.eno;rw[List.length_cons] at A;refine⟨h.mg.left hc,h.bel.trans hb,by omega,h.enb,by rw[List.length_append,B];rfl,hs,by omega,h.sb.keep hb,h.lcb,by rw[idsV_snoc];exact ho,h.oka.tail,h.okb,by omega⟩
end
section
open Go.RowKit Go.Maps
open Lib (hid)
def uc(l:List UInt8)(w:World)(e:Ending)(w':World):Prop:=Below w.heap.size w w'∧∃A c,e=.returned (.slice A l.length c)∧w'.ownsRow w.heap.size 5 1 (.slice A l.length c) l.length (idV l)
theorem Kn(n:Nat)(hn:n<9223372036854775808)(w:World):Calls prog 204 #[.int .i64 (n:Int)] w (uc (jq n) w):=by
  have J:=hid (jn (n:=n) yz);go_enter func204,ntmps204;go_wp2_with fail
  go_loopw [0,3] (fun t0 t3 wr=>∃(m:Nat) (A:List UInt8) (K:Option Addr) (L:Nat),t0=.int .i64 (m:Int)∧t3=.slice K A.length L∧m<9223372036854775808∧A.length≤10∧Hid (jq n=A++jq m)∧Hid (wr.ownsRow w.heap.size 5 1 (.slice K A.length L) A.length (idV A))∧Hid (Below w.heap.size w wr)) (fun t0 _ _=>(intOf t0).toNat)
  case atStart=>exact⟨n,[],none,0,rfl,rfl,hn,by simp,hid rfl,hid (World.ownsRow_nil _ _ _ _),hid (Below.refl _ _)⟩
  case round=>
    obtain⟨m,A,K,L,rfl,rfl,V,U,H,E,C⟩:=hrel;have O:A.length+(jq m).length≤10:=by
      have:=J.out;rw[H.out,List.length_append] at this;exact this
    have P:=ql m;by_cases h128:m<128
    ·have I:=hid (UQ h128);have Q:¬(128:Int)≤(m:Int):=by omega
     go_wp2_with (at_builtin;refine J3 rfl _ _ 169 rfl w.heap.size 5 (.int .u8 0) 1 underlying169 jg rfl (.slice K A.length L) A.length (idV A) rfl E.out _ _ rfl rfl ?c1 ?c2 ?c3 ?_)
     case c1=>unfold maxLen;omega
     case c2=>omega
     case c3=>exact C.size
     intro R S D G;have F:=hid (G _ w (Nat.le_refl _) C.out);have B:=hid D;clear G D;obtain⟨M,c3,rfl⟩:=kO B.out;go_wp2_with fail;go_ret;have N:(jq n).length=A.length+1:=by rw[H.out,I.out];simp
     have T:idV (jq n)=idV A++[.int .u8 (m:Int)]:=by
       rw[H.out,I.out];simp only[idV,List.map_append,List.map_cons,List.map_nil];rw[u8_of yz]
     exact⟨F.out,M,c3,by rw[N];rfl,by rw[N,T];exact B.out⟩
    ·have Q:(128:Int)≤(m:Int):=by omega
     go_wp2_with (at_builtin;refine J3 rfl _ _ 169 rfl w.heap.size 5 (.int .u8 0) 1 underlying169 jg rfl (.slice K A.length L) A.length (idV A) rfl E.out _ _ rfl rfl ?c1 ?c2 ?c3 ?_)
     case c1=>unfold maxLen;omega
     case c2=>omega
     case c3=>exact C.size
     intro R S D G;have F:=hid (G _ w (Nat.le_refl _) C.out);have B:=hid D;clear G D;obtain⟨M,c3,rfl⟩:=kO B.out;go_wp2_with fail
     go_roundw
     case rel=>
       refine⟨m / 128,A++[UInt8.ofNat (m % 128+128)],M,c3,congrArg (Value.int .i64) yz,by simp,by omega,by rw[List.length_append,List.length_singleton];omega,hid ?_,hid ?_,F⟩
       ·rw[H.out,numB_big h128];simp
       ·rw[List.length_append,List.length_singleton];have e:idV (A++[UInt8.ofNat (m % 128+128)])=idV A++[.int .u8 (128+(m:Int) % 128)]:=by
          simp only[idV,List.map_append,List.map_cons,List.map_nil];rw[u8_of yz,show ((m % 128+128:Nat):Int)=128+(m:Int) % 128 by omega]
        rw[e];exact B.out
     case measure=>(simp [intOf])<;>omega
theorem vw(s:ByteArray)(hs:s.size≤1099511627776)(w:World):Calls prog 203 #[.string s] w (uc (jH (L s)) w):=by
  have S:=jn (n:=s.size) yz;obtain⟨O,P,J,K,M⟩:=info_parts jg;have B:=hid (show jH (L s)=jq s.size++L s by unfold jH;rw[ji]);go_enter func203,ntmps203
  go_wp2_with (first
    |(go_at_call 204;refine(Kn s.size yz w).mono ?_;rintro e T ⟨H,U,c1,rfl,I⟩;have A:=hid H;have C:=hid I
      clear H I)
    |(at_builtin;refine Lib.wpList_append_own_string _ rfl _ _ 169 9 rfl w.heap.size 5 O underlying169 underlying9 P J K M _ _ _ rfl C.out s rfl ?c1 ?c2 ?c3 ?_))
  case c1=>unfold maxLen;omega
  case c2=>omega
  case c3=>exact A.size
  intro V W E G _;have D:=hid E;have F:=hid (A.grown G A.size (fun k e=>(C.lt k e).1));clear E G;obtain⟨Q,c3,rfl⟩:=kO D.out;go_wp2_with fail;go_ret;have N:(jH (L s)).length=(jq s.size).length+s.size:=by rw[B.out,List.length_append,ji]
  have R:idV (jH (L s))=idV (jq s.size)++(L s).map fun b=>Value.int .u8 (b.toNat:Int):=by rw[B.out];unfold idV;rw[List.map_append]
  exact⟨F.out,Q,c3,by rw[N];rfl,by rw[N,R];exact D.out⟩
end
section
open Go.RowKit
open Lib (hid)
theorem cmpB_cut:∀(i:Nat) (a b:List UInt8),a.take i=b.take i→i≤a.length→i≤b.length→jK a b=jK (a.drop i) (b.drop i)
  | 0,_,_,_,_,_=>rfl
  |i+1,[],_,_,h,_=>by simp at h
  |i+1,_ :: _,[],_,_,h=>by simp at h
  |i+1,x::a,y::b,h,ha,hb=>by
   simp only[List.take_succ_cons,List.cons.injEq] at h;obtain⟨rfl,h⟩:=h;rw[JB,if_neg (Jp x),if_neg (Jp x)];exact cmpB_cut i a b h (by simpa using ha) (by simpa using hb)
theorem cmpB_stop{a b:List UInt8}{i:Nat}(h:a.take i=b.take i)(ha:i<a.length)(hb:i<b.length):(a[i]<b[i]→jK a b= -1)∧(b[i]<a[i]→jK a b=1)∧(¬a[i]<b[i]→¬b[i]<a[i]→a.take (i+1)=b.take (i+1)):=by
  have e:=cmpB_cut i a b h yz yz;rw[List.drop_eq_getElem_cons ha,List.drop_eq_getElem_cons hb,JB] at e;refine⟨fun q=>by rw[e,if_pos q],fun q=>by rw[e,if_neg (ZO q),if_pos q],fun q r=>?_⟩;have:a[i]=b[i]:=by
    rcases ZN a[i] b[i] with A|A|A
    ·exact absurd A q
    ·exact absurd A r
    ·exact A
  rw[List.take_succ_eq_append_getElem ha,List.take_succ_eq_append_getElem hb,h,this]
theorem id_cells{l:List UInt8}(h:jp l)(i:Nat)(hi:i<32):(idV l)[i]?=some (.int .u8 ((l[i]'(by rw[h];exact hi)).toNat:Int)):=by
  have A:l.length=32:=h;simp [idV,A,hi]
theorem refCompare_gr(a b:List UInt8)(w:World)(ha:jp a)(hb:jp b):
    Calls prog 206 #[.agg (idV a).toArray,.agg (idV b).toArray] w fun e w'=>Gr w w'∧e=.returned (.int .i64 (jK a b)):=by
  have M:(w.alloc (.cells (idV a).toArray 41)).heap[w.heap.size]?=some (.cells (idV a).toArray 41 (0,0)):=heap_alloc_new _ _;have T:a.length=32:=ha;have U:b.length=32:=hb;go_enter func206,ntmps206
  go_upto_region 1 with fail
  obtain⟨W,C⟩:∃W,(w.alloc (.cells (idV a).toArray 41)).alloc (.cells (idV b).toArray 41)=W:=⟨_,rfl⟩;have N:W.heap[w.heap.size]?=some (.cells (idV a).toArray 41 (0,0)):=by
    rw[←C];exact(heap_alloc_old (w.alloc (.cells (idV a).toArray 41)) _ yq).trans M
  have O:W.heap[w.heap.size+1]?=some (.cells (idV b).toArray 41 (0,0)):=by
    rw[←C];have:=heap_alloc_new (w.alloc (.cells (idV a).toArray 41)) (.cells (idV b).toArray 41);rw[World.size_alloc] at this;exact this
  have F:Gr w W:=by rw[←C];exact((Gr.refl _).alloc _).alloc _
  have J:W.heap.size=w.heap.size+2:=by rw[←C];simp
  rw[C];clear C M;have K:=hid fun (i:Nat) (G:i<32)=>(jt N i).trans (id_cells ha i G)
  have L:=hid fun (i:Nat) (G:i<32)=>(jt O i).trans (id_cells hb i G)
  have B:=hid J;have D:=hid fun (i:Nat) (G:i<32) (h:a.take i=b.take i)=>cmpB_stop h yz yz
  have E:=hid fun (h:a.take 32=b.take 32)=>(show jK a b=0 from by
    rw[List.take_of_length_le yz,List.take_of_length_le yz] at h;exact J1.2 h)
  clear N O J;go_wp2_with fail
  go_loopw [5] (fun t wr=>∃i:Nat,i≤32∧t=.int .i64 i∧Gr W wr∧Hid (a.take i=b.take i)) (fun t _=>32 - (intOf t).toNat)
  case atStart=>exact⟨0,by omega,rfl,Gr.refl _,hid rfl⟩
  case round=>
    obtain⟨i,G,rfl,A,P⟩:=hrel;by_cases hlt:i<32
    ·have V:=(A.below.cell (p:=⟨w.heap.size,i,none⟩) (by have:=B.out;show w.heap.size<_;omega)).trans (K.out i hlt);have X:=(A.below.cell (p:=⟨w.heap.size+1,i,none⟩) (by have:=B.out;show w.heap.size+1<_;omega)).trans (L.out i hlt);have Y:(0:Int)≤(i:Int):=by omega
     have R:(i:Int)<32:=by omega
     have H:=hid (D.out i hlt P.out);generalize a[i]'(by omega)=x at *;generalize b[i]'(by omega)=y at *;rcases ZN x y with h|h|h
     ·have S:((x.toNat:Nat):Int)<(y.toNat:Int):=by rw[UInt8.lt_iff_toNat_lt] at h;omega
      have I:=hid (H.1 h);go_wp2_with fail
      go_quiet (fail)
      go_wp2_with fail;go_ret;exact⟨F.trans (A.drewN _),by rw[I.out];rfl⟩
     ·have S:((y.toNat:Nat):Int)<(x.toNat:Int):=by rw[UInt8.lt_iff_toNat_lt] at h;omega
      have Z:¬((x.toNat:Nat):Int)<(y.toNat:Int):=by omega
      have I:=hid (H.2.1 h);go_wp2_with fail
      go_quiet (fail)
      go_wp2_with fail
      go_quiet (fail)
      go_wp2_with fail;go_ret;exact⟨F.trans ((A.drewN _).drewN _),by rw[I.out];rfl⟩
     ·subst h;have Q:=hid (H.2.2 (Jp x) (Jp x));go_wp2_with fail
      go_quiet (fail)
      go_wp2_with fail
      go_quiet (fail)
      go_wp2_with fail
      go_roundw
      case rel=>exact⟨i+1,by omega,by go_num,A.drewN _,Q⟩
      case measure=>simp [intOf];omega
    ·have R:¬(i:Int)<32:=by omega
     have e:i=32:=by omega
     have I:=hid (E.out (by rw[←e];exact P.out));clear e;go_wp2_with fail;go_ret;exact⟨F.trans A,by rw[I.out];rfl⟩
end
section
open Go.RowKit Go.Maps
open Lib (hid)
theorem refIn_any(l:List (List UInt8))(x:List UInt8)(A:Option Addr)(c:Nat)(w:World)(hn:l.length≤1099511627776)(ho:IdsOk l)(hx:jp x)(hs:Sl w w.heap.size A l.length 32 (zf l)):
    Calls prog 30 #[.slice A l.length c,.agg (idV x).toArray] w fun e w'=>Below w.heap.size w w'∧e=.returned (.bool (decide (x∈l))):=by
  have N:=hid ho;have Y:=hid hs
  clear ho hs;go_enter func30,ntmps30
  go_upto_region 1 with (first
    |(with_reducible refine kB ?_
      refine kr yx 41 _ rfl (idV x) _ rfl rfl (by rw[kf,show x.length=32 from hx];exact js) ?_;intro a T U d;have D:=hid T;have I:=hid U
      clear T U d))
  have f:=(qX I.out)
  try go_frame
  go_wp2_with fail
  go_loopw [5] (fun t wr=>∃i:Nat,i≤l.length∧t=.int .i64 (i:Int)∧Hid (Below a.heap.size a wr)∧Hid (x∉l.take i)) (fun t _=>l.length - (intOf t).toNat)
  case atStart=>exact⟨0,Nat.zero_le _,rfl,hid (qB _ _),hid yq⟩
  case round=>
    obtain⟨i,n,rfl,C,O⟩:=hrel;by_cases hlt:i<l.length
    ·have q:(0:Int)≤(i:Int):=by omega
     have k:(i:Int)<(l.length:Int):=by omega
     have R:=D.trans (C.mono D.size);obtain⟨b,V,rfl,W,X⟩:=(Y.keep R).2 yz;have Z:=hid (Wd.row (base:=wr.heap.size) (Sl.id (B:=0) N.out X (i:=i) hlt) (qL W R.size));have g:=hid (Wd.row (base:=wr.heap.size) (o:=0) (cs:=idV x) (b:=w.heap.size) (fun j u m=>by rw[qZ];exact((C.cell (p:=⟨w.heap.size,j,none⟩) f).trans (k4 I.out j)).trans m) (qL f C.size));have F:=hid (show jp l[i] from N.out _ (List.getElem_mem hlt));obtain⟨y,S⟩:∃y,l[i]=y:=⟨_,rfl⟩;rw[S] at Z F;have P:=hid (show l.take (i+1)=l.take i++[y] by rw[List.take_succ_eq_append_getElem hlt,S]);have K:=hid (show y∈l by rw[←S];exact List.getElem_mem hlt);clear X W R S;by_cases he:y=x
     ·have L:=hid (show x∈l by rw[←he];exact K.out);have G:Hid (∀u:World,(Op.equalIn 10000 41 (.agg (idV y).toArray) (.agg (idV x).toArray)).run prog u=.ok true u):=hid (fun u=>(zY F.out hx u).trans (by rw[dT he]));clear he;go_wp2_with fail;refine zj (base:=wr.heap.size) wr (qB _ _) yy yy ?_
      repeat (first
        |go_big_quiet_skip
        |(go_big_quiet_want
          first
             |(refine kR (fun w' E=>kc 41 _ rfl (p:=⟨b,V+i*32,none⟩) rfl (qV w' _ _ _ (idV y) _ (Z.out w' E) underlying41 rfl (by rw[kf,show y.length=32 from F.out];exact js))) ?_
               go_big_quiet_on
               go_frame;try simp only[nTF])
             |(refine kR (fun w' E=>kc 41 _ rfl (p:=⟨w.heap.size,0,none⟩) rfl (qV w' _ _ _ (idV x) _ (g.out w' E) underlying41 rfl (by rw[kf,show x.length=32 from hx];exact js))) ?_
               go_big_quiet_on
               go_frame;try simp only[nTF])
             |(refine kR (fun w' E=>zS 41 _ _ _ rfl (xs:=(idV y).toArray) (ys:=(idV x).toArray) rfl rfl (r:=true) eqId.noGuard (G.out w')) ?_
               go_big_quiet_on
               go_frame;try simp only[nTF])
             |(go_big_quiet_op
               go_big_quiet_on)))
      refine wpQuiet_nil ?_;rintro w' ⟨M,rfl⟩;have J:=M.2;generalize M.val=w9 at *;clear M;have H:=hid (C.trans (J.mono C.size));clear J;go_wp2_with fail;go_ret;exact⟨D.trans (H.mono D.size),by rw[dT L.out];rfl⟩
     ·have Q:=hid (show x∉l.take (i+1) by rw[P.out];simp only[List.mem_append,List.mem_singleton,not_or];exact⟨O.out,fun h=>he h.symm⟩);have G:Hid (∀u:World,(Op.equalIn 10000 41 (.agg (idV y).toArray) (.agg (idV x).toArray)).run prog u=.ok false u):=hid (fun u=>(zY F.out hx u).trans (by rw[dF he]));clear he;go_wp2_with fail;refine zj (base:=wr.heap.size) wr (qB _ _) yy yy ?_
      repeat (first
        |go_big_quiet_skip
        |(go_big_quiet_want
          first
             |(refine kR (fun w' E=>kc 41 _ rfl (p:=⟨b,V+i*32,none⟩) rfl (qV w' _ _ _ (idV y) _ (Z.out w' E) underlying41 rfl (by rw[kf,show y.length=32 from F.out];exact js))) ?_
               go_big_quiet_on
               go_frame;try simp only[nTF])
             |(refine kR (fun w' E=>kc 41 _ rfl (p:=⟨w.heap.size,0,none⟩) rfl (qV w' _ _ _ (idV x) _ (g.out w' E) underlying41 rfl (by rw[kf,show x.length=32 from hx];exact js))) ?_
               go_big_quiet_on
               go_frame;try simp only[nTF])
             |(refine kR (fun w' E=>zS 41 _ _ _ rfl (xs:=(idV y).toArray) (ys:=(idV x).toArray) rfl rfl (r:=false) eqId.noGuard (G.out w')) ?_
               go_big_quiet_on
               go_frame;try simp only[nTF])
             |(go_big_quiet_op
               go_big_quiet_on)))
      refine wpQuiet_nil ?_;rintro w' ⟨M,rfl⟩;have J:=M.2;generalize M.val=w9 at *;clear M;have H:=hid (C.trans (J.mono C.size));clear J;go_wp2_with fail
      go_roundw
      case rel=>exact⟨i+1,by omega,by go_num,H,Q⟩
      case measure=>(simp [intOf])<;>omega
    ·have k:¬(i:Int)<(l.length:Int):=by omega
     have L:=hid (show x∉l by have h:=O.out;rwa [List.take_of_length_le yz] at h);go_wp2_with fail;go_ret;exact⟨D.trans (C.mono D.size),by rw[dF L.out];rfl⟩
theorem qW(l:List (List UInt8))(A:Option Addr)(c:Nat)(w:World)(hn:l.length≤1099511627776)(ho:IdsOk l)(hsl:Sl w w.heap.size A l.length 32 (zf l)):
    Calls prog 259 #[.slice A l.length c] w fun e w'=>Below w.heap.size w w'∧e=.returned (.bool (je l)):=by
  have I:=hid hsl;clear hsl;have D:=hid ho;clear ho;go_enter func259,ntmps259;go_wp2_with fail
  go_loopw [3] (fun t wr=>∃i:Nat,i≤l.length∧t=.int .i64 ((i:Int)+1)∧Hid (Below w.heap.size w wr)∧Hid (∀j (h:j+1<l.length),j<i→jK (l[j]'(by omega)) l[j+1]<0)) (fun t _=>l.length+1 - (intOf t).toNat)
  case atStart=>exact⟨0,by omega,rfl,hid (qB _ _),hid fun j _ O=>absurd O yz⟩
  case round=>
    obtain⟨i,m,rfl,C,S⟩:=hrel;by_cases hlt:i+1<l.length
    ·have n:(0:Int)≤(i:Int):=by omega
     have W:((i:Int)+1)<(l.length:Int):=by omega
     have o:(i:Int)<(l.length:Int):=by omega
     have p:(0:Int)≤(i:Int)+1:=by omega
     have r:((i:Int)+1) - 1=(i:Int):=by omega
     have T:((i:Int)+1)=((i+1:Nat):Int):=by omega
     have d:((i:Int)+1).toNat=i+1:=by omega
     have s:IntKind.i64.wrap (i:Int)=(i:Int):=IntWalk.i64_in _ ⟨by omega,by omega⟩;obtain⟨b,f,rfl,g,P⟩:=(I.keep C.out).2 yz;have X:=hid (Sl.id (B:=0) D.out P (i:=i) yz);have Y:=hid (Sl.id (B:=0) D.out P (i:=i+1) hlt);have J:=hid (show jp (l[i]'(by omega)) from D.out _ (List.getElem_mem _));have K:=hid (show jp l[i+1] from D.out _ (List.getElem_mem _));clear P T;go_wp2_with fail;refine wp_region_still_tail 9 yy yy ?_;simp only[List.take_succ_cons,List.take_zero,List.drop_succ_cons,List.drop_zero]
     repeat still_step
     refine KL yx 41 _ rfl b _ rfl (idV (l[i]'(by omega))) _ X.out underlying41 rfl (by rw[kf,J.out];exact js) ?_
     repeat still_step
     refine KL yx 41 _ rfl b _ rfl (idV l[i+1]) _ Y.out underlying41 rfl (by rw[kf,K.out];exact js) ?_;refine wpStill_nil ?_;change wpList _ _ _ _ _ wr.drew;generalize hwd:wr.drew=w2;have G:Below w.heap.size w w2:=by rw[←hwd];exact C.drew
     clear hwd;have H:0≤jK (l[i]'(by omega)) l[i+1]→je l=false:=by
       intro h;rw[Bool.eq_false_iff];intro Z;have:=Z5.1 Z i hlt;omega
     have Q:jK (l[i]'(by omega)) l[i+1]<0→∀j (h:j+1<l.length),j<i+1→jK (l[j]'(by omega)) l[j+1]<0:=by
       intro h j O k;rcases (by omega:j<i∨j=i) with q|q
       ·exact S.out j O q
       ·subst q;exact h
     have L:=hid H;clear H;have M:=hid Q;clear Q;go_wp2_with fail;refine(refCompare_gr (l[i]'(by omega)) l[i+1] _ J.out K.out).mono ?_;generalize jK (l[i]'(by omega)) l[i+1]=q at *;rintro e u ⟨U,rfl⟩;have R:=U.below;have E:=hid (G.trans (R.mono G.size));clear R G;by_cases hq:0≤q
     ·have N:=hid (L.out hq);have a:decide (0≤q)=true:=dT hq;go_wp2_with fail;go_ret;exact⟨E.out,by rw[N.out];rfl⟩
     ·have V:q<0:=by omega
      have a:decide (0≤q)=false:=dF hq;go_wp2_with fail
      go_roundw
      case rel=>exact⟨i+1,by omega,by go_num,E,hid (M.out V)⟩
      case measure=>(simp [intOf])<;>omega
    ·have W:¬((i:Int)+1)<(l.length:Int):=by omega
     have F:=hid (show je l=true from Z5.2 fun j O=>S.out j O yz);go_wp2_with fail;go_ret;exact⟨C.out,by rw[F.out];rfl⟩
theorem ids_same{l:List (List UInt8)}{most:Nat}(ho:IdsOk l):ZU l most=(decide (l.length≤most) && je l && !decide (k7∈l)):=by
  rcases hb:ZU l most with _ | _
  ·rcases A:(decide (l.length≤most) && je l && !decide (k7∈l)) with _ | _
   ·rfl
   ·exfalso
    simp only[Bool.and_eq_true,Bool.not_eq_true',decide_eq_true_eq,decide_eq_false_iff_not] at A;unfold ZU at hb;simp only[A.1.1,A.1.2,decide_true,Bool.true_and,Bool.or_eq_false_iff,decide_eq_false_iff_not,Bool.not_eq_false',decide_eq_true_eq] at hb;rcases l with _ |⟨a,t⟩
    ·exact hb.1 rfl
    ·exact A.2 (by have h:=hb.2;simp only[List.headD_cons] at h;rw[←h];exact List.mem_cons_self)
  ·obtain⟨A,B,C⟩:=Uc hb ho;simp [A,B,C]
theorem refIds_any(l:List (List UInt8))(A:Option Addr)(c:Nat)(most:Nat)(w:World)(hmost:most≤1099511627776)(hn:l.length≤1099511627776)(ho:IdsOk l)(hs:Sl w w.heap.size A l.length 32 (zf l)):
    Calls prog 235 #[.slice A l.length c,.int .i64 (most:Int)] w fun e w'=>Below w.heap.size w w'∧e=.returned (.bool (ZU l most)):=by
  have E:=hid (ids_same (most:=most) ho);have G:=hid ho;have H:=hid hs
  clear ho hs;by_cases h1:l.length≤most
  ·have M:decide ((l.length:Int)≤(most:Int))=true:=dT yz;have N:(l.length:Int)≤(most:Int):=by omega
   have C:Hid (ZU l most=(je l && !decide (k7∈l))):=hid (by rw[E.out,dT h1,Bool.true_and]);clear E h1;obtain⟨O,J⟩:∃b,je l=b:=⟨_,rfl⟩;have D:=hid J;clear J;cases O
   ·go_enter func235,ntmps235
    go_wp2_with (first
      |(go_at_call 259;refine(qW l A c w hn G.out H.out).mono ?_;rintro e L ⟨F,rfl⟩;rw[D.out];have B:=hid F;clear F))
    go_ret;exact⟨B.out,by rw[C.out,D.out];rfl⟩
   ·go_enter func235,ntmps235
    go_wp2_with (first
      |(refine k5 yx (kj 41 #[] rfl (zu _)) ?_)
      |(go_at_call 259;refine(qW l A c w hn G.out H.out).mono ?_;rintro e L ⟨F,rfl⟩;rw[D.out];have B:=hid F;clear F)
      |(go_at_call 30;refine(refIn_any l k7 A c L hn G.out jL ((H.keep B.out).more B.size)).mono ?_;rintro e P ⟨K,rfl⟩;have I:=hid (B.trans (K.mono B.size));clear K))
    go_ret;exact⟨I.out,by rw[C.out,D.out];rfl⟩
  ·have M:decide ((l.length:Int)≤(most:Int))=false:=dF yz;have N:¬(l.length:Int)≤(most:Int):=by omega
   have C:Hid (ZU l most=false):=hid (by rw[E.out,dF h1];rfl);clear E h1;go_enter func235,ntmps235;go_wp2_with fail;go_ret;exact⟨qB _ _,by rw[C.out];rfl⟩
theorem idsE_take{l:List (List UInt8)}{i:Nat}(h:i<l.length):(l.take (i+1)).flatten=(l.take i).flatten++l[i]:=by
  rw[List.take_succ_eq_append_getElem h,List.flatten_append];simp
theorem flat_len8{l:List (List UInt8)}(h:IdsOk l):l.flatten.length=l.length*32:=by
  induction l with
  |nil=>rfl
  |cons a t ih=>
   have A:a.length=32:=h a yq;have B:=ih h.tail;simp only[List.flatten_cons,List.length_append,List.length_cons,A,B];omega
theorem refList_any(l:List (List UInt8))(A:Option Addr)(c:Nat)(w:World)(hn:l.length≤1099511627776)(ho:IdsOk l)(hs:Sl w w.heap.size A l.length 32 (zf l)):
    Calls prog 202 #[.slice A l.length c] w (uc (Zs l) w):=by
  have I:=hid ho;have Z:=hid hs
  have L:=hid (jn (n:=l.length) yz);have a:=hid (show Zs l=jq l.length++l.flatten by unfold Zs;rw[zm]);clear ho hs;go_enter func202,ntmps202
  go_upto_region 2 with (first
    |(go_at_call 204;refine(Kn l.length yz w).mono ?_;rintro e v ⟨V,f,g,rfl,W⟩;have M:=hid V;have N:=hid W
      clear V W))
  go_wp2_with fail
  go_loopw [3,4] (fun t3 t4 wr=>∃(i:Nat) (Ao:Option Addr) (S F:Nat),i≤l.length∧t4=.int .i64 (i:Int)∧t3=.slice Ao F S∧Hid ((jq l.length++(l.take i).flatten).length=F)∧Hid (Below w.heap.size w wr)∧Hid (wr.ownsRow w.heap.size 5 1 (.slice Ao F S) F (idV (jq l.length++(l.take i).flatten)))) (fun _ t4 _=>l.length - (intOf t4).toNat)
  case atStart=>exact⟨0,f,g,_,Nat.zero_le _,rfl,rfl,hid yq,M,hid (by rw[List.take_zero,List.flatten_nil,List.append_nil];exact N.out)⟩
  case round=>
    obtain⟨i,Ao,S,F,z,rfl,rfl,D,C,E⟩:=hrel;by_cases hlt:i<l.length
    ·have i0:(0:Int)≤(i:Int):=by omega
     have h:(i:Int)<(l.length:Int):=by omega
     obtain⟨b,K,rfl,s,X⟩:=(Z.keep C.out).2 yz;have J:=Sl.id (B:=0) I.out X (i:=i) hlt;obtain⟨x,U⟩:∃x,l[i]=x:=⟨_,rfl⟩;have O:=hid (show x.length=32 by rw[←U];exact I.out _ (List.getElem_mem hlt));rw[U] at J;have G:=hid (show (l.take (i+1)).flatten=(l.take i).flatten++x by rw[idsE_take hlt,U]);have t:F≤10+i*32:=by
       rw[←D.out,List.length_append,flat_len8 (I.sub fun y m=>List.mem_of_mem_take m),List.length_take];have:=L.out;have:min i l.length≤i:=Nat.min_le_left _ _;omega
     have P:=hid (show ∀j u,(idV x)[j]?=some u→wr.cell? ((⟨b,K+i*32,none⟩:Addr).add j)=some u from fun j u o=>by
       have p:(⟨b,K+i*32,none⟩:Addr).add j=⟨b,K+i*32+j,none⟩:=by unfold Addr.add;split<;>simp_all
       rw[p];exact J j u o)
     clear U J X
     go_wp2_with (first
       |(at_builtin;refine KM yx _ _ 169 rfl w.heap.size 5 (.int .u8 0) 1 1 underlying169 jg rfl yv (.slice Ao F S) F (idV (jq l.length++(l.take i).flatten)) rfl E.out ⟨b,K+i*32,none⟩ 32 32 (idV x) rfl (by rw[kf,O.out]) P.out (kV _) yk yz C.size ?_
         intro v9 w9 T Y d;obtain⟨q,r,rfl⟩:=kO T;have Q:=hid T;have R:=hid (C.grown Y C.size (fun k e=>(E.lt k e).1));clear T Y d))
     go_roundw
     case rel=>exact⟨i+1,q,r,F+32,by omega,by go_num,rfl,hid (by rw[G.out,←List.append_assoc,List.length_append,D.out,O.out]),R,hid (by rw[G.out,←List.append_assoc,uo];exact Q.out)⟩
     case measure=>(simp [intOf])<;>omega
    ·have h:¬(i:Int)<(l.length:Int):=by omega
     have H:=hid (show jq l.length++(l.take i).flatten=Zs l by rw[a.out,List.take_of_length_le yz]);go_wp2_with fail;go_ret;exact⟨C.out,Ao,S,by rw[←H.out,D.out];rfl,by rw[←H.out,D.out];exact E.out⟩
theorem Zc(deps:List (List UInt8))(rc:List UInt8)(ri:Nat)(A:Option Addr)(c:Nat)(w:World)(hn:deps.length≤1099511627776)(ho:IdsOk deps)(hset:je deps=true)(hz:k7∉deps)(hr:za (rc,((ri:Nat):Int)))(hin:rc=k7∨rc∈deps)(hri:ri<9223372036854775808)(hs:Sl w w.heap.size A deps.length 32 (zf deps)):
    Calls prog 205 #[.slice A deps.length c,.agg (kn (rc,((ri:Nat):Int))).toArray] w (uc (jT deps (rc,((ri:Nat):Int))) w):=by
  have a:=hid ho;have HS:=hid hs;have G:=hid hr
  have d:=hid hz;have U:=hid hset;have f:=hid hin
  clear ho hs hr hz hset hin;have A7:=enE func204 rfl;go_enter func205,ntmps205
  go_upto_region 1 with (first
    |(with_reducible refine kB ?_
      refine kr yx 110 _ rfl (kn (rc,((ri:Nat):Int))) _ rfl rfl (by rw[kq G.out];exact zM) ?_;intro V A8 Aa Al;have E:=hid A8;have H:=hid Aa
      clear A8 Aa Al))
  obtain⟨Q,A0⟩:∃z,w.heap.size=z:=⟨_,rfl⟩;have K:=hid (show Q<V.heap.size by rw[←A0];exact(qX H.out));rw[A0] at H ⊢
  try go_frame
  clear A0;have L:=hid (fun (u:World) (hu:Below V.heap.size V u)=>(show u.cell? ⟨Q,32,none⟩=some (.int .i64 ((ri:Nat):Int)) from (hu.cell (p:=⟨Q,32,none⟩) K.out).trans ((k4 H.out 32).trans (kL G.out).2)));go_wp2_with fail
  go_loopw [5,6] (fun t5 t6 wr=>∃(i n:Nat),i≤deps.length∧t6=.int .i64 (i:Int)∧t5=.int .i64 (n:Int)∧n≤i∧Hid (Below V.heap.size V wr)∧Hid ((n=0∧rc∉deps.take i)∨(0<n∧deps[n - 1]?=some rc))) (fun _ t6 _=>deps.length - (intOf t6).toNat)
  case atStart=>exact⟨0,0,Nat.zero_le _,rfl,rfl,qR _,hid (qB _ _),hid (.inl ⟨rfl,by simp⟩)⟩
  case round=>
    obtain⟨i,n,hi,rfl,rfl,At,C,g⟩:=hrel;by_cases hlt:i<deps.length
    ·have i0:(0:Int)≤(i:Int):=by omega
     have i1:(i:Int)<(deps.length:Int):=by omega
     have A1:=E.trans (C.mono E.size);obtain⟨b,Ab,rfl,Ac,Ad⟩:=(HS.keep A1).2 yz;have R1:=hid (Wd.row (base:=wr.heap.size) (Sl.id (B:=0) a.out Ad (i:=i) hlt) (qL Ac A1.size));have R2:=hid (Wd.row (base:=wr.heap.size) (o:=0) (cs:=idV rc) (b:=Q) (fun j u hj=>by rw[qZ];exact((C.cell (p:=⟨Q,j,none⟩) K.out).trans (k4 H.out j)).trans ((kL G.out).1 j u hj)) (qL K.out C.size));have M:=hid (show jp deps[i] from a.out _ (List.getElem_mem hlt));obtain⟨y,hy⟩:∃y,deps[i]=y:=⟨_,rfl⟩;rw[hy] at R1 M;have l:=hid (show deps.take (i+1)=deps.take i++[y] by rw[List.take_succ_eq_append_getElem hlt,hy]);have m:=hid (show deps[i]?=some y by rw[List.getElem?_eq_getElem hlt,hy]);clear Ad Ac A1 hy;by_cases he:y=rc
     ·have N:=hid (show (i+1=0∧rc∉deps.take (i+1))∨(0<i+1∧deps[i+1 - 1]?=some rc) from .inr ⟨by omega,by rw[Nat.add_sub_cancel,m.out,he]⟩);have O:Hid (∀u:World,(Op.equalIn 10000 41 (.agg (idV y).toArray) (.agg (idV rc).toArray)).run prog u=.ok true u):=hid (fun u=>(zY M.out G.1 u).trans (by rw[dT he]));clear he;go_wp2_with fail;refine zj (base:=wr.heap.size) wr (qB _ _) yy yy ?_
      repeat (first
        |go_big_quiet_skip
        |(go_big_quiet_want
          first
             |(refine kR (fun w' F=>kc 41 _ rfl (p:=⟨b,Ab+i*32,none⟩) rfl (qV w' _ _ _ (idV y) _ (R1.out w' F) underlying41 rfl (by rw[kf,show y.length=32 from M.out];exact js))) ?_
               go_big_quiet_on
               go_frame;try simp only[nTF])
             |(refine kR (fun w' F=>kc 41 _ rfl (p:=⟨Q,0,none⟩) rfl (qV w' _ _ _ (idV rc) _ (R2.out w' F) underlying41 rfl (by rw[kf,show rc.length=32 from G.1];exact js))) ?_
               go_big_quiet_on
               go_frame;try simp only[nTF])
             |(refine kR (fun w' F=>zS 41 _ _ _ rfl (xs:=(idV y).toArray) (ys:=(idV rc).toArray) rfl rfl (r:=true) eqId.noGuard (O.out w')) ?_
               go_big_quiet_on
               go_frame;try simp only[nTF])
             |(go_big_quiet_op
               go_big_quiet_on)))
      refine wpQuiet_nil ?_;rintro w' ⟨W,rfl⟩;have T:=W.2;generalize W.val=w9 at *;clear W;have P:=hid (C.trans (T.mono C.size));clear T;go_wp2_with fail
      go_roundw
      case rel=>exact⟨i+1,i+1,by omega,by go_num,by go_num,qR _,P,N⟩
      case measure=>(simp [intOf])<;>omega
     ·have N:=hid (show (n=0∧rc∉deps.take (i+1))∨(0<n∧deps[n - 1]?=some rc) from by
        rcases g.out with⟨q1,Z⟩|q
        ·exact .inl ⟨q1,by rw[l.out];simp only[List.mem_append,List.mem_singleton,not_or];exact⟨Z,fun h=>he h.symm⟩⟩
        ·exact .inr q)
      have O:Hid (∀u:World,(Op.equalIn 10000 41 (.agg (idV y).toArray) (.agg (idV rc).toArray)).run prog u=.ok false u):=hid (fun u=>(zY M.out G.1 u).trans (by rw[dF he]));clear he;go_wp2_with fail;refine zj (base:=wr.heap.size) wr (qB _ _) yy yy ?_
      repeat (first
        |go_big_quiet_skip
        |(go_big_quiet_want
          first
             |(refine kR (fun w' F=>kc 41 _ rfl (p:=⟨b,Ab+i*32,none⟩) rfl (qV w' _ _ _ (idV y) _ (R1.out w' F) underlying41 rfl (by rw[kf,show y.length=32 from M.out];exact js))) ?_
               go_big_quiet_on
               go_frame;try simp only[nTF])
             |(refine kR (fun w' F=>kc 41 _ rfl (p:=⟨Q,0,none⟩) rfl (qV w' _ _ _ (idV rc) _ (R2.out w' F) underlying41 rfl (by rw[kf,show rc.length=32 from G.1];exact js))) ?_
               go_big_quiet_on
               go_frame;try simp only[nTF])
             |(refine kR (fun w' F=>zS 41 _ _ _ rfl (xs:=(idV y).toArray) (ys:=(idV rc).toArray) rfl rfl (r:=false) eqId.noGuard (O.out w')) ?_
               go_big_quiet_on
               go_frame;try simp only[nTF])
             |(go_big_quiet_op
               go_big_quiet_on)))
      refine wpQuiet_nil ?_;rintro w' ⟨W,rfl⟩;have T:=W.2;generalize W.val=w9 at *;clear W;have P:=hid (C.trans (T.mono C.size));clear T;go_wp2_with fail
      go_roundw
      case rel=>exact⟨i+1,n,by omega,by go_num,rfl,by omega,P,N⟩
      case measure=>(simp [intOf])<;>omega
    ·have i1:¬(i:Int)<(deps.length:Int):=by omega
     have R:=hid (show jT deps (rc,((ri:Nat):Int))=jq n++jq ri from by
       unfold jT;simp only;rcases g.out with⟨q1,Z⟩|⟨q1,Z⟩
       ·rw[List.take_of_length_le yz] at Z;have hz:=f.resolve_right Z;rw[if_neg (by simp [hz]),q1];exact(congrArg (· ++UR (ri:Int)) (zm 0)).trans (by rw[zm])
       ·obtain⟨g1,g2⟩:=List.getElem?_eq_some_iff.1 Z;have Am:rc≠k7:=fun e=>d.out (by rw[←e,←g2];exact List.getElem_mem g1)
        have Ae:=idxOf_at U.out (n - 1) g1;rw[g2] at Ae;rw[if_pos Am,Ae,show (((n - 1:Nat):Int)+1)=((n:Nat):Int) by omega,zm,zm])
     have An:n<9223372036854775808:=by omega
     have Au:=jn (n:=n) yz;have Av:=jn (n:=ri) yz
     go_upto_region 7 with fail
     obtain⟨Y,A4⟩:∃u,wr.drew=u:=⟨_,rfl⟩;have D:=hid (show Below V.heap.size V Y by rw[←A4];exact C.drew);have s:=hid (L.out Y D.out);refine rN 4 (fun u=>u.cell? ⟨Q,32,none⟩=some (.int .i64 ((ri:Nat):Int))) (by rw[A4];exact s.out) fun Af=>?_
     rw[A4] at Af ⊢;refine tw 0 (.int .i64 (n:Int)) ?_;go_frame;refine tw 2 (.pointer (some ⟨Q,32,none⟩)) ?_;go_frame;refine tl 3 (.int .i64 ((ri:Nat):Int)) rfl Af (fun w' F=>l1 underlying3 F) ?_;go_frame;refine ta 1 ?_;refine tc #[.int .i64 (n:Int)] A7 rfl ?_;refine(Kn n An Y).mono ?_;rintro e w2 ⟨A5,A2,c2,rfl,Ag⟩;have I:=hid A5;have S:=hid Ag
     have Ao:=L.out w2 (D.trans (A5.mono D.size));clear A5 Ag;refine⟨_,rfl,fun _ _=>Ao,?_⟩;go_frame;refine ta 4 ?_;refine tc #[.int .i64 ((ri:Nat):Int)] A7 rfl ?_;refine(Kn ri hri w2).mono ?_;rintro e w3 ⟨Ah,A3,c3,rfl,Ai⟩;have J:=hid Ah;have t:=hid Ai
     clear Ah Ai;refine⟨_,rfl,fun h=>absurd h yv,?_⟩;go_frame;refine ta 5 ?_;refine J8 _ rfl yy ?_;obtain⟨im,Ap,Aq,Ar,As⟩:=info_parts jg;refine JQ _ _ 169 rfl Y.heap.size 5 im (.int .u8 0) 1 1 underlying169 Ap Aq Ar As rfl yv (.slice A2 (jq n).length c2) (jq n).length (idV (jq n)) rfl ((But.of_below (X:=NoB) J.out).own S.out fun _ _ q=>q) A3 (jq ri).length c3 w3.heap.size (idV (jq ri)) rfl (Sl.of_own t.out) (kV _) yk yz (qT I.size J.size) ?_;intro v9 w9 A6 Aj;obtain⟨A9,c9,rfl⟩:=kO A6;have v:=hid A6;have x:=hid (show Below Y.heap.size Y w9 from (I.trans (J.mono I.size)).grown Aj (qT I.size J.size) (fun k e=>(S.lt k e).1));clear A6 Aj;refine⟨fun h=>absurd h yv,?_⟩;go_frame;refine tw 6 (.slice A9 ((jq n).length+(jq ri).length) c9) ?_;go_frame;refine ku yy ?_ _;go_wp2_with fail;go_ret;have e1:(jT deps (rc,((ri:Nat):Int))).length=(jq n).length+(jq ri).length:=by rw[R.out,List.length_append]
     have Ak:w.heap.size≤Y.heap.size:=qT E.size D.size;exact⟨(E.trans (D.mono E.size)).trans (x.mono Ak),A9,c9,by rw[e1];rfl,by rw[e1,R.out,uo];exact own_base8 v.out Ak⟩
end
section
open Go.RowKit Go.Maps
structure BySt (w:World) (L:List (Nat×List Value×TypeId)) (ys:List UInt8) (A:Option Addr) (n c:Nat) (wx:World):Prop where
  bel:Below w.heap.size w wx
  own:wx.ownsRow w.heap.size 5 1 (.slice A n c) n (idV ys)
  len:ys.length=n
  boxes:∀t∈L,wx.heap[t.1]?=some (.cells t.2.1.toArray t.2.2 (0,0))∧t.2.2≠5
section
variable {w wx wy:World} {L:List (Nat×List Value×TypeId)} {ys X:List UInt8} {A A9:Option Addr} {n c m c9:Nat}
theorem BySt.call(h:BySt w L ys A n c wx)(hb:Below wx.heap.size wx wy):BySt w L ys A n c wy:=
  ⟨h.bel.trans (hb.mono h.bel.size),(But.of_below (X:=NoB) hb).own h.own (fun _ _ q=>q),h.len,fun t B=>⟨(hb.block t.1 (qX (h.boxes t B).1)).trans (h.boxes t B).1,(h.boxes t B).2⟩⟩
theorem BySt.app'(h:BySt w L ys A n c wx)(ho:wy.ownsRow w.heap.size 5 1 (.slice A9 (n+m) c9) (n+m) (idV ys++idV X))(hX:X.length=m)(hB:Below w.heap.size w wy)(hg:∀k,k<wx.heap.size→(Value.slice A n c).ownBlock≠some k→wy.heap[k]?=wx.heap[k]?):BySt w L (ys++X) A9 (n+m) c9 wy:=
  ⟨hB,by rw[uo];exact ho,by rw[List.length_append,h.len,hX],fun t D=>by
    obtain⟨B,C⟩:=h.boxes t D;exact⟨(hg t.1 (qX B) (own_not h.own B (fun e=>C e.symm))).trans B,C⟩⟩
theorem BySt.app(h:BySt w L ys A n c wx)(ho:wy.ownsRow w.heap.size 5 1 (.slice A9 (n+m) c9) (n+m) (idV ys++idV X))(hX:X.length=m)(hg:wx.grownBy wy (Value.slice A n c).ownBlock):BySt w L (ys++X) A9 (n+m) c9 wy:=
  h.app' ho hX (h.bel.grown hg h.bel.size fun k e=>(h.own.lt k e).1) fun k C B=>hg.block k C (fun e=>B e.symm)
theorem BySt.cellAt(h:BySt w L ys A n c wx){z:Nat}{cs:List Value}{T:TypeId}(ht:(z,cs,T)∈L)(j:Nat):wx.cell? ⟨z,j,none⟩=cs[j]?:=k4 (h.boxes _ ht).1 j
theorem BySt.add(h:BySt w L ys A n c wx){z:Nat}{cs:List Value}{T:TypeId}(hz:wx.heap[z]?=some (.cells cs.toArray T (0,0)))(hT:T≠5):BySt w ((z,cs,T)::L) ys A n c wx:=
  ⟨h.bel,h.own,h.len,fun t B=>by
    rcases List.mem_cons.1 B with rfl|B
    ·exact⟨hz,hT⟩
    ·exact h.boxes t B⟩
end
theorem idsE_len8{l:List (List UInt8)}(ho:IdsOk l)(h:l.length≤1099511627776):(Zs l).length≤10+l.length*32:=by
  unfold Zs;rw[zm,List.length_append,flat_len8 ho];have:=jn (n:=l.length) yz;omega
theorem uw{s:ByteArray}(h:s.size≤1099511627776):(jH (L s)).length≤10+s.size:=by
  unfold jH;rw[List.length_append,ji];have:=jn (n:=s.size) yz;omega
theorem own_lit8(w0 w:World)(v:Value)(hb:w0.heap.size≤w.heap.size):(w.alloc (.cells [v].toArray 5)).ownsRow w0.heap.size 5 1 (.slice (some ⟨w.heap.size,0,none⟩) 1 1) 1 [v]:=
  ⟨rfl,.inr ⟨w.heap.size,1,#[v],rfl,hb,heap_alloc_new _ _,qR _,by decide,by simp,by simp⟩⟩
theorem ZM{deps:List (List UInt8)}{rc:List UInt8}{ri:Nat}(hd:deps.length≤1099511627776)(hr:ri<9223372036854775808):(jT deps (rc,((ri:Nat):Int))).length≤20:=by
  have B:=jn (n:=ri) yz;have C:deps.idxOf rc≤deps.length:=List.idxOf_le_length;unfold jT;simp only
  split
  ·rw[show ((deps.idxOf rc:Int)+1)=((deps.idxOf rc+1:Nat):Int) by omega,zm,zm,List.length_append];have A:=jn (n:=deps.idxOf rc+1) yz;omega
  ·rw[show UR 0=jq 0 from zm 0,zm,List.length_append];have A:=jn (n:=0) yz;omega
end
end Go.Proofs.YtdgbjhfkmembdaaGreatDoor