/-
  Plain facts, and contracts of the functions that the claim's walk comes to, one behind the other. Conditions: as each says.
-/
import Derived.Test.YtdgbjhfkmembdaaGreatDoorPart4
import Derived.Test.YtdgbjhfkmembdaaGreatDoorPart6
import Derived.Test.YtdgbjhfkmembdaaGreatDoorPart10
import Derived.Test.YtdgbjhfkmembdaaGreatDoorPart7
import Derived.Test.YtdgbjhfkmembdaaGreatDoorPart5
import Derived.Test.YtdgbjhfkmembdaaGreatDoorPart8
set_option linter.unusedVariables false
set_option linter.unusedSimpArgs false
set_option maxHeartbeats 4000000
set_option maxRecDepth 100000
open Go.Proofs.Tryz
namespace Go.Proofs.YtdgbjhfkmembdaaGreatDoor
open Go.RowKit Go.Maps
section
open Lib (hid)
theorem JS(g:Nat)(deps:List (List UInt8))(mk:List jQ)(r:zC)(w:World)(hk:CkAt w g deps mk)(ho:IdsOk deps)(hn:deps.length≤1099511627776)(hmn:mk.length≤1099511627776)(hm:∀m∈mk,vM m)(hr:za r):
    Calls prog 250 #[.pointer (some ⟨g,0,none⟩),.agg (kn r).toArray] w fun e w'=>Below w.heap.size w w'∧e=.returned (.bool (JJ deps mk r)):=by
  have a:(prog.info? 41).map (·.size)=some (idV r.1).length:=by rw[kf,show r.1.length=32 from hr.1];exact js
  have b:(prog.info? 110).map (·.size)=some (kn r).length:=by rw[kq hr];exact zM
  have I:=hid a;have R:=hid b
  have HW:=hid (zJ hr.2);have Q:=hid (fun (u:World)=>zY hr.1 jL u);have Y:=hid zu;have E:=hid hk;have d:=hid ho;have G:=hid hr
  clear a b;have f:=hid hm;by_cases hz:r.1=k7
  ·have T:decide (r.1=k7)=true:=by simp [hz]
   have U:=hid (fun (u:World)=>(Q.out u).trans (by rw[T]));clear T Q;have N:Hid (JJ deps mk r=(decide (0≤r.2) && decide (r.2<mk.length) && (mk.getD r.2.toNat (false,kg)).1)):=hid (by unfold JJ;rw[if_neg (by simp [hz])]);clear hz hk ho hr hm;rcases (by omega:r.2<0∨(0≤r.2∧(mk.length:Int)≤r.2)∨(0≤r.2∧r.2<mk.length)) with q|⟨q,Z⟩|⟨q,Z⟩
   focus
     have l:decide (0≤r.2)=false:=by simp;omega
     have L:Hid (JJ deps mk r=false):=hid (by rw[N.out,l];rfl);clear q;go_enter func250,ntmps250
     go_upto_region 1 with fail
     obtain⟨C,A⟩:∃C,(w.alloc (.cells (kn r).toArray 110))=C:=⟨_,rfl⟩;have B:=hid (show Below w.heap.size w C by rw[←A];exact(qB _ _).alloc (qR _) _);have K:=hid (show w.heap.size<C.heap.size by rw[←A];simp);have D:=hid (show C.cell? ⟨w.heap.size,32,none⟩=some (.int .i64 r.2) by rw[←A];exact jv w _ _ _ _ (kL G.out).2);have F:=hid (show C.rangeAt w.heap.size 0 (idV r.1) by rw[←A];exact fun j u H=>by rw[qZ];exact jv w _ _ _ _ ((kL G.out).1 j u H));have J:=hid (show C.rangeAt w.heap.size 0 (kn r) by rw[←A];exact fun j u H=>by rw[qZ];exact jv w _ _ _ _ H);rw[A];clear A
     go_upto_region 3 with (first
       |(refine k5 yx (kc 41 _ rfl (p:=⟨w.heap.size,0,none⟩) rfl (qV _ _ _ _ _ _ F.out underlying41 rfl I.out)) ?_)
       |(refine k5 yx (kj 41 #[] rfl (Y.out _)) ?_)
       |(refine k5 yx (jb 41 _ _ _ rfl (xs:=(idV r.1).toArray) (ys:=(idV k7).toArray) rfl rfl (r:=true) eqId.noGuard (U.out _)) ?_;go_frame;try simp only[nTF]))
     have V:=Wg.cell D.out K.out
   rotate_left
   focus
     have l:decide (0≤r.2)=true:=by simp;omega
     have d2:decide (r.2<(mk.length:Int))=false:=by simp;omega
     have L:Hid (JJ deps mk r=false):=hid (by rw[N.out,l,d2];rfl);clear q Z;go_enter func250,ntmps250
     go_upto_region 1 with fail
     obtain⟨C,A⟩:∃C,(w.alloc (.cells (kn r).toArray 110))=C:=⟨_,rfl⟩;have B:=hid (show Below w.heap.size w C by rw[←A];exact(qB _ _).alloc (qR _) _);have K:=hid (show w.heap.size<C.heap.size by rw[←A];simp);have D:=hid (show C.cell? ⟨w.heap.size,32,none⟩=some (.int .i64 r.2) by rw[←A];exact jv w _ _ _ _ (kL G.out).2);have F:=hid (show C.rangeAt w.heap.size 0 (idV r.1) by rw[←A];exact fun j u H=>by rw[qZ];exact jv w _ _ _ _ ((kL G.out).1 j u H));have J:=hid (show C.rangeAt w.heap.size 0 (kn r) by rw[←A];exact fun j u H=>by rw[qZ];exact jv w _ _ _ _ H);rw[A];clear A
     go_upto_region 3 with (first
       |(refine k5 yx (kc 41 _ rfl (p:=⟨w.heap.size,0,none⟩) rfl (qV _ _ _ _ _ _ F.out underlying41 rfl I.out)) ?_)
       |(refine k5 yx (kj 41 #[] rfl (Y.out _)) ?_)
       |(refine k5 yx (jb 41 _ _ _ rfl (xs:=(idV r.1).toArray) (ys:=(idV k7).toArray) rfl rfl (r:=true) eqId.noGuard (U.out _)) ?_;go_frame;try simp only[nTF]))
     have V:=Wg.cell D.out K.out;obtain⟨Ad,cd,x,W,n,M⟩:=E.out;have cm:=Wg.cell ((B.cell (p:=⟨g,1,none⟩) E.lt).trans (k4 W 1)) (qL E.lt B.size);obtain⟨Am,X,rfl⟩:∃Am X,x=.slice Am mk.length X:=kO M;clear W n M
   rotate_left
   focus
     obtain⟨i,o⟩:∃i:Nat,r.2=(i:Int):=⟨r.2.toNat,by omega⟩;have c:i<mk.length:=by omega
     have s:0<mk.length:=by omega
     have L:Hid (JJ deps mk r=mk[i].1):=hid (by rw[N.out,dT q,dT Z,o,Int.toNat_natCast,List.getD_eq_getElem?_getD,List.getElem?_eq_getElem c];rfl);have k:=hid o;have i1:(0:Int)≤(i:Int):=by omega
     have i2:(i:Int)<(mk.length:Int):=by omega
     clear q Z o;go_enter func250,ntmps250
     go_upto_region 1 with fail
     obtain⟨C,A⟩:∃C,(w.alloc (.cells (kn r).toArray 110))=C:=⟨_,rfl⟩;have B:=hid (show Below w.heap.size w C by rw[←A];exact(qB _ _).alloc (qR _) _);have K:=hid (show w.heap.size<C.heap.size by rw[←A];simp);have D:=hid (show C.cell? ⟨w.heap.size,32,none⟩=some (.int .i64 r.2) by rw[←A];exact jv w _ _ _ _ (kL G.out).2);have F:=hid (show C.rangeAt w.heap.size 0 (idV r.1) by rw[←A];exact fun j u H=>by rw[qZ];exact jv w _ _ _ _ ((kL G.out).1 j u H));have J:=hid (show C.rangeAt w.heap.size 0 (kn r) by rw[←A];exact fun j u H=>by rw[qZ];exact jv w _ _ _ _ H);rw[A];clear A
     go_upto_region 3 with (first
       |(refine k5 yx (kc 41 _ rfl (p:=⟨w.heap.size,0,none⟩) rfl (qV _ _ _ _ _ _ F.out underlying41 rfl I.out)) ?_)
       |(refine k5 yx (kj 41 #[] rfl (Y.out _)) ?_)
       |(refine k5 yx (jb 41 _ _ _ rfl (xs:=(idV r.1).toArray) (ys:=(idV k7).toArray) rfl rfl (r:=true) eqId.noGuard (U.out _)) ?_;go_frame;try simp only[nTF]))
     have V:=Wg.cell D.out K.out;obtain⟨Ad,cd,x,W,n,M⟩:=E.out;have cm:=Wg.cell ((B.cell (p:=⟨g,1,none⟩) E.lt).trans (k4 W 1)) (qL E.lt B.size);obtain⟨t,X,rfl,-⟩:=qK M s;have P:=M.cellAt (i*34+0) yz;rw[K9 (fun m h=>jl (f.out m h)) i c 0 (.bool mk[i].1) rfl] at P;have CD:=Wg.cell ((B.cell (p:=⟨t,i*34+0,none⟩) (M.lt t rfl).2).trans P) (qL (M.lt t rfl).2 B.size);rw[Nat.add_zero] at CD;rw[k.out] at V;clear W n M P
   all_goals
     refine j8 yy yy ?_
     repeat (first
       |go_big_quiet_skip
       |(go_big_quiet_want
         first
            |(go_big_quiet_op
              first
                 |go_big_quiet_on
                 |go_big_quiet_call (first|(fail)))))
     refine wpQuiet_nil ?_;rintro w' ⟨v,rfl⟩;have y:=v.2;generalize v.val=w2 at *;clear v;have S:=hid (B.trans (y.below.mono B.size));go_wp2_with fail;go_ret;exact⟨S.out,by rw[L.out];rfl⟩
  ·have T:decide (r.1=k7)=false:=by simp [hz]
   have U:=hid (fun (u:World)=>(Q.out u).trans (by rw[T]));clear T Q;have L:Hid (JJ deps mk r=zH deps r):=hid (by unfold JJ;rw[if_pos hz]);clear hz hk ho hr hm;go_enter func250,ntmps250
   go_upto_region 1 with fail
   obtain⟨C,A⟩:∃C,(w.alloc (.cells (kn r).toArray 110))=C:=⟨_,rfl⟩;have B:=hid (show Below w.heap.size w C by rw[←A];exact(qB _ _).alloc (qR _) _);have K:=hid (show w.heap.size<C.heap.size by rw[←A];simp);have D:=hid (show C.cell? ⟨w.heap.size,32,none⟩=some (.int .i64 r.2) by rw[←A];exact jv w _ _ _ _ (kL G.out).2);have F:=hid (show C.rangeAt w.heap.size 0 (idV r.1) by rw[←A];exact fun j u H=>by rw[qZ];exact jv w _ _ _ _ ((kL G.out).1 j u H));have J:=hid (show C.rangeAt w.heap.size 0 (kn r) by rw[←A];exact fun j u H=>by rw[qZ];exact jv w _ _ _ _ H);rw[A];clear A;have O:=hid (E.keep B.out)
   go_wp2_with (first
     |(refine k5 yx (kc 41 _ rfl (p:=⟨w.heap.size,0,none⟩) rfl (qV _ _ _ _ _ _ F.out underlying41 rfl I.out)) ?_)
     |(refine k5 yx (kj 41 #[] rfl (Y.out _)) ?_)
     |(refine k5 yx (jb 41 _ _ _ rfl (xs:=(idV r.1).toArray) (ys:=(idV k7).toArray) rfl rfl (r:=false) eqId.noGuard (U.out _)) ?_;go_frame;try simp only[nTF])
     |(refine k5 yx (kc 110 _ rfl (p:=⟨w.heap.size,0,none⟩) rfl (qV _ _ _ _ _ _ J.out underlying110 rfl R.out)) ?_)
     |(go_at_call 275;refine(QV g deps mk r C O.out d.out hn G.out).mono ?_;rintro e w2 ⟨z,rfl⟩))
   go_ret;exact⟨B.trans (z.mono B.size),by rw[L.out];rfl⟩
theorem uW:(prog.info? 373).map (·.size)=some 34:=by kernel_rfl
theorem qS(w:World):(zeroValue 373).run prog w=.ok (.agg (kU (false,kg)).toArray) w:=by kernel_rfl
def okM(d:zC)(m:jQ):Bool:= !m.1 && decide (m.2=d)
theorem elems_all(deps:List (List UInt8))(mk:List jQ)(r d:zC)(i m:Nat)(hz:r.1=k7)(hi:r.2=(i:Int))(hm:i+m≤mk.length):jE deps mk r d (m:Int)=((mk.drop i).take m).all (okM d):=by
  unfold jE;rw[if_neg (by simp [hz]),hi];have A:decide ((0:Int)≤(i:Int))=true:=by simp
  have B:decide ((m:Int)≤(mk.length:Int))=true:=by simp;omega
  have C:decide ((i:Int)≤(mk.length:Int) - (m:Int))=true:=by simp;omega
  rw[A,B,C];rfl
theorem ZI(g:Nat)(deps:List (List UInt8))(mk:List jQ)(r d:zC)(m:Nat)(w:World)(hk:CkAt w g deps mk)(ho:IdsOk deps)(hn:deps.length≤1099511627776)(hmn:mk.length≤1099511627776)(hmk:∀m∈mk,vM m)(hr:za r)(hd:za d)(hm1:1≤m)(hm2:m≤4096):
    Calls prog 251 #[.pointer (some ⟨g,0,none⟩),.agg (kn r).toArray,.agg (kn d).toArray,.int .i64 (m:Int)] w fun e w'=>Below w.heap.size w w'∧e=.returned (.bool (jE deps mk r d (m:Int))):=by
  have Aj:=hk;have Ax:(prog.info? 41).map (·.size)=some (idV r.1).length:=by rw[kf,show r.1.length=32 from hr.1];exact js
  have A3:=hid Ax;have J:=hid hr;have HD:=hid hd;have A4:=hid hk;have HO:=hid ho;have HM:=hid hmk
  have AC:=hid (zJ hr.2);have As:=hid (fun (u:World)=>zY hr.1 jL u);have ZB:=hid zu;by_cases hz:r.1=k7
  ·have EQ:=hid (fun (u:World)=>(As.out u).trans (by rw[dT hz]));have HF:Hid (jE deps mk r d (m:Int)=(decide (0≤r.2) && decide ((m:Int)≤mk.length) && decide (r.2≤mk.length - (m:Int)) && ((mk.drop r.2.toNat).take (m:Int).toNat).all fun q=> !q.1 && decide (q.2=d))):=hid (by unfold jE;rw[if_neg (by simp [hz])]);have At:=hid hz;clear Ax As hz hr hd hk ho hmk;rcases (by omega:r.2<0∨(0≤r.2∧mk.length<m)∨(0≤r.2∧m≤mk.length∧(mk.length:Int) - m<r.2)∨(0≤r.2∧m≤mk.length∧r.2≤(mk.length:Int) - m)) with q|⟨q,q2⟩|⟨q,q2,q3⟩|⟨q,q2,q3⟩
   ·have d1:decide (r.2<0)=true:=dT q;have R:Hid (jE deps mk r d (m:Int)=false):=hid (by rw[HF.out,dF (show ¬(0:Int)≤r.2 by omega)];rfl);clear q;go_enter func251,ntmps251
    go_upto_region 1 with (first
      |(with_reducible refine kB ?_
        refine kr yx 110 _ rfl (kn r) _ rfl rfl (by rw[kq J.out];exact zM) ?_;intro W0 Z a o;have N:=hid Z;have E:=hid a;have O:=hid o
        clear Z a o)
      |(with_reducible refine kB ?_
        refine kr yx 110 _ rfl (kn d) _ rfl rfl (by rw[kq HD.out];exact zM) ?_;intro Y s v y;have F:=hid s;have G:=hid v;have P:=hid y
        clear s v y))
    have A1:=hid Aj.lt;have I:w.heap.size<W0.heap.size:=(qX E.out);have D:=hid ((F.block w.heap.size I).trans E.out);have B:=hid (N.trans (F.mono (Nat.le_of_lt I)));have C:=hid (A4.keep B.out);have M:w.heap.size<Y.heap.size:=qL I F.size;have S:W0.heap.size<Y.heap.size:=(qX G.out);obtain⟨T,H⟩:∃T,w.heap.size=T:=⟨_,rfl⟩;obtain⟨z,Q⟩:∃z,W0.heap.size=z:=⟨_,rfl⟩;rw[H] at D M ⊢;rw[Q] at G S ⊢;have A6:=hid H;clear I H Q O P E
    go_upto_region 3 with (first
      |(with_reducible refine k6 ?_
        refine k5 yx (kc 41 _ rfl (p:=⟨T,0,none⟩) rfl (qV _ _ _ _ (idV r.1) _ (fun j u X=>by rw[qZ];exact(k4 D.out j).trans ((kL J.out).1 j u X)) underlying41 rfl A3.out)) ?_)
      |(with_reducible refine kJ ?_
        refine k5 yx (kj 41 #[] rfl (ZB.out _)) ?_)
      |(with_reducible refine kG ?_
        refine k5 yx (jb 41 _ _ _ rfl (xs:=(idV r.1).toArray) (ys:=(idV k7).toArray) rfl rfl (r:=true) eqId.noGuard (EQ.out _)) ?_;go_frame;try simp only[nTF]))
    have A7:=Wg.cell (show Y.cell? ⟨T,32,none⟩=some (.int .i64 r.2) from (k4 D.out 32).trans (kL J.out).2) M;obtain⟨Ad,cd,vm,h1,h2,h3⟩:=C.out;have cm:=Wg.cell (k4 h1 1) C.lt;obtain⟨Am,A0,rfl⟩:∃Am A0,vm=.slice Am mk.length A0:=kO h3;clear h1 h2 h3;refine j8 yy yy ?_
    repeat (first
      |go_big_quiet_skip
      |(go_big_quiet_want
        first
           |(go_big_quiet_op
             first
                |go_big_quiet_on
                |go_big_quiet_call (first|(fail)))))
    refine wpQuiet_nil ?_;rintro w' ⟨kk,rfl⟩;have U:=kk.2;generalize kk.val=w5 at *;clear kk;have V:=hid (B.trans (U.below.mono B.size));clear A7 cm U;go_wp2_with fail;go_ret;exact⟨V.out,by rw[R.out];rfl⟩
   ·have d1:decide (r.2<0)=false:=dF yz;have d2:decide ((mk.length:Int)<(m:Int))=true:=dT yz;have AA:decide (mk.length<m)=true:=dT q2;have R:Hid (jE deps mk r d (m:Int)=false):=hid (by rw[HF.out,dF (show ¬(m:Int)≤mk.length by omega)];simp);clear q q2;go_enter func251,ntmps251
    go_upto_region 1 with (first
      |(with_reducible refine kB ?_
        refine kr yx 110 _ rfl (kn r) _ rfl rfl (by rw[kq J.out];exact zM) ?_;intro W0 Z a o;have N:=hid Z;have E:=hid a;have O:=hid o
        clear Z a o)
      |(with_reducible refine kB ?_
        refine kr yx 110 _ rfl (kn d) _ rfl rfl (by rw[kq HD.out];exact zM) ?_;intro Y s v y;have F:=hid s;have G:=hid v;have P:=hid y
        clear s v y))
    have A1:=hid Aj.lt;have I:w.heap.size<W0.heap.size:=(qX E.out);have D:=hid ((F.block w.heap.size I).trans E.out);have B:=hid (N.trans (F.mono (Nat.le_of_lt I)));have C:=hid (A4.keep B.out);have M:w.heap.size<Y.heap.size:=qL I F.size;have S:W0.heap.size<Y.heap.size:=(qX G.out);obtain⟨T,H⟩:∃T,w.heap.size=T:=⟨_,rfl⟩;obtain⟨z,Q⟩:∃z,W0.heap.size=z:=⟨_,rfl⟩;rw[H] at D M ⊢;rw[Q] at G S ⊢;have A6:=hid H;clear I H Q O P E
    go_upto_region 3 with (first
      |(with_reducible refine k6 ?_
        refine k5 yx (kc 41 _ rfl (p:=⟨T,0,none⟩) rfl (qV _ _ _ _ (idV r.1) _ (fun j u X=>by rw[qZ];exact(k4 D.out j).trans ((kL J.out).1 j u X)) underlying41 rfl A3.out)) ?_)
      |(with_reducible refine kJ ?_
        refine k5 yx (kj 41 #[] rfl (ZB.out _)) ?_)
      |(with_reducible refine kG ?_
        refine k5 yx (jb 41 _ _ _ rfl (xs:=(idV r.1).toArray) (ys:=(idV k7).toArray) rfl rfl (r:=true) eqId.noGuard (EQ.out _)) ?_;go_frame;try simp only[nTF]))
    have A7:=Wg.cell (show Y.cell? ⟨T,32,none⟩=some (.int .i64 r.2) from (k4 D.out 32).trans (kL J.out).2) M;obtain⟨Ad,cd,vm,h1,h2,h3⟩:=C.out;have cm:=Wg.cell (k4 h1 1) C.lt;obtain⟨Am,A0,rfl⟩:∃Am A0,vm=.slice Am mk.length A0:=kO h3;clear h1 h2 h3;refine j8 yy yy ?_
    repeat (first
      |go_big_quiet_skip
      |(go_big_quiet_want
        first
           |(go_big_quiet_op
             first
                |go_big_quiet_on
                |go_big_quiet_call (first|(fail)))))
    refine wpQuiet_nil ?_;rintro w' ⟨kk,rfl⟩;have U:=kk.2;generalize kk.val=w5 at *;clear kk;have V:=hid (B.trans (U.below.mono B.size));clear A7 cm U;go_wp2_with fail;go_ret;exact⟨V.out,by rw[R.out];rfl⟩
   ·have d1:decide (r.2<0)=false:=dF yz;have d2:decide ((mk.length:Int)<(m:Int))=false:=dF yz;have AA:decide (mk.length<m)=false:=dF yz;have d4:IntKind.i64.wrap ((mk.length:Int) - (m:Int))=(mk.length:Int) - (m:Int):=IntWalk.i64_in _ ⟨by omega,by omega⟩;have d3:decide ((mk.length:Int) - (m:Int)<r.2)=true:=dT q3;have R:Hid (jE deps mk r d (m:Int)=false):=hid (by rw[HF.out,dF (show ¬r.2≤(mk.length:Int) - m by omega)];simp);clear q q2 q3;go_enter func251,ntmps251
    go_upto_region 1 with (first
      |(with_reducible refine kB ?_
        refine kr yx 110 _ rfl (kn r) _ rfl rfl (by rw[kq J.out];exact zM) ?_;intro W0 Z a o;have N:=hid Z;have E:=hid a;have O:=hid o
        clear Z a o)
      |(with_reducible refine kB ?_
        refine kr yx 110 _ rfl (kn d) _ rfl rfl (by rw[kq HD.out];exact zM) ?_;intro Y s v y;have F:=hid s;have G:=hid v;have P:=hid y
        clear s v y))
    have A1:=hid Aj.lt;have I:w.heap.size<W0.heap.size:=(qX E.out);have D:=hid ((F.block w.heap.size I).trans E.out);have B:=hid (N.trans (F.mono (Nat.le_of_lt I)));have C:=hid (A4.keep B.out);have M:w.heap.size<Y.heap.size:=qL I F.size;have S:W0.heap.size<Y.heap.size:=(qX G.out);obtain⟨T,H⟩:∃T,w.heap.size=T:=⟨_,rfl⟩;obtain⟨z,Q⟩:∃z,W0.heap.size=z:=⟨_,rfl⟩;rw[H] at D M ⊢;rw[Q] at G S ⊢;have A6:=hid H;clear I H Q O P E
    go_upto_region 3 with (first
      |(with_reducible refine k6 ?_
        refine k5 yx (kc 41 _ rfl (p:=⟨T,0,none⟩) rfl (qV _ _ _ _ (idV r.1) _ (fun j u X=>by rw[qZ];exact(k4 D.out j).trans ((kL J.out).1 j u X)) underlying41 rfl A3.out)) ?_)
      |(with_reducible refine kJ ?_
        refine k5 yx (kj 41 #[] rfl (ZB.out _)) ?_)
      |(with_reducible refine kG ?_
        refine k5 yx (jb 41 _ _ _ rfl (xs:=(idV r.1).toArray) (ys:=(idV k7).toArray) rfl rfl (r:=true) eqId.noGuard (EQ.out _)) ?_;go_frame;try simp only[nTF]))
    have A7:=Wg.cell (show Y.cell? ⟨T,32,none⟩=some (.int .i64 r.2) from (k4 D.out 32).trans (kL J.out).2) M;obtain⟨Ad,cd,vm,h1,h2,h3⟩:=C.out;have cm:=Wg.cell (k4 h1 1) C.lt;obtain⟨Am,A0,rfl⟩:∃Am A0,vm=.slice Am mk.length A0:=kO h3;clear h1 h2 h3;refine j8 yy yy ?_
    repeat (first
      |go_big_quiet_skip
      |(go_big_quiet_want
        first
           |(go_big_quiet_op
             first
                |go_big_quiet_on
                |go_big_quiet_call (first|(fail)))))
    refine wpQuiet_nil ?_;rintro w' ⟨kk,rfl⟩;have U:=kk.2;generalize kk.val=w5 at *;clear kk;have V:=hid (B.trans (U.below.mono B.size));clear A7 cm U;go_wp2_with fail;go_ret;exact⟨V.out,by rw[R.out];rfl⟩
   ·obtain⟨i,hi⟩:∃i:Nat,r.2=(i:Int):=⟨r.2.toNat,by omega⟩;have AD:i+m≤mk.length:=by omega
    have Ah:=hid (elems_all deps mk r d i m At.out hi AD);have d1:decide ((i:Int)<0)=false:=dF yz;have d2:decide ((mk.length:Int)<(m:Int))=false:=dF yz;have AA:decide (mk.length<m)=false:=dF yz;have d4:IntKind.i64.wrap ((mk.length:Int) - (m:Int))=(mk.length:Int) - (m:Int):=IntWalk.i64_in _ ⟨by omega,by omega⟩;have d3:decide ((mk.length:Int) - (m:Int)<(i:Int))=false:=dF yz;have e5:IntKind.i64.wrap ((i:Int)+(m:Int))=(i:Int)+(m:Int):=IntWalk.i64_in _ ⟨by omega,by omega⟩;have HI:=hid hi;clear q q2 q3 hi;go_enter func251,ntmps251
    go_upto_region 1 with (first
      |(with_reducible refine kB ?_
        refine kr yx 110 _ rfl (kn r) _ rfl rfl (by rw[kq J.out];exact zM) ?_;intro W0 Z a o;have N:=hid Z;have E:=hid a;have O:=hid o
        clear Z a o)
      |(with_reducible refine kB ?_
        refine kr yx 110 _ rfl (kn d) _ rfl rfl (by rw[kq HD.out];exact zM) ?_;intro Y s v y;have F:=hid s;have G:=hid v;have P:=hid y
        clear s v y))
    have A1:=hid Aj.lt;have I:w.heap.size<W0.heap.size:=(qX E.out);have D:=hid ((F.block w.heap.size I).trans E.out);have B:=hid (N.trans (F.mono (Nat.le_of_lt I)));have C:=hid (A4.keep B.out);have M:w.heap.size<Y.heap.size:=qL I F.size;have S:W0.heap.size<Y.heap.size:=(qX G.out);obtain⟨T,H⟩:∃T,w.heap.size=T:=⟨_,rfl⟩;obtain⟨z,Q⟩:∃z,W0.heap.size=z:=⟨_,rfl⟩;rw[H] at D M ⊢;rw[Q] at G S ⊢;have A6:=hid H;clear I H Q O P E
    go_upto_region 3 with (first
      |(with_reducible refine k6 ?_
        refine k5 yx (kc 41 _ rfl (p:=⟨T,0,none⟩) rfl (qV _ _ _ _ (idV r.1) _ (fun j u X=>by rw[qZ];exact(k4 D.out j).trans ((kL J.out).1 j u X)) underlying41 rfl A3.out)) ?_)
      |(with_reducible refine kJ ?_
        refine k5 yx (kj 41 #[] rfl (ZB.out _)) ?_)
      |(with_reducible refine kG ?_
        refine k5 yx (jb 41 _ _ _ rfl (xs:=(idV r.1).toArray) (ys:=(idV k7).toArray) rfl rfl (r:=true) eqId.noGuard (EQ.out _)) ?_;go_frame;try simp only[nTF]))
    have A7:=Wg.cell (show Y.cell? ⟨T,32,none⟩=some (.int .i64 (i:Int)) from (k4 D.out 32).trans ((kL J.out).2.trans (by rw[HI.out]))) M;obtain⟨Ad,cd,vm,h1,h2,h3⟩:=C.out;have cm:=Wg.cell (k4 h1 1) C.lt;obtain⟨gm,A0,rfl,-⟩:=qK h3 yz;have AH:mk.length≤A0:=by
      rcases h3.2 with⟨h0,_⟩|⟨g',AI,AJ,h0,_,_,AK,_⟩
      ·cases h0
      ·injection h0 with _ _ h0;omega
    have AE:=(h3.lt gm rfl).2
    have Au:=hid (fun (k:Nat) (hk:k<mk.length) (j:Nat) (u:Value) (X:(kU mk[k])[j]?=some u)=>(show Y.cell? ⟨gm,k*34+j,none⟩=some u from
      (h3.cellAt (k*34+j) (by have h9:=(List.getElem?_eq_some_iff.1 X).1;rw[jl (HM.out _ (List.getElem_mem hk))] at h9;omega)).trans (K9 (fun m h=>jl (HM.out m h)) k hk j u X)))
    have Aq:Hid (sliced (some ⟨gm,0,none⟩) i (i+m) A0 34=.slice (some ⟨gm,i*34,none⟩) m (A0 - i)):=hid (by
      unfold sliced;rw[if_neg yz,Nat.add_sub_cancel_left];have e1:(⟨gm,0,none⟩:Addr).add (i*34)=⟨gm,i*34,none⟩:=by unfold Addr.add;split<;>simp_all
      rw[Option.map_some,e1])
    have Av:=hid (k4 h1 1);clear h1 h2 h3;refine j8 yy yy ?_
    repeat (first
      |go_big_quiet_skip
      |(go_big_quiet_want
        first
           |(go_big_quiet_op
             first
                |go_big_quiet_on
                |go_big_quiet_call (first|(fail)))))
    refine wpQuiet_nil ?_;rintro w' ⟨kk,rfl⟩;have U:=kk.2;generalize kk.val=w5 at *;clear kk;clear A7 cm
    go_upto_region 5 with fail
    have A7:=Wg.cell ((U.below.cell (p:=⟨T,32,none⟩) M).trans ((k4 D.out 32).trans ((kL J.out).2.trans (by rw[HI.out])))) (qL M U.below.size);have cm:=Wg.cell ((U.below.cell (p:=⟨g,1,none⟩) C.lt).trans Av.out) (qL C.lt U.below.size);refine j8 yy yy ?_
    repeat (first
      |go_big_quiet_skip
      |(go_big_quiet_want
        first
           |(refine kR (fun w' AL=>ex_slice_lh 347 _ _ _ rfl (A:=some ⟨gm,0,none⟩) (n:=mk.length) (c:=A0) (l:=i) (h:=i+m) rfl rfl (by first|rfl|(exact congrArg (Value.int .i64) yz)) underlying347 uW yz yz Aq.out) ?_
             go_big_quiet_on
             go_frame)
           |(go_big_quiet_op
             first
                |go_big_quiet_on
                |go_big_quiet_call (first|(fail)))))
    refine wpQuiet_nil ?_;rintro w' ⟨kk,rfl⟩;have AB:=kk.2;generalize kk.val=w6 at *;clear kk;have V:=hid (U.below.trans (AB.below.mono U.below.size));clear A7 cm U AB;go_wp2_with fail
    go_loopw [54] (fun t wr=>∃j:Nat,j≤m∧t=.int .i64 (j:Int)∧Hid (Below Y.heap.size Y wr)∧Hid (∀q (h:i+q<mk.length),q<j→okM d mk[i+q]=true)) (fun t _=>m - (intOf t).toNat)
    case atStart=>exact⟨0,Nat.zero_le _,rfl,V,hid (fun q _ h=>absurd h yz)⟩
    case round=>
      obtain⟨j,X,rfl,K,A8⟩:=hrel;by_cases hjm:j<m
      ·have j0:(0:Int)≤(j:Int):=by omega
       have j1:(j:Int)<(m:Int):=by omega
       have Ay:i+j<mk.length:=by omega
       have A9:=hid (fun (jj:Nat) (u:Value) (h:(kU mk[i+j])[jj]?=some u)=>(show wr.cell? ⟨gm,i*34+j*34+jj,none⟩=some u from by
         rw[show i*34+j*34+jj=(i+j)*34+jj by rw[Nat.add_mul]];exact(K.cell (p:=⟨gm,(i+j)*34+jj,none⟩) AE).trans (Au.out (i+j) Ay jj u h)))
       have L:=hid (show za mk[i+j].2 from HM.out _ (List.getElem_mem Ay));have Aw:=hid (fun (h:okM d mk[i+j]=true) (q:Nat) (hq:i+q<mk.length) (hqj:q<j+1)=>(show okM d mk[i+q]=true by
         rcases (by omega:q<j∨q=j) with h1|h1
         ·exact A8.out q hq h1
         ·subst h1;exact h))
       have Ai:=hid (fun (h:okM d mk[i+j]=false)=>(show jE deps mk r d (m:Int)=false by
         rw[Ah.out,Bool.eq_false_iff];intro h2;have h3:=List.all_eq_true.1 h2 mk[i+j] (by
           have h4:((mk.drop i).take m)[j]?=some mk[i+j]:=by
             rw[List.getElem?_take_of_lt hjm,List.getElem?_drop,List.getElem?_eq_getElem Ay]
           exact List.mem_of_getElem? h4)
         rw[h] at h3;cases h3))
       generalize mk[i+j]=x at *;cases hx1:x.1
       ·go_upto_region 8 with (first
          |(with_reducible refine k6 ?_
            refine j9 rfl 373 _ rfl gm _ rfl (kU x) _ A9.out underlying373 rfl (by rw[jl L.out];exact uW) ?_)
          |(with_reducible refine kA ?_
            refine ks yx 373 rfl (kU (false,kg)) (qS _) ?_;intro W6 Ak Al An;have Aa:=hid Ak;have Ab:=hid Al;have Ac:=hid An
            clear Ak Al An)
          |(with_reducible refine kw ?_
            refine ko yx 373 _ _ rfl wr.heap.size 0 [] (kU (false,kg)) [] (kU x) 373 _ rfl rfl rfl rfl (by simpa using Ab.out) (by rw[jl L.out];rfl) (by rw[jl L.out];exact uW) (Zb _) ?_;intro W7 Ao Ap Az;have Ae:=hid Ao;have A5:Hid (W7.heap[wr.heap.size]?=some (.cells (kU x).toArray 373 (0,0))):=hid (by simpa using Ap);clear Ao Ap Az))
        have W:Hid (Below wr.heap.size wr W7):=hid (Aa.trans (Ae.below (by have:=Ac.out;omega) (fun k hk e=>by omega)));have x0:W7.cell? ⟨wr.heap.size,0,none⟩=some (.bool x.1):=k4 A5.out 0;have Af:=hid (show W7.rangeAt wr.heap.size 1 (kn x.2) from fun j u X=>(k4 A5.out (1+j)).trans (by rw[Nat.add_comm];exact X));have Ag:=hid (show W7.rangeAt z 0 (kn d) from fun j u X=>by rw[qZ];exact((W.cell (p:=⟨z,j,none⟩) (qL S K.size)).trans ((K.cell (p:=⟨z,j,none⟩) S).trans (k4 G.out j))).trans X);have A2:=hid (K.trans (W.mono K.size));rw[hx1] at x0;by_cases hx2:x.2=d
        ·have EX:=hid (fun (u:World)=>(j7 L.out HD.out u).trans (by rw[dT hx2]));have Ar:=hid (Aw.out (by unfold okM;rw[hx1,dT hx2];rfl));clear hx2
         go_wp2_with (first
           |(with_reducible refine k6 ?_
             refine k5 yx (ldR L.out Af.out) ?_)
           |(with_reducible refine k6 ?_
             refine k5 yx (ldR HD.out Ag.out) ?_)
           |(with_reducible refine kG ?_
             refine k5 yx (jb 110 _ _ _ rfl (xs:=(kn x.2).toArray) (ys:=(kn d).toArray) rfl rfl (r:=true) eqRef.noGuard (EX.out _)) ?_))
         go_roundw
         case rel=>exact⟨j+1,by omega,by go_num,A2,Ar⟩
         case measure=>(simp [intOf])<;>omega
        ·have EX:=hid (fun (u:World)=>(j7 L.out HD.out u).trans (by rw[dF hx2]));have R:=hid (Ai.out (by unfold okM;rw[dF hx2,Bool.and_false]));clear hx2
         go_wp2_with (first
           |(with_reducible refine k6 ?_
             refine k5 yx (ldR L.out Af.out) ?_)
           |(with_reducible refine k6 ?_
             refine k5 yx (ldR HD.out Ag.out) ?_)
           |(with_reducible refine kG ?_
             refine k5 yx (jb 110 _ _ _ rfl (xs:=(kn x.2).toArray) (ys:=(kn d).toArray) rfl rfl (r:=false) eqRef.noGuard (EX.out _)) ?_))
         go_ret;exact⟨B.trans (A2.mono B.size),by rw[R.out];rfl⟩
       ·have R:=hid (Ai.out (by unfold okM;rw[hx1];rfl))
        go_upto_region 8 with (first
          |(with_reducible refine k6 ?_
            refine j9 rfl 373 _ rfl gm _ rfl (kU x) _ A9.out underlying373 rfl (by rw[jl L.out];exact uW) ?_)
          |(with_reducible refine kA ?_
            refine ks yx 373 rfl (kU (false,kg)) (qS _) ?_;intro W6 Ak Al An;have Aa:=hid Ak;have Ab:=hid Al;have Ac:=hid An
            clear Ak Al An)
          |(with_reducible refine kw ?_
            refine ko yx 373 _ _ rfl wr.heap.size 0 [] (kU (false,kg)) [] (kU x) 373 _ rfl rfl rfl rfl (by simpa using Ab.out) (by rw[jl L.out];rfl) (by rw[jl L.out];exact uW) (Zb _) ?_;intro W7 Ao Ap Az;have Ae:=hid Ao;have A5:Hid (W7.heap[wr.heap.size]?=some (.cells (kU x).toArray 373 (0,0))):=hid (by simpa using Ap);clear Ao Ap Az))
        have W:Hid (Below wr.heap.size wr W7):=hid (Aa.trans (Ae.below (by have:=Ac.out;omega) (fun k hk e=>by omega)));have x0:W7.cell? ⟨wr.heap.size,0,none⟩=some (.bool x.1):=k4 A5.out 0;have Af:=hid (show W7.rangeAt wr.heap.size 1 (kn x.2) from fun j u X=>(k4 A5.out (1+j)).trans (by rw[Nat.add_comm];exact X));have Ag:=hid (show W7.rangeAt z 0 (kn d) from fun j u X=>by rw[qZ];exact((W.cell (p:=⟨z,j,none⟩) (qL S K.size)).trans ((K.cell (p:=⟨z,j,none⟩) S).trans (k4 G.out j))).trans X);have A2:=hid (K.trans (W.mono K.size));rw[hx1] at x0;go_wp2_with fail;go_ret;exact⟨B.trans (A2.mono B.size),by rw[R.out];rfl⟩
      ·have j1:¬(j:Int)<(m:Int):=by omega
       have AF:j=m:=by omega
       have R:Hid (jE deps mk r d (m:Int)=true):=hid (by
         rw[Ah.out,List.all_eq_true];intro q hq;obtain⟨n,hn,rfl⟩:=List.getElem_of_mem hq;have AM:n<m:=by rw[List.length_take] at hn;omega
         have h1:=A8.out n yz yz;rw[List.getElem_take,List.getElem_drop];exact h1)
       clear AF;go_wp2_with fail;go_ret;exact⟨B.trans (K.mono B.size),by rw[R.out];rfl⟩
  ·have EQ:=hid (fun (u:World)=>(As.out u).trans (by rw[dF hz]));have R:Hid (jE deps mk r d (m:Int)=zH deps r):=hid (by unfold jE;rw[if_pos hz]);clear Ax As hz hr hd hk ho hmk;go_enter func251,ntmps251
   go_upto_region 1 with (first
     |(with_reducible refine kB ?_
       refine kr yx 110 _ rfl (kn r) _ rfl rfl (by rw[kq J.out];exact zM) ?_;intro W0 Z a o;have N:=hid Z;have E:=hid a;have O:=hid o
       clear Z a o)
     |(with_reducible refine kB ?_
       refine kr yx 110 _ rfl (kn d) _ rfl rfl (by rw[kq HD.out];exact zM) ?_;intro Y s v y;have F:=hid s;have G:=hid v;have P:=hid y
       clear s v y))
   have A1:=hid Aj.lt;have I:w.heap.size<W0.heap.size:=(qX E.out);have D:=hid ((F.block w.heap.size I).trans E.out);have B:=hid (N.trans (F.mono (Nat.le_of_lt I)));have C:=hid (A4.keep B.out);have M:w.heap.size<Y.heap.size:=qL I F.size;have S:W0.heap.size<Y.heap.size:=(qX G.out);obtain⟨T,H⟩:∃T,w.heap.size=T:=⟨_,rfl⟩;obtain⟨z,Q⟩:∃z,W0.heap.size=z:=⟨_,rfl⟩;rw[H] at D M ⊢;rw[Q] at G S ⊢;have A6:=hid H;clear I H Q O P E
   go_wp2_with (first
     |(with_reducible refine k6 ?_
       refine k5 yx (kc 41 _ rfl (p:=⟨T,0,none⟩) rfl (qV _ _ _ _ (idV r.1) _ (fun j u X=>by rw[qZ];exact(k4 D.out j).trans ((kL J.out).1 j u X)) underlying41 rfl A3.out)) ?_)
     |(with_reducible refine kJ ?_
       refine k5 yx (kj 41 #[] rfl (ZB.out _)) ?_)
     |(with_reducible refine kG ?_
       refine k5 yx (jb 41 _ _ _ rfl (xs:=(idV r.1).toArray) (ys:=(idV k7).toArray) rfl rfl (r:=false) eqId.noGuard (EQ.out _)) ?_;go_frame;try simp only[nTF])
     |(with_reducible refine k6 ?_
       refine k5 yx (ldR (b:=T) (f:=0) (r:=r) J.out (fun j u X=>by rw[qZ];exact(k4 D.out j).trans X)) ?_)
     |(go_at_call 275;refine(QV g deps mk r Y C.out HO.out hn J.out).mono ?_;rintro e w2 ⟨AG,rfl⟩))
   go_ret;exact⟨B.trans (AG.mono B.size),by rw[R.out];rfl⟩
end
def CkX(w:World)(g k:Nat):Prop:=k=g∨∃d v T z,w.heap[g]?=some (.cells #[d,v] T z)∧v.ownBlock=some k
def CkGo(g:Nat)(w w':World):Prop:=But (CkX w g) w w'∧∀i,i<w.heap.size→CkX w' g i→CkX w g i
section
variable {g:Nat} {deps:List (List UInt8)} {mk new:List jQ} {w w' w1 w2:World}
theorem CkX.at_{d v:Value}{T:TypeId}{z:Nat×Nat}(h:w.heap[g]?=some (.cells #[d,v] T z)){k:Nat}(hx:CkX w g k):k=g∨v.ownBlock=some k:=by
  rcases hx with q|⟨B,C,D,E,A,q⟩
  ·exact .inl q
  ·rw[h] at A;injection A with A;injection A with A _ _;injection A with A;injection A with _ A;injection A with A _;subst A;exact .inr q
theorem CkAt.low(h:CkAt w g deps mk){k:Nat}(hk:k<g):¬CkX w g k:=by
  obtain⟨Ad,D,v,A,_,B⟩:=h;intro C;rcases C.at_ A with q|q
  ·omega
  ·have:=(B.lt k q).1;omega
theorem CkAt.newNot(h:CkAt w g deps mk)(hb:Below w.heap.size w w'){k:Nat}(hk:w.heap.size≤k):¬CkX w' g k:=by
  have A:=h.lt;obtain⟨Ad,E,v,B,_,C⟩:=h;intro D;rcases D.at_ ((hb.block g A).trans B) with q|q
  ·omega
  ·have:=(C.lt k q).2;omega
theorem CkGo.refl(g:Nat)(w:World):CkGo g w w:=⟨But.refl _ _,fun _ _ h=>h⟩
theorem CkGo.trans(h:CkGo g w w1)(k:CkGo g w1 w2):CkGo g w w2:=
  ⟨h.1.trans k.1 fun i A B=>h.2 i A B,fun i A B=>h.2 i A (k.2 i (Nat.lt_of_lt_of_le A h.1.size) B)⟩
theorem CkGo.below(hg:g<w.heap.size)(h:Below w.heap.size w w'):CkGo g w w':=
  ⟨But.of_below h,fun i C A=>by
    rcases A with q|⟨d,v,T,z,B,q⟩
    ·exact .inl q
    ·exact .inr ⟨d,v,T,z,(h.block g hg).symm.trans B,q⟩⟩
theorem CkGo.cell(h:CkGo g w w'){k j:Nat}(hk:k<w.heap.size)(hx:¬CkX w g k):w'.cell? ⟨k,j,none⟩=w.cell? ⟨k,j,none⟩:=h.1.cell hk hx
theorem CkGo.not(h:CkGo g w w'){k:Nat}(hk:k<w.heap.size)(hx:¬CkX w g k):¬CkX w' g k:=fun q=>hx (h.2 k hk q)
theorem CkGo.belowG(h:CkGo g w w')(hw:CkAt w g deps mk):Below g w w':=h.1.below (Nat.le_of_lt hw.lt) fun k A=>hw.low A
theorem CkAt.put{v':Value}{Ad:Option Addr}{cd:Nat}{v:Value}(h1:w.heap[g]?=some (.cells #[.slice Ad deps.length cd,v] 349 (0,0)))(hs:Sl w g Ad deps.length 32 (zf deps))(h2:w.ownsRow (g+1) 373 34 v mk.length (ke kU mk))(hb:Below w.heap.size w w1)
    (ho:w2.ownsRow (g+1) 373 34 v' (mk.length+new.length) (ke kU mk++ke kU new)) (hg:w1.grownBy w2 v.ownBlock) (hw:QK w1.heap.size v v'):
    w2.cell? ⟨g,1,none⟩=some v∧w2.frozen? ⟨g,1,none⟩=false∧CkAt (w2.setCell ⟨g,1,none⟩ v') g deps (mk++new)∧CkGo g w (w2.setCell ⟨g,1,none⟩ v'):=by
  have A:=(Array.getElem?_eq_some_iff.1 h1).1;have F:=Nat.lt_of_lt_of_le A hb.size;have J:v.ownBlock≠some g:=fun e=>by have:=(h2.lt g e).1;omega
  have G:v'.ownBlock≠some g:=fun e=>by have:=(ho.lt g e).1;omega
  have B:w2.heap[g]?=some (.cells #[.slice Ad deps.length cd,v] 349 (0,0)):=((hg.block g F (fun e=>J e.symm)).trans (hb.block g A)).trans h1;have C:(w2.setCell ⟨g,1,none⟩ v').heap[g]?=some (.cells #[.slice Ad deps.length cd,v'] 349 (0,0)):=by
    simp [World.setCell,Array.getElem?_modify,B]
  have H:But (fun k=>k=g) w2 (w2.setCell ⟨g,1,none⟩ v'):=But.setCell (X:=fun k=>k=g) (But.refl _ _) (p:=⟨g,1,none⟩) (fun _=>rfl) v';have D:But (CkX w g) w (w2.setCell ⟨g,1,none⟩ v'):=But.setCell (But.grown (But.of_below hb) hg fun k E _=>.inr ⟨_,v,_,_,h1,E⟩) (fun _=>.inl rfl) v';refine⟨k4 (cs:=[.slice Ad deps.length cd,v]) B 1,by simp [World.frozen?,B],⟨Ad,cd,v',C,?_,?_⟩,D,?_⟩
  ·refine D.sl hs (Nat.le_of_lt A) fun k E I=>?_
   rcases I.at_ h1 with q|q
   ·omega
   ·have:=(h2.lt k q).1;omega
  ·have:=H.own ho fun k E e=>G (by rw[E,e])
   rw[List.length_append,Z7];exact this
  ·intro i K I;rcases I.at_ C with q|q
   ·exact .inl q
   ·rcases hw with e|⟨k,e,E⟩
    ·exact .inr ⟨_,v,_,_,h1,by rw[←e];exact q⟩
    ·rw[e] at q;injection q with q;have:=hb.size;omega
end
theorem uX:(prog.info? 373).map (fun i=>(i.zero,i.size,i.bytes))=some (some (.agg (kU (false,kg)).toArray),34,48):=by kernel_rfl
theorem madeDoc_built(w:World):(Instr.build 373 #[(0,.bool true)]).run prog w=.ok (.agg (kU (true,kg)).toArray) w:=by kernel_rfl
structure InsJ (g:Nat) (deps:List (List UInt8)) (mk:List jQ) (d:zC) (t:ByteArray) (zx zi:Nat) (pos i:Nat) (w:World):Prop where
  ck:CkAt w g deps (mk++List.replicate i (false,d))
  it:w.heap[zi]?=some (.stringIter t pos)
  low:g<zi
  lx:zx<w.heap.size
  nx:¬CkX w g zx
  ni:¬CkX w g zi
  doc:w.rangeAt zx 1 (kn d)
  nxi:zx≠zi
section
variable {g:Nat} {deps:List (List UInt8)} {mk:List jQ} {d:zC} {t:ByteArray} {zx zi pos i:Nat} {w w1 w2:World}
theorem InsJ.li(h:InsJ g deps mk d t zx zi pos i w):zi<w.heap.size:=(qX h.it)
theorem InsJ.iter(h:InsJ g deps mk d t zx zi pos i w)(pos':Nat):InsJ g deps mk d t zx zi pos' i (w.iterAt zi t pos'):=by
  have A:=h.low;have C:(w.iterAt zi t pos').heap[g]?=w.heap[g]?:=Lib.iterAt_other w zi g t pos' yz;have D:∀k,CkX (w.iterAt zi t pos') g k→CkX w g k:=fun k q=>q.elim .inl fun⟨a,v,T,z,B,q⟩=>.inr ⟨a,v,T,z,C▸B,q⟩
  obtain⟨Ad,E,F,B,G,H⟩:=h.ck;refine⟨⟨Ad,E,F,C.trans B,G.keep (Lib.below_iterAt (qB _ _) (Nat.le_of_lt A) t pos'),uk H h.it pos'⟩,Lib.iterAt_heap w zi t pos pos' h.it,A,by rw[Lib.iterAt_size];exact h.lx,fun q=>h.nx (D _ q),fun q=>h.ni (D _ q),fun j u I=>?_,h.nxi⟩;rw[←h.doc j u I];unfold World.cell?;simp only[Lib.iterAt_other w zi zx t pos' h.nxi]
theorem InsJ.put{v':Value}{Ad:Option Addr}{cd:Nat}{v:Value}(h:InsJ g deps mk d t zx zi pos i w)(h1:w.heap[g]?=some (.cells #[.slice Ad deps.length cd,v] 349 (0,0)))(hs:Sl w g Ad deps.length 32 (zf deps))(h2:w.ownsRow (g+1) 373 34 v (mk++List.replicate i (false,d)).length (ke kU (mk++List.replicate i (false,d))))(hb:Below w.heap.size w w1)
    (ho:w2.ownsRow (g+1) 373 34 v' ((mk++List.replicate i (false,d)).length+1) (ke kU (mk++List.replicate i (false,d))++kU (false,d))) (hg:w1.grownBy w2 v.ownBlock) (hw:QK w1.heap.size v v'):
    (w2.cell? ⟨g,1,none⟩=some v∧w2.rangeAt zx 1 (kn d))∧w2.frozen? ⟨g,1,none⟩=false∧InsJ g deps mk d t zx zi pos (i+1) (w2.setCell ⟨g,1,none⟩ v')∧CkGo g w (w2.setCell ⟨g,1,none⟩ v'):=by
  obtain⟨F,G,H,A⟩:=CkAt.put (new:=[(false,d)]) h1 hs h2 hb (by rw[show ke kU [((false,d):jQ)]=kU (false,d) by simp [ke]];exact ho) hg hw;have C:v.ownBlock≠some zx:=fun e=>h.nx (.inr ⟨_,v,_,_,h1,e⟩)
  have D:w2.heap[zx]?=w.heap[zx]?:=(hg.block zx (qL h.lx hb.size) (fun e=>C e.symm)).trans (hb.block zx h.lx);have E:w2.rangeAt zx 1 (kn d):=fun j u B=>by
    rw[←h.doc j u B];unfold World.cell?;simp only[D]
  refine⟨⟨F,E⟩,G,⟨?_,(A.1.block zi h.li h.ni).trans h.it,h.low,qL h.lx A.1.size,A.not h.lx h.nx,A.not h.li h.ni,fun j u B=>(A.cell h.lx h.nx).trans (h.doc j u B),h.nxi⟩,A⟩;rw[List.replicate_succ',←List.append_assoc];exact H
end
theorem made_built{d:zC}(hd:za d)(w:World):(Instr.build 373 #[(1,.agg (kn d).toArray)]).run prog w=.ok (.agg (kU (false,d)).toArray) w:=by
  obtain⟨i,B,C,_,_⟩:=info_parts uX;have E:(kn kg).length=33:=rfl;have h:=zl (P:=prog) B underlying373 C [[.bool false],kn kg] rfl (places:=[(0,1),(1,33)]) yy yy [(1,.agg (kn d).toArray)] (by
    intro q A;simp only[List.mem_cons,List.not_mem_nil,or_false] at A;subst A;exact⟨by show 1<2;omega,by show (kn d).toArray.size=33;rw[List.size_toArray,kq hd]⟩)
  have D:=run_build (P:=prog) w 373 #[(1,.agg (kn d).toArray)] _ h;refine D.trans ?_;simp [kU,Value.cells]
section
open Lib (hid)
def CkGives(g:Nat)(deps:List (List UInt8))(mk:List jQ)(x:OpD)(w:World)(e:Ending)(w':World):Prop:=
  Below g w w'∧e=.returned (.bool (opB deps mk x))∧(opB deps mk x=true→CkAt w' g deps (mk++zL x))
theorem zw{w w':World}{g:Nat}(hg:g≤w.heap.size)(h:Below w.heap.size w w'):Below g w w':=h.mono hg
theorem bytes0{s:ByteArray}(h:KW s=true):Kx s=0:=by
  unfold KW at h;rw[Bool.and_eq_true,decide_eq_true_eq] at h;unfold Kx;rw[if_neg yz,if_pos h.2]
theorem bytesN{s:ByteArray}(h:KW s=false):Kx s≠0:=by
  unfold KW at h;unfold Kx
  split
  ·decide
  ·split
   ·rename_i B A;rw[A,dT (show s.size≤4096 by omega)] at h;cases h
   ·decide
theorem fileB_ok{s:ByteArray}(h:KW s=true):okFrom s 0:=by
  unfold KW at h;rw[Bool.and_eq_true] at h;exact h.2
theorem ckop_all(g:Nat)(deps:List (List UInt8))(mk:List jQ)(k:UInt8)(d r:zC)(t:ByteArray)(n:Int)(q:ByteArray)(w:World)(hk:CkAt w g deps mk)(ho:IdsOk deps)(hn:deps.length≤1099511627776)(hmn:mk.length≤1000000000)(hm:∀m∈mk,vM m)(hx:KR (k,d,r,t,n,q))(hg:Glob w):
    Calls prog 227 #[.pointer (some ⟨g,0,none⟩),.agg (opV (k,d,r,t,n,q)).toArray] w (CkGives g deps mk (k,d,r,t,n,q) w):=by
  have P:=hid hk;have HO:=hid ho;have HM:=hid hm;have A:=hid hx;have HG:=hid hg
  clear hk ho hm hx hg;go_enter func227,ntmps227
  go_upto_region 1 with (first
    |(with_reducible refine kB ?_
      refine kr yx 112 _ rfl (opV (k,d,r,t,n,q)) _ rfl rfl (by rw[kH A.out];exact Kg) ?_;intro W3 AD Bf Bu;have AB:=hid AD;have A8:=hid Bf
      clear AD Bf Bu;go_frame))
  have Am:w.heap.size<W3.heap.size:=(qX A8.out);obtain⟨S,B2⟩:∃S,w.heap.size=S:=⟨_,rfl⟩;rw[B2] at A8 Am ⊢;have BE:g<S:=by rw[←B2];exact P.lt
  have Bv:w.heap.size≤S:=by omega
  clear B2;have A2:=hid (fun (u:World) (M:Below W3.heap.size W3 u)=>(show u.cell? ⟨S,0,none⟩=some (.int .u8 (k.toNat:Int)) from (M.cell (p:=⟨S,0,none⟩) Am).trans (k4 A8.out 0)));have Ac:=hid (show Below W3.heap.size W3 W3.drew from (qD _ _));have Ax:Hid ((zD k).getD (Jc zT)=(Jc ((kD k).getD zT))):=hid (by unfold zD;cases kD k<;>rfl);have B3:=enE func195 rfl
  go_cut [5,6] from 7 to 13 (fun t5 t6 wx=>∃a,t5=.pointer (some ⟨a,0,none⟩)∧t6=.bool (zD k).isSome∧W3.heap.size≤a∧Hid (Below W3.heap.size W3 wx)∧Hid (wx.heap[a]?=some (.cells (jN ((kD k).getD zT)).toArray 320 (0,0))))
  case first=>
    refine rN 8 (fun u=>u.cell? ⟨S,0,none⟩=some (.int .u8 (k.toNat:Int))) (A2.out _ Ac.out) fun AM=>?_
    refine tw 1 (.pointer (some ⟨S,0,none⟩)) ?_;go_frame;refine tl 2 (.int .u8 (k.toNat:Int)) rfl AM (fun w' AH=>l1 underlying5 AH) ?_;go_frame;refine um (rs:=[0,7]) yy yq ?_;intro q' AN;simp only[List.mem_cons,List.not_mem_nil,or_false] at AN;rcases AN with rfl|rfl
    ·refine Qo _ rfl yy (Ue (f:=195) (args:=#[]) rfl rfl (fun args w=>B3 w args) yq) ?_;refine(Qq (W3.drew)).mono ?_;rintro e v1 ⟨D,v,rfl,⟨mg,mn,rfl,AE⟩,-⟩;have Af:Below W3.heap.size W3 v1:=(Ac.out).trans (D.mono (Ac.out).size);refine⟨_,rfl,fun _ _=>A2.out _ Af,?_⟩;go_frame;refine um (rs:=[3,7]) yy yq ?_;intro q' AN;simp only[List.mem_cons,List.not_mem_nil,or_false] at AN;rcases AN with rfl|rfl
     focus
       refine zB _ rfl yy (UV 317 _ _ rfl (vm:=.map (some mg)) (vk:=u8K k) rfl rfl (MapV.look2 qI underlying317 (fun u=>qJ u) AE (k0:=k) trivial)) ?_;rw[Ax.out];refine⟨fun _ h=>h,?_⟩;go_frame;refine tw 4 (.tuple #[(Jc ((kD k).getD zT)),.bool (zD k).isSome]) ?_;go_frame;refine tw 5 (Jc ((kD k).getD zT)) ?_;go_frame;refine tw 6 (.bool (zD k).isSome) ?_;go_frame;refine ta 7 ?_;refine zV _ rfl yy 320 rfl (jN zT) (Uj _) ?_;intro va Aw AO Bg;have Ag:Below W3.heap.size W3 va:=(Af).trans (Aw.mono (Af).size);have AW:W3.heap.size≤(v1).heap.size:=(Af).size;have Bh:(v1).heap.size<va.heap.size:=by omega
       have Bi:=AE.below Aw;refine⟨fun _ _=>A2.out _ Ag,?_⟩
     rotate_left
     focus
       refine zV _ rfl yy 320 rfl (jN zT) (Uj _) ?_;intro va Aw AO Bg;have Ag:Below W3.heap.size W3 va:=(Af).trans (Aw.mono (Af).size);have AW:W3.heap.size≤(v1).heap.size:=(Af).size;have Bh:(v1).heap.size<va.heap.size:=by omega
       have Bi:=AE.below Aw;refine⟨fun _ _=>A2.out _ Ag,?_⟩;go_frame;refine ta 3 ?_;refine zB _ rfl yy (UV 317 _ _ rfl (vm:=.map (some mg)) (vk:=u8K k) rfl rfl (MapV.look2 qI underlying317 (fun u=>qJ u) Bi (k0:=k) trivial)) ?_;rw[Ax.out];refine⟨fun _ h=>h,?_⟩;go_frame;refine tw 4 (.tuple #[(Jc ((kD k).getD zT)),.bool (zD k).isSome]) ?_;go_frame;refine tw 5 (Jc ((kD k).getD zT)) ?_;go_frame;refine tw 6 (.bool (zD k).isSome) ?_
     all_goals
       go_frame;refine ta 8 ?_;refine kW _ rfl yy 320 _ _ rfl ((v1).heap.size) 0 [] (jN zT) [] (jN ((kD k).getD zT)) 320 (Jc ((kD k).getD zT)) rfl rfl rfl rfl (by simpa using AO) rfl yy (by intro u M;simp only[jN,List.mem_cons,List.not_mem_nil,or_false] at M;rcases M with rfl|rfl|rfl|rfl|rfl<;>rfl) ?_;intro vs B4 B5 Bw;have B6:Below W3.heap.size W3 vs:=(Ag).trans (B4.below (Ag).size (fun k hk=>by omega));have B7:W3.heap.size≤(v1).heap.size:=AW;refine⟨fun h=>absurd h yv,?_⟩;go_frame;refine tw 9 (.bool (zD k).isSome) ?_;go_frame;refine ku yy ?_ _;go_wp2_with fail
       go_meet
       case rel=>exact⟨(v1).heap.size,rfl,rfl,B7,hid B6,hid (by simpa using B5)⟩
    ·refine zV _ rfl yy 320 rfl (jN zT) (Uj _) ?_;intro va Aw AO Bg;have Ag:Below W3.heap.size W3 va:=(Ac.out).trans (Aw.mono (Ac.out).size);have AW:W3.heap.size≤(W3.drew).heap.size:=(Ac.out).size;have Bh:(W3.drew).heap.size<va.heap.size:=by omega
     refine⟨fun _ _=>A2.out _ Ag,?_⟩;go_frame;refine ta 0 ?_;refine Qo _ rfl yy (Ue (f:=195) (args:=#[]) rfl rfl (fun args w=>B3 w args) yq) ?_;refine(Qq (va)).mono ?_;rintro e v1 ⟨D,v,rfl,⟨mg,mn,rfl,AE⟩,-⟩;have Af:Below W3.heap.size W3 v1:=(Ag).trans (D.mono (Ag).size);have Bx:=(D.block _ (qX AO)).trans AO;refine⟨_,rfl,fun _ _=>A2.out _ Af,?_⟩;go_frame;refine ta 3 ?_;refine zB _ rfl yy (UV 317 _ _ rfl (vm:=.map (some mg)) (vk:=u8K k) rfl rfl (MapV.look2 qI underlying317 (fun u=>qJ u) AE (k0:=k) trivial)) ?_;rw[Ax.out];refine⟨fun _ h=>h,?_⟩;go_frame;refine tw 4 (.tuple #[(Jc ((kD k).getD zT)),.bool (zD k).isSome]) ?_;go_frame;refine tw 5 (Jc ((kD k).getD zT)) ?_;go_frame;refine tw 6 (.bool (zD k).isSome) ?_;go_frame;refine ta 8 ?_;refine kW _ rfl yy 320 _ _ rfl ((W3.drew).heap.size) 0 [] (jN zT) [] (jN ((kD k).getD zT)) 320 (Jc ((kD k).getD zT)) rfl rfl rfl rfl (by simpa using Bx) rfl yy (by intro u M;simp only[jN,List.mem_cons,List.not_mem_nil,or_false] at M;rcases M with rfl|rfl|rfl|rfl|rfl<;>rfl) ?_;intro vs B4 B5 Bw;have B6:Below W3.heap.size W3 vs:=(Af).trans (B4.below (Af).size (fun k hk=>by omega));have B7:W3.heap.size≤(W3.drew).heap.size:=AW;refine⟨fun h=>absurd h yv,?_⟩;go_frame;refine tw 9 (.bool (zD k).isSome) ?_;go_frame;refine ku yy ?_ _;go_wp2_with fail
     go_meet
     case rel=>exact⟨(W3.drew).heap.size,rfl,rfl,B7,hid B6,hid (by simpa using B5)⟩
  case rest=>
    obtain⟨a,rfl,rfl,BF,y,Q⟩:=hcut;obtain⟨O,By⟩:∃u:World,u=wc:=⟨_,rfl⟩;subst By;have I:Hid (Below w.heap.size w O):=hid (AB.trans (y.mono AB.size));have N:=hid (P.keep I.out);have Ay:=hid (HG.next I.out);clear A2 Ac Ax B3;by_cases h5:k=5
    ·have Y:=hid h5;have J:Hid (kD k=some (true,false,false,false,false)):=hid (by rw[h5];rfl);clear h5;have U:Hid (opB deps mk (k,d,r,t,n,q)=(kv (k,d,r,t,n,q) (true,false,false,false,false) && JJ deps mk d)):=hid (by unfold opB;rw[J.out,Y.out];simp);rw[J.out] at Q;have x:=(qX Q.out);have Ai:S<O.heap.size:=qL Am y.size;have E:=hid (fun (u:World) (M:Below O.heap.size O u)=>(show u.rangeAt S 0 (opV (k,d,r,t,n,q)) from fun j v o=>by rw[qZ];exact((M.cell (p:=⟨S,j,none⟩) Ai).trans ((y.cell (p:=⟨S,j,none⟩) Am).trans (k4 A8.out j))).trans o));have V:=hid (fun (u:World) (M:Below O.heap.size O u)=>(show u.rangeAt a 0 (jN (true,false,false,false,false)) from fun j v o=>by rw[qZ];exact((M.cell (p:=⟨a,j,none⟩) x).trans (k4 Q.out j)).trans o));have F:=hid (fun (u:World) (M:Below O.heap.size O u)=>(show u.cell? ⟨a,0,none⟩=some (.bool true)∧u.cell? ⟨a,4,none⟩=some (.bool false) from⟨(M.cell (p:=⟨a,0,none⟩) x).trans (k4 Q.out 0),(M.cell (p:=⟨a,4,none⟩) x).trans (k4 Q.out 4)⟩))
     have B:=hid (fun (u:World) (M:Below O.heap.size O u)=>(show u.cell? ⟨S,0,none⟩=some (.int .u8 5)∧u.cell? ⟨S,67,none⟩=some (.string t)∧u.cell? ⟨S,68,none⟩=some (.int .i64 n)∧u.cell? ⟨S,69,none⟩=some (.string q) from
       ⟨by have h:u.cell? ⟨S,0+0,none⟩=some (.int .u8 (k.toNat:Int)):=E.out u M 0 _ (kp A.out).1;rw[Y.out] at h;exact h,by have h:=E.out u M 67 _ (kp A.out).2.2.2.1;rw[qZ] at h;exact h,by have h:=E.out u M 68 _ (kp A.out).2.2.2.2.1;rw[qZ] at h;exact h,by have h:=E.out u M 69 _ (kp A.out).2.2.2.2.2;rw[qZ] at h;exact h⟩))
     have W:=hid (fun (u:World) (M:Below O.heap.size O u)=>(show u.rangeAt S 1 (kn d) from fun j v o=>by have h:=E.out u M (1+j) _ ((kp A.out).2.1 j v o);rw[qZ] at h;exact h));have A3:=hid (fun (u:World) (M:Below O.heap.size O u)=>(show u.rangeAt S 34 (kn r) from fun j v o=>by have h:=E.out u M (34+j) _ ((kp A.out).2.2.1 j v o);rw[qZ] at h;exact h));have dk:(zD k).isSome=true:=by unfold zD;rw[J.out];rfl
     rcases Bool.eq_false_or_eq_true (kv (k,d,r,t,n,q) (true,false,false,false,false)) with ha|ha
     rotate_left
     ·have T:=hid ha;have K:Hid (opB deps mk (k,d,r,t,n,q)=false):=hid (by rw[U.out,ha];simp);clear ha
      go_wp2_with (first
        |(with_reducible refine k6 ?_
          refine k5 yx (ldO A.out (E.out _ (qB _ _))) ?_)
        |(with_reducible refine k6 ?_
          refine k5 yx (kc 320 _ rfl (p:=⟨a,0,none⟩) rfl (qV _ _ _ _ (jN (true,false,false,false,false)) _ (V.out _ (qB _ _)) underlying320 rfl ju)) ?_)
        |(go_at_call 249;refine(jF (k,d,r,t,n,q) (true,false,false,false,false) k O A.out J.out).mono ?_;rintro e L ⟨D,rfl⟩;rw[T.out];have p1:=(F.out L D).1;have p4:=(F.out L D).2;have c:=(B.out L D).1;have l:=(B.out L D).2.2.2;have C:=hid D;clear D))
      go_ret;exact⟨zw (Nat.le_of_lt P.lt) (I.trans (C.mono I.size)),by rw[K.out];rfl,fun h=>by rw[K.out] at h;cases h⟩
     have T:=hid ha;clear ha;rcases Bool.eq_false_or_eq_true (JJ deps mk d) with s|s
     rotate_left
     ·have R:=hid s;have K:Hid (opB deps mk (k,d,r,t,n,q)=false):=hid (by rw[U.out,s];simp);clear s
      go_wp2_with (first
        |(with_reducible refine k6 ?_
          refine k5 yx (ldO A.out (E.out _ (qB _ _))) ?_)
        |(with_reducible refine k6 ?_
          refine k5 yx (kc 320 _ rfl (p:=⟨a,0,none⟩) rfl (qV _ _ _ _ (jN (true,false,false,false,false)) _ (V.out _ (qB _ _)) underlying320 rfl ju)) ?_)
        |(go_at_call 249;refine(jF (k,d,r,t,n,q) (true,false,false,false,false) k O A.out J.out).mono ?_;rintro e L ⟨D,rfl⟩;rw[T.out];have p1:=(F.out L D).1;have p4:=(F.out L D).2;have c:=(B.out L D).1;have l:=(B.out L D).2.2.2;have C:=hid D;clear D)
        |(with_reducible refine k6 ?_
          refine k5 yx (ldR A.1.1 (W.out _ C.out)) ?_)
        |(go_at_call 250;refine(JS g deps mk d L (N.keep C.out) HO.out hn yz HM.out A.1.1).mono ?_;rintro e Z ⟨b,rfl⟩;rw[R.out];have H:=C.trans (b.mono C.size);have Aq:=(F.out Z H).2;have Ar:=(B.out Z H).2.2.2;have As:=(B.out Z H).1;have G:=hid H;clear b H p1 p4 c l))
      go_ret;exact⟨zw (Nat.le_of_lt P.lt) (I.trans (G.mono I.size)),by rw[K.out];rfl,fun h=>by rw[K.out] at h;cases h⟩
     have R:=hid s;clear s;have K:Hid (opB deps mk (k,d,r,t,n,q)=true):=hid (by rw[U.out,T.out,R.out];rfl);have A5:Hid (zL (k,d,r,t,n,q)=[]):=hid (by unfold zL;rw[Y.out];rfl)
     go_wp2_with (first
       |(with_reducible refine k6 ?_
         refine k5 yx (ldO A.out (E.out _ (qB _ _))) ?_)
       |(with_reducible refine k6 ?_
         refine k5 yx (kc 320 _ rfl (p:=⟨a,0,none⟩) rfl (qV _ _ _ _ (jN (true,false,false,false,false)) _ (V.out _ (qB _ _)) underlying320 rfl ju)) ?_)
       |(go_at_call 249;refine(jF (k,d,r,t,n,q) (true,false,false,false,false) k O A.out J.out).mono ?_;rintro e L ⟨D,rfl⟩;rw[T.out];have p1:=(F.out L D).1;have p4:=(F.out L D).2;have c:=(B.out L D).1;have l:=(B.out L D).2.2.2;have C:=hid D;clear D)
       |(with_reducible refine k6 ?_
         refine k5 yx (ldR A.1.1 (W.out _ C.out)) ?_)
       |(go_at_call 250;refine(JS g deps mk d L (N.keep C.out) HO.out hn yz HM.out A.1.1).mono ?_;rintro e Z ⟨b,rfl⟩;rw[R.out];have H:=C.trans (b.mono C.size);have Aq:=(F.out Z H).2;have Ar:=(B.out Z H).2.2.2;have As:=(B.out Z H).1;have G:=hid H;clear b H p1 p4 c l))
     go_ret;exact⟨zw (Nat.le_of_lt P.lt) (I.trans (G.mono I.size)),by rw[K.out];rfl,fun _=>by rw[A5.out,List.append_nil];exact N.keep G.out⟩
    by_cases h4:k=4
    ·have Y:=hid h4;have J:Hid (kD k=some (true,false,false,false,true)):=hid (by rw[h4];rfl);clear h4 h5;have U:Hid (opB deps mk (k,d,r,t,n,q)=(kv (k,d,r,t,n,q) (true,false,false,false,true) && JJ deps mk d && jZ q)):=hid (by unfold opB;rw[J.out,Y.out];simp);rw[J.out] at Q;have x:=(qX Q.out);have Ai:S<O.heap.size:=qL Am y.size;have E:=hid (fun (u:World) (M:Below O.heap.size O u)=>(show u.rangeAt S 0 (opV (k,d,r,t,n,q)) from fun j v o=>by rw[qZ];exact((M.cell (p:=⟨S,j,none⟩) Ai).trans ((y.cell (p:=⟨S,j,none⟩) Am).trans (k4 A8.out j))).trans o));have V:=hid (fun (u:World) (M:Below O.heap.size O u)=>(show u.rangeAt a 0 (jN (true,false,false,false,true)) from fun j v o=>by rw[qZ];exact((M.cell (p:=⟨a,j,none⟩) x).trans (k4 Q.out j)).trans o));have F:=hid (fun (u:World) (M:Below O.heap.size O u)=>(show u.cell? ⟨a,0,none⟩=some (.bool true)∧u.cell? ⟨a,4,none⟩=some (.bool true) from⟨(M.cell (p:=⟨a,0,none⟩) x).trans (k4 Q.out 0),(M.cell (p:=⟨a,4,none⟩) x).trans (k4 Q.out 4)⟩))
     have B:=hid (fun (u:World) (M:Below O.heap.size O u)=>(show u.cell? ⟨S,0,none⟩=some (.int .u8 4)∧u.cell? ⟨S,67,none⟩=some (.string t)∧u.cell? ⟨S,68,none⟩=some (.int .i64 n)∧u.cell? ⟨S,69,none⟩=some (.string q) from
       ⟨by have h:u.cell? ⟨S,0+0,none⟩=some (.int .u8 (k.toNat:Int)):=E.out u M 0 _ (kp A.out).1;rw[Y.out] at h;exact h,by have h:=E.out u M 67 _ (kp A.out).2.2.2.1;rw[qZ] at h;exact h,by have h:=E.out u M 68 _ (kp A.out).2.2.2.2.1;rw[qZ] at h;exact h,by have h:=E.out u M 69 _ (kp A.out).2.2.2.2.2;rw[qZ] at h;exact h⟩))
     have W:=hid (fun (u:World) (M:Below O.heap.size O u)=>(show u.rangeAt S 1 (kn d) from fun j v o=>by have h:=E.out u M (1+j) _ ((kp A.out).2.1 j v o);rw[qZ] at h;exact h));have A3:=hid (fun (u:World) (M:Below O.heap.size O u)=>(show u.rangeAt S 34 (kn r) from fun j v o=>by have h:=E.out u M (34+j) _ ((kp A.out).2.2.1 j v o);rw[qZ] at h;exact h));have dk:(zD k).isSome=true:=by unfold zD;rw[J.out];rfl
     rcases Bool.eq_false_or_eq_true (kv (k,d,r,t,n,q) (true,false,false,false,true)) with ha|ha
     rotate_left
     ·have T:=hid ha;have K:Hid (opB deps mk (k,d,r,t,n,q)=false):=hid (by rw[U.out,ha];simp);clear ha
      go_wp2_with (first
        |(with_reducible refine k6 ?_
          refine k5 yx (ldO A.out (E.out _ (qB _ _))) ?_)
        |(with_reducible refine k6 ?_
          refine k5 yx (kc 320 _ rfl (p:=⟨a,0,none⟩) rfl (qV _ _ _ _ (jN (true,false,false,false,true)) _ (V.out _ (qB _ _)) underlying320 rfl ju)) ?_)
        |(go_at_call 249;refine(jF (k,d,r,t,n,q) (true,false,false,false,true) k O A.out J.out).mono ?_;rintro e L ⟨D,rfl⟩;rw[T.out];have p1:=(F.out L D).1;have p4:=(F.out L D).2;have c:=(B.out L D).1;have l:=(B.out L D).2.2.2;have C:=hid D;clear D))
      go_ret;exact⟨zw (Nat.le_of_lt P.lt) (I.trans (C.mono I.size)),by rw[K.out];rfl,fun h=>by rw[K.out] at h;cases h⟩
     have T:=hid ha;clear ha;rcases Bool.eq_false_or_eq_true (JJ deps mk d) with s|s
     rotate_left
     ·have R:=hid s;have K:Hid (opB deps mk (k,d,r,t,n,q)=false):=hid (by rw[U.out,s];simp);clear s
      go_wp2_with (first
        |(with_reducible refine k6 ?_
          refine k5 yx (ldO A.out (E.out _ (qB _ _))) ?_)
        |(with_reducible refine k6 ?_
          refine k5 yx (kc 320 _ rfl (p:=⟨a,0,none⟩) rfl (qV _ _ _ _ (jN (true,false,false,false,true)) _ (V.out _ (qB _ _)) underlying320 rfl ju)) ?_)
        |(go_at_call 249;refine(jF (k,d,r,t,n,q) (true,false,false,false,true) k O A.out J.out).mono ?_;rintro e L ⟨D,rfl⟩;rw[T.out];have p1:=(F.out L D).1;have p4:=(F.out L D).2;have c:=(B.out L D).1;have l:=(B.out L D).2.2.2;have C:=hid D;clear D)
        |(with_reducible refine k6 ?_
          refine k5 yx (ldR A.1.1 (W.out _ C.out)) ?_)
        |(go_at_call 250;refine(JS g deps mk d L (N.keep C.out) HO.out hn yz HM.out A.1.1).mono ?_;rintro e Z ⟨b,rfl⟩;rw[R.out];have H:=C.trans (b.mono C.size);have Aq:=(F.out Z H).2;have Ar:=(B.out Z H).2.2.2;have As:=(B.out Z H).1;have G:=hid H;clear b H p1 p4 c l))
      go_ret;exact⟨zw (Nat.le_of_lt P.lt) (I.trans (G.mono I.size)),by rw[K.out];rfl,fun h=>by rw[K.out] at h;cases h⟩
     have R:=hid s;clear s;rcases Bool.eq_false_or_eq_true (jZ q) with Ak|Ak
     rotate_left
     ·have A6:=hid Ak;have K:Hid (opB deps mk (k,d,r,t,n,q)=false):=hid (by rw[U.out,Ak];simp);clear Ak
      go_wp2_with (first
        |(with_reducible refine k6 ?_
          refine k5 yx (ldO A.out (E.out _ (qB _ _))) ?_)
        |(with_reducible refine k6 ?_
          refine k5 yx (kc 320 _ rfl (p:=⟨a,0,none⟩) rfl (qV _ _ _ _ (jN (true,false,false,false,true)) _ (V.out _ (qB _ _)) underlying320 rfl ju)) ?_)
        |(go_at_call 249;refine(jF (k,d,r,t,n,q) (true,false,false,false,true) k O A.out J.out).mono ?_;rintro e L ⟨D,rfl⟩;rw[T.out];have p1:=(F.out L D).1;have p4:=(F.out L D).2;have c:=(B.out L D).1;have l:=(B.out L D).2.2.2;have C:=hid D;clear D)
        |(with_reducible refine k6 ?_
          refine k5 yx (ldR A.1.1 (W.out _ C.out)) ?_)
        |(go_at_call 250;refine(JS g deps mk d L (N.keep C.out) HO.out hn yz HM.out A.1.1).mono ?_;rintro e Z ⟨b,rfl⟩;rw[R.out];have H:=C.trans (b.mono C.size);have Aq:=(F.out Z H).2;have Ar:=(B.out Z H).2.2.2;have As:=(B.out Z H).1;have G:=hid H;clear b H p1 p4 c l)
        |(go_at_call 173;refine(vU q Z A.2.2 (Ay.next G.out)).mono ?_;rintro e u3 ⟨Ao,rfl⟩;rw[A6.out];have A4:=G.trans (Ao.mono G.size);have A7:=hid A4;have B8:=(B.out u3 A4).1;clear Ao A4))
      go_ret;exact⟨zw (Nat.le_of_lt P.lt) (I.trans (A7.mono I.size)),by rw[K.out];rfl,fun h=>by rw[K.out] at h;cases h⟩
     have A6:=hid Ak;clear Ak;have K:Hid (opB deps mk (k,d,r,t,n,q)=true):=hid (by rw[U.out,T.out,R.out,A6.out];rfl);have A5:Hid (zL (k,d,r,t,n,q)=[]):=hid (by unfold zL;rw[Y.out];rfl)
     go_wp2_with (first
       |(with_reducible refine k6 ?_
         refine k5 yx (ldO A.out (E.out _ (qB _ _))) ?_)
       |(with_reducible refine k6 ?_
         refine k5 yx (kc 320 _ rfl (p:=⟨a,0,none⟩) rfl (qV _ _ _ _ (jN (true,false,false,false,true)) _ (V.out _ (qB _ _)) underlying320 rfl ju)) ?_)
       |(go_at_call 249;refine(jF (k,d,r,t,n,q) (true,false,false,false,true) k O A.out J.out).mono ?_;rintro e L ⟨D,rfl⟩;rw[T.out];have p1:=(F.out L D).1;have p4:=(F.out L D).2;have c:=(B.out L D).1;have l:=(B.out L D).2.2.2;have C:=hid D;clear D)
       |(with_reducible refine k6 ?_
         refine k5 yx (ldR A.1.1 (W.out _ C.out)) ?_)
       |(go_at_call 250;refine(JS g deps mk d L (N.keep C.out) HO.out hn yz HM.out A.1.1).mono ?_;rintro e Z ⟨b,rfl⟩;rw[R.out];have H:=C.trans (b.mono C.size);have Aq:=(F.out Z H).2;have Ar:=(B.out Z H).2.2.2;have As:=(B.out Z H).1;have G:=hid H;clear b H p1 p4 c l)
       |(go_at_call 173;refine(vU q Z A.2.2 (Ay.next G.out)).mono ?_;rintro e u3 ⟨Ao,rfl⟩;rw[A6.out];have A4:=G.trans (Ao.mono G.size);have A7:=hid A4;have B8:=(B.out u3 A4).1;clear Ao A4))
     go_ret;exact⟨zw (Nat.le_of_lt P.lt) (I.trans (A7.mono I.size)),by rw[K.out];rfl,fun _=>by rw[A5.out,List.append_nil];exact N.keep A7.out⟩
    by_cases h3:k=3
    ·have Y:=hid h3;have J:Hid (kD k=some (false,false,false,false,true)):=hid (by rw[h3];rfl);clear h3 h5 h4;have U:Hid (opB deps mk (k,d,r,t,n,q)=(kv (k,d,r,t,n,q) (false,false,false,false,true) && jZ q)):=hid (by unfold opB;rw[J.out,Y.out];simp);rw[J.out] at Q;have x:=(qX Q.out);have Ai:S<O.heap.size:=qL Am y.size;have E:=hid (fun (u:World) (M:Below O.heap.size O u)=>(show u.rangeAt S 0 (opV (k,d,r,t,n,q)) from fun j v o=>by rw[qZ];exact((M.cell (p:=⟨S,j,none⟩) Ai).trans ((y.cell (p:=⟨S,j,none⟩) Am).trans (k4 A8.out j))).trans o));have V:=hid (fun (u:World) (M:Below O.heap.size O u)=>(show u.rangeAt a 0 (jN (false,false,false,false,true)) from fun j v o=>by rw[qZ];exact((M.cell (p:=⟨a,j,none⟩) x).trans (k4 Q.out j)).trans o));have F:=hid (fun (u:World) (M:Below O.heap.size O u)=>(show u.cell? ⟨a,0,none⟩=some (.bool false)∧u.cell? ⟨a,4,none⟩=some (.bool true) from⟨(M.cell (p:=⟨a,0,none⟩) x).trans (k4 Q.out 0),(M.cell (p:=⟨a,4,none⟩) x).trans (k4 Q.out 4)⟩))
     have B:=hid (fun (u:World) (M:Below O.heap.size O u)=>(show u.cell? ⟨S,0,none⟩=some (.int .u8 3)∧u.cell? ⟨S,67,none⟩=some (.string t)∧u.cell? ⟨S,68,none⟩=some (.int .i64 n)∧u.cell? ⟨S,69,none⟩=some (.string q) from
       ⟨by have h:u.cell? ⟨S,0+0,none⟩=some (.int .u8 (k.toNat:Int)):=E.out u M 0 _ (kp A.out).1;rw[Y.out] at h;exact h,by have h:=E.out u M 67 _ (kp A.out).2.2.2.1;rw[qZ] at h;exact h,by have h:=E.out u M 68 _ (kp A.out).2.2.2.2.1;rw[qZ] at h;exact h,by have h:=E.out u M 69 _ (kp A.out).2.2.2.2.2;rw[qZ] at h;exact h⟩))
     have W:=hid (fun (u:World) (M:Below O.heap.size O u)=>(show u.rangeAt S 1 (kn d) from fun j v o=>by have h:=E.out u M (1+j) _ ((kp A.out).2.1 j v o);rw[qZ] at h;exact h));have A3:=hid (fun (u:World) (M:Below O.heap.size O u)=>(show u.rangeAt S 34 (kn r) from fun j v o=>by have h:=E.out u M (34+j) _ ((kp A.out).2.2.1 j v o);rw[qZ] at h;exact h));have dk:(zD k).isSome=true:=by unfold zD;rw[J.out];rfl
     rcases Bool.eq_false_or_eq_true (kv (k,d,r,t,n,q) (false,false,false,false,true)) with ha|ha
     rotate_left
     ·have T:=hid ha;have K:Hid (opB deps mk (k,d,r,t,n,q)=false):=hid (by rw[U.out,ha];simp);clear ha
      go_wp2_with (first
        |(with_reducible refine k6 ?_
          refine k5 yx (ldO A.out (E.out _ (qB _ _))) ?_)
        |(with_reducible refine k6 ?_
          refine k5 yx (kc 320 _ rfl (p:=⟨a,0,none⟩) rfl (qV _ _ _ _ (jN (false,false,false,false,true)) _ (V.out _ (qB _ _)) underlying320 rfl ju)) ?_)
        |(go_at_call 249;refine(jF (k,d,r,t,n,q) (false,false,false,false,true) k O A.out J.out).mono ?_;rintro e L ⟨D,rfl⟩;rw[T.out];have p1:=(F.out L D).1;have p4:=(F.out L D).2;have c:=(B.out L D).1;have l:=(B.out L D).2.2.2;have C:=hid D;clear D))
      go_ret;exact⟨zw (Nat.le_of_lt P.lt) (I.trans (C.mono I.size)),by rw[K.out];rfl,fun h=>by rw[K.out] at h;cases h⟩
     have T:=hid ha;clear ha;rcases Bool.eq_false_or_eq_true (jZ q) with Ak|Ak
     rotate_left
     ·have A6:=hid Ak;have K:Hid (opB deps mk (k,d,r,t,n,q)=false):=hid (by rw[U.out,Ak];simp);clear Ak
      go_wp2_with (first
        |(with_reducible refine k6 ?_
          refine k5 yx (ldO A.out (E.out _ (qB _ _))) ?_)
        |(with_reducible refine k6 ?_
          refine k5 yx (kc 320 _ rfl (p:=⟨a,0,none⟩) rfl (qV _ _ _ _ (jN (false,false,false,false,true)) _ (V.out _ (qB _ _)) underlying320 rfl ju)) ?_)
        |(go_at_call 249;refine(jF (k,d,r,t,n,q) (false,false,false,false,true) k O A.out J.out).mono ?_;rintro e L ⟨D,rfl⟩;rw[T.out];have p1:=(F.out L D).1;have p4:=(F.out L D).2;have c:=(B.out L D).1;have l:=(B.out L D).2.2.2;have C:=hid D;clear D)
        |(go_at_call 173;refine(vU q L A.2.2 (Ay.next C.out)).mono ?_;rintro e u3 ⟨Ao,rfl⟩;rw[A6.out];have A4:=C.trans (Ao.mono C.size);have A7:=hid A4;have B8:=(B.out u3 A4).1;clear Ao A4))
      go_ret;exact⟨zw (Nat.le_of_lt P.lt) (I.trans (A7.mono I.size)),by rw[K.out];rfl,fun h=>by rw[K.out] at h;cases h⟩
     have A6:=hid Ak;clear Ak;have K:Hid (opB deps mk (k,d,r,t,n,q)=true):=hid (by rw[U.out,T.out,A6.out];rfl);have A5:Hid (zL (k,d,r,t,n,q)=[(true,kg)]):=hid (by unfold zL;rw[Y.out];rfl)
     go_upto_region 6 with (first
       |(with_reducible refine k6 ?_
         refine k5 yx (ldO A.out (E.out _ (qB _ _))) ?_)
       |(with_reducible refine k6 ?_
         refine k5 yx (kc 320 _ rfl (p:=⟨a,0,none⟩) rfl (qV _ _ _ _ (jN (false,false,false,false,true)) _ (V.out _ (qB _ _)) underlying320 rfl ju)) ?_)
       |(go_at_call 249;refine(jF (k,d,r,t,n,q) (false,false,false,false,true) k O A.out J.out).mono ?_;rintro e L ⟨D,rfl⟩;rw[T.out];have p1:=(F.out L D).1;have p4:=(F.out L D).2;have c:=(B.out L D).1;have l:=(B.out L D).2.2.2;have C:=hid D;clear D)
       |(go_at_call 173;refine(vU q L A.2.2 (Ay.next C.out)).mono ?_;rintro e u3 ⟨Ao,rfl⟩;rw[A6.out];have A4:=C.trans (Ao.mono C.size);have A7:=hid A4;have B8:=(B.out u3 A4).1;clear Ao A4))
     have Au:=hid (N.keep A7.out);obtain⟨Ad,cd,vm,h1,h2,h3⟩:=Au.out;have H1:=hid h1;have H2:=hid h2;have H3:=hid h3
     have c1:u3.cell? ⟨g,1,none⟩=some vm:=k4 (cs:=[.slice Ad deps.length cd,vm]) h1 1;have Av:=hid (fun (u:World) (M:Below u3.heap.size u3 u)=>(But.of_below (X:=NoB) M).own h3 fun _ _ q=>q);clear h1 h2 h3
     go_wp2_with (first
       |(with_reducible refine kJ ?_
         refine k5 yx (kj 373 _ rfl (madeDoc_built _)) ?_)
       |(refine jJ yx 347 _ rfl 373 underlying347 (.agg (kU (false,kg)).toArray) 34 48 uX rfl yv yv (kU (true,kg)) rfl rfl ?_)
       |(refine KM yx _ _ 347 rfl (g+1) 373 (.agg (kU (false,kg)).toArray) 34 48 underlying347 uX rfl yv vm mk.length (ke kU mk) rfl (Av.out _ ((qB _ _).alloc (qR _) _)) ⟨u3.heap.size,0,none⟩ 1 1 (kU (true,kg)) rfl rfl (Km u3 _ _) (Zb _) yk yz (by have:=Au.lt;simp;omega) ?_;intro v9 w9 AF AP AQ;obtain⟨A9,c9,rfl⟩:=kO AF;obtain⟨cg,cf,Bj,Bk⟩:=CkAt.put (new:=[(true,kg)]) H1.out H2.out H3.out ((qB u3.heap.size u3).alloc (qR _) _) (by rw[show ke kU [((true,kg):jQ)]=kU (true,kg) by simp [ke]];exact AF) AP (by simpa using AQ);have AX:=hid Bj;have AY:=hid Bk
         clear AF AP AQ Bj Bk))
     go_ret;exact⟨(zw (Nat.le_of_lt P.lt) (I.trans (A7.mono I.size))).trans (AY.belowG Au.out),by rw[K.out];rfl,fun _=>by rw[A5.out];exact AX.out⟩
    by_cases h2:k=2
    ·have Y:=hid h2;have J:Hid (kD k=some (true,true,false,true,false)):=hid (by rw[h2];rfl);clear h2 h5 h4 h3;have U:Hid (opB deps mk (k,d,r,t,n,q)=(kv (k,d,r,t,n,q) (true,true,false,true,false) && JJ deps mk d && (decide (1≤n) && decide (n≤4096) && jE deps mk r d n))):=hid (by unfold opB;rw[J.out,Y.out];simp);rw[J.out] at Q;have x:=(qX Q.out);have Ai:S<O.heap.size:=qL Am y.size;have E:=hid (fun (u:World) (M:Below O.heap.size O u)=>(show u.rangeAt S 0 (opV (k,d,r,t,n,q)) from fun j v o=>by rw[qZ];exact((M.cell (p:=⟨S,j,none⟩) Ai).trans ((y.cell (p:=⟨S,j,none⟩) Am).trans (k4 A8.out j))).trans o));have V:=hid (fun (u:World) (M:Below O.heap.size O u)=>(show u.rangeAt a 0 (jN (true,true,false,true,false)) from fun j v o=>by rw[qZ];exact((M.cell (p:=⟨a,j,none⟩) x).trans (k4 Q.out j)).trans o));have F:=hid (fun (u:World) (M:Below O.heap.size O u)=>(show u.cell? ⟨a,0,none⟩=some (.bool true)∧u.cell? ⟨a,4,none⟩=some (.bool false) from⟨(M.cell (p:=⟨a,0,none⟩) x).trans (k4 Q.out 0),(M.cell (p:=⟨a,4,none⟩) x).trans (k4 Q.out 4)⟩))
     have B:=hid (fun (u:World) (M:Below O.heap.size O u)=>(show u.cell? ⟨S,0,none⟩=some (.int .u8 2)∧u.cell? ⟨S,67,none⟩=some (.string t)∧u.cell? ⟨S,68,none⟩=some (.int .i64 n)∧u.cell? ⟨S,69,none⟩=some (.string q) from
       ⟨by have h:u.cell? ⟨S,0+0,none⟩=some (.int .u8 (k.toNat:Int)):=E.out u M 0 _ (kp A.out).1;rw[Y.out] at h;exact h,by have h:=E.out u M 67 _ (kp A.out).2.2.2.1;rw[qZ] at h;exact h,by have h:=E.out u M 68 _ (kp A.out).2.2.2.2.1;rw[qZ] at h;exact h,by have h:=E.out u M 69 _ (kp A.out).2.2.2.2.2;rw[qZ] at h;exact h⟩))
     have W:=hid (fun (u:World) (M:Below O.heap.size O u)=>(show u.rangeAt S 1 (kn d) from fun j v o=>by have h:=E.out u M (1+j) _ ((kp A.out).2.1 j v o);rw[qZ] at h;exact h));have A3:=hid (fun (u:World) (M:Below O.heap.size O u)=>(show u.rangeAt S 34 (kn r) from fun j v o=>by have h:=E.out u M (34+j) _ ((kp A.out).2.2.1 j v o);rw[qZ] at h;exact h));have dk:(zD k).isSome=true:=by unfold zD;rw[J.out];rfl
     rcases Bool.eq_false_or_eq_true (kv (k,d,r,t,n,q) (true,true,false,true,false)) with ha|ha
     rotate_left
     ·have T:=hid ha;have K:Hid (opB deps mk (k,d,r,t,n,q)=false):=hid (by rw[U.out,ha];simp);clear ha
      go_wp2_with (first
        |(with_reducible refine k6 ?_
          refine k5 yx (ldO A.out (E.out _ (qB _ _))) ?_)
        |(with_reducible refine k6 ?_
          refine k5 yx (kc 320 _ rfl (p:=⟨a,0,none⟩) rfl (qV _ _ _ _ (jN (true,true,false,true,false)) _ (V.out _ (qB _ _)) underlying320 rfl ju)) ?_)
        |(go_at_call 249;refine(jF (k,d,r,t,n,q) (true,true,false,true,false) k O A.out J.out).mono ?_;rintro e L ⟨D,rfl⟩;rw[T.out];have p1:=(F.out L D).1;have p4:=(F.out L D).2;have c:=(B.out L D).1;have l:=(B.out L D).2.2.2;have C:=hid D;clear D))
      go_ret;exact⟨zw (Nat.le_of_lt P.lt) (I.trans (C.mono I.size)),by rw[K.out];rfl,fun h=>by rw[K.out] at h;cases h⟩
     have T:=hid ha;clear ha;rcases Bool.eq_false_or_eq_true (JJ deps mk d) with s|s
     rotate_left
     ·have R:=hid s;have K:Hid (opB deps mk (k,d,r,t,n,q)=false):=hid (by rw[U.out,s];simp);clear s
      go_wp2_with (first
        |(with_reducible refine k6 ?_
          refine k5 yx (ldO A.out (E.out _ (qB _ _))) ?_)
        |(with_reducible refine k6 ?_
          refine k5 yx (kc 320 _ rfl (p:=⟨a,0,none⟩) rfl (qV _ _ _ _ (jN (true,true,false,true,false)) _ (V.out _ (qB _ _)) underlying320 rfl ju)) ?_)
        |(go_at_call 249;refine(jF (k,d,r,t,n,q) (true,true,false,true,false) k O A.out J.out).mono ?_;rintro e L ⟨D,rfl⟩;rw[T.out];have p1:=(F.out L D).1;have p4:=(F.out L D).2;have c:=(B.out L D).1;have l:=(B.out L D).2.2.2;have C:=hid D;clear D)
        |(with_reducible refine k6 ?_
          refine k5 yx (ldR A.1.1 (W.out _ C.out)) ?_)
        |(go_at_call 250;refine(JS g deps mk d L (N.keep C.out) HO.out hn yz HM.out A.1.1).mono ?_;rintro e Z ⟨b,rfl⟩;rw[R.out];have H:=C.trans (b.mono C.size);have Aq:=(F.out Z H).2;have Ar:=(B.out Z H).2.2.2;have As:=(B.out Z H).1;have G:=hid H;clear b H p1 p4 c l))
      go_ret;exact⟨zw (Nat.le_of_lt P.lt) (I.trans (G.mono I.size)),by rw[K.out];rfl,fun h=>by rw[K.out] at h;cases h⟩
     have R:=hid s;clear s;have A5:Hid (zL (k,d,r,t,n,q)=[]):=hid (by unfold zL;rw[Y.out];rfl);by_cases hc1:1≤n
     ·by_cases hc2:n≤4096
      ·obtain⟨m,rfl⟩:∃m:Nat,n=(m:Int):=⟨n.toNat,by omega⟩;have Bl:1≤m:=by omega
       have Bm:m≤4096:=by omega
       have d1:decide ((1:Int)≤(m:Int))=true:=dT hc1;have d2:decide ((m:Int)≤4096)=true:=dT hc2;have BG:decide (1≤m)=true:=dT Bl;have BH:decide (m≤4096)=true:=dT Bm;have K:Hid (opB deps mk (k,d,r,t,(m:Int),q)=jE deps mk r d (m:Int)):=hid (by rw[U.out,T.out,R.out,d1,d2];simp);clear hc1 hc2
       go_upto_region 8 with (first
         |(with_reducible refine k6 ?_
           refine k5 yx (ldO A.out (E.out _ (qB _ _))) ?_)
         |(with_reducible refine k6 ?_
           refine k5 yx (kc 320 _ rfl (p:=⟨a,0,none⟩) rfl (qV _ _ _ _ (jN (true,true,false,true,false)) _ (V.out _ (qB _ _)) underlying320 rfl ju)) ?_)
         |(go_at_call 249;refine(jF (k,d,r,t,(m:Int),q) (true,true,false,true,false) k O A.out J.out).mono ?_;rintro e L ⟨D,rfl⟩;rw[T.out];have p1:=(F.out L D).1;have p4:=(F.out L D).2;have c:=(B.out L D).1;have l:=(B.out L D).2.2.2;have C:=hid D;clear D)
         |(with_reducible refine k6 ?_
           refine k5 yx (ldR A.1.1 (W.out _ C.out)) ?_)
         |(go_at_call 250;refine(JS g deps mk d L (N.keep C.out) HO.out hn yz HM.out A.1.1).mono ?_;rintro e Z ⟨b,rfl⟩;rw[R.out];have H:=C.trans (b.mono C.size);have Aq:=(F.out Z H).2;have Ar:=(B.out Z H).2.2.2;have As:=(B.out Z H).1;have Bn:=(B.out Z H).2.2.1;have G:=hid H;clear b H p1 p4 c l))
       go_wp2_with (first
         |(with_reducible refine k6 ?_
           refine k5 yx (ldR A.1.2.1 (A3.out _ G.out)) ?_)
         |(with_reducible refine k6 ?_
           refine k5 yx (ldR A.1.1 (W.out _ G.out)) ?_)
         |(go_at_call 251;refine(ZI g deps mk r d m Z (N.keep G.out) HO.out hn yz HM.out A.1.2.1 A.1.1 Bl Bm).mono ?_;rintro e u4 ⟨Ap,rfl⟩;have Aa:=hid (G.trans (Ap.mono G.size));clear Ap))
       go_ret;exact⟨zw (Nat.le_of_lt P.lt) (I.trans (Aa.mono I.size)),by rw[K.out];rfl,fun h=>by rw[A5.out,List.append_nil];exact N.keep Aa.out⟩
      ·have d1:decide (1≤n)=true:=dT hc1;have d2:decide (n≤4096)=false:=dF hc2;have K:Hid (opB deps mk (k,d,r,t,n,q)=false):=hid (by rw[U.out,T.out,R.out,d1,d2];rfl);clear hc1 hc2
       go_upto_region 8 with (first
         |(with_reducible refine k6 ?_
           refine k5 yx (ldO A.out (E.out _ (qB _ _))) ?_)
         |(with_reducible refine k6 ?_
           refine k5 yx (kc 320 _ rfl (p:=⟨a,0,none⟩) rfl (qV _ _ _ _ (jN (true,true,false,true,false)) _ (V.out _ (qB _ _)) underlying320 rfl ju)) ?_)
         |(go_at_call 249;refine(jF (k,d,r,t,n,q) (true,true,false,true,false) k O A.out J.out).mono ?_;rintro e L ⟨D,rfl⟩;rw[T.out];have p1:=(F.out L D).1;have p4:=(F.out L D).2;have c:=(B.out L D).1;have l:=(B.out L D).2.2.2;have C:=hid D;clear D)
         |(with_reducible refine k6 ?_
           refine k5 yx (ldR A.1.1 (W.out _ C.out)) ?_)
         |(go_at_call 250;refine(JS g deps mk d L (N.keep C.out) HO.out hn yz HM.out A.1.1).mono ?_;rintro e Z ⟨b,rfl⟩;rw[R.out];have H:=C.trans (b.mono C.size);have Aq:=(F.out Z H).2;have Ar:=(B.out Z H).2.2.2;have As:=(B.out Z H).1;have Bn:=(B.out Z H).2.2.1;have G:=hid H;clear b H p1 p4 c l))
       go_wp2_with fail;go_ret;exact⟨zw (Nat.le_of_lt P.lt) (I.trans (G.mono I.size)),by rw[K.out];rfl,fun h=>by rw[K.out] at h;cases h⟩
     ·have d1:decide (1≤n)=false:=dF hc1;have K:Hid (opB deps mk (k,d,r,t,n,q)=false):=hid (by rw[U.out,T.out,R.out,d1];rfl);clear hc1
      go_upto_region 8 with (first
        |(with_reducible refine k6 ?_
          refine k5 yx (ldO A.out (E.out _ (qB _ _))) ?_)
        |(with_reducible refine k6 ?_
          refine k5 yx (kc 320 _ rfl (p:=⟨a,0,none⟩) rfl (qV _ _ _ _ (jN (true,true,false,true,false)) _ (V.out _ (qB _ _)) underlying320 rfl ju)) ?_)
        |(go_at_call 249;refine(jF (k,d,r,t,n,q) (true,true,false,true,false) k O A.out J.out).mono ?_;rintro e L ⟨D,rfl⟩;rw[T.out];have p1:=(F.out L D).1;have p4:=(F.out L D).2;have c:=(B.out L D).1;have l:=(B.out L D).2.2.2;have C:=hid D;clear D)
        |(with_reducible refine k6 ?_
          refine k5 yx (ldR A.1.1 (W.out _ C.out)) ?_)
        |(go_at_call 250;refine(JS g deps mk d L (N.keep C.out) HO.out hn yz HM.out A.1.1).mono ?_;rintro e Z ⟨b,rfl⟩;rw[R.out];have H:=C.trans (b.mono C.size);have Aq:=(F.out Z H).2;have Ar:=(B.out Z H).2.2.2;have As:=(B.out Z H).1;have Bn:=(B.out Z H).2.2.1;have G:=hid H;clear b H p1 p4 c l))
      go_wp2_with fail;go_ret;exact⟨zw (Nat.le_of_lt P.lt) (I.trans (G.mono I.size)),by rw[K.out];rfl,fun h=>by rw[K.out] at h;cases h⟩
    by_cases h1:k=1
    ·have Y:=hid h1;have J:Hid (kD k=some (true,true,true,false,false)):=hid (by rw[h1];rfl);clear h1 h5 h4 h3 h2;have U:Hid (opB deps mk (k,d,r,t,n,q)=(kv (k,d,r,t,n,q) (true,true,true,false,false) && JJ deps mk d && ((decide (r=d) || jE deps mk r d 1) && !decide (t=kM) && KW t))):=hid (by unfold opB;rw[J.out,Y.out];simp);rw[J.out] at Q;have x:=(qX Q.out);have Ai:S<O.heap.size:=qL Am y.size;have E:=hid (fun (u:World) (M:Below O.heap.size O u)=>(show u.rangeAt S 0 (opV (k,d,r,t,n,q)) from fun j v o=>by rw[qZ];exact((M.cell (p:=⟨S,j,none⟩) Ai).trans ((y.cell (p:=⟨S,j,none⟩) Am).trans (k4 A8.out j))).trans o));have V:=hid (fun (u:World) (M:Below O.heap.size O u)=>(show u.rangeAt a 0 (jN (true,true,true,false,false)) from fun j v o=>by rw[qZ];exact((M.cell (p:=⟨a,j,none⟩) x).trans (k4 Q.out j)).trans o));have F:=hid (fun (u:World) (M:Below O.heap.size O u)=>(show u.cell? ⟨a,0,none⟩=some (.bool true)∧u.cell? ⟨a,4,none⟩=some (.bool false) from⟨(M.cell (p:=⟨a,0,none⟩) x).trans (k4 Q.out 0),(M.cell (p:=⟨a,4,none⟩) x).trans (k4 Q.out 4)⟩))
     have B:=hid (fun (u:World) (M:Below O.heap.size O u)=>(show u.cell? ⟨S,0,none⟩=some (.int .u8 1)∧u.cell? ⟨S,67,none⟩=some (.string t)∧u.cell? ⟨S,68,none⟩=some (.int .i64 n)∧u.cell? ⟨S,69,none⟩=some (.string q) from
       ⟨by have h:u.cell? ⟨S,0+0,none⟩=some (.int .u8 (k.toNat:Int)):=E.out u M 0 _ (kp A.out).1;rw[Y.out] at h;exact h,by have h:=E.out u M 67 _ (kp A.out).2.2.2.1;rw[qZ] at h;exact h,by have h:=E.out u M 68 _ (kp A.out).2.2.2.2.1;rw[qZ] at h;exact h,by have h:=E.out u M 69 _ (kp A.out).2.2.2.2.2;rw[qZ] at h;exact h⟩))
     have W:=hid (fun (u:World) (M:Below O.heap.size O u)=>(show u.rangeAt S 1 (kn d) from fun j v o=>by have h:=E.out u M (1+j) _ ((kp A.out).2.1 j v o);rw[qZ] at h;exact h));have A3:=hid (fun (u:World) (M:Below O.heap.size O u)=>(show u.rangeAt S 34 (kn r) from fun j v o=>by have h:=E.out u M (34+j) _ ((kp A.out).2.2.1 j v o);rw[qZ] at h;exact h));have dk:(zD k).isSome=true:=by unfold zD;rw[J.out];rfl
     rcases Bool.eq_false_or_eq_true (kv (k,d,r,t,n,q) (true,true,true,false,false)) with ha|ha
     rotate_left
     ·have T:=hid ha;have K:Hid (opB deps mk (k,d,r,t,n,q)=false):=hid (by rw[U.out,ha];simp);clear ha
      go_wp2_with (first
        |(with_reducible refine k6 ?_
          refine k5 yx (ldO A.out (E.out _ (qB _ _))) ?_)
        |(with_reducible refine k6 ?_
          refine k5 yx (kc 320 _ rfl (p:=⟨a,0,none⟩) rfl (qV _ _ _ _ (jN (true,true,true,false,false)) _ (V.out _ (qB _ _)) underlying320 rfl ju)) ?_)
        |(go_at_call 249;refine(jF (k,d,r,t,n,q) (true,true,true,false,false) k O A.out J.out).mono ?_;rintro e L ⟨D,rfl⟩;rw[T.out];have p1:=(F.out L D).1;have p4:=(F.out L D).2;have c:=(B.out L D).1;have l:=(B.out L D).2.2.2;have C:=hid D;clear D))
      go_ret;exact⟨zw (Nat.le_of_lt P.lt) (I.trans (C.mono I.size)),by rw[K.out];rfl,fun h=>by rw[K.out] at h;cases h⟩
     have T:=hid ha;clear ha;rcases Bool.eq_false_or_eq_true (JJ deps mk d) with s|s
     rotate_left
     ·have R:=hid s;have K:Hid (opB deps mk (k,d,r,t,n,q)=false):=hid (by rw[U.out,s];simp);clear s
      go_wp2_with (first
        |(with_reducible refine k6 ?_
          refine k5 yx (ldO A.out (E.out _ (qB _ _))) ?_)
        |(with_reducible refine k6 ?_
          refine k5 yx (kc 320 _ rfl (p:=⟨a,0,none⟩) rfl (qV _ _ _ _ (jN (true,true,true,false,false)) _ (V.out _ (qB _ _)) underlying320 rfl ju)) ?_)
        |(go_at_call 249;refine(jF (k,d,r,t,n,q) (true,true,true,false,false) k O A.out J.out).mono ?_;rintro e L ⟨D,rfl⟩;rw[T.out];have p1:=(F.out L D).1;have p4:=(F.out L D).2;have c:=(B.out L D).1;have l:=(B.out L D).2.2.2;have C:=hid D;clear D)
        |(with_reducible refine k6 ?_
          refine k5 yx (ldR A.1.1 (W.out _ C.out)) ?_)
        |(go_at_call 250;refine(JS g deps mk d L (N.keep C.out) HO.out hn yz HM.out A.1.1).mono ?_;rintro e Z ⟨b,rfl⟩;rw[R.out];have H:=C.trans (b.mono C.size);have Aq:=(F.out Z H).2;have Ar:=(B.out Z H).2.2.2;have As:=(B.out Z H).1;have G:=hid H;clear b H p1 p4 c l))
      go_ret;exact⟨zw (Nat.le_of_lt P.lt) (I.trans (G.mono I.size)),by rw[K.out];rfl,fun h=>by rw[K.out] at h;cases h⟩
     have R:=hid s;clear s;have A5:Hid (zL (k,d,r,t,n,q)=List.replicate (jV t) (false,d)):=hid (by unfold zL;rw[Y.out];rfl);obtain⟨An,AV⟩:∃An:Bool,(!((decide (r=d) || jE deps mk r d 1) && !decide (t=kM) && KW t))=An:=⟨_,rfl⟩;have A0:=hid AV;have K:Hid (opB deps mk (k,d,r,t,n,q)= !An):=hid (by rw[U.out,T.out,R.out,←AV];simp);clear AV
     go_upto_region 10 with (first
       |(with_reducible refine k6 ?_
         refine k5 yx (ldO A.out (E.out _ (qB _ _))) ?_)
       |(with_reducible refine k6 ?_
         refine k5 yx (kc 320 _ rfl (p:=⟨a,0,none⟩) rfl (qV _ _ _ _ (jN (true,true,true,false,false)) _ (V.out _ (qB _ _)) underlying320 rfl ju)) ?_)
       |(go_at_call 249;refine(jF (k,d,r,t,n,q) (true,true,true,false,false) k O A.out J.out).mono ?_;rintro e L ⟨D,rfl⟩;rw[T.out];have p1:=(F.out L D).1;have p4:=(F.out L D).2;have c:=(B.out L D).1;have l:=(B.out L D).2.2.2;have C:=hid D;clear D)
       |(with_reducible refine k6 ?_
         refine k5 yx (ldR A.1.1 (W.out _ C.out)) ?_)
       |(go_at_call 250;refine(JS g deps mk d L (N.keep C.out) HO.out hn yz HM.out A.1.1).mono ?_;rintro e Z ⟨b,rfl⟩;rw[R.out];have H:=C.trans (b.mono C.size);have Aq:=(F.out Z H).2;have Ar:=(B.out Z H).2.2.2;have As:=(B.out Z H).1;have BI:=(B.out Z H).2.1;have G:=hid H;clear b H p1 p4 c l))
     go_cut [103] from 79 to 103 (fun t103 wx=>t103=.bool An∧Hid (Below O.heap.size O wx))
     case first=>
       by_cases hrd:r=d
       ·have EQ:=hid (fun (u:World)=>(j7 A.1.2.1 A.1.1 u).trans (by rw[dT hrd]));by_cases htx:t=kM
        ·have e3:t.toList.isEmpty=true:=by rw[kP];exact dT htx
         have HV:Hid (true=An):=hid (by rw[←A0.out,dT hrd,dT htx];rfl);clear hrd htx
         go_wp2_with (first
           |(with_reducible refine k6 ?_
             refine k5 yx (ldR A.1.2.1 (A3.out _ G.out)) ?_)
           |(with_reducible refine k6 ?_
             refine k5 yx (ldR A.1.1 (W.out _ G.out)) ?_)
           |(with_reducible refine kG ?_
             refine k5 yx (jb 110 _ _ _ rfl (xs:=(kn r).toArray) (ys:=(kn d).toArray) rfl rfl (r:=true) eqRef.noGuard (EQ.out _)) ?_;go_frame;try simp only[nTF]))
         go_meet
         case rel=>exact⟨by rw[←HV.out],G⟩
        ·have e3:t.toList.isEmpty=false:=by rw[kP];exact dF htx
         obtain⟨v,hv⟩:∃v,Kx t=v:=⟨_,rfl⟩;have AC:=hid hv;rcases Bool.eq_false_or_eq_true (KW t) with Al|Al
         focus
           have HV:Hid (false=An):=hid (by rw[←A0.out,dT hrd,dF htx,Al];rfl);obtain rfl:v=0:=by rw[←hv];exact bytes0 Al
         rotate_left
         focus
           have HV:Hid (true=An):=hid (by rw[←A0.out,dT hrd,dF htx,Al];rfl);have AG:v≠0:=by rw[←hv];exact bytesN Al
           have e5:(v == 0)=false:=by rw[beq_eq_false_iff_ne];exact AG
           have e6:(v != 0)=true:=by rw[bne_iff_ne];exact AG
           clear AG
         all_goals
           clear hv;clear hrd htx Al
           go_wp2_with (first
             |(with_reducible refine k6 ?_
               refine k5 yx (ldR A.1.2.1 (A3.out _ G.out)) ?_)
             |(with_reducible refine k6 ?_
               refine k5 yx (ldR A.1.1 (W.out _ G.out)) ?_)
             |(with_reducible refine kG ?_
               refine k5 yx (jb 110 _ _ _ rfl (xs:=(kn r).toArray) (ys:=(kn d).toArray) rfl rfl (r:=true) eqRef.noGuard (EQ.out _)) ?_;go_frame;try simp only[nTF])
             |(go_at_call 252;refine(bytes_any t Z A.2.1).mono ?_;rintro e u5 ⟨rfl,rfl⟩;rw[AC.out]))
           go_meet
           case rel=>exact⟨by rw[←HV.out],G⟩
       ·have EQ:=hid (fun (u:World)=>(j7 A.1.2.1 A.1.1 u).trans (by rw[dF hrd]));rcases Bool.eq_false_or_eq_true (jE deps mk r d 1) with At|At
        ·have Az:=hid At;by_cases htx:t=kM
         ·have e3:t.toList.isEmpty=true:=by rw[kP];exact dT htx
          have HV:Hid (true=An):=hid (by rw[←A0.out,dF hrd,At,dT htx];rfl);clear hrd At htx
          go_wp2_with (first
            |(with_reducible refine k6 ?_
              refine k5 yx (ldR A.1.2.1 (A3.out _ G.out)) ?_)
            |(with_reducible refine k6 ?_
              refine k5 yx (ldR A.1.1 (W.out _ G.out)) ?_)
            |(with_reducible refine kG ?_
              refine k5 yx (jb 110 _ _ _ rfl (xs:=(kn r).toArray) (ys:=(kn d).toArray) rfl rfl (r:=false) eqRef.noGuard (EQ.out _)) ?_;go_frame;try simp only[nTF])
            |(go_at_call 251;refine(ZI g deps mk r d 1 Z (N.keep G.out) HO.out hn yz HM.out A.1.2.1 A.1.1 (qR 1) yz).mono ?_;rintro e u4 ⟨Ap,rfl⟩;rw[show jE deps mk r d ((1:Nat):Int)=true from Az.out];have Ah:=G.trans (Ap.mono G.size);have Bo:=(B.out u4 Ah).2.1;have Aa:=hid Ah;clear Ap Ah))
          go_meet
          case rel=>exact⟨by rw[←HV.out],Aa⟩
         ·have e3:t.toList.isEmpty=false:=by rw[kP];exact dF htx
          obtain⟨v,hv⟩:∃v,Kx t=v:=⟨_,rfl⟩;have AC:=hid hv;rcases Bool.eq_false_or_eq_true (KW t) with Al|Al
          focus
            have HV:Hid (false=An):=hid (by rw[←A0.out,dF hrd,At,dF htx,Al];rfl);obtain rfl:v=0:=by rw[←hv];exact bytes0 Al
          rotate_left
          focus
            have HV:Hid (true=An):=hid (by rw[←A0.out,dF hrd,At,dF htx,Al];rfl);have AG:v≠0:=by rw[←hv];exact bytesN Al
            have e5:(v == 0)=false:=by rw[beq_eq_false_iff_ne];exact AG
            have e6:(v != 0)=true:=by rw[bne_iff_ne];exact AG
            clear AG
          all_goals
            clear hv;clear hrd At htx Al
            go_wp2_with (first
              |(with_reducible refine k6 ?_
                refine k5 yx (ldR A.1.2.1 (A3.out _ G.out)) ?_)
              |(with_reducible refine k6 ?_
                refine k5 yx (ldR A.1.1 (W.out _ G.out)) ?_)
              |(with_reducible refine kG ?_
                refine k5 yx (jb 110 _ _ _ rfl (xs:=(kn r).toArray) (ys:=(kn d).toArray) rfl rfl (r:=false) eqRef.noGuard (EQ.out _)) ?_;go_frame;try simp only[nTF])
              |(go_at_call 251;refine(ZI g deps mk r d 1 Z (N.keep G.out) HO.out hn yz HM.out A.1.2.1 A.1.1 (qR 1) yz).mono ?_;rintro e u4 ⟨Ap,rfl⟩;rw[show jE deps mk r d ((1:Nat):Int)=true from Az.out];have Ah:=G.trans (Ap.mono G.size);have Bo:=(B.out u4 Ah).2.1;have Aa:=hid Ah;clear Ap Ah)
              |(go_at_call 252;refine(bytes_any t u4 A.2.1).mono ?_;rintro e u5 ⟨rfl,rfl⟩;rw[AC.out]))
            go_meet
            case rel=>exact⟨by rw[←HV.out],Aa⟩
        ·have Az:=hid At;have HV:Hid (true=An):=hid (by rw[←A0.out,dF hrd,At];rfl);clear hrd At
         go_wp2_with (first
           |(with_reducible refine k6 ?_
             refine k5 yx (ldR A.1.2.1 (A3.out _ G.out)) ?_)
           |(with_reducible refine k6 ?_
             refine k5 yx (ldR A.1.1 (W.out _ G.out)) ?_)
           |(with_reducible refine kG ?_
             refine k5 yx (jb 110 _ _ _ rfl (xs:=(kn r).toArray) (ys:=(kn d).toArray) rfl rfl (r:=false) eqRef.noGuard (EQ.out _)) ?_;go_frame;try simp only[nTF])
           |(go_at_call 251;refine(ZI g deps mk r d 1 Z (N.keep G.out) HO.out hn yz HM.out A.1.2.1 A.1.1 (qR 1) yz).mono ?_;rintro e u4 ⟨Ap,rfl⟩;rw[show jE deps mk r d ((1:Nat):Int)=false from Az.out];have Ah:=G.trans (Ap.mono G.size);have Bo:=(B.out u4 Ah).2.1;have Aa:=hid Ah;clear Ap Ah))
         go_meet
         case rel=>exact⟨by rw[←HV.out],Aa⟩
     case rest=>
       obtain⟨rfl,A1⟩:=hcut;obtain⟨wy,Bz⟩:∃u:World,u=wc:=⟨_,rfl⟩;subst Bz;cases An
       ·have AI:Hid (KW t=true):=hid (by have h:=A0.out;revert h;cases KW t<;>simp);have BJ:wy.cell? ⟨S,67,none⟩=some (.string t):=(B.out wy A1.out).2.1;have BK:=Jv AI.out;have B9:okFrom t 0:=fileB_ok AI.out;have AR:=hid B9;have BA:g<wy.heap.size:=qL N.lt A1.size;have BB:S<wy.heap.size:=qL Ai A1.size;have AS:=hid (N.keep A1.out);have AA:=hid (I.trans (A1.mono I.size));have Bt:=hid (zw (Nat.le_of_lt P.lt) AA.out);obtain⟨zi,Bp⟩:∃zi,wy.heap.size=zi:=⟨_,rfl⟩;have Aj:=hid Bp;clear B9 Bp
        go_upto_region 13 with fail
        go_loopw [] (fun wr=>∃Ab i:Nat,Ab≤t.size∧Hid (InsJ g deps mk d t S zi Ab i wr)∧Hid (okFrom t Ab)∧i+Za t Ab=jV t∧Hid (Below g w wr)) (fun wr=>t.size - wr.iterPos zi)
        case atStart=>
          have AD:Below wy.heap.size wy (wy.alloc (.stringIter t 0)):=(qB _ _).alloc (qR _) _;have D:=AA.trans (AD.mono AA.size);refine⟨0,0,by omega,hid ⟨?_,by rw[←Aj.out];simpa using World.iter_heap wy t 0,by rw[←Aj.out];exact BA,qL BB AD.size,P.newNot D Bv,P.newNot D (by rw[←Aj.out];exact AA.size),W.out _ (A1.trans (AD.mono A1.size)),by rw[←Aj.out];omega⟩,AR,by rw[runesFrom_zero];omega,hid (zw (Nat.le_of_lt P.lt) D)⟩;rw[List.replicate_zero,List.append_nil];exact AS.keep AD
        case round=>
          obtain⟨Ab,i,BD,HJ,AZ,Ba,AJ⟩:=hrel;have BL:=ub t;have Bb:=HJ.low;by_cases hlt:Ab<t.size
          ·have BC:∀ty,(Instr.next (.pointer (some ⟨wy.heap.size,0,none⟩)) true ty).run prog wr=_:=fun ty=>(congrArg (fun z=>(Instr.next (.pointer (some ⟨z,0,none⟩)) true ty).run prog wr) Aj.out).trans (Lib.run_next_any_at wr zi t Ab ty HJ.it hlt)
           have BM:=ZA hlt;obtain⟨ho,Bc⟩:=AZ.at_ hlt;have BN:=runesFrom_next hlt ho Bc;have AT:=hid Bc;have Ae:=hid (HJ.iter (Ab+(Utf8.decode t Ab).2));have AU:=hid (Lib.below_iterAt AJ.out (Nat.le_of_lt Bb) t (Ab+(Utf8.decode t Ab).2));clear ho Bc Bb;generalize hW2:wr.iterAt zi t (Ab+(Utf8.decode t Ab).2)=W2 at *;clear hW2;obtain⟨Ad,cd,vm,h1,h2,h3⟩:=Ae.ck;have H1:=hid h1;have H2:=hid h2;have H3:=hid h3
           have A2:=hid (fun (u:World) (M:Below W2.heap.size W2 u)=>(show u.cell? ⟨g,1,none⟩=some vm∧u.rangeAt S 1 (kn d) from
             ⟨(M.cell (p:=⟨g,1,none⟩) Ae.ck.lt).trans (k4 (cs:=[.slice Ad deps.length cd,vm]) H1.out 1),fun j v o=>(M.cell (p:=⟨S,1+j,none⟩) Ae.lx).trans (Ae.doc j v o)⟩))
           have Av:=hid (fun (u:World) (M:Below W2.heap.size W2 u)=>(But.of_below (X:=NoB) M).own H3.out fun _ _ q=>q);have B0:=hid (show g+1≤W2.heap.size from Ae.ck.lt);have BO:(mk++List.replicate i ((false,d):jQ)).length≤1000004096:=by rw[List.length_append,List.length_replicate];omega
           clear h1 h2 h3
           go_upto_region 14 with fail
           refine rN 10 (fun u=>u.cell? ⟨g,1,none⟩=some vm∧u.rangeAt S 1 (kn d)) (A2.out _ (qD W2.heap.size W2)) fun AM=>?_
           refine tw 0 (.pointer (some ⟨g,0,none⟩)) ?_;go_frame;refine tw 1 (.pointer (some ⟨g,0,none⟩)) ?_;go_frame;refine tw 2 (.pointer (some ⟨g,0,none⟩)) ?_;go_frame;refine tw 3 (.pointer (some ⟨g,1,none⟩)) ?_;go_frame;refine tl 4 (vm) rfl AM (fun w' AH=>l1 underlying347 AH.1) ?_;go_frame;refine tw 5 (.pointer (some ⟨S,1,none⟩)) ?_;go_frame;refine tl 6 (.agg (kn d).toArray) rfl AM (fun w' AH=>ldR A.1.1 AH.2) ?_;go_frame;refine tk 7 (.agg (kU (false,d)).toArray) rfl (fun w' AH=>kj 373 #[(1,.tmp 115)] rfl (by simp only[List.map_toArray,List.map_cons,List.map_nil];exact made_built (d:=d) A.1.1 _)) ?_;go_frame;refine ta 8 ?_;refine zB _ rfl yy (ex_buildR 347 _ rfl 373 underlying347 (.agg (kU (false,kg)).toArray) 34 48 uX rfl yv yv (kU (false,d)) (jl (m:=(false,d)) A.1.1) rfl) ?_;have Ag:Below W2.heap.size W2 (W2.drew.alloc (.cells (kU (false,d)).toArray 373)):=(qD W2.heap.size W2).alloc (qR _) _;have AK:=A2.out _ Ag;refine⟨fun _ _=>AK,?_⟩;go_frame;refine ta 9 ?_;refine J8 _ rfl yy ?_;refine vv _ _ 347 rfl (g+1) 373 (.agg (kU (false,kg)).toArray) 34 48 underlying347 uX rfl yv vm (mk++List.replicate i (false,d)).length (ke kU (mk++List.replicate i (false,d))) rfl (Av.out _ Ag) ⟨W2.drew.heap.size,0,none⟩ 1 1 (kU (false,d)) rfl (by rw[jl (m:=(false,d)) A.1.1]) (Km W2.drew (kU (false,d)) 373) (Zb (false,d)) yk yz (qT B0.out Ag.size) ?_;intro v9 w9 AF AP AQ;obtain⟨A9,c9,rfl⟩:=kO AF;obtain⟨Bd,Bq,Br,Be⟩:=Ae.put H1.out H2.out H3.out Ag AF AP AQ;have Bs:=Bd.1;refine⟨fun _ _=>Bd,?_⟩;go_frame;refine tw 10 (.pointer (some ⟨g,0,none⟩)) ?_;go_frame;refine tw 11 (.pointer (some ⟨g,1,none⟩)) ?_;go_frame;refine ta 12 ?_;refine Z8 _ rfl yy (Uf 347 _ _ rfl g 1 (.slice A9 ((mk++List.replicate i (false,d)).length+1) c9) rfl rfl rfl rfl yy Bs Bq) ?_;refine⟨fun h=>absurd h yv,?_⟩;go_frame;refine ku yy ?_ _;have AL:=hid Br;have B1:=hid (AU.trans (Be.belowG Ae.ck));clear Br Be Bd Bs Bq AF AP AQ Ag AK AM;go_wp2_with fail
           go_roundw
           case rel=>exact⟨Ab+(Utf8.decode t Ab).2,i+1,by omega,AL,AT,by omega,B1⟩
           case measure=>
             simp only[World.iterPos,AL.it,HJ.it];omega
          ·have BC:∀ty,(Instr.next (.pointer (some ⟨wy.heap.size,0,none⟩)) true ty).run prog wr=_:=fun ty=>(congrArg (fun z=>(Instr.next (.pointer (some ⟨z,0,none⟩)) true ty).run prog wr) Aj.out).trans (Lib.run_next_end_at wr zi t Ab ty HJ.it hlt)
           have hi:i=jV t:=by rw[runesFrom_end yz] at Ba;omega
           have HI:=hid hi;clear hi Ba;go_wp2_with fail;go_ret;exact⟨AJ.out,by rw[K.out];rfl,fun _=>by rw[A5.out,←HI.out];exact HJ.ck⟩
       ·go_wp2_with fail;go_ret;exact⟨zw (Nat.le_of_lt P.lt) (I.trans (A1.mono I.size)),by rw[K.out];rfl,fun h=>by rw[K.out] at h;cases h⟩
    have J:Hid (kD k=none):=hid (by unfold kD;rw[if_neg h1,if_neg h2,if_neg h3,if_neg h4,if_neg h5]);have K:Hid (opB deps mk (k,d,r,t,n,q)=false):=hid (by unfold opB;simp only[J.out]);clear h1 h2 h3 h4 h5;have dk:(zD k).isSome=false:=by unfold zD;rw[J.out];rfl
    go_wp2_with fail;go_ret;exact⟨zw (Nat.le_of_lt P.lt) I.out,by rw[K.out];rfl,fun h=>by rw[K.out] at h;cases h⟩
theorem ckop_any(g:Nat)(deps:List (List UInt8))(mk:List jQ)(x:OpD)(w:World)(hk:CkAt w g deps mk)(ho:IdsOk deps)(hn:deps.length≤1099511627776)(hmn:mk.length≤1000000000)(hm:∀m∈mk,vM m)(hx:KR x)(hg:Glob w):
    Calls prog 227 #[.pointer (some ⟨g,0,none⟩),.agg (opV x).toArray] w (CkGives g deps mk x w):=by
  obtain⟨k,d,r,t,n,q⟩:=x;exact ckop_all g deps mk k d r t n q w hk ho hn hmn hm hx hg
end
theorem qU(c:Zi)(v:Value)(B:Nat)(w:World)(h:CmIn w B v c):Calls prog 188 #[v] w fun e w'=>Below w.heap.size w w'∧e=.returned (.bool (jz c)):=by
  obtain⟨_,_,_,Ap,I,Ac,J,rfl,_,_⟩:=h;obtain⟨p,s,a,m,x⟩:=c;dsimp only;go_enter func188,ntmps188;by_cases h0:p=[]
  ·have C:(((p.length:Nat):Int) == 0)=true:=by rw[h0];rfl
   by_cases h1:s=[]
   ·have D:(((s.length:Nat):Int) == 0)=true:=by rw[h1];rfl
    by_cases h2:a=kM
    ·have E:a.toList.isEmpty=true:=by rw[kP];exact dT h2
     by_cases h3:m=kM
     ·have F:m.toList.isEmpty=true:=by rw[kP];exact dT h3
      by_cases h4:x=0
      ·have G:(x == 0)=true:=by rw[h4];rfl
       have A:Hid (jz (p,s,a,m,x)=true):=Lib.hid (by unfold jz;simp [h0,h1,h2,h3,h4]);clear h0 h1 h2 h3 h4;go_wp2_with fail;go_ret;exact⟨(qB _ _).alloc (qR _) _,by rw[A.out];rfl⟩
      ·have G:(x == 0)=false:=by rw[beq_eq_false_iff_ne];exact h4
       have A:Hid (jz (p,s,a,m,x)=false):=Lib.hid (by unfold jz;simp [h0,h1,h2,h3,h4]);clear h0 h1 h2 h3 h4;go_wp2_with fail;go_ret;exact⟨(qB _ _).alloc (qR _) _,by rw[A.out];rfl⟩
     ·have F:m.toList.isEmpty=false:=by rw[kP];exact dF h3
      have A:Hid (jz (p,s,a,m,x)=false):=Lib.hid (by unfold jz;simp [h0,h1,h2,h3]);clear h0 h1 h2 h3;go_wp2_with fail;go_ret;exact⟨(qB _ _).alloc (qR _) _,by rw[A.out];rfl⟩
    ·have E:a.toList.isEmpty=false:=by rw[kP];exact dF h2
     have A:Hid (jz (p,s,a,m,x)=false):=Lib.hid (by unfold jz;simp [h0,h1,h2]);clear h0 h1 h2;go_wp2_with fail;go_ret;exact⟨(qB _ _).alloc (qR _) _,by rw[A.out];rfl⟩
   ·have D:(((s.length:Nat):Int) == 0)=false:=by rw[beq_eq_false_iff_ne];intro H;exact h1 (List.eq_nil_of_length_eq_zero yz)
    have A:Hid (jz (p,s,a,m,x)=false):=Lib.hid (by unfold jz;simp [h0,h1]);clear h0 h1;go_wp2_with fail;go_ret;exact⟨(qB _ _).alloc (qR _) _,by rw[A.out];rfl⟩
  ·have C:(((p.length:Nat):Int) == 0)=false:=by rw[beq_eq_false_iff_ne];intro H;exact h0 (List.eq_nil_of_length_eq_zero yz)
   have A:Hid (jz (p,s,a,m,x)=false):=Lib.hid (by unfold jz;simp [h0]);clear h0;go_wp2_with fail;go_ret;exact⟨(qB _ _).alloc (qR _) _,by rw[A.out];rfl⟩
end Go.Proofs.YtdgbjhfkmembdaaGreatDoor