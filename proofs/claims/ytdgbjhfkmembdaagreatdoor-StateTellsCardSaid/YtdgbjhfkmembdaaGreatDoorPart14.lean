/-
  Facts and contracts that the walk needs. Conditions: as each says.
-/
import Derived.Test.YtdgbjhfkmembdaaGreatDoorPart7
import Derived.Test.YtdgbjhfkmembdaaGreatDoorPart8
import Derived.Test.YtdgbjhfkmembdaaGreatDoorPart13
import Derived.Test.YtdgbjhfkmembdaaGreatDoorPart9
import Derived.Test.YtdgbjhfkmembdaaGreatDoorPart12
import Derived.Test.YtdgbjhfkmembdaaGreatDoorPart11
import Derived.BigFrame
import Derived.Lib.RowBridge
set_option linter.unusedVariables false
set_option linter.unusedSimpArgs false
set_option maxHeartbeats 4000000
set_option maxRecDepth 100000
open Go.Proofs.Tryz
namespace Go.Proofs.YtdgbjhfkmembdaaGreatDoor
section
open Go.RowKit Go.Maps
open Lib (hid)
theorem size_u8s:(prog.info? 5).map (·.size)=some 1:=yq
def Qa:Value→Nat
  | .slice _ n _=>n
  | _=>0
theorem ex_sliceArr{ρ:Operand→Value}{o:Oper}{w:World}(x lo:Operand)(ho:o.op=.slice 322 x (some lo) none none){z k f:Nat}(hx:ρ x=.pointer (some ⟨z,k,none⟩))(hl:ρ lo=.int .i64 (f:Int))(hf:f<64):
    (execOp ρ o).run prog w=.ok (.value (.slice (some ⟨z,k+f,none⟩) (64 - f) (64 - f))) w:=by
  have A:prog.arrayLen 322=64:=yq;have B:=run_sliceAt_array_l (P:=prog) w 322 ⟨z,k,none⟩ underlying322 .i64 (f:Int) yv (by rw[A];omega);have C:(prog.info? (prog.elem 322)).map (·.size)=some 1:=yq;rw[A,vM C] at B;simp only[Result.andThen,Int.toNat_natCast,slicedAt,if_neg (show ¬64=f by omega),Nat.mul_one] at B;unfold execOp;simp only[ho,hx,hl,Option.map_some,Option.map_none,Sem.run_bind,B,Result.andThen_ok,Sem.run_pure];rw[show (⟨z,k,none⟩:Addr).add f=⟨z,k+f,none⟩ by unfold Addr.add;split<;>simp_all]
theorem ex_sliceAll{ρ:Operand→Value}{o:Oper}{w:World}(x:Operand)(ho:o.op=.slice 322 x none none none){z k:Nat}(hx:ρ x=.pointer (some ⟨z,k,none⟩)):
    (execOp ρ o).run prog w=.ok (.value (.slice (some ⟨z,k,none⟩) 64 64)) w:=by
  have B:prog.arrayLen 322=64:=yq;have A:=run_sliceAt_array_all (P:=prog) w 322 ⟨z,k,none⟩ underlying322;have C:(prog.info? (prog.elem 322)).map (·.size)=some 1:=yq;rw[B,vM C] at A;simp only[Result.andThen,slicedAt,if_neg (show ¬64=0 by omega),Nat.zero_mul] at A;unfold execOp;simp only[ho,hx,Option.map_none,Sem.run_bind,A,Result.andThen_ok,Sem.run_pure];rw[show (⟨z,k,none⟩:Addr).add 0=⟨z,k,none⟩ by unfold Addr.add;split<;>simp_all]
theorem sliced_from(b q:Nat){n m c:Nat}(h:n≤m)(hc:m≤c):∃A2 c2,sliced (some ⟨b,q,none⟩) n m c 1=.slice A2 (m - n) c2∧m - n≤c2∧(n<m→A2=some ⟨b,q+n,none⟩):=by
  refine⟨_,_,rfl,by omega,fun A=>?_⟩;rw[if_neg yv,Nat.mul_one];show some ((⟨b,q,none⟩:Addr).add n)=_;rw[show (⟨b,q,none⟩:Addr).add n=⟨b,q+n,none⟩ by unfold Addr.add;split<;>simp_all]
theorem ShaG.but{w u:World}{z:Nat}(h:ShaG w)(hb:But (fun k=>k=z) w u)(hz:2≠z∧1≠z):ShaG u:=
  ⟨fun j A=>(hb.cell (ZM (h.1 0 yj)) hz.2).trans (h.1 j A),fun j A=>(hb.cell (ZM (h.2 0 yj)) hz.1).trans (h.2 j A)⟩
def hv(S:St8)(rest:List UInt8)(f size:Nat):List Value:=jK (st8 S)++(idV rest++[.int .i64 (f:Int),.int .i64 (size:Int)])
theorem qd{S:St8}{rest:List UInt8}{f size:Nat}(h:rest.length=64):(hv S rest f size).length=74:=by
  simp [hv,jK,st8,idV,h]
theorem hv_fill{S:St8}{rest:List UInt8}{f size:Nat}(h:rest.length=64):(hv S rest f size)[72]?=some (.int .i64 (f:Int)):=by
  unfold hv;rw[xx (by simp [jK,st8]),xx (by simp [jK,st8,idV,h])];simp [jK,st8,idV,h]
theorem hv_size{S:St8}{rest:List UInt8}{f size:Nat}(h:rest.length=64):(hv S rest f size)[73]?=some (.int .i64 (size:Int)):=by
  unfold hv;rw[xx (by simp [jK,st8]),xx (by simp [jK,st8,idV,h])];simp [jK,st8,idV,h]
theorem hv_byte{S:St8}{rest:List UInt8}{f size j:Nat}(h:rest.length=64)(hj:j<64):(hv S rest f size)[8+j]?=some (.int .u8 (j7 rest j:Int)):=by
  unfold hv;rw[xx (by simp [jK,st8]),xv (by simp [jK,st8,idV,h];omega)];simp only[jK,Yv,st8,Yx,YJ];unfold idV j7;rw[List.getElem?_map,show 8+j - (0+1+1+1+1+1+1+1+1)=j by omega,yK yv,List.getD_eq_getElem?_getD,yK yv];rfl
theorem hv_state{S:St8}{rest:List UInt8}{f size:Nat}(j:Nat)(v:Value)(hj:(jK (st8 S))[j]?=some v):(hv S rest f size)[j]?=some v:=by
  unfold hv;rw[xv (yJ.1 hj).1];exact hj
theorem hv_setFill{S:St8}{rest:List UInt8}{f size g:Nat}(h:rest.length=64):(hv S rest f size).toArray.setIfInBounds 72 (.int .i64 (g:Int))=(hv S rest g size).toArray:=by
  rw[List.setIfInBounds_toArray]
  congr 1
  unfold hv;rw[List.set_append,if_neg (by simp [jK,st8]),List.set_append,if_neg (by simp [jK,st8,idV,h])];simp [jK,st8,idV,h]
theorem hv_setSize{S:St8}{rest:List UInt8}{f size g:Nat}(h:rest.length=64):(hv S rest f size).toArray.setIfInBounds 73 (.int .i64 (g:Int))=(hv S rest f g).toArray:=by
  rw[List.setIfInBounds_toArray]
  congr 1
  unfold hv;rw[List.set_append,if_neg (by simp [jK,st8]),List.set_append,if_neg (by simp [jK,st8,idV,h])];simp [jK,st8,idV,h]
def JN(rest:List UInt8)(f:Nat)(b:List UInt8):List UInt8:=rest.take f++(b++rest.drop (f+b.length))
theorem U4{rest b:List UInt8}{f:Nat}(h:rest.length=64)(hf:f+b.length≤64):(JN rest f b).length=64:=by
  unfold JN;simp;omega
theorem hv_copy{S:St8}{rest b:List UInt8}{f size:Nat}(h:rest.length=64)(hf:f+b.length≤64):
    ((hv S rest f size).toArray.toList.take (8+f)++(idV b++(hv S rest f size).toArray.toList.drop (8+f+(idV b).length))).toArray=(hv S (JN rest f b) f size).toArray:=by
  congr 1
  have A:(jK (st8 S)).length=8:=rfl;have B:(idV b).length=b.length:=by simp [idV]
  have C:(idV rest).length=64:=by simp [idV,h]
  show (hv S rest f size).take (8+f)++(idV b++(hv S rest f size).drop (8+f+(idV b).length))=_;unfold hv JN
  rw[B,List.take_append,List.drop_append,A,show 8+f - 8=f by omega,show 8+f+b.length - 8=f+b.length by omega,Yq yv,List.drop_eq_nil_of_le yv,YZ,List.take_append,List.drop_append,C,
    show f - 64=0 by omega,show f+b.length - 64=0 by omega,List.take_zero,List.drop_zero,List.append_nil]
  unfold idV;simp [List.map_take,List.map_drop]
def LeftS(D rest:List UInt8):Prop:=rest.length=64∧∀j,j<D.length % 64→j7 rest j=j7 D (64*(D.length / 64)+j)
theorem byteAt_over{rest b:List UInt8}{f j:Nat}(h:rest.length=64)(hf:f+b.length≤64)(hj:j<f+b.length):j7 (JN rest f b) j=if j<f then j7 rest j else j7 b (j - f):=by
  unfold JN j7;rw[List.getD_eq_getElem?_getD]
  split
  ·rename_i A;rw[xv yX,List.getElem?_take_of_lt A,List.getD_eq_getElem?_getD]
  ·rename_i A;rw[xx yX,xv yX,List.getD_eq_getElem?_getD,Yj,Nat.min_eq_left yv]
theorem byteAt_app2{l m:List UInt8}{i:Nat}(h:l.length≤i):j7 (l++m) i=j7 m (i - l.length):=by
  unfold j7;rw[List.getD_eq_getElem?_getD,List.getD_eq_getElem?_getD,xx h]
theorem over_app{D rest b:List UInt8}(h:LeftS D rest)(hf:D.length % 64+b.length≤64){j:Nat}(hj:j<D.length % 64+b.length):j7 (JN rest (D.length % 64) b) j=j7 (D++b) (64*(D.length / 64)+j):=by
  rw[byteAt_over h.1 hf hj];have B:=Nat.div_add_mod D.length 64
  split
  ·rename_i A;rw[h.2 j A,byteAt_app yv]
  ·rename_i A;rw[byteAt_app2 yv]
   congr 1
   omega
theorem left_more{D rest b:List UInt8}(h:LeftS D rest)(hf:D.length % 64+b.length<64):LeftS (D++b) (JN rest (D.length % 64) b)∧(D++b).length % 64=D.length % 64+b.length∧zm (D++b) firstS ((D++b).length / 64)=zm D firstS (D.length / 64):=by
  have C:=Nat.div_add_mod D.length 64;have A:(D++b).length / 64=D.length / 64:=by rw[yV];omega
  have B:(D++b).length % 64=D.length % 64+b.length:=by rw[yV];omega
  refine⟨⟨U4 h.1 yv,fun j E=>?_⟩,B,?_⟩
  ·rw[A];exact over_app h yv yv
  ·rw[A];exact hashS_app D b firstS _ yv
theorem left_full{D rest b:List UInt8}(h:LeftS D rest)(hf:D.length % 64+b.length=64):LeftS (D++b) (JN rest (D.length % 64) b)∧(D++b).length % 64=0∧zm (D++b) firstS ((D++b).length / 64)=J5 (JN rest (D.length % 64) b) 0 (zm D firstS (D.length / 64)):=by
  have C:=Nat.div_add_mod D.length 64;have A:(D++b).length / 64=D.length / 64+1:=by rw[yV];omega
  have B:(D++b).length % 64=0:=by rw[yV];omega
  refine⟨⟨U4 h.1 yv,fun j E=>by omega⟩,B,?_⟩;rw[A];show J5 (D++b) (64*(D.length / 64)) (zm (D++b) firstS (D.length / 64))=_;rw[hashS_app D b firstS _ yv];refine(QS (fun i F=>?_) _).symm;rw[qZ];exact over_app h yv yv
structure HashAt (w:World) (z:Nat) (D rest:List UInt8) (size:Nat) (wx:World):Prop where
  but:But (fun k=>k=z) w wx
  row:wx.heap[z]?=some (.cells (hv (zm D firstS (D.length / 64)) rest (D.length % 64) size).toArray 324 (0,0))
  left:LeftS D rest
theorem HashAt.lt{w:World}{z:Nat}{D rest:List UInt8}{size:Nat}{wx:World}(h:HashAt w z D rest size wx):z<wx.heap.size:=(qX h.row)
theorem HashAt.keep{w:World}{z:Nat}{D rest:List UInt8}{size:Nat}{wx wy:World}(h:HashAt w z D rest size wx)(hb:Below wx.heap.size wx wy):HashAt w z D rest size wy:=⟨h.but.andBelow hb,(hb.block z h.lt).trans h.row,h.left⟩
theorem but_setRow{X:Nat→Prop}{a b:World}{g:Nat}(h:But X a b)(hx:X g)(cs:Array Value):But X a (b.setRow g cs):=
  h.trans (Y:=X) ⟨rfl,rfl,rfl,by simp [World.setRow],fun k _ A=>setRow_other b g k cs (fun e=>A (by rw[e];exact hx))⟩ fun _ _ q=>q
theorem write_any(z:Nat)(D rest:List UInt8)(size:Nat)(l:List UInt8)(A:Option Addr)(c:Nat)(w:World)(h:HashAt w z D rest size w)(hc:l.length≤c)(hl:l.length≤1099511627776)(hsz:size≤1099511627776)
    (hs:0<l.length→∃b J,A=some ⟨b,J,none⟩∧b<w.heap.size∧b≠z∧∀j (hj:j<l.length),w.cell? ⟨b,J+j,none⟩=some (.int .u8 (j7 l j:Int))) (hg:ShaG w) (hgz:2≠z∧1≠z):
    Calls prog 152 #[.pointer (some ⟨z,0,none⟩),.slice A l.length c] w fun e w'=>e=.returned (.tuple #[])∧∃B,HashAt w z (D++l) B (size+l.length) w':=by
  obtain⟨b,J,hb⟩:∃b J,0<l.length→A=some ⟨b,J,none⟩∧b<w.heap.size∧b≠z∧∀j (hj:j<l.length),w.cell? ⟨b,J+j,none⟩=some (.int .u8 (j7 l j:Int)):=by
    rcases Nat.eq_zero_or_pos l.length with h0|h0
    ·exact⟨0,0,fun h1=>by omega⟩
    ·obtain⟨b,J,h1⟩:=hs h0;exact⟨b,J,fun _=>h1⟩
  have HB:=hid hb;have HG:=hid hg;have F:=hid h;have A1:=hid hgz
  have Ap:w.cell? ⟨z,73,none⟩=some (.int .i64 (size:Int)):=(k6 h.row 73).trans (hv_size h.left.1);have Aq:w.frozen? ⟨z,73,none⟩=false:=frozen_of_row _ _ _ _ _ h.row;have e1:IntKind.i64.wrap ((size:Int)+(l.length:Int))=((size+l.length:Nat):Int):=by rw[IntWalk.i64_in _ yv];omega
  clear hb hg h hs hgz;go_enter func152,ntmps152
  go_upto_region 2 with fail
  clear Ap Aq e1;have X:Hid (HashAt w z D rest (size+l.length) (w.setCell ⟨z,73,none⟩ (.int .i64 ((size+l.length:Nat):Int)))):=hid ⟨F.but.setCell (fun _=>rfl) _,by rw[←hv_setSize F.left.1];exact Kz F.row _,F.left⟩
  go_loopw [1] (fun t1 wr=>∃(p:Nat) (B:List UInt8) (A':Option Addr) (c':Nat),p≤l.length∧t1=.slice A' (l.length - p) c'∧l.length - p≤c'∧(p<l.length→A'=some ⟨b,J+p,none⟩)∧Hid (HashAt w z (D++l.take p) B (size+l.length) wr)) (fun t1 _=>Qa t1)
  case atStart=>exact⟨0,rest,A,c,YX _,rfl,hc,fun h0=>(HB h0).1,by rw[List.take_zero,List.append_nil];exact X⟩
  case round=>
    clear X;obtain⟨p,B,A',c',hp,rfl,Ab,Ac,F⟩:=hrel;by_cases hlt:p<l.length
    ·obtain⟨m,hm⟩:=Xy (l.length - p);obtain rfl:=Ac hlt;obtain⟨C,hD⟩:=Xy (D++l.take p);obtain⟨q,hq⟩:=Xy (J+p);rw[hD] at F;rw[hm] at Ab ⊢;rw[hq];have L:=hid (show l.length - p=m∧J+p=q∧D++l.take p=C from⟨hm,hq,hD⟩);have i1:(0:Int)<(m:Int):=yv;have Ay:0<m:=yv;have Az:m≤1099511627776:=yv;obtain⟨f,hf⟩:=Xy (C.length % 64);have Ao:f<64:=by rw[←hf];exact Nat.mod_lt _ yj
     have M:=hid hf;clear Ac hm hq hD hf;have N:=hid F.left.1;have Ad:wr.cell? ⟨z,72,none⟩=some (.int .i64 (f:Int)):=by rw[←M.out];exact(k6 F.row 72).trans (hv_fill N)
     have Ar:=F.lt;have As:=Wg.cell Ad Ar;clear Ad;have AA:¬(64:Nat)=f:=yv
     go_upto_region 3 with fail
     refine jp 9 yq yq yq yq yq ?_;simp only[List.take_succ_cons,List.take_zero,List.drop_succ_cons,List.drop_zero]
     repeat (first
       |go_big_quiet_skip
       |(go_big_quiet_want
         first
            |(refine kP (fun w' _=>ex_sliceArr _ _ rfl (z:=z) (k:=8) (f:=f) rfl rfl Ao) ?_
              go_big_quiet_on
              go_frame;try simp only[nTF])
            |(go_big_quiet_op
              first
                 |go_big_quiet_on
                 |go_big_quiet_call (first|(fail)))))
     refine wpQuiet_nil ?_;rintro w' ⟨kk,rfl⟩;have At:=kk.2;generalize kk.val=w9 at *;clear kk;clear As;have R:=hid (F.keep At.below);obtain⟨n,hn⟩:=Xy (Nat.min m (64 - f));have Ae:n≤m∧f+n≤64∧0<n∧(f+n<64→n=m):=by rw[←hn];simp only[Nat.min_def];split<;>omega
     obtain⟨K,A8⟩:=Xy ((l.drop p).take n);have A9:K.length=n:=by rw[←A8,Yj,List.length_drop];have:=L.1;omega
     have Y:=hid A8;have s:=hid (fun (u:World) (hu:But (fun k=>k=z) w u) (j:Nat) (v:Value) (hj:(idV K)[j]?=some v)=>(show u.cell? ((⟨b,q,none⟩:Addr).add j)=some v from by
       have AB:j<K.length:=by have h:=(yJ.1 hj).1;simpa [idV] using h
       have hb:=HB.out yv;have e1:(⟨b,q,none⟩:Addr).add j=⟨b,J+(p+j),none⟩:=by
         have e2:J+p=q:=L.2.1;rw[show (⟨b,q,none⟩:Addr).add j=⟨b,q+j,none⟩ by unfold Addr.add;split<;>simp_all,←e2,Nat.add_assoc]
       rw[e1,hu.cell hb.2.1 hb.2.2.1,hb.2.2.2 (p+j) (by have:=L.1;omega),←hj];unfold idV j7;rw[List.getElem?_map,←Y.out,List.getElem?_take_of_lt yv,List.getElem?_drop,List.getD_eq_getElem?_getD,yK (by have:=L.1;omega)];rfl))
     clear A8 hlt;have Z:=hid hn;clear hn;have a:Hid (w9.heap[z]?=some (.cells (hv (zm C firstS (C.length / 64)) B f (size+l.length)).toArray 324 (0,0))):=hid (by have h:=R.row;rw[M.out] at h;exact h);have t:=run_copy_row (P:=prog) w9 169 169 3 5 z (8+f) (64 - f) (64 - f) ⟨b,q,none⟩ m c' (hv (zm C firstS (C.length / 64)) B f (size+l.length)).toArray 324 (idV K) underlying169 size_u8s a.out (by simp [idV,A9,Z.out]) (s _ R.but) (by rw[xz,qd N.out];simp [idV];omega) (kW _);rw[Yz,hv_copy N.out (show f+K.length≤64 by omega),show (idV K).length=n by simp [idV,A9]] at t;obtain⟨w8,x⟩:=Xy (w9.setRow z (hv (zm C firstS (C.length / 64)) (JN B f K) f (size+l.length)).toArray);rw[x] at t;have d:Hid (But (fun k=>k=z) w w8):=hid (by rw[←x];exact but_setRow R.but rfl _);have O:Hid (w8.heap[z]?=some (.cells (hv (zm C firstS (C.length / 64)) (JN B f K) f (size+l.length)).toArray 324 (0,0))):=hid (by rw[←x];exact setRow_heap _ _ _ _ _ _ a.out);clear x;have G:=hid (U4 N (show f+K.length≤64 by omega));have y:w8.cell? ⟨z,72,none⟩=some (.int .i64 (f:Int)):=(k6 O 72).trans (hv_fill G);have Af:w8.frozen? ⟨z,72,none⟩=false:=frozen_of_row _ _ _ _ _ O.out;have e2:IntKind.i64.wrap ((f:Int)+(n:Int))=((f+n:Nat):Int):=by rw[IntWalk.i64_in _ yv];omega
     unfold goInt at t
     go_upto_region 5 with fail
     obtain⟨Q,A0⟩:∃u,w8.setCell ⟨z,72,none⟩ (.int .i64 ((f:Int)+(n:Int)))=u:=⟨_,rfl⟩;rw[A0];have S:Hid (But (fun k=>k=z) w Q):=hid (by rw[←A0];exact d.setCell (fun _=>rfl) _);have H:Hid (Q.heap[z]?=some (.cells (hv (zm C firstS (C.length / 64)) (JN B f K) (f+n) (size+l.length)).toArray 324 (0,0))):=hid (by rw[←A0,←hv_setFill G.out];exact Kz O.out _);have y:Q.cell? ⟨z,72,none⟩=some (.int .i64 ((f+n:Nat):Int)):=(k6 H 72).trans (hv_fill G);obtain⟨A2,c2,Ag,Ah,Ai⟩:=sliced_from b q Ae.1 Ab;have A3:=hid Ag;have g:=hid Ai;have i:=hid Ah
     obtain⟨fn,Aa⟩:=Xy (f+n);have T:=hid Aa;rw[Aa] at y H;clear A0 t Af e2 O d Ag Ai Ah Aa Z
     go_upto_region 6 with (refine k7 yk (uW 169 _ _ rfl rfl rfl underlying169 size_u8s Ae.1 A3) ?_)
     have o:=hid (show D++l.take (p+n)=C++K by rw[←L.2.2,←Y.out,Yz,List.take_add]);have E:=hid (show m - n=l.length - (p+n)∧p+n≤l.length∧J+(p+n)=q+n by have:=L.out;omega);by_cases hfull:fn=64
     ·have Au:((fn:Int) == 64)=true:=by rw[beq_iff_eq];omega
      have U:=(qX H);have Av:=enE func197 rfl;have r:=hid (fun (u:World) (hu:Below Q.heap.size Q u)=>(show u.rangeAt z 0 (jK (st8 (zm C firstS (C.length / 64)))) from fun j v hj=>by rw[qZ];exact(hu.cell (p:=⟨z,j,none⟩) U).trans ((k6 H j).trans (hv_state j v hj))))
      go_upto_region 7 with fail
      clear y;refine rN 9 (fun u=>u.rangeAt z 0 (jK (st8 (zm C firstS (C.length / 64))))) (r _ (qD Q.heap.size Q)) fun Aw=>?_
      refine tw 0 _ ?_;go_frame;refine tw 1 _ ?_;go_frame;refine tw 2 _ ?_;go_frame;refine tw 3 _ ?_;go_frame;refine tl 4 (.agg (jK (st8 (zm C firstS (C.length / 64)))).toArray) rfl Aw (fun w' Aj=>kg 287 _ rfl (p:=⟨z,0,none⟩) rfl (qV w' _ _ _ (jK (st8 (zm C firstS (C.length / 64)))) _ Aj underlying287 rfl yq)) ?_;go_frame;refine tw 5 _ ?_;go_frame;refine tw 6 _ ?_;go_frame;refine tw 7 _ ?_;go_frame;refine tk 8 _ rfl (fun w' Aj=>ex_sliceAll _ rfl rfl) ?_;go_frame;refine ta 9 ?_;refine tc #[.agg (jK (st8 (zm C firstS (C.length / 64)))).toArray,.slice (some ⟨z,8,none⟩) 64 64] Av rfl ?_;have Ak:=((qD Q.heap.size Q).block z U).trans H.out;refine(rounds_any (zm C firstS (C.length / 64)) z 8 64 (JN B f K) Q.drew (ok_hash QR _) G (qX Ak) (fun j hj=>(k6 Ak (8+j)).trans (hv_byte G hj)) (qR _) (HG.but S.drew A1)).mono ?_;rintro e w5 ⟨rfl,Al⟩;have W:=(qD Q.heap.size Q).trans Al;have A4:=hid ((W.block z U).trans H);have A5:=hid (S.andBelow W);have A6:=r.out w5 W;refine⟨_,rfl,fun _ _=>A6,?_⟩;go_frame;refine tw 10 _ ?_;go_frame;refine tw 11 _ ?_;go_frame;refine ta 12 ?_;refine kR _ rfl yq 287 _ _ rfl z 0 [] (jK (st8 (zm C firstS (C.length / 64)))) (idV (JN B f K)++[.int .i64 (fn:Int),.int .i64 ((size+l.length:Nat):Int)]) (jK (st8 (J5 (JN B f K) 0 (zm C firstS (C.length / 64))))) 324 (.agg (jK (st8 (J5 (JN B f K) 0 (zm C firstS (C.length / 64))))).toArray) rfl rfl rfl rfl A4.out rfl yq (ZZ _) ?_;intro w4 Am An Ax;have A7:=hid (A5.trans Am fun _ _ q=>q);have V:Hid (w4.heap[z]?=some (.cells (hv (J5 (JN B f K) 0 (zm C firstS (C.length / 64))) (JN B f K) fn (size+l.length)).toArray 324 (0,0))):=hid An;clear Am An Ax W Al;refine⟨fun h=>absurd h yj,?_⟩;go_frame;refine ku yq ?_ _
      go_upto_region 8 with fail
      have y:w4.cell? ⟨z,72,none⟩=some (.int .i64 (fn:Int)):=(k6 V 72).trans (hv_fill G);have Af:w4.frozen? ⟨z,72,none⟩=false:=frozen_of_row _ _ _ _ _ V.out;have I:=hid (left_full (b:=K) F.left (by have:=M.out;have:=T.out;omega));go_wp2_with fail
      go_roundw
      case rel=>
        refine⟨p+n,JN B f K,A2,c2,E.2.1,by rw[E.1],by have:=E.1;have:=i.out;omega,fun h=>by rw[g.out (by have:=E.1;omega),E.2.2],hid ?_⟩;rw[o.out];refine⟨A7.setCell (fun _=>rfl) _,?_,by have h:=I.1;rw[M.out] at h;exact h⟩;rw[I.2.1,I.2.2,M.out,←hv_setFill G.out];exact Kz V.out _
      case measure=>simp only[Qa];omega
     ·have Au:((fn:Int) == 64)=false:=by rw[beq_eq_false_iff_ne];omega
      have I:=hid (left_more (b:=K) F.left (by have:=M.out;have:=T.out;omega));go_wp2_with fail
      go_roundw
      case rel=>
        refine⟨p+n,JN B f K,A2,c2,E.2.1,by rw[E.1],by have:=E.1;have:=i.out;omega,fun h=>by rw[g.out (by have:=E.1;omega),E.2.2],hid ?_⟩;rw[o.out];refine⟨S,?_,by have h:=I.1;rw[M.out] at h;exact h⟩;rw[I.2.1,I.2.2,M.out,A9,T.out];exact H.out
      case measure=>simp only[Qa];omega
    ·have i1:¬(0:Int)<((l.length - p:Nat):Int):=yv;obtain rfl:p=l.length:=yv;go_wp2_with fail
     go_end0
     rw[List.take_length] at F;exact⟨rfl,_,F⟩
def hashZ:List Value:=jK (st8 (0,0,0,0,0,0,0,0))++(idV (List.replicate 64 0)++[.int .i64 0,.int .i64 0])
theorem hv_one{S:St8}{rest:List UInt8}{f size:Nat}(h:rest.length=64):∀u∈hv S rest f size,u.oneCell'=true:=by
  intro u A;unfold hv at A;rcases xJ.1 A with A|A
  ·exact ZZ _ u A
  ·rcases xJ.1 A with A|A
   ·exact kW _ u A
   ·simp only[xK,YY,or_false] at A;rcases A with rfl|rfl<;>rfl
theorem zeros_go{n k:Nat}(h:k≤zt n):(k<zt n↔(n+(k+1)) % 64≠56):=by
  unfold zt at *;omega
theorem lenS_take{n i:Nat}(hi:i<8):(lenS n).take (i+1)=(lenS n).take i++[UInt8.ofNat (n*8 / 2 ^ (56 - 8*i))]:=by
  unfold lenS;rw[←List.map_take,←List.map_take,List.take_range,List.take_range,Nat.min_eq_left yv,Nat.min_eq_left yv,List.range_succ,List.map_append];rfl
theorem u8_mod(n s:Nat):(Value.int .u8 ((UInt8.ofNat (n*8 / 2 ^ s)).toNat:Int))=.int .u8 ((n:Int)*8 / 2 ^ s % 256):=by
  rw[UInt8.toNat_ofNat']
  congr 1
theorem idV_snoc(l:List UInt8)(x:UInt8):idV (l++[x])=idV l++[.int .u8 (x.toNat:Int)]:=by simp [idV]
theorem own_bytes{w:World}{base n c:Nat}{A:Option Addr}{l:List UInt8}(h:w.ownsRow base 5 1 (.slice A n c) n (idV l)){z:Nat}{cs:List Value}{T:TypeId}(hz:w.heap[z]?=some (.cells cs.toArray T (0,0)))(hT:5≠T):
    0<l.length→∃b B,A=some ⟨b,B,none⟩∧b<w.heap.size∧b≠z∧∀j (hj:j<l.length),w.cell? ⟨b,B+j,none⟩=some (.int .u8 (j7 l j:Int)):=by
  intro J;have D:=Sl.of_own h;have K:l.length=n:=by have:=D.1;simpa [idV] using this
  obtain⟨b,B,rfl,E,G⟩:=D.2 yv;refine⟨b,B,rfl,E,fun e=>?_,fun j hj=>?_⟩
  ·have F:=own_not h hz hT;rcases h.2 with⟨C,L⟩|⟨g,H,I,C,_⟩
   ·cases C
   ·rw[C] at F;injection C with hv1 _ _;injection hv1 with hv1;injection hv1 with hb _ _;exact F (by rw[←e,hb];rfl)
  ·refine G j _ ?_;unfold idV j7;rw[List.getElem?_map,yK hj,List.getD_eq_getElem?_getD,yK hj];rfl
theorem ex_idx8{ρ:Operand→Value}{o:Oper}{w:World}(x y:Operand)(ho:o.op=.index 287 x y){xs:List Int}(hl:xs.length=8)(hx:ρ x=.agg (jK xs).toArray){t:Nat}(ht:t<8)(hy:ρ y=.int .i64 (t:Int)){V:Int}(hv:xs.getD t 0=V):
    (execOp ρ o).run prog w=.ok (.value (.int .u32 V)) w:=by
  have h:=KM (l:=xs) (i:=t) yv;rw[hv] at h;obtain⟨i,B,A⟩:=Option.map_eq_some_iff.1 (show (prog.info? 262).map (·.size)=some 1 by kernel_rfl);unfold execOp;simp only[ho,hx,hy,Instr.index,asIntOf,run_underlying underlying287,Sem.run_bind,Result.andThen_ok,Sem.run_pure];simp only[show ((0:Int)≤(t:Int)∧(t:Int)<((8:Nat):Int)) from⟨by omega,by omega⟩,and_self,if_true];simp [part,isAgg,run_underlying underlying262,Sem.run_bind,Result.andThen,h,sizeOf,typeInfo,B,A]
theorem at_index{P:Program}{ops:Array Oper}{Q:Exit→Act→World→Prop}{rest:List Oper}{a:Act}{w:World}{d:Option Tmp}{t:TypeId}{p:String}{af:Array Edge}{g:Option (Nat×Bool)}{ty:TypeId}{x y:Operand}(h:wpList P ops Q ({ dst:=d,op:=.index ty x y,type:=t,pos:=p,after:=af,guard:=g}::rest) a w):wpList P ops Q ({ dst:=d,op:=.index ty x y,type:=t,pos:=p,after:=af,guard:=g}::rest) a w:=h
def outP(S:St8)(i:Nat):List UInt8:=(List.range 32).map fun k=>if k<4*i then (qr S).getD k 0 else 0
def b8(x:Int)(d:Nat):Value:=.int .u8 ((UInt8.ofNat (x.toNat / d)).toNat:Int)
theorem outP_length(S:St8)(i:Nat):(idV (outP S i)).length=32:=by simp [idV,outP]
theorem outP_set(S:St8){i:Nat}(hi:i<8):((((idV (outP S i)).toArray.setIfInBounds (4*i) (b8 ((st8 S).getD i 0) 16777216)).setIfInBounds (4*i+1) (b8 ((st8 S).getD i 0) 65536)).setIfInBounds (4*i+2) (b8 ((st8 S).getD i 0) 256)).setIfInBounds (4*i+3) (.int .u8 ((UInt8.ofNat ((st8 S).getD i 0).toNat).toNat:Int))=(idV (outP S (i+1))).toArray:=by
  match i,hi with
  | 0,_ | 1,_ | 2,_ | 3,_ | 4,_ | 5,_ | 6,_ | 7,_=>rfl
structure OutAt (w:World) (z:Nat) (S:St8) (i:Nat) (wx:World):Prop where
  but:But (fun k=>k=z) w wx
  row:wx.heap[z]?=some (.cells (idV (outP S i)).toArray 41 (0,0))
theorem OutAt.any{w:World}{z:Nat}{S:St8}{i:Nat}{wx:World}(h:OutAt w z S i wx){k:Nat}(hk:k<32):∃u,wx.cell? ⟨z,k,none⟩=some u:=
  ⟨(idV (outP S i))[k]'(by rw[outP_length];exact hk),(k6 h.row k).trans (yK _)⟩
theorem OutAt.fr{w:World}{z:Nat}{S:St8}{i:Nat}{wx:World}(h:OutAt w z S i wx)(k:Nat):wx.frozen? ⟨z,k,none⟩=false:=frozen_of_row _ _ _ _ _ h.row
theorem OutAt.next{w:World}{z:Nat}{S:St8}{i:Nat}{wx:World}(h:OutAt w z S i wx)(hi:i<8):OutAt w z S (i+1) ((((wx.setCell ⟨z,4*i,none⟩ (b8 ((st8 S).getD i 0) 16777216)).setCell ⟨z,4*i+1,none⟩ (b8 ((st8 S).getD i 0) 65536)).setCell ⟨z,4*i+2,none⟩ (b8 ((st8 S).getD i 0) 256)).setCell ⟨z,4*i+3,none⟩ (.int .u8 ((UInt8.ofNat ((st8 S).getD i 0).toNat).toNat:Int))):=by
  refine⟨(((h.but.setCell (fun _=>rfl) _).setCell (fun _=>rfl) _).setCell (fun _=>rfl) _).setCell (fun _=>rfl) _,?_⟩;rw[←outP_set S hi];exact Kz (Kz (Kz (Kz h.row _) _) _) _
theorem b8_mid{X:Int}{d:Nat}(h:0≤X):Value.int .u8 (X / (d:Int) % 256)=b8 X d:=by
  obtain⟨x,rfl⟩:=Int.eq_ofNat_of_zero_le h;unfold b8;rw[Int.toNat_natCast,UInt8.toNat_ofNat'];rfl
theorem b8_top{X:Int}(h:0≤X)(h2:X≤4294967295):Value.int .u8 (X / 16777216)=b8 X 16777216:=by
  rw[←b8_mid h]
  congr 1
  show X / 16777216=X / 16777216 % 256;omega
theorem b8_low{X:Int}(h:0≤X):Value.int .u8 (X % 256)=.int .u8 ((UInt8.ofNat X.toNat).toNat:Int):=by
  obtain⟨x,rfl⟩:=Int.eq_ofNat_of_zero_le h;rw[Int.toNat_natCast,UInt8.toNat_ofNat'];rfl
theorem hashSum_any(z:Nat)(D rest:List UInt8)(w wz:World)(h:HashAt wz z D rest D.length w)(hD:D.length≤1099511627776)(hg:ShaG w):
    Calls prog 153 #[.pointer (some ⟨z,0,none⟩)] w fun e w'=>e=.returned (.agg (idV (vp D)).toArray)∧Below w.heap.size w w':=by
  have G:=hid h.left;have A5:=hid h.row;have N:=hid h.lt;have HG:=hid hg
  clear h hg;go_enter func153,ntmps153
  go_upto_region 3 with (first
    |(with_reducible refine kF ?_
      refine kv yk 41 rfl (List.replicate 32 (.int .u8 0)) yq ?_;intro W0 I f O))
  have P:=hid ((I.block z N.out).trans A5.out)
  go_upto_region 4 with (first
    |(with_reducible refine k8 ?_
      refine k7 yk (kg 324 _ rfl (p:=⟨z,0,none⟩) rfl (qV _ _ _ _ (hv (zm D firstS (D.length / 64)) rest (D.length % 64) D.length) _ (fun j u x=>by rw[qZ];exact(k6 P.out j).trans x) underlying324 rfl (by rw[qd G.1];kernel_rfl))) ?_)
    |(with_reducible refine kF ?_
      refine kv yk 324 rfl hashZ yq ?_;intro W2 Q g l)
    |(with_reducible refine kD ?_
      refine kr yk 324 _ _ rfl W0.heap.size 0 [] hashZ [] (hv (zm D firstS (D.length / 64)) rest (D.length % 64) D.length) 324 (.agg (hv (zm D firstS (D.length / 64)) rest (D.length % 64) D.length).toArray) rfl rfl rfl rfl (by simpa using g.out) (by rw[qd G.1];rfl) (by rw[qd G.1];kernel_rfl) (hv_one G.1) ?_;intro H Al At n;have J:=hid (Q.trans (Al.below Q.size (fun k hk e=>by have e':k=W0.heap.size:=e;omega)));have R:Hid (H.heap[W0.heap.size]?=some (.cells (hv (zm D firstS (D.length / 64)) rest (D.length % 64) D.length).toArray 324 (0,0))):=hid (by simpa using At.out)))
  obtain⟨M,Am⟩:=Xy w.heap.size;obtain⟨b,Ap⟩:=Xy W0.heap.size;have T:=hid (Xx I.out J.out);have B:=hid (show w.heap.size=M∧M<b∧b<H.heap.size∧z<M by have:=O.out;have:=l.out;have:=n.out;have:=N.out;omega);have A6:Hid (H.heap[M]?=some (.cells (List.replicate 32 (.int .u8 0)).toArray 41 (0,0))):=hid (by rw[←Am];exact(J.block _ (by have:=O.out;omega)).trans f.out);rw[Ap] at R ⊢;rw[Am]
  try go_frame
  have A7:=hid ((J.block z (qL N.out I.size)).trans P.out);clear Am Ap f g Q O l n I J P
  go_upto_region 5 with fail
  have o:=hid (World.ownsRow_lit (e:=5) (size:=1) H #[.int .u8 128] 1 (qR _) yY rfl);have q:=hid (show Below H.heap.size H (H.alloc (.cells #[.int .u8 128] 5)) from (qB _ _).alloc (qR _) _);have Au:zt D.length≤63:=by unfold zt;omega
  go_loopw [4] (fun t4 wr=>∃(k:Nat) (A:Option Addr) (c:Nat),k≤zt D.length∧t4=.slice A (k+1) c∧Hid (wr.ownsRow H.heap.size 5 1 (.slice A (k+1) c) (k+1) (idV (128::List.replicate k 0)))∧Hid (Below H.heap.size H wr)) (fun t4 _=>100 - Qa t4)
  case atStart=>exact⟨0,_,_,YX _,rfl,o,q⟩
  case round=>
    clear o q;obtain⟨k,A,c,hk,rfl,C,E⟩:=hrel;have Av:wr.cell? ⟨z,73,none⟩=some (.int .i64 (D.length:Int)):=(E.cell (p:=⟨z,73,none⟩) (show z<H.heap.size by have:=B.out;omega)).trans ((k6 A7.out 73).trans (hv_size G.1));have A2:=zeros_go hk;by_cases hlt:k<zt D.length
    ·have An:=A2.1 hlt;have Az:((((D.length:Int)+((k:Int)+1)) % 64) != 56)=true:=by rw[bne_iff_ne];omega
     clear A2 An;have Al:=E.size
     go_wp2_with (at_builtin;refine Jt rfl _ _ 169 rfl H.heap.size 5 (.int .u8 0) 1 underlying169 jm rfl _ _ _ rfl C.out _ _ rfl rfl ?c1 ?c2 ?c3 ?_)
     case c1=>unfold maxLen;omega
     case c2=>omega
     case c3=>omega
     intro v9 w9 a y;obtain⟨A9,c9,rfl⟩:=kM a;have U:=hid a;have V:=hid (y H.heap.size H (qR _) E.out);clear a y;go_wp2_with fail
     go_roundw
     case rel=>
       refine⟨k+1,A9,c9,by omega,rfl,hid ?_,V⟩;rw[List.replicate_succ',←YK,uU];exact U.out
     case measure=>simp only[Qa];omega
    ·obtain rfl:k=zt D.length:=yv;have An:((((D.length:Int)+((zt D.length:Int)+1)) % 64) != 56)=false:=by
       rw[bne_eq_false_iff_eq];have h:=(not_congr A2).1 yv;omega
     clear A2;have A8:=hid Au
     go_upto_region 9 with fail
     clear Av An
     go_loopw [36,4] (fun t36 t4 wr=>∃(i:Nat) (A:Option Addr) (c:Nat),i≤8∧t36=.int .i64 (i:Int)∧t4=.slice A (zt D.length+1+i) c∧Hid (wr.ownsRow H.heap.size 5 1 (.slice A (zt D.length+1+i) c) (zt D.length+1+i) (idV (128::List.replicate (zt D.length) 0++(lenS D.length).take i)))∧Hid (Below H.heap.size H wr)) (fun t36 _ _=>8 - (intOf t36).toNat)
     case atStart=>exact⟨0,A,c,YX _,rfl,rfl,by rw[List.take_zero,List.append_nil];exact C,E⟩
     case round=>
       clear C E;obtain⟨i,A,c,hi,rfl,rfl,C,E⟩:=hrel;have Al:=E.size;by_cases hlt:i<8
       ·have i8:(i:Int)<8:=yv;obtain⟨s,hs⟩:=Xy (56 - 8*i);have es:56 - 8*(i:Int)=(s:Int):=yv;have Ay:s≤56:=yv;have Aa:=hid hs;clear hs
        go_wp2_with (at_builtin;refine Jt rfl _ _ 169 rfl H.heap.size 5 (.int .u8 0) 1 underlying169 jm rfl _ _ _ rfl C.out _ _ rfl rfl ?c1 ?c2 ?c3 ?_)
        case c1=>unfold maxLen;omega
        case c2=>omega
        case c3=>omega
        intro v9 w9 a y;obtain⟨A9,c9,rfl⟩:=kM a;have U:=hid a;have V:=hid (y H.heap.size H (qR _) E.out);clear a y;go_wp2_with fail
        go_roundw
        case rel=>
          refine⟨i+1,A9,c9,by omega,by go_num,rfl,hid ?_,V⟩;have h:=U.out;rw[←u8_mod,←idV_snoc] at h;rw[lenS_take hlt,Aa.out,←Yz];exact h
        case measure=>exact Xz
       ·obtain rfl:i=8:=yv;have i8:¬((8:Nat):Int)<8:=yv;obtain⟨TL,A3⟩:∃TL,(128::List.replicate (zt D.length) 0++(lenS D.length).take 8:List UInt8)=TL:=⟨_,rfl⟩;have Ab:=hid (show D++TL=qq D by rw[←A3];rfl);have A4:TL.length=zt D.length+1+8:=by rw[←A3];simp [lenS]
        rw[A3,←A4] at C;rw[←A4];have Ac:=hid A4;clear A3 A4;have Ad:=hid (own_bytes C.out (E.block b (by have:=B.out;omega)|>.trans R.out) yj);have Ae:=hid (HG.next (Xx T.out E.out));have Af:=hid (show 2≠b∧1≠b by have h1:=ZM (HG.1 0 yj);have h2:=ZM (HG.2 0 yj);have:=B.out;omega);have Ag:=hid (own_cap8 C.out);have As:TL.length≤1099511627776:=by rw[Ac.out];have:=A8.out;omega
        go_upto_region 15 with (first
          |(go_at_call 152;refine(write_any b D rest D.length TL A c wr ⟨But.refl _ _,(E.block b (by have:=B.out;omega)).trans R.out,G.out⟩ Ag.out As yv Ad.out Ae.out Af.out).mono ?_;rintro e w5 ⟨rfl,Ax,Aq⟩;have F:=hid Aq;clear Aq)
          |(with_reducible refine kF ?_
            refine kv yk 41 rfl (List.replicate 32 (.int .u8 0)) yq ?_;intro W4 K W r))
        obtain⟨S,hS⟩:=Xy (zm (qq D) firstS ((qq D).length / 64));have HS:=hid hS;have Ah:Hid S.ok:=hid (hS▸ok_hash QR _);have Y:Hid (∃tl:List Value,W4.heap[b]?=some (.cells (jK (st8 S)++tl).toArray 324 (0,0))):=hid ⟨_,by rw[←hS,←Ab.out];exact(K.block b F.lt).trans F.row⟩;have Z:=hid ((Xx T.out E.out).trans ((F.but.andBelow K.out).below (qT T.size E.size) fun k hk e=>by have:=B.out;omega));have A0:=hid ((K.block M (qL (by have:=B.out;omega) (qT E.size F.but.size))).trans ((F.but.block M (qL (by have:=B.out;omega) E.size) (by have:=B.out;omega)).trans ((E.block M (by have:=B.out;omega)).trans A6.out)));obtain⟨zo,Ar⟩:=Xy w5.heap.size;have L:=hid (show M<zo∧zo<W4.heap.size by have h1:=F.but.size;have h2:=E.size;have h3:=B.out;have h4:=r.out;omega);rw[Ar] at W ⊢
        try go_frame
        have v:Hid (OutAt W4 zo S 0 W4):=hid ⟨But.refl _ _,W.out⟩;clear hS Ar r W K F C E;obtain⟨tl,Ao⟩:=Y.out;have Y:=hid Ao;clear Ao
        go_upto_region 16 with (first|(with_reducible refine k8 ?_
                                       refine k7 yk (kg 287 _ rfl (p:=⟨b,0,none⟩) rfl (qV _ _ _ _ (jK (st8 S)) _ (fun j u x=>by rw[qZ];exact(k6 Y.out j).trans ((xv (yJ.1 x).1).trans x)) underlying287 rfl yq)) ?_))
        go_loopw [53] (fun t53 wr=>∃i:Nat,i≤8∧t53=.int .i64 (i:Int)∧Hid (OutAt W4 zo S i wr)) (fun t53 _=>8 - (intOf t53).toNat)
        case atStart=>exact⟨0,by omega,rfl,v⟩
        case round=>
          clear v;obtain⟨i,hi,rfl,C⟩:=hrel;by_cases hlt:i<8
          ·have i8:(i:Int)<8:=yv;obtain⟨X,hX⟩:=Xy ((st8 S).getD i 0);obtain⟨X0,X1⟩:0≤X∧X≤4294967295:=hX▸KL Ah.out i hlt;have HX:=hid hX;clear hX;obtain⟨m,hm⟩:=Xy (4*i);have e4:4*(i:Int)=(m:Int):=yv;have AA:m+3<32:=yv;have HM:=hid hm;obtain⟨u0,q0⟩:=C.any (k:=m) yv;obtain⟨u1,q1⟩:=C.any (k:=m+1) yv;obtain⟨u2,q2⟩:=C.any (k:=m+2) yv;obtain⟨u3,q3⟩:=C.any (k:=m+3) yv;have f0:=C.fr m;have f1:=C.fr (m+1);have f2:=C.fr (m+2);have f3:=C.fr (m+3);clear hm
           go_wp2_with (first|(with_reducible refine at_index ?_
                               refine k7 yk (ex_idx8 _ _ rfl (xs:=st8 S) rfl rfl (t:=i) hlt rfl HX.out) ?_))
           go_roundw
           case rel=>
             refine⟨i+1,by omega,by go_num,hid ?_⟩;have h:=C.next hlt;rw[HX.out,HM.out] at h;rw[b8_top X0 X1,b8_low X0,show Value.int .u8 (X / 65536 % 256)=b8 X 65536 from b8_mid (d:=65536) X0,show Value.int .u8 (X / 256 % 256)=b8 X 256 from b8_mid (d:=256) X0];exact h
           case measure=>exact Xz
          ·obtain rfl:i=8:=yv;have i8:¬((8:Nat):Int)<8:=yv;have A1:Hid (wr.heap[zo]?=some (.cells (idV (qr S)).toArray 41 (0,0))):=hid C.row;have Ai:=hid ((C.but.block M (Nat.lt_trans L.1 L.2) (by have:=L.out;omega)).trans A0.out)
           go_wp2_with (first
             |(with_reducible refine k8 ?_
               refine k7 yk (kg 41 _ rfl (p:=⟨zo,0,none⟩) rfl (qV _ _ _ _ (idV (qr S)) _ (fun j u x=>by rw[qZ];exact(k6 A1.out j).trans x) underlying41 rfl yq)) ?_)
             |(with_reducible refine kD ?_
               refine kr yk 41 _ _ rfl M 0 [] (List.replicate 32 (.int .u8 0)) [] (idV (qr S)) 41 (.agg (idV (qr S)).toArray) rfl rfl rfl rfl (by simpa using Ai.out) rfl yq (kW _) ?_;intro W6 Aj Aw AB;have Ak:Hid (W6.heap[M]?=some (.cells (idV (qr S)).toArray 41 (0,0))):=hid (by simpa using Aw.out)))
           refine bodyPost_ret (jx results153 _ _ rfl (qV _ M 0 41 (idV (qr S)) _ (fun j u x=>by rw[qZ];exact(k6 Ak.out j).trans x) underlying41 rfl yq)) rfl ?_;refine⟨by unfold vp;rw[HS.out],Z.trans ((C.but.below Z.size (fun k hk e=>by have:=L.out;have:=B.out;omega)).trans (Aj.below (qT Z.size C.but.size) fun k hk e=>by have:=B.out;omega))⟩
theorem hash_built(w:World):(Instr.build 324 #[(0,.agg (jK (st8 firstS)).toArray)]).run prog w=.ok (.agg (hv firstS (List.replicate 64 0) 0 0).toArray) w:=yq
theorem first_cell{w:World}(h:ShaG w){j:Nat}{u:Value}(hj:(jK (st8 firstS))[j]?=some u):w.cell? ⟨1,j,none⟩=some u:=by
  have A:j<8:=(yJ.1 hj).1;rw[h.1 j A,←hj,KM (l:=st8 firstS) A]
theorem new_any(w:World)(hg:ShaG w):Calls prog 151 #[] w fun e w'=>e=.returned (.pointer (some ⟨w.heap.size,0,none⟩))∧Below w.heap.size w w'∧HashAt w' w.heap.size [] (List.replicate 64 0) 0 w':=by
  have C:=hid hg;clear hg;go_enter func151,ntmps151
  go_wp2_with (first
    |(with_reducible refine k8 ?_
      refine k7 yk (kg 287 _ rfl (p:=⟨1,0,none⟩) rfl (qV _ _ _ _ (jK (st8 firstS)) _ (fun j u D=>by rw[qZ];exact first_cell C.out D) underlying287 rfl yq)) ?_)
    |(with_reducible refine kL ?_
      refine k7 yk (kp 324 #[(0,.tmp 1)] rfl (by simp only[xV,xX,Yy];exact hash_built _)) ?_)
    |(with_reducible refine kG ?_
      refine kz yk 324 _ rfl (hv firstS (List.replicate 64 0) 0 0) (.agg (hv firstS (List.replicate 64 0) 0 0).toArray) rfl rfl yq ?_;intro F A B E))
  go_ret;exact⟨rfl,A.out,⟨But.refl _ _,B.out,⟨rfl,fun j D=>by simp at D⟩⟩⟩
theorem src_bytes{w:World}{B z:Nat}{A:Option Addr}{l:List UInt8}(h:Sl w B A l.length 1 (idV l))(hz:z≥B)(hB:B≤w.heap.size):0<l.length→∃b C,A=some ⟨b,C,none⟩∧b<w.heap.size∧b≠z∧∀j (hj:j<l.length),w.cell? ⟨b,C+j,none⟩=some (.int .u8 (j7 l j:Int)):=by
  intro D;obtain⟨b,C,rfl,F,E⟩:=h.2 D;refine⟨b,C,rfl,by omega,by omega,fun j hj=>E j _ ?_⟩;unfold idV j7;rw[List.getElem?_map,yK hj,List.getD_eq_getElem?_getD,yK hj];rfl
theorem shaSum_any(l:List UInt8)(A:Option Addr)(c bp op cp:Nat)(w:World)(hc:l.length≤c)(hl:l.length≤1099511627776)(hbp:bp<w.heap.size)(hp:w.cell? ⟨bp,op,none⟩=some (.slice A l.length c))(hs:Sl w w.heap.size A l.length 1 (idV l))(hg:ShaG w):
    Calls prog 92 #[.slice (some ⟨bp,op,none⟩) 1 cp] w fun e w'=>e=.returned (.agg (idV (vp l)).toArray)∧Below w.heap.size w w':=by
  have r:=hid hp;have R:=hid hs;have F:=hid hg
  clear hp hs hg;go_enter func92,ntmps92
  go_upto_region 1 with (first
    |(with_reducible refine kF ?_
      refine kv yk 41 rfl (List.replicate 32 (.int .u8 0)) yq ?_;intro x M N G))
  go_upto_region 3 with (first
    |(go_at_call 151;refine(new_any x (F.next M.out)).mono ?_;rintro e Y ⟨rfl,d,f⟩;have O:=hid d;have D:=hid f
      clear d f))
  obtain⟨Q,Z⟩:=Xy w.heap.size;obtain⟨L,g⟩:=Xy x.heap.size;have E:=hid (Xx M.out O.out);have B:=hid (show w.heap.size=Q∧Q<L∧L<Y.heap.size by have h1:=G.out;have h2:=D.lt;omega);have S:Hid (Y.heap[Q]?=some (.cells (List.replicate 32 (.int .u8 0)).toArray 41 (0,0))):=hid (by rw[←Z];exact(O.block _ (by have:=G.out;omega)).trans N.out);rw[g] at D ⊢;rw[Z]
  try go_frame
  clear N G Z g
  go_loopw [9] (fun t9 wr=>∃i:Nat,i≤1∧t9=.int .i64 (i:Int)∧Hid (i=0→HashAt Y L [] (List.replicate 64 0) 0 wr)∧Hid (i=1→∃rest,HashAt Y L ([]++l) rest (0+l.length) wr)) (fun t9 _=>1 - (intOf t9).toNat)
  case atStart=>exact⟨0,by omega,rfl,hid (fun _=>D.out),hid (fun h=>absurd h yj)⟩
  case round=>
    clear D;obtain⟨i,hi,rfl,s,t⟩:=hrel;by_cases hlt:i<1
    ·obtain rfl:i=0:=yv;have i8:((0:Nat):Int)<1:=yv;have K:=hid (s.out rfl);have C:=hid (E.trans (K.but.below E.size fun k y e=>by have:=B.out;omega));have H:=hid (F.next C.out);have T:=hid (show 2≠L∧1≠L by have h1:=ZM (F.1 0 yj);have h2:=ZM (F.2 0 yj);have:=B.out;omega);have U:=hid (src_bytes (R.keep C.out) (show L≥w.heap.size by have:=B.out;omega) C.size);have qp:wr.cell? ⟨bp,op,none⟩=some (.slice A l.length c):=(C.cell (p:=⟨bp,op,none⟩) hbp).trans r.out
     go_wp2_with (first
       |(go_at_call 152;refine(write_any L [] (List.replicate 64 0) 0 l A c wr ⟨But.refl _ _,K.row,K.left⟩ hc hl yv U.out H.out T.out).mono ?_;rintro e w5 ⟨rfl,a,m⟩;have I:=hid m;clear m))
     go_roundw
     case rel=>exact⟨1,by omega,rfl,hid (fun h=>absurd h yj),hid (fun _=>⟨a,K.but.trans I.but fun _ _ q=>q,I.row,I.left⟩)⟩
     case measure=>exact Xz
    ·obtain rfl:i=1:=yv;have i8:¬((1:Nat):Int)<1:=yv;obtain⟨rest,b⟩:=t.out rfl;have v:=hid b;have C:=hid (E.trans (b.but.below E.size fun k y e=>by have:=B.out;omega));have H:=hid (F.next C.out);have P:=hid ((b.but.block Q (by have:=B.out;omega) (by have:=B.out;omega)).trans S.out);have n:=(qX P.out);have V:=hid n;clear b n
     go_wp2_with (first
       |(go_at_call 153;refine(hashSum_any L l rest wr Y (by have h:=v.out;rw[qZ,YZ] at h;exact h) hl H.out).mono ?_;rintro e w6 ⟨rfl,o⟩;have J:=hid o;clear o)
       |(with_reducible refine kD ?_
         refine kr yk 41 _ _ rfl Q 0 [] (List.replicate 32 (.int .u8 0)) [] (idV (vp l)) 41 (.agg (idV (vp l)).toArray) rfl rfl rfl rfl (by simpa using ((J.block Q V.out).trans P.out)) rfl yq (kW _) ?_;intro W6 W z A0;have X:Hid (W6.heap[Q]?=some (.cells (idV (vp l)).toArray 41 (0,0))):=hid (by simpa using z.out)))
     refine bodyPost_ret (jx results92 _ _ rfl (qV _ Q 0 41 (idV (vp l)) _ (fun j u hj=>by rw[qZ];exact(k6 X.out j).trans hj) underlying41 rfl yq)) rfl ?_;exact⟨rfl,C.trans ((J.mono C.size).trans (W.below (qT C.size J.size) fun k y e=>by have:=B.out;omega))⟩
end

section
open Go.RowKit Go.Maps
open Lib (hid)
def vb(o:vB):Int:=if zn o=true then (if 262144<(Jv o).length then 2 else 0) else 1
def idD(o:vB):List UInt8:=if vb o=0 then vp (Jv o) else List.replicate 32 0
theorem qC(o:vB)(v:Value)(w:World)(h:ObjIn w w.heap.size v o)(hl1:o.2.1.2.1.length≤1099511627776)(hl2:o.2.1.2.2.2.length≤1099511627776)(hl3:o.2.2.1.length≤1099511627776)(hl4:o.2.2.2.1.length≤1099511627776)(hone:RowKit.Hid (o.1=1)):
    Calls prog 103 #[v] w fun e w'=>Below w.heap.size w w'∧Zn o e w':=by
  obtain⟨V,rfl,P,Q⟩:=h.ten;have K:=hid h;have B:=hid P;have U:=hid Q
  clear h P Q;go_enter func103,ntmps103
  go_upto_region 1 with (first
    |(with_reducible refine kG ?_
      refine kz yk 70 _ rfl V (.agg (V).toArray) rfl rfl (by rw[B.out];kernel_rfl) ?_;intro T C D H))
  have F:=hid ((K.keep C).more C.size);obtain⟨z,W⟩:=Xy w.heap.size;have L:=hid (show z<T.heap.size by have:=H.out;omega);rw[W] at D ⊢
  try go_frame
  clear W H;rcases Yk (zn o) with O|O
  rotate_left
  ·have A:=hid O;clear O
   go_wp2_with (first
     |(with_reducible refine k8 ?_
       refine k7 yk (kg 70 _ rfl (p:=⟨z,0,none⟩) rfl (vP D B)) ?_)
     |(go_at_call 161;refine(QP o _ T F hl1 hl2 hl3 hl4 hone).mono ?_;rintro e X ⟨E,rfl⟩;rw[A.out];have G:=hid (Xx C.out E);clear E))
   go_ret2;exact⟨G,by unfold Zn;rw[A.out];rfl⟩
  ·have A:=hid O;clear O
   go_upto_region 3 with (first
     |(with_reducible refine k8 ?_
       refine k7 yk (kg 70 _ rfl (p:=⟨z,0,none⟩) rfl (vP D B)) ?_)
     |(go_at_call 161;refine(QP o _ T F hl1 hl2 hl3 hl4 hone).mono ?_;rintro e X ⟨E,rfl⟩;rw[A.out];have G:=hid (Xx C.out E);have M:=hid ((E.block z L).trans D);have N:=hid ((F.keep E).more E.size);clear E))
   go_upto_region 4 with (first
     |(with_reducible refine k8 ?_
       refine k7 yk (kg 70 _ rfl (p:=⟨z,0,none⟩) rfl (vP M B)) ?_)
     |(go_at_call 162;refine(refBytesO_any o _ X N A hone).mono ?_;rintro e a ⟨R,Ay,Y,rfl,S⟩;have I:=hid (Xx G.out R);have J:=hid S
       clear R S))
   by_cases hlong:262144<(Jv o).length
   ·have Z:(262144:Int)<((Jv o).length:Int):=yv;go_wp2_with fail;go_ret2;exact⟨I,by unfold Zn;rw[if_pos A.out,if_pos hlong];rfl⟩
   ·have Z:¬(262144:Int)<((Jv o).length:Int):=yv;go_wp2_with fail;go_ret2;exact⟨I,by unfold Zn;rw[if_pos A.out,if_neg hlong];exact⟨Ay,Y,rfl,Sl.of_own J,own_cap8 J⟩⟩
end
section
open Go.RowKit Go.Maps
def qt(c:ks):Int:=vb (1,c,kS)
def idC(c:ks):List UInt8:=idD (1,c,kS)
def DocsIx(S:kj):Prop:=∀x∈S.1,RunIx x.2
theorem DocsIx.do{S:kj}(h:DocsIx S)(i:List UInt8)(t:Int)(place next:Nat)(x:OpD):DocsIx (Jh S i t place next x):=by
  have A:∀(k:kE) (d:List kQ) (r:List kN×List (List UInt8×vD)),RunIx d→DocsIx (zQ S.1 k d,r):=fun k d r C y D=>by
    rcases J1 D with D|rfl
    ·exact h y D
    ·exact C
  unfold Jh
  split
  ·exact A _ _ _ fun r E=>by cases E
  ·split
   ·exact h
   ·split
    ·exact h
    ·rename_i d C;have B:=h _ (Ku C)
     split
     ·exact A _ _ _ (B.insert _ _ _ _)
     ·split
      ·exact A _ _ _ (B.delete _ _)
      ·exact h
structure Ux (S:kj) (x:OpD):Prop where
  fin:KR x
  doc:RefIx S x.2.1
  at':RefIx S x.2.2.1
  small:x.2.2.2.1.size≤1073741824
  text:KE x.2.2.2.1=true
  count:x.2.2.2.2.1≤1099511627776
  kind:x.1=1∨x.1=3∨(x.1=4∨x.1=5)∨(x.1=2∧1≤x.2.2.2.2.1)
def mkN(l:List OpD):Nat:=(l.map fun x=>1+zK x.2.2.2.1).sum
structure QT (S:kj) (q:kV) (c:ks):Prop where
  ok:Zj c
  ops:∀x∈c.2.2.2,KR x
  author:c.2.2.1.size≤maxLen
  deps:c.2.1.length≤1073741824
  len:c.2.2.2.length≤1048576
  fine:qt c=0→∀x∈c.2.2.2,Ux S x
  made:mkN c.2.2.2≤1073741824
  nd:q.nd+c.2.2.2.length≤1073741824
  chg:S.2.2.length≤1073741824
  ix:DocsIx S
  le:∃c0 t0,StateLe S c0 t0∧c0+c.2.2.2.length≤1073741824∧t0+JX c.2.2.2≤268435456
structure AddMid (W:World) (b4 b5 ze n0:Nat) (i:List UInt8) (c:ks) (A1:Option Addr) (c1:Nat) (A2:Option Addr) (c2:Nat):Prop where
  id:W.heap[b4]?=some (.cells (idV i).toArray 41 (0,0))
  chg:W.heap[b5]?=some (.cells [.int .i64 c.1,.slice A1 c.2.1.length c1,.string c.2.2.1,.slice A2 c.2.2.2.length c2].toArray 37 (0,0))
  err:W.heap[ze]?=some (.cells [.int .i64 0].toArray 29 (0,0))
  ids:W.ownsRow n0 41 32 (.slice A1 c.2.1.length c1) c.2.1.length (zB c.2.1)
  ops:W.ownsRow n0 112 70 (.slice A2 c.2.2.2.length c2) c.2.2.2.length (kf opV c.2.2.2)
def midTag(t:TypeId):Bool:=t == 41 || t == 37 || t == 29 || t == 112
theorem AddMid.but{X:Nat→Prop}{W W':World}{b4 b5 ze n0:Nat}{i:List UInt8}{c:ks}{A1 A2:Option Addr}{c1 c2:Nat}(h:AddMid W b4 b5 ze n0 i c A1 c1 A2 c2)(hb:But X W W')(hx:∀k,X k→∀A t fr,W.heap[k]?=some (.cells A t fr)→midTag t=false):AddMid W' b4 b5 ze n0 i c A1 c1 A2 c2:=by
  have B:∀{k:Nat} {A:Array Value} {t:TypeId} {fr:Nat×Nat},W.heap[k]?=some (.cells A t fr)→midTag t=true→¬X k:=fun C F D=>by
    have:=hx _ D _ _ _ C;rw[F] at this;cases this
  refine⟨(hb.block b4 (qX h.id) (B h.id yj)).trans h.id,(hb.block b5 (qX h.chg) (B h.chg yj)).trans h.chg,(hb.block ze (qX h.err) (B h.err yj)).trans h.err,hb.own h.ids fun g E D=>?_,hb.own h.ops fun g E D=>?_⟩
  ·obtain⟨A,C⟩:=kH h.ids E;exact B C yj D
  ·obtain⟨A,C⟩:=kH h.ops E;exact B C yj D
theorem AddMid.keep{W W':World}{b4 b5 ze n0:Nat}{i:List UInt8}{c:ks}{A1 A2:Option Addr}{c1 c2:Nat}(h:AddMid W b4 b5 ze n0 i c A1 c1 A2 c2)(hb:Below W.heap.size W W'):AddMid W' b4 b5 ze n0 i c A1 c1 A2 c2:=h.but (X:=NoB) (But.of_below hb) fun k A=>A.elim
theorem fit_any(B0 B a s:Nat)(S:kj)(q:kV)(i:List UInt8)(c:ks)(dv ov:Value)(Am:Option Addr)(cm:Nat)(mk:List zD)(x:OpD)(w:World)(h:MidAt w B a s S q i c dv ov Am cm mk)(hrow:w.ownsRow B0 199 35 (.slice Am mk.length cm) mk.length (kf jc mk))(hB0:B0≤w.heap.size)(hlm:mk.length≤1073741824)(htm:(Lit.int .i64 c.1).wf=true)(hx:Ux S x):
    Calls prog 52 #[.pointer (some ⟨a,0,none⟩),.agg (opV x).toArray] w (FitGives S w a s B0 i c dv ov (.slice Am mk.length cm) mk x):=by
  by_cases h3:x.1=3
  ·exact fit_create B0 B a s S q i c dv ov Am cm mk x w h hrow hB0 hx.fin hlm h3
  ·exact fit_other B0 B a s S q i c dv ov Am cm mk x w h hrow hB0 hx.fin hlm h3 htm hx.doc hx.at' hx.small hx.text hx.count
theorem fitsAt_snoc(S:kj)(i:List UInt8)(t:Int)(x:OpD):∀(l:List OpD) (m0:List zD),KG S i t m0 (l++[x])=(KG S i t m0 l).bind fun p=>(J7 S i t p.1 x).map fun mk2=>(mk2,p.2++[p.1.length])
  | [],m0=>by
    show KG S i t m0 (x::[])=(J7 S i t m0 x).map fun mk2=>(mk2,[m0.length])
    conv=>lhs;unfold KG
    cases J7 S i t m0 x<;>rfl
  |y::l,m0=>by
   rw[YK]
   conv=>lhs;unfold KG
   conv=>rhs;unfold KG
   cases J7 S i t m0 y with
   |none=>rfl
   |some mk2=>
    dsimp only;rw[fitsAt_snoc S i t x l mk2];cases KG S i t mk2 l with
    |none=>rfl
    |some p=>
     simp only[Option.bind_some,Option.map_some];cases J7 S i t p.1 x with
     |none=>rfl
     |some mk3=>rfl
theorem fitsAt_none(S:kj)(i:List UInt8)(t:Int):∀(l l2:List OpD) (m0:List zD),KG S i t m0 l=none→KG S i t m0 (l++l2)=none
  | [],l2,m0,h=>by cases h
  |y::l,l2,m0,h=>by
   rw[YK];unfold KG at h ⊢;cases hf:J7 S i t m0 y with
   |none=>rfl
   |some mk2=>
    rw[hf] at h;dsimp only at h ⊢;rw[Option.map_eq_none_iff] at h;rw[fitsAt_none S i t l l2 mk2 h];rfl
theorem fitAt_len{S:kj}{i:List UInt8}{t:Int}{mk mk2:List zD}{x:OpD}(h:J7 S i t mk x=some mk2):mk2.length≤mk.length+(1+zK x.2.2.2.1)∧∀m∈mk2,m∈mk∨m.2=(0,k9,0)∨m.2=jg S i t x.2.1:=by
  unfold J7 at h
  split at h
  ·cases h
   refine⟨by rw[yV,xQ];omega,fun m A=>?_⟩;rcases xJ.1 A with A|A
   ·exact .inl A
   ·rw[xZ.1 A];exact .inr (.inl rfl)
  ·split at h
   ·cases h
   ·split at h
    ·cases h
    ·split at h
     ·split at h
      ·cases h;exact⟨by omega,fun m A=>.inl A⟩
      ·cases h
     ·split at h
      ·split at h
       ·cases h
        refine⟨by rw[yV,List.length_replicate];omega,fun m A=>?_⟩;rcases xJ.1 A with A|A
        ·exact .inl A
        ·rw[(List.mem_replicate.1 A).2];exact .inr (.inr rfl)
       ·cases h
      ·cases h;exact⟨by omega,fun m A=>.inl A⟩
theorem mkN_snoc(l:List OpD){j:Nat}(hj:j<l.length):mkN (l.take (j+1))=mkN (l.take j)+(1+zK l[j].2.2.2.1):=by
  unfold mkN;rw[xj hj,List.map_append,List.sum_append];simp
theorem mkN_le(l:List OpD)(j:Nat):mkN (l.take j)≤mkN l:=by
  unfold mkN
  conv=>rhs;rw[←List.take_append_drop j l]
  rw[List.map_append,List.sum_append];omega
theorem dosAt_snoc(i:List UInt8)(t:Int)(x:OpD)(n:Nat):∀(l:List OpD) (ns:List Nat) (place:Nat) (s:kj),l.length=ns.length→J8 i t place s (l++[x]) (ns++[n])=Jh (J8 i t place s l ns) i t (place+l.length) n x
  | [],[],place,s,_=>rfl
  | [],m::ns,place,s,h=>by cases h
  |y::l,[],place,s,h=>by cases h
  |y::l,m::ns,place,s,h=>by
   show J8 i t (place+1) (Jh s i t place m y) (l++[x]) (ns++[n])=Jh (J8 i t (place+1) (Jh s i t place m y) l ns) i t (place+(l.length+1)) n x;rw[dosAt_snoc i t x n l ns (place+1) _ (by simpa using h)]
   congr 1
   omega
theorem runes_le{s:ByteArray}{l:List Nat}(h:jH s=some l):l.length≤s.size:=by
  have:=uD s;unfold zK at this;rw[h] at this;exact this
theorem doc_len{w:World}{B p:Nat}{v:Value}{d:List kQ}(h:DocAt w B p v d):d.length≤Kq d:=by
  obtain⟨E,rfl,C⟩:=h.runs;refine Uq (p:=fun _=>True) fun r A=>?_
  obtain⟨x,D,rfl⟩:=List.mem_map.1 A;exact⟨trivial,(C.ins x D).2.2⟩
theorem do_any(B a s:Nat)(S0 S:kj)(q:kV)(i:List UInt8)(c:ks)(dv ov vm:Value)(place next:Nat)(x:OpD)(w:World)(h:StateAt w B s S q)(hA:AdderAt w a s i c dv ov vm)(hx:Ux S0 x)(htm:(Lit.int .i64 c.1).wf=true)(hpl:place≤1073741824)(hnx:next≤1099511627776)(hcl:S.2.1.length≤1073741824)(hnd:q.nd≤1073741824)(hix:DocsIx S)(hsz:∀x∈S.1,Kq x.2≤268435456):
    Calls prog 53 #[.pointer (some ⟨a,0,none⟩),.int .i64 (place:Int),.int .i64 (next:Int),.agg (opV x).toArray] w (UZ w B s S (Jh S i c.1 place next x) q):=by
  rcases hx.kind with A|A|A|⟨A,F⟩
  ·obtain⟨l,E⟩:∃l,jH x.2.2.2.1=some l:=by
     have:=hx.text;unfold KE at this;cases hq:jH x.2.2.2.1 with
     |none=>rw[hq] at this;cases this
     |some l=>exact⟨l,rfl⟩
   have H:=runes_le E;have I:=hx.small;refine do_insert B a s S q i c dv ov vm place next x w h hA hx.fin htm hpl hnx A l E yv yv (by unfold Ix;have:=hx.at'.2.1;omega) fun d C=>⟨hix _ (Ku C),?_⟩
   have G:=doc_len (h.docs _ _ C).2;have D:=hsz _ (Ku C);dsimp only at D;omega
  ·exact do_create B a s S q i c dv ov vm place next x w h hA hx.fin htm hpl hnx A hcl hx.fin.2.2 hnd
  ·exact do_claim B a s S q i c dv ov vm place next x w h hA hx.fin htm hpl hnx A hcl hx.fin.2.2
  ·refine do_delete B a s S q i c dv ov vm place next x w h hA hx.fin htm hpl hnx A F hx.count (by unfold Ix;have:=hx.at'.2.1;omega) fun d C=>⟨hix _ (Ku C),?_⟩
   have G:=doc_len (h.docs _ _ C).2;have D:=hsz _ (Ku C);dsimp only at D;omega
theorem add_idle(p:Addr)(w:World):
    CallsD prog 50 #[.pointer (some p)] .returning w fun e u' w'=>e=.returned (.tuple #[])∧u'=.returning∧w'=w:=by
  have A:∀w:World,(binOp .neq 20 .nilIface .nilIface).run prog w=.ok (.bool false) w:=fun w=>by kernel_rfl
  refine callsD_of_wpS func50 rfl fun B D C=>?_
  apply wpS_seq;apply wpS_region;simp [wpOpsS,go_sem,recoverD,C,ntmps50,Exit.thenS];apply wpS_seq;apply wpS_region;simp [wpOpsS,go_sem,A,Exit.thenS];refine wpS_cond (t:=false) (by simp [Act.eval,Array.replicate]) ?_;simp only[Bool.false_eq_true,if_false];refine wpS_of_wp (wp_skip ?_);cases B
  simp_all [bodyPostS,results,results50]
theorem Uy(ze:Nat)(n m:Int)(w:World)(he:w.heap[ze]?=some (.cells [.int .i64 m].toArray 29 (0,0))):
    CallsD prog 50 #[.pointer (some ⟨ze,0,none⟩)] (.panicking (QI n)) w fun e u' w'=>e=.returned (.tuple #[])∧settle u'=.returning∧
      w'.heap[ze]?=some (.cells [Value.int .i64 n].toArray 29 (0,0))∧But (fun k=>k=ze) w w':=by
  have V:∀w:World,(binOp .neq 20 (.iface 122 (.agg #[.int .i64 n])) .nilIface).run prog w=.ok (.bool true) w:=fun w=>by kernel_rfl
  have W:∀w:World,(Instr.typeAssert (.iface 122 (.agg #[.int .i64 n])) 20 122 true).run prog w=.ok (.tuple #[.agg #[.int .i64 n],.bool true]) w:=fun w=>by kernel_rfl
  refine callsD_of_wpS func50 rfl fun a b C=>?_
  apply wpS_seq;apply wpS_region;simp [wpOpsS,go_sem,recoverD,C,QI,ntmps50,Exit.thenS];refine wpS_of_wp ?_;simp only[Array.replicate_succ,Array.replicate_zero,List.push_toArray,List.append_toArray,YZ,YK,List.setIfInBounds_toArray,List.set_cons_zero,List.set_cons_succ];have O:∀u:World,(zeroValue 122).run prog u=.ok (.agg ([.int .i64 0]:List Value).toArray) u:=fun u=>by kernel_rfl
  have B:=Lib.hid he;clear he
  go_upto_region 5 with (first
    |(with_reducible refine kF ?_
      refine kv yk 122 rfl [.int .i64 0] (O _) ?_;intro c M D Y;have A:=Lib.hid ((M.block ze (qX B)).trans B);have E:=Lib.hid (But.of_below (X:=fun k=>k=ze) M))
    |(with_reducible refine kD ?_
      refine kr yk 122 _ _ rfl w.heap.size 0 [] [.int .i64 0] [] [.int .i64 n] 122 (.agg #[.int .i64 n]) rfl rfl rfl rfl D.out rfl yq (by intro u C;rw[xZ.1 C];rfl) ?_;intro P N Q L;have L:=L.out;have F:=(qX B);have G:=Lib.hid ((N.block ze (qX A) yv).trans A.out);have H:=Lib.hid (E.trans N fun i R e=>absurd R yv);have I:Hid (P.heap[w.heap.size]?=some (.cells [Value.int .i64 n].toArray 122 (0,0))):=Lib.hid (by simpa using Q.out);clear L F))
  have d:P.cell? ⟨w.heap.size,0,none⟩=some (.int .i64 n):=k6 I.out 0
  go_wp2_with (first
    |(with_reducible refine kD ?_
      refine kr yk 29 _ _ rfl ze 0 [] [.int .i64 m] [] [.int .i64 n] 29 (.int .i64 n) rfl rfl rfl rfl (by simpa using G.out) rfl yq (by intro u C;simp only[xZ] at C;subst C;rfl) ?_;intro U S T Z;have J:Hid (U.heap[ze]?=some (.cells [Value.int .i64 n].toArray 29 (0,0))):=Lib.hid (by simpa using T.out);have K:=Lib.hid (H.trans S fun i R e=>e)))
  exact⟨rfl,_,rfl,_,results_none rfl _ _ _,rfl,rfl,J,K⟩
end
section
open Go.RowKit Go.Maps Go.Shelf
open Lib (hid)
theorem wp_appL{P:Program}{ops:Array Oper}{rest:List Oper}{o:Oper}{a:Act}{w:World}{Q:Exit→Act→World→Prop}(hw:Region.wanted o (yielded ops a.tmps)=true)(s x:Operand)(t:TypeId)
    (ho:o.op=.call { callee:=.builtin .append,args:=#[s,x],argTypes:=#[t,t]})
    (base:Nat) (e:TypeId) (z:Value) (size bytes:Nat) (ht:P.underlying t=some (.slice e)) (hinf:(P.info? e).map (fun i=>(i.zero,i.size,i.bytes))=some (some z,size,bytes))
    (hzs:z.cells.size=size) (hsz:0<size)
    (v:Value) (n:Nat) (xs:List Value) (hs:a.eval s=v) (hown:w.ownsRow base e size v n xs)
    (A:Option Addr) (m c B:Nat) (news:List Value) (hx:a.eval x=.slice A m c) (hsl:Sl w B A m size news) (h1:∀u∈news,u.oneCell'=true)
    (h63:n+m≤maxLen) (hbytes:(n+m)*bytes≤140737488355328) (hbase:base≤w.heap.size)
    (h:∀C w',w'.ownsRow base e size C (n+m) (xs++news)→w.grownBy w' v.ownBlock→wpList P ops Q rest (a.put o.dst C) w'):wpList P ops Q (o::rest) a w:=by
  obtain⟨i,G,D,E,F⟩:=info_parts hinf;refine BigFrame.wpList_want hw fun K H=>?_
  exact Jz s x t ho base e i z size bytes ht G D E F hzs hsz v n xs hs hown A m c B news hx hsl h1 h63 hbytes hbase fun C w' I J=>H _ _ (h C w' I J)
theorem infoOp15:(prog.info? 112).map (fun i=>(i.zero,i.size,i.bytes))=some (some (.agg (opV (0,ko,ko,noneS,0,noneS)).toArray),70,128):=yq
theorem cloneIds15(l:List (List UInt8))(A:Option Addr)(c:Nat)(w:World)(hn:l.length≤1073741824)(hsl:Sl w w.heap.size A l.length 32 (zB l)):
    Calls prog 42 #[.slice A l.length c] w fun e w'=>Below w.heap.size w w'∧∃v,e=.returned v∧w'.ownsRow w.heap.size 41 32 v l.length (zB l):=by
  have J:∀(w:World) (a:Option Addr) (n c K L:Nat),(binOp .eql 34 (.slice a n c) (.slice none K L)).run prog w=.ok (.bool a.isNone) w:=fun w a n c K L=>Lib.run_eql_slice_nil w _ _ a n c K L underlying34
  rcases A with _ |P
  ·have M:l.length=0:=by
     rcases Nat.eq_zero_or_pos l.length with h|h
     ·exact h
     ·obtain⟨b,R,e,_⟩:=hsl.2 h;cases e
   obtain rfl:l=[]:=List.length_eq_zero_iff.1 M;clear M hsl;have S:=J w none 0 c 0 0;go_enter func42,ntmps42;go_wp2_with fail;go_ret;exact⟨Below.refl _ _,_,rfl,World.ownsRow_nil _ _ _ _⟩
  ·have C:=hid hsl;have G:=own_made0 w w.heap.size 41 32 (xY _);have H:Below w.heap.size w (w.alloc (.cells #[] 41)):=(Below.refl _ _).alloc (xY _) _;have D:=hid G;have B:=hid H
   clear hsl G H;go_enter func42,ntmps42
   go_wp2_with (at_builtin;refine wp_appL yk _ _ 34 rfl w.heap.size 41 (.agg (idV k9).toArray) 32 32 underlying34 infoId rfl yj (.slice (some ⟨w.heap.size,0,none⟩) 0 0) 0 [] rfl D.out (some P) l.length c w.heap.size (zB l) rfl (C.keep B) (idsV_one _) yY yv yZ ?_;intro Q w' F N
                rw[Nat.zero_add,YZ] at F;obtain⟨T,U,O⟩:∃A c,Q=.slice A l.length c:=kX F;subst O;have I:=hid F;have E:=hid (B.grown N yZ (fun k e=>by have V:w.heap.size=k:=(by simpa [Value.ownBlock] using e);omega));clear F N)
   go_ret;exact⟨E,_,rfl,I⟩
theorem cloneOps15(l:List OpD)(A:Option Addr)(c:Nat)(w:World)(hn:l.length≤1073741824)(hsl:Sl w w.heap.size A l.length 70 (kf opV l)):
    Calls prog 43 #[.slice A l.length c] w fun e w'=>Below w.heap.size w w'∧∃v,e=.returned v∧w'.ownsRow w.heap.size 112 70 v l.length (kf opV l):=by
  have J:∀(w:World) (a:Option Addr) (n c K L:Nat),(binOp .eql 35 (.slice a n c) (.slice none K L)).run prog w=.ok (.bool a.isNone) w:=fun w a n c K L=>Lib.run_eql_slice_nil w _ _ a n c K L underlying35
  rcases A with _ |Q
  ·have N:l.length=0:=by
     rcases Nat.eq_zero_or_pos l.length with h|h
     ·exact h
     ·obtain⟨b,S,e,_⟩:=hsl.2 h;cases e
   obtain rfl:l=[]:=List.length_eq_zero_iff.1 N;clear N hsl;have T:=J w none 0 c 0 0;go_enter func43,ntmps43;go_wp2_with fail;go_ret;exact⟨Below.refl _ _,_,rfl,World.ownsRow_nil _ _ _ _⟩
  ·have C:=hid hsl;have G:=own_made0 w w.heap.size 112 70 (xY _);have H:Below w.heap.size w (w.alloc (.cells #[] 112)):=(Below.refl _ _).alloc (xY _) _;have D:=hid G;have B:=hid H
   clear hsl G H;go_enter func43,ntmps43
   go_wp2_with (at_builtin;refine wp_appL yk _ _ 35 rfl w.heap.size 112 (.agg (opV (0,ko,ko,noneS,0,noneS)).toArray) 70 128 underlying35 infoOp15 rfl yj (.slice (some ⟨w.heap.size,0,none⟩) 0 0) 0 [] rfl D.out (some Q) l.length c w.heap.size (kf opV l) rfl (C.keep B) (fun u M=>by obtain⟨x,U,M⟩:=List.mem_flatMap.1 M;exact UO x u M) yY yv yZ ?_;intro R w' F O
                rw[Nat.zero_add,YZ] at F;obtain⟨V,W,P⟩:∃A c,R=.slice A l.length c:=kX F;subst P;have I:=hid F;have E:=hid (B.grown O yZ (fun k e=>by have X:w.heap.size=k:=(by simpa [Value.ownBlock] using e);omega));clear F O)
   go_ret;exact⟨E,_,rfl,I⟩
end
section
open Go.RowKit Go.Maps
theorem pieces_nil(w:World):Calls prog 41 #[.pointer none] w fun e w'=>w'=w∧e=.returned (.slice none 0 0):=by
  go_enter func41,ntmps41
  go_wp2
  go_ret;exact⟨rfl,rfl⟩
theorem Uz{P:Program}{fn:Func}{p t u:Tmp}{ty:TypeId}(h:fn.results=#[.cell p ty,.tmp t,.tmp u])(tmps:Array Value)(w:World){a:Addr}{r:Value}(hp:tmps.getD p undef=.pointer (some a))(hl:(loadVar ty a).run P w=.ok r w):
    (results fn tmps).run P w=.ok (.tuple #[r,tmps.getD t undef,tmps.getD u undef]) w:=by
  have A:tmps[p]?.getD undef=.pointer (some a):=by simpa using hp
  simp only[results,h];simp [A,asAddr,hl]
theorem results_ct{P:Program}{fn:Func}{p t:Tmp}{ty:TypeId}(h:fn.results=#[.cell p ty,.tmp t])(tmps:Array Value)(w:World){a:Addr}{r:Value}(hp:tmps.getD p undef=.pointer (some a))(hl:(loadVar ty a).run P w=.ok r w):
    (results fn tmps).run P w=.ok (.tuple #[r,tmps.getD t undef]) w:=by
  have A:tmps[p]?.getD undef=.pointer (some a):=by simpa using hp
  simp only[results,h];simp [A,asAddr,hl]
theorem keyZ_built(w:World):(Instr.build 89 #[]).run prog w=.ok (.agg (kc (0,k9,0)).toArray) w:=yq
def changeZ:List Value:=[.int .i64 0,.slice none 0 0,.string noneS,.slice none 0 0]
theorem UA(w:World):(zeroValue 37).run prog w=.ok (.agg changeZ.toArray) w:=yq
theorem load_err15{w:World}{zo:Nat}{v:Value}(h:w.heap[zo]?=some (.cells [v].toArray 29 (0,0))):(loadVar 29 ⟨zo,0,none⟩).run prog w=.ok v w:=by
  have A:w.cell? ⟨zo,0,none⟩=some v:=k6 h 0;unfold loadVar isAgg;simp only[Sem.run_bind,run_underlying underlying29,Result.andThen_ok];simp [Result.andThen,A]

end
section
open Go.RowKit Go.Maps
open Lib (hid)
def PadGives(l:List UInt8)(w:World)(e:Ending)(w':World):Prop:=∃A' c',e=.returned (.slice A' (qq l).length c')∧w'.ownsRow w.heap.size 5 1 (.slice A' (qq l).length c') (qq l).length (idV (qq l))∧Below w.heap.size w w'
theorem padded_any(l:List UInt8)(A:Option Addr)(c:Nat)(w:World)(hs:Sl w w.heap.size A l.length 1 (idV l))(hl:l.length≤1099511627776):
    Calls prog 163 #[.slice A l.length c] w (PadGives l w):=by
  have Q:=hid hs;have G:=hid (show Below w.heap.size w (w.alloc (.cells #[] 5)) from (qB _ _).alloc (qR _) _);have a:zt l.length≤63:=by unfold zt;omega
  clear hs;go_enter func163,ntmps163
  go_upto_region 2 with (first
    |(at_builtin;refine Kg yk _ _ 169 rfl w.heap.size 5 (.int .u8 0) 1 1 underlying169 jm rfl yj (.slice (some ⟨w.heap.size,0,none⟩) 0 0) 0 [] rfl (own_made0 w w.heap.size 5 1 (qR _)) A l.length c w.heap.size (idV l) rfl (Q.keep G.out) (kW _) yY yv G.size ?_
      intro d U I P;obtain⟨V,W,rfl⟩:=kM I;have E:=hid (show U.ownsRow w.heap.size 5 1 (.slice V l.length W) l.length (idV l) by rw[qZ,YZ] at I;exact I)
      have B:=hid (G.grown P G.size (fun k e=>by have h:w.heap.size=k:=by simpa [Value.ownBlock] using e
                                                 omega))
      clear I P;rw[qZ]))
  have J:=B.size
  go_upto_region 3 with (at_builtin;refine Jt rfl _ _ 169 rfl w.heap.size 5 (.int .u8 0) 1 underlying169 jm rfl _ _ _ rfl E.out _ _ rfl rfl ?c1 ?c2 ?c3 ?_)
  case c1=>unfold maxLen;omega
  case c2=>omega
  case c3=>omega
  intro R S F H;obtain⟨N,O,rfl⟩:=kM F;have C:=hid F;have D:=hid (H w.heap.size w (qR _) B.out);clear F H
  go_upto_region 3 with fail
  go_loopw [3] (fun t3 wr=>∃(k:Nat) (A:Option Addr) (c:Nat),k≤zt l.length∧t3=.slice A (l.length+1+k) c∧Hid (wr.ownsRow w.heap.size 5 1 (.slice A (l.length+1+k) c) (l.length+1+k) (idV (l++(128::List.replicate k 0))))∧Hid (Below w.heap.size w wr)) (fun t3 _=>l.length+100 - Qa t3)
  case atStart=>exact⟨0,_,_,YX _,rfl,hid (by have h:=C.out;rw[show (128::List.replicate 0 0:List UInt8)=[128] from rfl,idV_snoc];exact h),D⟩
  case round=>
    clear E B C D J;obtain⟨k,A,c,X,rfl,E,B⟩:=hrel;have K:=zeros_go X;have J:=B.size;by_cases hlt:k<zt l.length
    ·have M:=K.1 hlt;have b:((((l.length:Int)+1+(k:Int)) % 64) != 56)=true:=by rw[bne_iff_ne];omega
     clear K M
     go_wp2_with (at_builtin;refine Jt rfl _ _ 169 rfl w.heap.size 5 (.int .u8 0) 1 underlying169 jm rfl _ _ _ rfl E.out _ _ rfl rfl ?c1 ?c2 ?c3 ?_)
     case c1=>unfold maxLen;omega
     case c2=>omega
     case c3=>omega
     intro R S F H;obtain⟨N,O,rfl⟩:=kM F;have C:=hid F;have D:=hid (H w.heap.size w (qR _) B.out);clear F H;go_wp2_with fail
     go_roundw
     case rel=>
       refine⟨k+1,N,O,by omega,rfl,hid ?_,D⟩;rw[List.replicate_succ',←YK,←Yz,uU];exact C.out
     case measure=>simp only[Qa];omega
    ·obtain rfl:k=zt l.length:=yv;have M:((((l.length:Int)+1+(zt l.length:Int)) % 64) != 56)=false:=by
       rw[bne_eq_false_iff_eq];have h:=(not_congr K).1 yv;omega
     clear K
     go_upto_region 7 with fail
     clear M
     go_loopw [5,3] (fun t5 t3 wr=>∃(i:Nat) (A:Option Addr) (c:Nat),i≤8∧t5=.int .i64 (i:Int)∧t3=.slice A (l.length+1+zt l.length+i) c∧Hid (wr.ownsRow w.heap.size 5 1 (.slice A (l.length+1+zt l.length+i) c) (l.length+1+zt l.length+i) (idV (l++(128::List.replicate (zt l.length) 0++(lenS l.length).take i))))∧Hid (Below w.heap.size w wr)) (fun t5 _ _=>8 - (intOf t5).toNat)
     case atStart=>exact⟨0,A,c,YX _,rfl,rfl,by rw[List.take_zero,List.append_nil];exact E,B⟩
     case round=>
       clear E B J;obtain⟨i,A,c,f,rfl,rfl,E,B⟩:=hrel;have J:=B.size;by_cases hlt:i<8
       ·have Y:(i:Int)<8:=yv;obtain⟨s,hs⟩:=Xy (56 - 8*i);have g:56 - 8*(i:Int)=(s:Int):=yv;have Z:s≤56:=yv;have L:=hid hs;clear hs
        go_wp2_with (at_builtin;refine Jt rfl _ _ 169 rfl w.heap.size 5 (.int .u8 0) 1 underlying169 jm rfl _ _ _ rfl E.out _ _ rfl rfl ?c1 ?c2 ?c3 ?_)
        case c1=>unfold maxLen;omega
        case c2=>omega
        case c3=>omega
        intro R S F H;obtain⟨N,O,rfl⟩:=kM F;have C:=hid F;have D:=hid (H w.heap.size w (qR _) B.out);clear F H;go_wp2_with fail
        go_roundw
        case rel=>
          refine⟨i+1,N,O,by omega,by go_num,rfl,hid ?_,D⟩;have h:=C.out;rw[←u8_mod,←idV_snoc] at h;rw[lenS_take hlt,L.out,←Yz,←Yz];rw[Yz l];exact h
        case measure=>exact Xz
       ·obtain rfl:i=8:=yv;have Y:¬((8:Nat):Int)<8:=yv;go_wp2_with fail;go_ret;have T:(qq l).length=l.length+1+zt l.length+8:=ua l;refine⟨A,c,by rw[T];rfl,?_,B.out⟩;rw[T];exact E.out
theorem firstS_built(w:World):(Instr.build 287 #[(0,.int .u32 1779033703),(1,.int .u32 3144134277),(2,.int .u32 1013904242),(3,.int .u32 2773480762),(4,.int .u32 1359893119),(5,.int .u32 2600822924),(6,.int .u32 528734635),(7,.int .u32 1541459225)]).run prog w=.ok (.agg (jK (st8 firstS)).toArray) w:=yq
theorem refSum_any(l:List UInt8)(A:Option Addr)(c:Nat)(w:World)(hs:Sl w w.heap.size A l.length 1 (idV l))(hl:l.length≤1099511627776):
    Calls prog 104 #[.slice A l.length c] w fun e w'=>e=.returned (.agg (idV (vp l)).toArray)∧Below w.heap.size w w':=by
  have E:=hid hs;clear hs;go_enter func104,ntmps104
  go_upto_region 1 with (first
    |(with_reducible refine kF ?_
      refine kv yk 41 rfl (List.replicate 32 (.int .u8 0)) yq ?_;intro W0 Am An A6))
  go_upto_region 2 with (first
    |(with_reducible refine kL ?_
      refine k7 yk (kp 287 _ rfl (firstS_built _)) ?_)
    |(with_reducible refine kF ?_
      refine kv yk 287 rfl (List.replicate 8 (.int .u32 0)) yq ?_;intro W1 A7 Ao Ap)
    |(with_reducible refine kD ?_
      refine kr yk 287 _ _ rfl W0.heap.size 0 [] (List.replicate 8 (.int .u32 0)) [] (jK (st8 firstS)) 287 (.agg (jK (st8 firstS)).toArray) rfl rfl rfl rfl (by simpa using Ao.out) rfl yq (ZZ _) ?_;intro W2 Aq Bt Ar;have As:Hid (W2.heap[W0.heap.size]?=some (.cells (jK (st8 firstS)).toArray 287 (0,0))):=hid (by simpa using Bt.out)))
  obtain⟨zi,B7⟩:=Xy w.heap.size;obtain⟨H,Bf⟩:=Xy W0.heap.size;have A8:=hid (A7.trans (Aq.below A7.size fun k hk e=>by omega));have r:=hid (Xx Am.out A8.out);have D:=hid (show w.heap.size=zi∧zi<H∧H<W2.heap.size by have:=A6.out;have:=Ap.out;have:=Ar.out;omega);have AS:Hid (W2.heap[zi]?=some (.cells (List.replicate 32 (.int .u8 0)).toArray 41 (0,0))):=hid (by rw[←B7];exact(A8.block _ (by have:=A6.out;omega)).trans An.out);rw[Bf] at As ⊢;rw[B7]
  try go_frame
  clear B7 Bf An Ao Am A7 Aq A6 Ap Ar
  go_upto_region 4 with (first
    |(go_at_call 163;refine(padded_any l A c W2 ((E.keep r).more r.size) hl).mono ?_;rintro e W3 ⟨A3,c3,rfl,Bg,Bh⟩;have At:=hid Bg;have A4:=hid Bh
      clear Bg Bh))
  obtain⟨P,hP⟩:=Xy (qq l);rw[hP] at At ⊢;obtain⟨N,hN⟩:=Xy (P.length / 64);have Au:=hid (show P.length=64*N by have h:=padS_mod l;rw[hP] at h;omega);have Av:=hid (show P.length≤1099511627900 by rw[←hP,ua];unfold zt;omega);have AT:=hid (show vp l=qr (zm P firstS N) by unfold vp;rw[hP,hN]);clear hP hN;have L:Hid (RndAt W3 H (zm P firstS 0) W3):=hid ⟨But.refl _ _,(A4.block H D.2.2).trans As⟩;have AU:=hid (own_bytes At L.row yj)
  go_loopw [5] (fun t5 wr=>∃n:Nat,n≤N∧t5=.int .i64 ((64*n:Nat):Int)∧Hid (RndAt W3 H (zm P firstS n) wr)) (fun t5 _=>P.length - (intOf t5).toNat)
  case atStart=>exact⟨0,YX _,rfl,L⟩
  case round=>
    clear L;obtain⟨n,hn,rfl,L⟩:=hrel;obtain⟨Z,B8⟩:=Xy (64*n);rw[B8];by_cases hlt:n<N
    ·have B9:=Au.out;have i1:(Z:Int)<(P.length:Int):=yv;have y:=hid (show Z+64≤P.length∧64*n=Z by omega);have Bi:0<P.length:=yv;obtain⟨b,Bu,rfl,Br,Bs,Bj⟩:=AU.out Bi;have AV:=hid Bj;clear Bj B8 B9 Bi
     go_upto_region 7 with (first
       |(with_reducible refine kF ?_
         refine kv yk 289 rfl (List.replicate 64 (.int .u32 0)) yq ?_;intro W4 f W z))
     obtain⟨z6,Bk⟩:=Xy wr.heap.size;have A0:=hid (show z6<W4.heap.size∧H<z6∧b<z6∧W3.heap.size≤z6 by have h1:=L.lt;have h2:=L.but.size;have h3:=z.out;omega);rw[Bk] at W ⊢
     try go_frame
     have Aw:=hid (L.keep f);have A9:=hid (show b<W4.heap.size by have:=A0.out;omega);have A5:=hid (fun (u:World) (hu:But (fun k=>k=z6) W4 u) (j:Nat) (hj:j<P.length)=>(show u.cell? ⟨b,Bu+j,none⟩=some (.int .u8 (j7 P j:Int)) from (hu.cell A9 (by have:=A0.out;omega)).trans ((Aw.but.cell Br Bs).trans (AV j hj))));obtain⟨wo,Bv⟩:=Xv wr;subst Bv;have E:Hid (SchAt W4 z6 P Z 0 W4):=hid ⟨But.refl _ _,W⟩;clear Bk W z
     go_upto_region 8 with fail
     go_loopw [7] (fun t7 wr=>∃t:Nat,t≤64∧t7=.int .i64 (t:Int)∧Hid (SchAt W4 z6 P Z t wr)) (fun t7 _=>64 - (intOf t7).toNat)
     case atStart=>exact⟨0,by omega,rfl,E⟩
     case round=>
       clear E;obtain⟨t,ht,rfl,E⟩:=hrel;have AH:=E.lt;by_cases hlt:t<64
       ·have i2:(t:Int)<64:=yv;by_cases h16:t<16
        ·have i3:(t:Int)<16:=yv;obtain⟨q,hq⟩:=Xy (4*t);obtain⟨m,hm⟩:=Xy (Z+q);have BC:m+3<P.length:=by have:=y.out;omega
         have hP:=Av.out;have e4:IntKind.i64.wrap (4*(t:Int))=((q:Nat):Int):=by rw[IntWalk.i64_in _ yv];omega
         have e0:IntKind.i64.wrap ((Z:Int)+(q:Int))=((m:Nat):Int):=by rw[IntWalk.i64_in _ yv];omega
         have e5:IntKind.i64.wrap ((m:Int)+1)=((m+1:Nat):Int):=by rw[IntWalk.i64_in _ yv];omega
         have e6:IntKind.i64.wrap ((m:Int)+2)=((m+2:Nat):Int):=by rw[IntWalk.i64_in _ yv];omega
         have e7:IntKind.i64.wrap ((m:Int)+3)=((m+3:Nat):Int):=by rw[IntWalk.i64_in _ yv];omega
         have AI:b<wr.heap.size:=qL A9.out E.but.size;obtain⟨k0,AJ⟩:=Xy (j7 P m);obtain⟨k1,AK⟩:=Xy (j7 P (m+1));obtain⟨k2,AL⟩:=Xy (j7 P (m+2));obtain⟨k3,AM⟩:=Xy (j7 P (m+3));have F0:=Wg.cell (AJ▸A5.out wr E.but m yv) AI;have F1:=Wg.cell (AK▸A5.out wr E.but (m+1) yv) AI;have F2:=Wg.cell (AL▸A5.out wr E.but (m+2) yv) AI;have F3:=Wg.cell (AM▸A5.out wr E.but (m+3) yv) AI;have q0:k0<256:=AJ▸Z9 _ _;have q1:k1<256:=AK▸Z9 _ _;have q2:k2<256:=AL▸Z9 _ _;have q3:k3<256:=AM▸Z9 _ _;have HW:=hid (show Km P Z t=wordS k0 k1 k2 k3 by rw[qb h16,hq,hm,AJ,AK,AL,AM]);clear AJ AK AL AM hm hq
         go_upto_region 11 with fail
         refine jp 43 yq yq yq yq yq ?_;simp only[List.take_succ_cons,List.take_zero,List.drop_succ_cons,List.drop_zero]
         repeat (first|go_big_quiet_skip|(go_big_quiet_want;go_big_quiet_op;go_big_quiet_on))
         refine wpQuiet_nil ?_;rintro w' ⟨s,rfl⟩;have A1:=s.2;generalize s.val=w9 at *;clear s;clear F0 F1 F2 F3 e0 e4 e5 e6 e7;have I:=hid (E.keep A1.below);obtain⟨u9,c9⟩:=I.any (show t<64 by omega);have f9:=I.fr t;go_wp2_with fail
         go_roundw
         case rel=>
           refine⟨t+1,by omega,by go_num,hid (I.next yv ?_)⟩;rw[HW.out];rfl
         case measure=>exact Xz
        ·have i3:¬(t:Int)<16:=yv;obtain⟨m2,Bl⟩:=Xy (t - 2);obtain⟨m7,Bm⟩:=Xy (t - 7);obtain⟨AN,Ba⟩:=Xy (t - 15);obtain⟨AO,Bb⟩:=Xy (t - 16);have e2:IntKind.i64.wrap ((t:Int) - 2)=((m2:Nat):Int):=by rw[IntWalk.i64_in _ yv];omega
         have e7:IntKind.i64.wrap ((t:Int) - 7)=((m7:Nat):Int):=by rw[IntWalk.i64_in _ yv];omega
         have Bw:IntKind.i64.wrap ((t:Int) - 15)=((AN:Nat):Int):=by rw[IntWalk.i64_in _ yv];omega
         have Bx:IntKind.i64.wrap ((t:Int) - 16)=((AO:Nat):Int):=by rw[IntWalk.i64_in _ yv];omega
         have l2:m2<64:=yv;have l7:m7<64:=yv;have BD:AN<64:=yv;have BE:AO<64:=yv;obtain⟨Y,hY⟩:=Xy (Km P Z m2);obtain⟨V,hV⟩:=Xy (Km P Z m7);obtain⟨X,hX⟩:=Xy (Km P Z AN);obtain⟨U,hU⟩:=Xy (Km P Z AO);have Ax:=hid (fun (u:World) (hu:Below wr.heap.size wr u)=>(show u.cell? ⟨z6,m2,none⟩=some (.int .u32 Y)∧u.cell? ⟨z6,m7,none⟩=some (.int .u32 V)∧u.cell? ⟨z6,AN,none⟩=some (.int .u32 X)∧u.cell? ⟨z6,AO,none⟩=some (.int .u32 U) from by
           have h:=E.keep hu;rw[←hY,←hV,←hX,←hU];exact⟨h.cell yv ht,h.cell yv ht,h.cell yv ht,h.cell yv ht⟩))
         have Aa:Hid (W32 Y):=hid (hY▸ZL _ _ _);have Ab:Hid (W32 X):=hid (hX▸ZL _ _ _);have AW:Hid (W32 V):=hid (hV▸ZL _ _ _);have AX:Hid (W32 U):=hid (hU▸ZL _ _ _);have HE:=hid (show Km P Z t=zL (zL (zL (Ze (Ze (jY 17 Y) (jY 19 Y)) (Y / 1024)) V) (Ze (Ze (jY 7 X) (jY 18 X)) (X / 8))) U by rw[qc yv,Bl,Bm,Ba,Bb,hY,hV,hX,hU]);clear Bl Bm Ba Bb hY hV hX hU;obtain⟨y0,y1⟩:=Aa.out;obtain⟨x0,x1⟩:=Ab.out;obtain⟨v0,v1⟩:=AW.out;obtain⟨s0,s1⟩:=AX.out;obtain⟨c2,c7,AP,AQ⟩:=Ax.out wr (qB _ _);have F2:=Wg.cell c2 AH;have By:=Wg.cell AP AH;clear c2 c7 AP AQ
         go_upto_region 12 with fail
         refine jk yq yq ?_
         repeat (first|go_big_quiet_skip|(go_big_quiet_want;go_big_quiet_op;go_big_quiet_on))
         refine wpQuiet_nil ?_;rintro w' ⟨s,rfl⟩;have A1:=s.2;generalize s.val=w9 at *;clear s;clear F2 By;have Ay:Hid (∀u:World,Calls prog 164 #[.int .u32 X,.int .u64 7] u fun R T=>R=.returned (.int .u32 (jY 7 X))∧u=T):=hid (fun u=>KK X 7 Ab yj yj u);have Ac:Hid (∀u:World,Calls prog 164 #[.int .u32 X,.int .u64 18] u fun R T=>R=.returned (.int .u32 (jY 18 X))∧u=T):=hid (fun u=>KK X 18 Ab yj yj u);have Ad:Hid (∀u:World,Calls prog 164 #[.int .u32 Y,.int .u64 17] u fun R T=>R=.returned (.int .u32 (jY 17 Y))∧u=T):=hid (fun u=>KK Y 17 Aa yj yj u);have Ae:Hid (∀u:World,Calls prog 164 #[.int .u32 Y,.int .u64 19] u fun R T=>R=.returned (.int .u32 (jY 19 Y))∧u=T):=hid (fun u=>KK Y 19 Aa yj yj u);obtain⟨c2,c7,AP,AQ⟩:=Ax.out w9 A1.below;have I:=hid (E.keep A1.below);have Bc:=I.lt;have F7:=Wg.cell c7 Bc;have Bz:=Wg.cell AQ Bc;clear c2 c7 AP AQ A1
         go_upto_region 13 with fail
         refine jp 29 yq yq yq yq yq ?_;simp only[List.take_succ_cons,List.take_zero,List.drop_succ_cons,List.drop_zero]
         repeat (first
           |go_big_quiet_skip
           |(go_big_quiet_want
             first
                |(go_big_quiet_op
                  first
                     |go_big_quiet_on
                     |go_big_quiet_call (first|(go_at_call 164;(with_reducible refine(Ad.out _).mono ?_);exact fun e Bd ⟨he,hw⟩=>⟨he,⟨_,hw.symm⟩⟩)|(go_at_call 164;(with_reducible refine(Ae.out _).mono ?_);exact fun e Bd ⟨he,hw⟩=>⟨he,⟨_,hw.symm⟩⟩)|(go_at_call 164;(with_reducible refine(Ay.out _).mono ?_);exact fun e Bd ⟨he,hw⟩=>⟨he,⟨_,hw.symm⟩⟩)|(go_at_call 164;(with_reducible refine(Ac.out _).mono ?_);exact fun e Bd ⟨he,hw⟩=>⟨he,⟨_,hw.symm⟩⟩)))))
         refine wpQuiet_nil ?_;rintro w' ⟨s,rfl⟩;have AR:=s.2;generalize s.val=w8 at *;clear s;clear F7 Bz e2 e7 Bw Bx Ay Ac Ad Ae;have Af:=hid (I.keep AR.below);obtain⟨u8,c8⟩:=Af.any (show t<64 by omega);have f8:=Af.fr t;go_wp2_with fail
         go_roundw
         case rel=>
           refine⟨t+1,by omega,by go_num,hid (Af.next yv ?_)⟩;rw[HE.out];unfold zL Ze;omega
         case measure=>exact Xz
       ·have i2:¬(t:Int)<64:=yv;obtain rfl:t=64:=yv;obtain⟨W6,BA⟩:=Xv wr;subst BA;have G:=hid (show W6.heap[H]?=some (.cells (jK (st8 (zm P firstS n))).toArray 287 (0,0)) from (E.but.block H (by have:=A0.out;omega) (by have:=A0.out;omega)).trans Aw.row);have Ag:=hid (ok_hash (l:=P) QR n);have AY:=hid (show zm P firstS (n+1)=J5 P Z (zm P firstS n) by show J5 P (64*n) _=_;rw[y.2]);generalize zm P firstS n=S at *;have C:=hid (qX G);have F0:=Wg.cell ((k6 G 0).trans (KM (l:=st8 S) (i:=0) (show 0<8 by decide))) C.out;have F1:=Wg.cell ((k6 G 1).trans (KM (l:=st8 S) (i:=1) (show 1<8 by decide))) C.out;have F2:=Wg.cell ((k6 G 2).trans (KM (l:=st8 S) (i:=2) (show 2<8 by decide))) C.out;have F3:=Wg.cell ((k6 G 3).trans (KM (l:=st8 S) (i:=3) (show 3<8 by decide))) C.out;have F4:=Wg.cell ((k6 G 4).trans (KM (l:=st8 S) (i:=4) (show 4<8 by decide))) C.out;have F5:=Wg.cell ((k6 G 5).trans (KM (l:=st8 S) (i:=5) (show 5<8 by decide))) C.out;have F6:=Wg.cell ((k6 G 6).trans (KM (l:=st8 S) (i:=6) (show 6<8 by decide))) C.out;have F7:=Wg.cell ((k6 G 7).trans (KM (l:=st8 S) (i:=7) (show 7<8 by decide))) C.out
        go_upto_region 14 with fail
        refine jk yq yq ?_
        repeat (first|go_big_quiet_skip|(go_big_quiet_want;go_big_quiet_op;go_big_quiet_on))
        refine wpQuiet_nil ?_;rintro w' ⟨s,rfl⟩;have A1:=s.2;generalize s.val=w9 at *;clear s;clear F0 F1 F2 F3 F4 F5 F6 F7
        go_upto_region 16 with fail
        have I:=hid (E.keep A1.below);have AZ:=hid ((A1.below.block H C).trans G);have Az:=hid A1.below;clear A1
        go_loopw [18,10,11,12,13,14,15,16,17] (fun t18 t10 t11 t12 t13 t14 t15 t16 t17 wr=>∃(t:Nat) (a g o d F v x h':Int),t≤64∧t18=.int .i64 (t:Int)∧t10=.int .u32 a∧t11=.int .u32 g∧t12=.int .u32 o∧t13=.int .u32 d∧t14=.int .u32 F∧t15=.int .u32 v∧t16=.int .u32 x∧t17=.int .u32 h'∧Hid (U3 P Z S t=(a,g,o,d,F,v,x,h'))∧Hid (Below w9.heap.size w9 wr)) (fun t18 _ _ _ _ _ _ _ _ _=>64 - (intOf t18).toNat)
        case atStart=>exact⟨0,_,_,_,_,_,_,_,_,by omega,rfl,rfl,rfl,rfl,rfl,rfl,rfl,rfl,rfl,hid rfl,hid (qB _ _)⟩
        case round=>
          obtain⟨t,a,g,o,d,F,v,x,h',ht,rfl,rfl,rfl,rfl,rfl,rfl,rfl,rfl,rfl,A2,HB⟩:=hrel;have M:=hid (show St8.ok (a,g,o,d,F,v,x,h') from A2.out▸ok_run (l:=P) (at':=Z) Ag.out t);obtain⟨Bn,Bo⟩:=KL M.out 0 yj;change 0≤a at Bn;change a≤4294967295 at Bo;obtain⟨b0,b1⟩:=KL M.out 1 yj;change 0≤g at b0;change g≤4294967295 at b1;obtain⟨c0,c1⟩:=KL M.out 2 yj;change 0≤o at c0;change o≤4294967295 at c1;obtain⟨d0,d1⟩:=KL M.out 3 yj;change 0≤d at d0;change d≤4294967295 at d1;obtain⟨e0,e1⟩:=KL M.out 4 yj;change 0≤F at e0;change F≤4294967295 at e1;obtain⟨f0,f1⟩:=KL M.out 5 yj;change 0≤v at f0;change v≤4294967295 at f1;obtain⟨g0,g1⟩:=KL M.out 6 yj;change 0≤x at g0;change x≤4294967295 at g1;obtain⟨h0,h1⟩:=KL M.out 7 yj;change 0≤h' at h0;change h'≤4294967295 at h1;by_cases hlt:t<64
          ·have i2:(t:Int)<64:=yv;obtain⟨K,hK⟩:=Xy (keyS t);obtain⟨V,hV⟩:=Xy (Km P Z t);obtain⟨K0,K1⟩:0≤K∧K≤4294967295:=hK▸w32_key t;obtain⟨V0,V1⟩:0≤V∧V≤4294967295:=hV▸ZL _ _ _;have B0:=hid (show U3 P Z S (t+1)=QQ (a,g,o,d,F,v,x,h') K V by show QQ _ _ _=_;rw[A2.out,hK,hV]);have AA:Hid (∀u:World,Calls prog 165 #[.int .i64 (t:Int)] u fun R T=>Below u.heap.size u T∧R=.returned (.int .u32 K)):=hid (fun u=>(refKey_any t hlt u).mono fun R T ⟨he,hb⟩=>⟨hb,by rw[he,hK]⟩);have AH:=(I.keep HB).lt;have FV:∀n:Wd wr.heap.size wr,n.val.cell? ⟨z6,t,none⟩=some (.int .u32 V):=Wd.cell (by rw[←hV];exact(I.keep HB).cell hlt (qR _)) AH;have HaW:Hid (W32 a):=hid ⟨Bn,Bo⟩;have He'W:Hid (W32 F):=hid ⟨e0,e1⟩;have AB:Hid (∀u:World,Calls prog 164 #[.int .u32 F,.int .u64 6] u fun R T=>Below u.heap.size u T∧R=.returned (.int .u32 (jY 6 F))):=hid (fun u=>(KK F 6 He'W yj yj u).mono fun R T ⟨he,hw⟩=>⟨hw▸qB _ _,he⟩);have Ah:Hid (∀u:World,Calls prog 164 #[.int .u32 F,.int .u64 11] u fun R T=>Below u.heap.size u T∧R=.returned (.int .u32 (jY 11 F))):=hid (fun u=>(KK F 11 He'W yj yj u).mono fun R T ⟨he,hw⟩=>⟨hw▸qB _ _,he⟩);have Ai:Hid (∀u:World,Calls prog 164 #[.int .u32 F,.int .u64 25] u fun R T=>Below u.heap.size u T∧R=.returned (.int .u32 (jY 25 F))):=hid (fun u=>(KK F 25 He'W yj yj u).mono fun R T ⟨he,hw⟩=>⟨hw▸qB _ _,he⟩);have AC:Hid (∀u:World,Calls prog 164 #[.int .u32 a,.int .u64 2] u fun R T=>R=.returned (.int .u32 (jY 2 a))∧u=T):=hid (fun u=>KK a 2 HaW yj yj u);have Aj:Hid (∀u:World,Calls prog 164 #[.int .u32 a,.int .u64 13] u fun R T=>R=.returned (.int .u32 (jY 13 a))∧u=T):=hid (fun u=>KK a 13 HaW yj yj u);have Ak:Hid (∀u:World,Calls prog 164 #[.int .u32 a,.int .u64 22] u fun R T=>R=.returned (.int .u32 (jY 22 a))∧u=T):=hid (fun u=>KK a 22 HaW yj yj u);clear hK hV
           go_upto_region 18 with fail
           refine jS (base:=wr.heap.size) wr (qB _ _) yq yq ?_
           repeat (first
             |go_big_quiet_skip
             |(go_big_quiet_want
               first
                  |(go_big_quiet_op
                    first
                       |go_big_quiet_on
                       |go_big_quiet_call (first|(go_at_call 165;with_reducible exact Wd.call (fun u _=>AA.out u) (qR _) _)|(go_at_call 164;with_reducible exact Wd.call (fun u _=>AB.out u) (qR _) _)|(go_at_call 164;with_reducible exact Wd.call (fun u _=>Ah.out u) (qR _) _)|(go_at_call 164;with_reducible exact Wd.call (fun u _=>Ai.out u) (qR _) _)))))
           refine wpQuiet_nil ?_;rintro w' ⟨s,rfl⟩;have AR:=s.2;generalize s.val=w8 at *;clear s;clear FV AB Ah Ai AA
           go_upto_region 20 with (first|(go_at_call 164;(with_reducible refine(AC.out _).mono ?_);rintro e w' ⟨rfl,rfl⟩)|(go_at_call 164;(with_reducible refine(Aj.out _).mono ?_);rintro e w' ⟨rfl,rfl⟩)|(go_at_call 164;(with_reducible refine(Ak.out _).mono ?_);rintro e w' ⟨rfl,rfl⟩))
           generalize hS1:bits BinOp.xor IntKind.u32 (bits BinOp.xor IntKind.u32 (jY 6 F) (jY 11 F)) (jY 25 F)=S1;obtain⟨BF,BG⟩:0≤S1∧S1≤4294967295:=by rw[←hS1];exact⟨bits_lo_u32 _ _ _,bits_hi_u32 _ _ _⟩
           generalize hCH:bits BinOp.xor IntKind.u32 (bits BinOp.and IntKind.u32 F v) (bits BinOp.and IntKind.u32 (bits BinOp.xor IntKind.u32 (if IntKind.u32.signed=true then -1 else IntKind.u32.max) F) x)=CH;obtain⟨BH,BI⟩:0≤CH∧CH≤4294967295:=by rw[←hCH];exact⟨bits_lo_u32 _ _ _,bits_hi_u32 _ _ _⟩
           generalize hTW:bits BinOp.xor IntKind.u32 (bits BinOp.xor IntKind.u32 (jY 2 a) (jY 13 a)) (jY 22 a)=TW;obtain⟨BJ,BK⟩:0≤TW∧TW≤4294967295:=by rw[←hTW];exact⟨bits_lo_u32 _ _ _,bits_hi_u32 _ _ _⟩
           generalize hMJ:bits BinOp.xor IntKind.u32 (bits BinOp.xor IntKind.u32 (bits BinOp.and IntKind.u32 a g) (bits BinOp.and IntKind.u32 a o)) (bits BinOp.and IntKind.u32 g o)=MJ;obtain⟨BL,BM⟩:0≤MJ∧MJ≤4294967295:=by rw[←hMJ];exact⟨bits_lo_u32 _ _ _,bits_hi_u32 _ _ _⟩
           generalize hT1:(h'+S1+CH+K+V) % 4294967296=T1;generalize hT2:(TW+MJ) % 4294967296=T2;obtain⟨BN,BO⟩:0≤T1∧T1≤4294967295:=yv;obtain⟨BP,BQ⟩:0≤T2∧T2≤4294967295:=yv;have B1:Hid (U3 P Z S (t+1)=((T1+T2) % 4294967296,a,g,o,(d+T1) % 4294967296,F,v,x)):=hid (by
             have e1:t1S (a,g,o,d,F,v,x,h') K V=T1:=by
               rw[←hT1,←hS1,←hCH];simp only[t1S,zL,Ze,andS,notS];omega
             have e2:t2S (a,g,o,d,F,v,x,h')=T2:=by rw[←hT2,←hTW,←hMJ];rfl
             rw[B0.out];show (zL (t1S (a,g,o,d,F,v,x,h') K V) (t2S (a,g,o,d,F,v,x,h')),a,g,o,zL d (t1S (a,g,o,d,F,v,x,h') K V),F,v,x)=_;rw[e1,e2];rfl)
           have B2:=hid (Xx HB.out AR);clear hT1 hT2 hS1 hCH hTW hMJ AR AC Aj Ak;go_wp2_with fail
           go_roundw
           case rel=>exact⟨t+1,_,_,_,_,_,_,_,_,by omega,by go_num,rfl,rfl,rfl,rfl,rfl,rfl,rfl,rfl,B1,B2⟩
           case measure=>exact Xz
          ·have i2:¬(t:Int)<64:=yv;obtain rfl:t=64:=yv;have B:=hid ((HB.block H (qL C Az.size)).trans AZ);have HN:=hid (show st8 (zm P firstS (n+1))=st8 (sumS (a,g,o,d,F,v,x,h') S) by rw[AY.out];unfold J5;rw[A2.out]);obtain⟨s0,s1,s2,s3,s4,s5,s6,s7⟩:=S;have O:=hid (fun j hj=>KL Ag j hj);obtain⟨l0,r0⟩:0≤s0∧s0≤4294967295:=O.out 0 yj;obtain⟨l1,r1⟩:0≤s1∧s1≤4294967295:=O.out 1 yj;obtain⟨l2,r2⟩:0≤s2∧s2≤4294967295:=O.out 2 yj;obtain⟨l3,r3⟩:0≤s3∧s3≤4294967295:=O.out 3 yj;obtain⟨l4,r4⟩:0≤s4∧s4≤4294967295:=O.out 4 yj;obtain⟨l5,r5⟩:0≤s5∧s5≤4294967295:=O.out 5 yj;obtain⟨l6,r6⟩:0≤s6∧s6≤4294967295:=O.out 6 yj;obtain⟨l7,r7⟩:0≤s7∧s7≤4294967295:=O.out 7 yj;have p0:wr.cell? ⟨H,0,none⟩=some (.int .u32 s0):=k6 B.out 0;have p1:wr.cell? ⟨H,1,none⟩=some (.int .u32 s1):=k6 B.out 1;have p2:wr.cell? ⟨H,2,none⟩=some (.int .u32 s2):=k6 B.out 2;have p3:wr.cell? ⟨H,3,none⟩=some (.int .u32 s3):=k6 B.out 3;have p4:wr.cell? ⟨H,4,none⟩=some (.int .u32 s4):=k6 B.out 4;have p5:wr.cell? ⟨H,5,none⟩=some (.int .u32 s5):=k6 B.out 5;have p6:wr.cell? ⟨H,6,none⟩=some (.int .u32 s6):=k6 B.out 6;have p7:wr.cell? ⟨H,7,none⟩=some (.int .u32 s7):=k6 B.out 7;have y0:wr.frozen? ⟨H,0,none⟩=false:=frozen_of_row _ _ _ _ _ B.out;have y1:wr.frozen? ⟨H,1,none⟩=false:=frozen_of_row _ _ _ _ _ B.out;have y2:wr.frozen? ⟨H,2,none⟩=false:=frozen_of_row _ _ _ _ _ B.out;have y3:wr.frozen? ⟨H,3,none⟩=false:=frozen_of_row _ _ _ _ _ B.out;have y4:wr.frozen? ⟨H,4,none⟩=false:=frozen_of_row _ _ _ _ _ B.out;have y5:wr.frozen? ⟨H,5,none⟩=false:=frozen_of_row _ _ _ _ _ B.out;have y6:wr.frozen? ⟨H,6,none⟩=false:=frozen_of_row _ _ _ _ _ B.out;have y7:wr.frozen? ⟨H,7,none⟩=false:=frozen_of_row _ _ _ _ _ B.out;have BR:Z+64≤1099511627900:=by have:=y.out;have:=Av.out;omega
           go_wp2_with fail
           go_roundw
           case rel=>
             refine⟨n+1,by omega,congrArg (Value.int .i64) (by have:=y.out;omega),hid ⟨?_,?_⟩⟩
             ·have hb:=((((L.but.andBelow f).trans E.but fun i hi e=>by have:=A0.out;omega).andBelow Az.out).andBelow HB.out);exact(((((((hb.setCell (fun _=>rfl) _).setCell (fun _=>rfl) _).setCell (fun _=>rfl) _).setCell (fun _=>rfl) _).setCell (fun _=>rfl) _).setCell (fun _=>rfl) _).setCell (fun _=>rfl) _).setCell (fun _=>rfl) _
             ·rw[HN.out,show st8 (sumS (a,g,o,d,F,v,x,h') (s0,s1,s2,s3,s4,s5,s6,s7))=[zL a s0,zL g s1,zL o s2,zL d s3,zL F s4,zL v s5,zL x s6,zL h' s7] from rfl];unfold zL;rw[Int.add_comm a,Int.add_comm g,Int.add_comm o,Int.add_comm d,Int.add_comm F,Int.add_comm v,Int.add_comm x,Int.add_comm h'];exact Kz (Kz (Kz (Kz (Kz (Kz (Kz (Kz B _) _) _) _) _) _) _) _
           case measure=>
             have:=y.out;simp only[intOf];omega
    ·obtain rfl:n=N:=yv;have B9:=Au.out;have i1:¬(Z:Int)<(P.length:Int):=yv;clear B8 B9
     go_upto_region 31 with (first
       |(with_reducible refine kF ?_
         refine kv yk 41 rfl (List.replicate 32 (.int .u8 0)) yq ?_;intro W4 f W z))
     obtain⟨zo,Bp⟩:=Xy wr.heap.size;have B3:Hid (St8.ok (zm P firstS n)):=hid (ok_hash QR n);have Be:=r.trans (A4.mono r.size);have Bq:=Be.trans (L.but.below Be.size fun k hk e=>by have:=D.out;omega);have Al:=hid (Xx Bq f.out);have AE:=hid ((f.block H L.lt).trans L.row);have Q:=hid (show H<zo∧zo<W4.heap.size by have h1:=L.lt;have h3:=z.out;omega);have AF:=hid (((L.but.andBelow f).block zi (qL (by have:=D.out;omega) A4.size) (by have:=D.out;omega)).trans ((A4.block zi (by have:=D.out;omega)).trans AS.out));rw[Bp] at W ⊢
     try go_frame
     generalize zm P firstS n=S at *;have AD:Hid (OutAt W4 zo S 0 W4):=hid ⟨But.refl _ _,W⟩;clear Bp z W Be Bq i1
     go_loopw [22] (fun t22 wr=>∃i:Nat,i≤8∧t22=.int .i64 (i:Int)∧Hid (OutAt W4 zo S i wr)) (fun t22 _=>8 - (intOf t22).toNat)
     case atStart=>exact⟨0,by omega,rfl,AD⟩
     case round=>
       clear AD;obtain⟨i,hi,rfl,J⟩:=hrel;by_cases hlt:i<8
       ·have i8:(i:Int)<8:=yv;obtain⟨X,hX⟩:=Xy ((st8 S).getD i 0);obtain⟨X0,X1⟩:0≤X∧X≤4294967295:=hX▸KL B3.out i hlt;have HX:=hid hX;have qx:wr.cell? ⟨H,i,none⟩=some (.int .u32 X):=by
          rw[←hX];exact(J.but.cell (Nat.lt_trans Q.1 Q.2) (by have:=Q.out;omega)).trans ((k6 AE i).trans (KM (l:=st8 S) hlt))
        clear hX;obtain⟨m,hm⟩:=Xy (4*i);have e4:4*(i:Int)=(m:Int):=yv;have BS:m+3<32:=yv;have HM:=hid hm;obtain⟨u0,q0⟩:=J.any (k:=m) yv;obtain⟨u1,q1⟩:=J.any (k:=m+1) yv;obtain⟨u2,q2⟩:=J.any (k:=m+2) yv;obtain⟨u3,q3⟩:=J.any (k:=m+3) yv;have f0:=J.fr m;have f1:=J.fr (m+1);have f2:=J.fr (m+2);have f3:=J.fr (m+3);have n1:zo≠H:=by have:=Q.out;omega
        have n2:H≠zo:=by have:=Q.out;omega
        clear hm;go_wp2_with fail
        go_roundw
        case rel=>
          refine⟨i+1,by omega,by go_num,hid ?_⟩;have h:=J.next hlt;rw[HX.out,HM.out] at h;rw[b8_top X0 X1,b8_low X0,show Value.int .u8 (X / 65536 % 256)=b8 X 65536 from b8_mid (d:=65536) X0,show Value.int .u8 (X / 256 % 256)=b8 X 256 from b8_mid (d:=256) X0];exact h
        case measure=>exact Xz
       ·obtain rfl:i=8:=yv;have i8:¬((8:Nat):Int)<8:=yv;have AG:Hid (wr.heap[zo]?=some (.cells (idV (qr S)).toArray 41 (0,0))):=hid J.row;have B4:=hid ((J.but.block zi (by have:=Q.out;have:=D.out;omega) (by have:=Q.out;have:=D.out;omega)).trans AF.out)
        go_wp2_with (first
          |(with_reducible refine k8 ?_
            refine k7 yk (kg 41 _ rfl (p:=⟨zo,0,none⟩) rfl (qV _ _ _ _ (idV (qr S)) _ (fun j u hj=>by rw[qZ];exact(k6 AG j).trans hj) underlying41 rfl yq)) ?_)
          |(with_reducible refine kD ?_
            refine kr yk 41 _ _ rfl zi 0 [] (List.replicate 32 (.int .u8 0)) [] (idV (qr S)) 41 (.agg (idV (qr S)).toArray) rfl rfl rfl rfl (by simpa using B4.out) rfl yq (kW _) ?_;intro W6 B5 BB BT;have B6:Hid (W6.heap[zi]?=some (.cells (idV (qr S)).toArray 41 (0,0))):=hid (by simpa using BB.out)))
        refine bodyPost_ret (jx results104 _ _ rfl (qV _ zi 0 41 (idV (qr S)) _ (fun j u hj=>by rw[qZ];exact(k6 B6 j).trans hj) underlying41 rfl yq)) rfl ?_;exact⟨by rw[AT.out],Al.trans ((J.but.below Al.size (fun k hk e=>by have:=Q.out;have:=D.out;omega)).trans (B5.below (qT Al.size J.but.size) fun k hk e=>by have:=D.out;omega))⟩
theorem id0_built(w:World):(Instr.build 41 #[]).run prog w=.ok (.agg (idV (List.replicate 32 0)).toArray) w:=yq
theorem ZN(l:List UInt8):(idV l).length=l.length:=by simp [idV]
theorem objId_any(o:vB)(v:Value)(w:World)(h:ObjIn w w.heap.size v o)(hl1:o.2.1.2.1.length≤1099511627776)(hl2:o.2.1.2.2.2.length≤1099511627776)(hl3:o.2.2.1.length≤1099511627776)(hl4:o.2.2.2.1.length≤1099511627776)(hg:Glob w)(hsg:ShaG w)(hone:RowKit.Hid (o.1=1)):
    Calls prog 46 #[v] w fun e w'=>e=.returned (.tuple #[.agg (idV (idD o)).toArray,.int .i64 (vb o)])∧Below w.heap.size w w':=by
  obtain⟨c0,rfl,t,x⟩:=h.ten;have O:=hid h;have H:=hid t;have A1:=hid x;have Z:=hid hg;have a:=hid hsg
  clear h t x hg hsg;go_enter func46,ntmps46
  go_upto_region 1 with (first
    |(with_reducible refine kG ?_
      refine kz yk 70 _ rfl c0 (.agg (c0).toArray) rfl rfl (by rw[H.out];kernel_rfl) ?_;intro W0 P Q I)
    |(with_reducible refine kF ?_
      refine kv yk 41 rfl (List.replicate 32 (.int .u8 0)) yq ?_;intro k J R S))
  obtain⟨zb,l⟩:=Xy w.heap.size;obtain⟨G,m⟩:=Xy W0.heap.size;have A:=hid (Xx P.out J.out);have E:=hid (show w.heap.size<G∧G<k.heap.size by have:=I.out;have:=S.out;omega);have T:Hid (k.heap[zb]?=some (.cells c0.toArray 70 (0,0))):=hid (by rw[←l];exact(J.block _ (by have:=I.out;omega)).trans Q.out);have U:Hid (k.heap[G]?=some (.cells (List.replicate 32 (.int .u8 0)).toArray 41 (0,0))):=hid (by rw[←m];exact R.out);rw[l,m]
  try go_frame
  clear l m Q R P J I S;by_cases hok:zn o=true∧¬262144<(Jv o).length
  ·have HR:=hid hok.1;have b:=hid hok.2
   have F:=hid (show vb o=0 by unfold vb;rw[if_pos hok.1,if_neg hok.2]);have A0:(Jv o).length≤1099511627776:=by have:=hok.2;omega
   clear hok
   go_upto_region 4 with (first
     |(with_reducible refine k8 ?_
       refine k7 yk (kg 70 _ rfl (p:=⟨zb,0,none⟩) rfl (vP T H)) ?_)
     |(go_at_call 91;refine(qz o _ k ((O.keep A).more A.size) hl1 hl2 hl3 hl4 (Z.next A) hone).mono ?_;rintro e X ⟨M,N⟩;unfold Zn at N;rw[if_pos HR.out,if_neg b.out] at N;obtain⟨A2,c2,rfl,y,z⟩:=N;have c:=hid y;have d:=hid z
       clear y z;have B:=hid (Xx A.out M);have D:=hid ((M.block G E.2).trans U);clear M))
   have C:=hid (show Below X.heap.size X (X.alloc (.cells #[.slice A2 (Jv o).length c2] 169)) from (qB _ _).alloc (qR _) _)
   go_wp2_with (first
     |(go_at_call 92;refine(shaSum_any (Jv o) A2 c2 X.heap.size 0 1 (X.alloc (.cells #[.slice A2 (Jv o).length c2] 169)) d A0 yZ (k6 (heap_alloc_new X _) 0) ((c.keep C).more C.size) ((a.next B).next C)).mono ?_;rintro e W5 ⟨rfl,n⟩;have f:=hid ((n.block G (qL (qX D) C.size)).trans ((C.block G (qX D)).trans D));have V:=hid (B.trans ((Xx C.out n).mono B.size));clear n)
     |(with_reducible refine kD ?_
       refine kr yk 41 _ _ rfl G 0 [] (List.replicate 32 (.int .u8 0)) [] (idV (vp (Jv o))) 41 (.agg (idV (vp (Jv o))).toArray) rfl rfl rfl rfl (by simpa using f.out) (by rw[ZN,Jp];rfl) (by rw[ZN,Jp];kernel_rfl) (kW _) ?_;intro V6 K q A3;have L:Hid (V6.heap[G]?=some (.cells (idV (vp (Jv o))).toArray 41 (0,0))):=hid (by simpa using q.out)))
   have W:=hid (show (idV (vp (Jv o))).length=32 by rw[ZN,Jp]);refine bodyPost_ret (Kt results46 _ _ rfl rfl (qV _ G 0 41 (idV (vp (Jv o))) _ (fun j u hj=>by rw[qZ];exact(k6 L j).trans hj) underlying41 rfl (by first|kernel_rfl|(rw[W.out];kernel_rfl)))) rfl ?_;exact⟨by unfold idD;rw[if_pos F.out,F.out];rfl,V.trans (K.below V.size fun kk hk e=>by have:=E.out;omega)⟩
  ·obtain⟨r,Y⟩:∃r:Int,vb o=r:=⟨_,rfl⟩;have s:r≠0:=by
     rw[←Y];unfold vb
     split
     ·split
      ·decide
      ·exact absurd ⟨‹_›,‹_›⟩ hok
     ·decide
   have F:=hid Y;have e1:(r != 0)=true:=by rw[bne_iff_ne];exact s
   have g:Hid (∀(e:Ending) (w':World),Zn o e w'→e=.returned (.tuple #[.slice none 0 0,.int .i64 r])):=hid (fun e w' h=>by
     unfold Zn at h;rw[←Y];unfold vb
     split at h
     ·rename_i N;rw[if_pos N]
      split at h
      ·rename_i h2;rw[if_pos h2];exact h
      ·rename_i h2;exact absurd ⟨N,h2⟩ hok
     ·rename_i N;rw[if_neg N];exact h)
   have i:=hid s;clear hok Y s
   go_wp2_with (first
     |(with_reducible refine k8 ?_
       refine k7 yk (kg 70 _ rfl (p:=⟨zb,0,none⟩) rfl (vP T H)) ?_)
     |(go_at_call 91;refine(qz o _ k ((O.keep A).more A.size) hl1 hl2 hl3 hl4 (Z.next A) hone).mono ?_;rintro e X ⟨M,N⟩;obtain rfl:=g.out _ _ N;clear N;have B:=hid (Xx A.out M);have D:=hid ((M.block G E.2).trans U);clear M)
     |(with_reducible refine kL ?_
       refine k7 yk (kp 41 #[] rfl (id0_built _)) ?_)
     |(with_reducible refine kD ?_
       refine kr yk 41 _ _ rfl G 0 [] (List.replicate 32 (.int .u8 0)) [] (idV (List.replicate 32 0)) 41 (.agg (idV (List.replicate 32 0)).toArray) rfl rfl rfl rfl (by simpa using D.out) (by rw[ZN,List.length_replicate];rfl) (by rw[ZN,List.length_replicate];kernel_rfl) (kW _) ?_;intro V6 K q A3;have L:Hid (V6.heap[G]?=some (.cells (idV (List.replicate 32 0)).toArray 41 (0,0))):=hid (by simpa using q.out)))
   refine bodyPost_ret (Kt results46 _ _ rfl rfl (qV _ G 0 41 (idV (List.replicate 32 0)) _ (fun j u hj=>by rw[qZ];exact(k6 L j).trans hj) underlying41 rfl (by first|kernel_rfl|(rw[W.out];kernel_rfl)))) rfl ?_;exact⟨by unfold idD;rw[F.out,if_neg i.out];rfl,B.trans (K.below B.size fun kk hk e=>by have:=E.out;omega)⟩
end
end Go.Proofs.YtdgbjhfkmembdaaGreatDoor