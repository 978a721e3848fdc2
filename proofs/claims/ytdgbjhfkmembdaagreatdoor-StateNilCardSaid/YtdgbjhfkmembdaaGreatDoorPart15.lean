/-
  Plain facts, and contracts of the functions that the claim's walk comes to, one behind the other. Conditions: as each says.
-/
import Derived.Test.YtdgbjhfkmembdaaGreatDoorPart4
import Derived.Test.YtdgbjhfkmembdaaGreatDoorPart6
import Derived.Test.YtdgbjhfkmembdaaGreatDoorPart14
import Derived.Test.YtdgbjhfkmembdaaGreatDoorPart7
import Derived.Test.YtdgbjhfkmembdaaGreatDoorPart12
import Derived.Test.YtdgbjhfkmembdaaGreatDoorPart10
import Derived.Test.YtdgbjhfkmembdaaGreatDoorPart8
import Derived.BigFrame
import Derived.Lib.RowBridge
set_option linter.unusedVariables false
set_option linter.unusedSimpArgs false
set_option maxHeartbeats 4000000
set_option maxRecDepth 100000
open Go.Proofs.Tryz
namespace Go.Proofs.YtdgbjhfkmembdaaGreatDoor
section
open Go.RowKit Go.Maps
open Lib (hid)
theorem size_u8s:(prog.info? 5).map (·.size)=some 1:=by kernel_rfl
def q8:Value→Nat
  | .slice _ n _=>n
  | _=>0
theorem ex_sliceArr{ρ:Operand→Value}{o:Oper}{w:World}(x lo:Operand)(ho:o.op=.slice 322 x (some lo) none none){z k f:Nat}(hx:ρ x=.pointer (some ⟨z,k,none⟩))(hl:ρ lo=.int .i64 (f:Int))(hf:f<64):
    (execOp ρ o).run prog w=.ok (.value (.slice (some ⟨z,k+f,none⟩) (64 - f) (64 - f))) w:=by
  have A:prog.arrayLen 322=64:=by kernel_rfl
  have B:=run_sliceAt_array_l (P:=prog) w 322 ⟨z,k,none⟩ underlying322 .i64 (f:Int) yz (by rw[A];omega);have C:(prog.info? (prog.elem 322)).map (·.size)=some 1:=by kernel_rfl
  rw[A,ZY C] at B;simp only[Result.andThen,Int.toNat_natCast,slicedAt,if_neg (show ¬64=f by omega),Nat.mul_one] at B;unfold execOp;simp only[ho,hx,hl,Option.map_some,Option.map_none,Sem.run_bind,B,Result.andThen_ok,Sem.run_pure];rw[show (⟨z,k,none⟩:Addr).add f=⟨z,k+f,none⟩ by unfold Addr.add;split<;>simp_all]
theorem ex_sliceAll{ρ:Operand→Value}{o:Oper}{w:World}(x:Operand)(ho:o.op=.slice 322 x none none none){z k:Nat}(hx:ρ x=.pointer (some ⟨z,k,none⟩)):
    (execOp ρ o).run prog w=.ok (.value (.slice (some ⟨z,k,none⟩) 64 64)) w:=by
  have B:prog.arrayLen 322=64:=by kernel_rfl
  have A:=run_sliceAt_array_all (P:=prog) w 322 ⟨z,k,none⟩ underlying322;have C:(prog.info? (prog.elem 322)).map (·.size)=some 1:=by kernel_rfl
  rw[B,ZY C] at A;simp only[Result.andThen,slicedAt,if_neg (show ¬64=0 by omega),Nat.zero_mul] at A;unfold execOp;simp only[ho,hx,Option.map_none,Sem.run_bind,A,Result.andThen_ok,Sem.run_pure];rw[show (⟨z,k,none⟩:Addr).add 0=⟨z,k,none⟩ by unfold Addr.add;split<;>simp_all]
theorem sliced_from(b q:Nat){n m c:Nat}(h:n≤m)(hc:m≤c):∃A2 c2,sliced (some ⟨b,q,none⟩) n m c 1=.slice A2 (m - n) c2∧m - n≤c2∧(n<m→A2=some ⟨b,q+n,none⟩):=by
  refine⟨_,_,rfl,by omega,fun A=>?_⟩;rw[if_neg yz,Nat.mul_one];show some ((⟨b,q,none⟩:Addr).add n)=_;rw[show (⟨b,q,none⟩:Addr).add n=⟨b,q+n,none⟩ by unfold Addr.add;split<;>simp_all]
theorem ShaG.but{w u:World}{z:Nat}(h:ShaG w)(hb:But (fun k=>k=z) w u)(hz:2≠z∧1≠z):ShaG u:=
  ⟨fun j A=>(hb.cell (Zl (h.1 0 yv)) hz.2).trans (h.1 j A),fun j A=>(hb.cell (Zl (h.2 0 yv)) hz.1).trans (h.2 j A)⟩
def hv(S:St8)(rest:List UInt8)(f size:Nat):List Value:=jB (st8 S)++(idV rest++[.int .i64 (f:Int),.int .i64 (size:Int)])
theorem Uq{S:St8}{rest:List UInt8}{f size:Nat}(h:rest.length=64):(hv S rest f size).length=74:=by
  simp [hv,jB,st8,idV,h]
theorem hv_fill{S:St8}{rest:List UInt8}{f size:Nat}(h:rest.length=64):(hv S rest f size)[72]?=some (.int .i64 (f:Int)):=by
  unfold hv;rw[List.getElem?_append_right (by simp [jB,st8]),List.getElem?_append_right (by simp [jB,st8,idV,h])];simp [jB,st8,idV,h]
theorem hv_size{S:St8}{rest:List UInt8}{f size:Nat}(h:rest.length=64):(hv S rest f size)[73]?=some (.int .i64 (size:Int)):=by
  unfold hv;rw[List.getElem?_append_right (by simp [jB,st8]),List.getElem?_append_right (by simp [jB,st8,idV,h])];simp [jB,st8,idV,h]
theorem hv_byte{S:St8}{rest:List UInt8}{f size j:Nat}(h:rest.length=64)(hj:j<64):(hv S rest f size)[8+j]?=some (.int .u8 (j3 rest j:Int)):=by
  unfold hv;rw[List.getElem?_append_right (by simp [jB,st8]),List.getElem?_append_left (by simp [jB,st8,idV,h];omega)];simp only[jB,List.length_map,st8,List.length_cons,List.length_nil];unfold idV j3;rw[List.getElem?_map,show 8+j - (0+1+1+1+1+1+1+1+1)=j by omega,List.getElem?_eq_getElem yz,List.getD_eq_getElem?_getD,List.getElem?_eq_getElem yz];rfl
theorem hv_state{S:St8}{rest:List UInt8}{f size:Nat}(j:Nat)(v:Value)(hj:(jB (st8 S))[j]?=some v):(hv S rest f size)[j]?=some v:=by
  unfold hv;rw[List.getElem?_append_left (List.getElem?_eq_some_iff.1 hj).1];exact hj
theorem hv_setFill{S:St8}{rest:List UInt8}{f size g:Nat}(h:rest.length=64):(hv S rest f size).toArray.setIfInBounds 72 (.int .i64 (g:Int))=(hv S rest g size).toArray:=by
  rw[List.setIfInBounds_toArray]
  congr 1
  unfold hv;rw[List.set_append,if_neg (by simp [jB,st8]),List.set_append,if_neg (by simp [jB,st8,idV,h])];simp [jB,st8,idV,h]
theorem hv_setSize{S:St8}{rest:List UInt8}{f size g:Nat}(h:rest.length=64):(hv S rest f size).toArray.setIfInBounds 73 (.int .i64 (g:Int))=(hv S rest f g).toArray:=by
  rw[List.setIfInBounds_toArray]
  congr 1
  unfold hv;rw[List.set_append,if_neg (by simp [jB,st8]),List.set_append,if_neg (by simp [jB,st8,idV,h])];simp [jB,st8,idV,h]
def Jj(rest:List UInt8)(f:Nat)(b:List UInt8):List UInt8:=rest.take f++(b++rest.drop (f+b.length))
theorem uA{rest b:List UInt8}{f:Nat}(h:rest.length=64)(hf:f+b.length≤64):(Jj rest f b).length=64:=by
  unfold Jj;simp;omega
theorem hv_copy{S:St8}{rest b:List UInt8}{f size:Nat}(h:rest.length=64)(hf:f+b.length≤64):
    ((hv S rest f size).toArray.toList.take (8+f)++(idV b++(hv S rest f size).toArray.toList.drop (8+f+(idV b).length))).toArray=(hv S (Jj rest f b) f size).toArray:=by
  congr 1
  have A:(jB (st8 S)).length=8:=rfl;have B:(idV b).length=b.length:=by simp [idV]
  have C:(idV rest).length=64:=by simp [idV,h]
  show (hv S rest f size).take (8+f)++(idV b++(hv S rest f size).drop (8+f+(idV b).length))=_;unfold hv Jj
  rw[B,List.take_append,List.drop_append,A,show 8+f - 8=f by omega,show 8+f+b.length - 8=f+b.length by omega,List.take_of_length_le yz,List.drop_eq_nil_of_le yz,List.nil_append,List.take_append,List.drop_append,C,
    show f - 64=0 by omega,show f+b.length - 64=0 by omega,List.take_zero,List.drop_zero,List.append_nil]
  unfold idV;simp [List.map_take,List.map_drop]
def LeftS(D rest:List UInt8):Prop:=rest.length=64∧∀j,j<D.length % 64→j3 rest j=j3 D (64*(D.length / 64)+j)
theorem byteAt_over{rest b:List UInt8}{f j:Nat}(h:rest.length=64)(hf:f+b.length≤64)(hj:j<f+b.length):j3 (Jj rest f b) j=if j<f then j3 rest j else j3 b (j - f):=by
  unfold Jj j3;rw[List.getD_eq_getElem?_getD]
  split
  ·rename_i A;rw[List.getElem?_append_left yj,List.getElem?_take_of_lt A,List.getD_eq_getElem?_getD]
  ·rename_i A;rw[List.getElem?_append_right yj,List.getElem?_append_left yj,List.getD_eq_getElem?_getD,List.length_take,Nat.min_eq_left yz]
theorem byteAt_app2{l m:List UInt8}{i:Nat}(h:l.length≤i):j3 (l++m) i=j3 m (i - l.length):=by
  unfold j3;rw[List.getD_eq_getElem?_getD,List.getD_eq_getElem?_getD,List.getElem?_append_right h]
theorem over_app{D rest b:List UInt8}(h:LeftS D rest)(hf:D.length % 64+b.length≤64){j:Nat}(hj:j<D.length % 64+b.length):j3 (Jj rest (D.length % 64) b) j=j3 (D++b) (64*(D.length / 64)+j):=by
  rw[byteAt_over h.1 hf hj];have B:=Nat.div_add_mod D.length 64
  split
  ·rename_i A;rw[h.2 j A,byteAt_app yz]
  ·rename_i A;rw[byteAt_app2 yz]
   congr 1
   omega
theorem left_more{D rest b:List UInt8}(h:LeftS D rest)(hf:D.length % 64+b.length<64):LeftS (D++b) (Jj rest (D.length % 64) b)∧(D++b).length % 64=D.length % 64+b.length∧jU (D++b) firstS ((D++b).length / 64)=jU D firstS (D.length / 64):=by
  have C:=Nat.div_add_mod D.length 64;have A:(D++b).length / 64=D.length / 64:=by rw[List.length_append];omega
  have B:(D++b).length % 64=D.length % 64+b.length:=by rw[List.length_append];omega
  refine⟨⟨uA h.1 yz,fun j E=>?_⟩,B,?_⟩
  ·rw[A];exact over_app h yz yz
  ·rw[A];exact Qx D b firstS _ yz
theorem left_full{D rest b:List UInt8}(h:LeftS D rest)(hf:D.length % 64+b.length=64):LeftS (D++b) (Jj rest (D.length % 64) b)∧(D++b).length % 64=0∧jU (D++b) firstS ((D++b).length / 64)=KG (Jj rest (D.length % 64) b) 0 (jU D firstS (D.length / 64)):=by
  have C:=Nat.div_add_mod D.length 64;have A:(D++b).length / 64=D.length / 64+1:=by rw[List.length_append];omega
  have B:(D++b).length % 64=0:=by rw[List.length_append];omega
  refine⟨⟨uA h.1 yz,fun j E=>by omega⟩,B,?_⟩;rw[A];show KG (D++b) (64*(D.length / 64)) (jU (D++b) firstS (D.length / 64))=_;rw[Qx D b firstS _ yz];refine(Q5 (fun i F=>?_) _).symm;rw[qZ];exact over_app h yz yz
structure HashAt (w:World) (z:Nat) (D rest:List UInt8) (size:Nat) (wx:World):Prop where
  but:But (fun k=>k=z) w wx
  row:wx.heap[z]?=some (.cells (hv (jU D firstS (D.length / 64)) rest (D.length % 64) size).toArray 324 (0,0))
  left:LeftS D rest
theorem HashAt.lt{w:World}{z:Nat}{D rest:List UInt8}{size:Nat}{wx:World}(h:HashAt w z D rest size wx):z<wx.heap.size:=(qX h.row)
theorem HashAt.keep{w:World}{z:Nat}{D rest:List UInt8}{size:Nat}{wx wy:World}(h:HashAt w z D rest size wx)(hb:Below wx.heap.size wx wy):HashAt w z D rest size wy:=⟨h.but.andBelow hb,(hb.block z h.lt).trans h.row,h.left⟩
theorem but_setRow{X:Nat→Prop}{a b:World}{g:Nat}(h:But X a b)(hx:X g)(cs:Array Value):But X a (b.setRow g cs):=
  h.trans (Y:=X) ⟨rfl,rfl,rfl,by simp [World.setRow],fun k _ A=>setRow_other b g k cs (fun e=>A (by rw[e];exact hx))⟩ fun _ _ q=>q
theorem write_any(z:Nat)(D rest:List UInt8)(size:Nat)(l:List UInt8)(A:Option Addr)(c:Nat)(w:World)(h:HashAt w z D rest size w)(hc:l.length≤c)(hl:l.length≤1099511627776)(hsz:size≤1099511627776)
    (hs:0<l.length→∃b K,A=some ⟨b,K,none⟩∧b<w.heap.size∧b≠z∧∀j (hj:j<l.length),w.cell? ⟨b,K+j,none⟩=some (.int .u8 (j3 l j:Int))) (hg:ShaG w) (hgz:2≠z∧1≠z):
    Calls prog 152 #[.pointer (some ⟨z,0,none⟩),.slice A l.length c] w fun e w'=>e=.returned (.tuple #[])∧∃B,HashAt w z (D++l) B (size+l.length) w':=by
  obtain⟨b,K,hb⟩:∃b K,0<l.length→A=some ⟨b,K,none⟩∧b<w.heap.size∧b≠z∧∀j (hj:j<l.length),w.cell? ⟨b,K+j,none⟩=some (.int .u8 (j3 l j:Int)):=by
    rcases Nat.eq_zero_or_pos l.length with h0|h0
    ·exact⟨0,0,fun h1=>by omega⟩
    ·obtain⟨b,K,h1⟩:=hs h0;exact⟨b,K,fun _=>h1⟩
  have HB:=hid hb;have HG:=hid hg;have F:=hid h;have A3:=hid hgz
  have Aq:w.cell? ⟨z,73,none⟩=some (.int .i64 (size:Int)):=(k4 h.row 73).trans (hv_size h.left.1);have Ar:w.frozen? ⟨z,73,none⟩=false:=frozen_of_row _ _ _ _ _ h.row;have e1:IntKind.i64.wrap ((size:Int)+(l.length:Int))=((size+l.length:Nat):Int):=by rw[IntWalk.i64_in _ yz];omega
  clear hb hg h hs hgz;go_enter func152,ntmps152
  go_upto_region 2 with fail
  clear Aq Ar e1;have X:Hid (HashAt w z D rest (size+l.length) (w.setCell ⟨z,73,none⟩ (.int .i64 ((size+l.length:Nat):Int)))):=hid ⟨F.but.setCell (fun _=>rfl) _,by rw[←hv_setSize F.left.1];exact Kh F.row _,F.left⟩
  go_loopw [1] (fun t1 wr=>∃(p:Nat) (B:List UInt8) (A':Option Addr) (c':Nat),p≤l.length∧t1=.slice A' (l.length - p) c'∧l.length - p≤c'∧(p<l.length→A'=some ⟨b,K+p,none⟩)∧Hid (HashAt w z (D++l.take p) B (size+l.length) wr)) (fun t1 _=>q8 t1)
  case atStart=>exact⟨0,rest,A,c,Nat.zero_le _,rfl,hc,fun h0=>(HB.out h0).1,by rw[List.take_zero,List.append_nil];exact X⟩
  case round=>
    clear X;obtain⟨p,B,A',c',hp,rfl,Ac,Ad,F⟩:=hrel;by_cases hlt:p<l.length
    ·obtain⟨m,hm⟩:∃m,l.length - p=m:=⟨_,rfl⟩;obtain rfl:=Ad hlt;obtain⟨C,hD⟩:∃C,D++l.take p=C:=⟨_,rfl⟩;obtain⟨q,hq⟩:∃q,K+p=q:=⟨_,rfl⟩;rw[hD] at F;rw[hm] at Ac ⊢;rw[hq];have L:=hid (show l.length - p=m∧K+p=q∧D++l.take p=C from⟨hm,hq,hD⟩);have i1:(0:Int)<(m:Int):=by omega
     have Az:0<m:=by omega
     have AA:m≤1099511627776:=by omega
     obtain⟨f,hf⟩:∃f,C.length % 64=f:=⟨_,rfl⟩;have Ap:f<64:=by rw[←hf];exact Nat.mod_lt _ yv
     have M:=hid hf;clear Ad hm hq hD hf;have N:=hid F.left.1;have Ae:wr.cell? ⟨z,72,none⟩=some (.int .i64 (f:Int)):=by rw[←M.out];exact(k4 F.row 72).trans (hv_fill N.out)
     have As:=F.lt;have At:=Wg.cell Ae As;clear Ae;have AB:¬(64:Nat)=f:=by omega
     go_upto_region 3 with fail
     refine zn 9 yy yy yy yy yy ?_;simp only[List.take_succ_cons,List.take_zero,List.drop_succ_cons,List.drop_zero]
     repeat (first
       |go_big_quiet_skip
       |(go_big_quiet_want
         first
            |(refine kR (fun w' _=>ex_sliceArr _ _ rfl (z:=z) (k:=8) (f:=f) rfl rfl Ap) ?_
              go_big_quiet_on
              go_frame;try simp only[nTF])
            |(go_big_quiet_op
              first
                 |go_big_quiet_on
                 |go_big_quiet_call (first|(fail)))))
     refine wpQuiet_nil ?_;rintro w' ⟨kk,rfl⟩;have Au:=kk.2;generalize kk.val=w9 at *;clear kk;clear At;have R:=hid (F.keep Au.below);obtain⟨n,hn⟩:∃n,Nat.min m (64 - f)=n:=⟨_,rfl⟩;have Af:n≤m∧f+n≤64∧0<n∧(f+n<64→n=m):=by rw[←hn];simp only[Nat.min_def];split<;>omega
     obtain⟨J,A9⟩:∃J,(l.drop p).take n=J:=⟨_,rfl⟩;have Aa:J.length=n:=by rw[←A9,List.length_take,List.length_drop];have:=L.1;omega
     have Y:=hid A9;have s:=hid (fun (u:World) (hu:But (fun k=>k=z) w u) (j:Nat) (v:Value) (hj:(idV J)[j]?=some v)=>(show u.cell? ((⟨b,q,none⟩:Addr).add j)=some v from by
       have AC:j<J.length:=by have h:=(List.getElem?_eq_some_iff.1 hj).1;simpa [idV] using h
       have hb:=HB.out yz;have e1:(⟨b,q,none⟩:Addr).add j=⟨b,K+(p+j),none⟩:=by
         have e2:K+p=q:=L.2.1;rw[show (⟨b,q,none⟩:Addr).add j=⟨b,q+j,none⟩ by unfold Addr.add;split<;>simp_all,←e2,Nat.add_assoc]
       rw[e1,hu.cell hb.2.1 hb.2.2.1,hb.2.2.2 (p+j) (by have:=L.1;omega),←hj];unfold idV j3;rw[List.getElem?_map,←Y.out,List.getElem?_take_of_lt yz,List.getElem?_drop,List.getD_eq_getElem?_getD,List.getElem?_eq_getElem (by have:=L.1;omega)];rfl))
     clear A9 hlt;have Z:=hid hn;clear hn;have a:Hid (w9.heap[z]?=some (.cells (hv (jU C firstS (C.length / 64)) B f (size+l.length)).toArray 324 (0,0))):=hid (by have h:=R.row;rw[M.out] at h;exact h);have t:=run_copy_row (P:=prog) w9 169 169 3 5 z (8+f) (64 - f) (64 - f) ⟨b,q,none⟩ m c' (hv (jU C firstS (C.length / 64)) B f (size+l.length)).toArray 324 (idV J) underlying169 size_u8s a.out (by simp [idV,Aa,Z.out]) (s.out _ R.but) (by rw[List.size_toArray,Uq N.out];simp [idV];omega) (kV _);rw[List.append_assoc,hv_copy N.out (show f+J.length≤64 by omega),show (idV J).length=n by simp [idV,Aa]] at t;obtain⟨w8,y⟩:∃u,w9.setRow z (hv (jU C firstS (C.length / 64)) (Jj B f J) f (size+l.length)).toArray=u:=⟨_,rfl⟩;rw[y] at t;have d:Hid (But (fun k=>k=z) w w8):=hid (by rw[←y];exact but_setRow R.but rfl _);have O:Hid (w8.heap[z]?=some (.cells (hv (jU C firstS (C.length / 64)) (Jj B f J) f (size+l.length)).toArray 324 (0,0))):=hid (by rw[←y];exact setRow_heap _ _ _ _ _ _ a.out);clear y;have G:=hid (uA N.out (show f+J.length≤64 by omega));have A0:w8.cell? ⟨z,72,none⟩=some (.int .i64 (f:Int)):=(k4 O.out 72).trans (hv_fill G.out);have Ag:w8.frozen? ⟨z,72,none⟩=false:=frozen_of_row _ _ _ _ _ O.out;have e2:IntKind.i64.wrap ((f:Int)+(n:Int))=((f+n:Nat):Int):=by rw[IntWalk.i64_in _ yz];omega
     unfold goInt at t
     go_upto_region 5 with fail
     obtain⟨Q,A1⟩:∃u,w8.setCell ⟨z,72,none⟩ (.int .i64 ((f:Int)+(n:Int)))=u:=⟨_,rfl⟩;rw[A1];have S:Hid (But (fun k=>k=z) w Q):=hid (by rw[←A1];exact d.setCell (fun _=>rfl) _);have H:Hid (Q.heap[z]?=some (.cells (hv (jU C firstS (C.length / 64)) (Jj B f J) (f+n) (size+l.length)).toArray 324 (0,0))):=hid (by rw[←A1,←hv_setFill G.out];exact Kh O.out _);have A0:Q.cell? ⟨z,72,none⟩=some (.int .i64 ((f+n:Nat):Int)):=(k4 H.out 72).trans (hv_fill G.out);obtain⟨A2,c2,Ah,Ai,Aj⟩:=sliced_from b q Af.1 Ac;have A4:=hid Ah;have g:=hid Aj;have i:=hid Ai
     obtain⟨fn,Ab⟩:∃x,f+n=x:=⟨_,rfl⟩;have T:=hid Ab;rw[Ab] at A0 H;clear A1 t Ag e2 O d Ah Aj Ai Ab Z
     go_upto_region 6 with (refine k5 yx (uq 169 _ _ rfl rfl rfl underlying169 size_u8s Af.1 A4.out) ?_)
     have o:=hid (show D++l.take (p+n)=C++J by rw[←L.2.2,←Y.out,List.append_assoc,List.take_add]);have E:=hid (show m - n=l.length - (p+n)∧p+n≤l.length∧K+(p+n)=q+n by have:=L.out;omega);by_cases hfull:fn=64
     ·have Av:((fn:Int) == 64)=true:=by rw[beq_iff_eq];omega
      have U:=(qX H.out);have Aw:=enE func197 rfl;have r:=hid (fun (u:World) (hu:Below Q.heap.size Q u)=>(show u.rangeAt z 0 (jB (st8 (jU C firstS (C.length / 64)))) from fun j v hj=>by rw[qZ];exact(hu.cell (p:=⟨z,j,none⟩) U).trans ((k4 H.out j).trans (hv_state j v hj))))
      go_upto_region 7 with fail
      clear A0;refine rN 9 (fun u=>u.rangeAt z 0 (jB (st8 (jU C firstS (C.length / 64))))) (r.out _ (qD Q.heap.size Q)) fun Ax=>?_
      refine tw 0 (.pointer (some ⟨z,0,none⟩)) ?_;go_frame;refine tw 1 (.pointer (some ⟨z,0,none⟩)) ?_;go_frame;refine tw 2 (.pointer (some ⟨z,0,none⟩)) ?_;go_frame;refine tw 3 (.pointer (some ⟨z,0,none⟩)) ?_;go_frame;refine tl 4 (.agg (jB (st8 (jU C firstS (C.length / 64)))).toArray) rfl Ax (fun w' Ak=>kc 287 _ rfl (p:=⟨z,0,none⟩) rfl (qV w' _ _ _ (jB (st8 (jU C firstS (C.length / 64)))) _ Ak underlying287 rfl yy)) ?_;go_frame;refine tw 5 (.pointer (some ⟨z,0,none⟩)) ?_;go_frame;refine tw 6 (.pointer (some ⟨z,0,none⟩)) ?_;go_frame;refine tw 7 (.pointer (some ⟨z,8,none⟩)) ?_;go_frame;refine tk 8 (.slice (some ⟨z,8,none⟩) 64 64) rfl (fun w' Ak=>ex_sliceAll _ rfl rfl) ?_;go_frame;refine ta 9 ?_;refine tc #[.agg (jB (st8 (jU C firstS (C.length / 64)))).toArray,.slice (some ⟨z,8,none⟩) 64 64] Aw rfl ?_;have Al:=((qD Q.heap.size Q).block z U).trans H.out;refine(rounds_any (jU C firstS (C.length / 64)) z 8 64 (Jj B f J) Q.drew (ok_hash Q4 _) G.out (qX Al) (fun j hj=>(k4 Al (8+j)).trans (hv_byte G.out hj)) (qR _) (HG.but S.drew A3.out)).mono ?_;rintro e w5 ⟨rfl,Am⟩;have W:=(qD Q.heap.size Q).trans Am;have A5:=hid ((W.block z U).trans H.out);have A6:=hid (S.andBelow W);have A7:=r.out w5 W;refine⟨_,rfl,fun _ _=>A7,?_⟩;go_frame;refine tw 10 (.pointer (some ⟨z,0,none⟩)) ?_;go_frame;refine tw 11 (.pointer (some ⟨z,0,none⟩)) ?_;go_frame;refine ta 12 ?_;refine kW _ rfl yy 287 _ _ rfl z 0 [] (jB (st8 (jU C firstS (C.length / 64)))) (idV (Jj B f J)++[.int .i64 (fn:Int),.int .i64 ((size+l.length:Nat):Int)]) (jB (st8 (KG (Jj B f J) 0 (jU C firstS (C.length / 64))))) 324 (.agg (jB (st8 (KG (Jj B f J) 0 (jU C firstS (C.length / 64))))).toArray) rfl rfl rfl rfl A5.out rfl yy (Zy _) ?_;intro w4 An Ao Ay;have A8:=hid (A6.trans An fun _ _ q=>q);have V:Hid (w4.heap[z]?=some (.cells (hv (KG (Jj B f J) 0 (jU C firstS (C.length / 64))) (Jj B f J) fn (size+l.length)).toArray 324 (0,0))):=hid Ao;clear An Ao Ay W Am;refine⟨fun h=>absurd h yv,?_⟩;go_frame;refine ku yy ?_ _
      go_upto_region 8 with fail
      have A0:w4.cell? ⟨z,72,none⟩=some (.int .i64 (fn:Int)):=(k4 V.out 72).trans (hv_fill G.out);have Ag:w4.frozen? ⟨z,72,none⟩=false:=frozen_of_row _ _ _ _ _ V.out;have I:=hid (left_full (b:=J) F.left (by have:=M.out;have:=T.out;omega));go_wp2_with fail
      go_roundw
      case rel=>
        refine⟨p+n,Jj B f J,A2,c2,E.2.1,by rw[E.1],by have:=E.1;have:=i.out;omega,fun h=>by rw[g.out (by have:=E.1;omega),E.2.2],hid ?_⟩;rw[o.out];refine⟨A8.setCell (fun _=>rfl) _,?_,by have h:=I.1;rw[M.out] at h;exact h⟩;rw[I.2.1,I.2.2,M.out,←hv_setFill G.out];exact Kh V.out _
      case measure=>simp only[q8];omega
     ·have Av:((fn:Int) == 64)=false:=by rw[beq_eq_false_iff_ne];omega
      have I:=hid (left_more (b:=J) F.left (by have:=M.out;have:=T.out;omega));go_wp2_with fail
      go_roundw
      case rel=>
        refine⟨p+n,Jj B f J,A2,c2,E.2.1,by rw[E.1],by have:=E.1;have:=i.out;omega,fun h=>by rw[g.out (by have:=E.1;omega),E.2.2],hid ?_⟩;rw[o.out];refine⟨S.out,?_,by have h:=I.1;rw[M.out] at h;exact h⟩;rw[I.2.1,I.2.2,M.out,Aa,T.out];exact H.out
      case measure=>simp only[q8];omega
    ·have i1:¬(0:Int)<((l.length - p:Nat):Int):=by omega
     obtain rfl:p=l.length:=by omega
     go_wp2_with fail
     go_end0
     rw[List.take_length] at F;exact⟨rfl,_,F.out⟩
def hashZ:List Value:=jB (st8 (0,0,0,0,0,0,0,0))++(idV (List.replicate 64 0)++[.int .i64 0,.int .i64 0])
theorem hv_one{S:St8}{rest:List UInt8}{f size:Nat}(h:rest.length=64):∀u∈hv S rest f size,u.oneCell'=true:=by
  intro u A;unfold hv at A;rcases List.mem_append.1 A with A|A
  ·exact Zy _ u A
  ·rcases List.mem_append.1 A with A|A
   ·exact kV _ u A
   ·simp only[List.mem_cons,List.not_mem_nil,or_false] at A;rcases A with rfl|rfl<;>rfl
theorem zeros_go{n k:Nat}(h:k≤jY n):(k<jY n↔(n+(k+1)) % 64≠56):=by
  unfold jY at *;omega
theorem lenS_take{n i:Nat}(hi:i<8):(lenS n).take (i+1)=(lenS n).take i++[UInt8.ofNat (n*8 / 2 ^ (56 - 8*i))]:=by
  unfold lenS;rw[←List.map_take,←List.map_take,List.take_range,List.take_range,Nat.min_eq_left yz,Nat.min_eq_left yz,List.range_succ,List.map_append];rfl
theorem u8_mod(n s:Nat):(Value.int .u8 ((UInt8.ofNat (n*8 / 2 ^ s)).toNat:Int))=.int .u8 ((n:Int)*8 / 2 ^ s % 256):=by
  rw[UInt8.toNat_ofNat']
  congr 1
theorem idV_snoc(l:List UInt8)(x:UInt8):idV (l++[x])=idV l++[.int .u8 (x.toNat:Int)]:=by simp [idV]
theorem own_bytes{w:World}{base n c:Nat}{A:Option Addr}{l:List UInt8}(h:w.ownsRow base 5 1 (.slice A n c) n (idV l)){z:Nat}{cs:List Value}{T:TypeId}(hz:w.heap[z]?=some (.cells cs.toArray T (0,0)))(hT:5≠T):
    0<l.length→∃b B,A=some ⟨b,B,none⟩∧b<w.heap.size∧b≠z∧∀j (hj:j<l.length),w.cell? ⟨b,B+j,none⟩=some (.int .u8 (j3 l j:Int)):=by
  intro J;have D:=Sl.of_own h;have K:l.length=n:=by have:=D.1;simpa [idV] using this
  obtain⟨b,B,rfl,E,G⟩:=D.2 yz;refine⟨b,B,rfl,E,fun e=>?_,fun j hj=>?_⟩
  ·have F:=own_not h hz hT;rcases h.2 with⟨C,L⟩|⟨g,H,I,C,_⟩
   ·cases C
   ·rw[C] at F;injection C with hv1 _ _;injection hv1 with hv1;injection hv1 with hb _ _;exact F (by rw[←e,hb];rfl)
  ·refine G j _ ?_;unfold idV j3;rw[List.getElem?_map,List.getElem?_eq_getElem hj,List.getD_eq_getElem?_getD,List.getElem?_eq_getElem hj];rfl
theorem ex_idx8{ρ:Operand→Value}{o:Oper}{w:World}(x y:Operand)(ho:o.op=.index 287 x y){xs:List Int}(hl:xs.length=8)(hx:ρ x=.agg (jB xs).toArray){t:Nat}(ht:t<8)(hy:ρ y=.int .i64 (t:Int)){V:Int}(hv:xs.getD t 0=V):
    (execOp ρ o).run prog w=.ok (.value (.int .u32 V)) w:=by
  have h:=Ku (l:=xs) (i:=t) yz;rw[hv] at h;obtain⟨i,B,A⟩:=Option.map_eq_some_iff.1 (show (prog.info? 262).map (·.size)=some 1 by kernel_rfl);unfold execOp;simp only[ho,hx,hy,Instr.index,asIntOf,run_underlying underlying287,Sem.run_bind,Result.andThen_ok,Sem.run_pure];simp only[show ((0:Int)≤(t:Int)∧(t:Int)<((8:Nat):Int)) from⟨by omega,by omega⟩,and_self,if_true];simp [part,isAgg,run_underlying underlying262,Sem.run_bind,Result.andThen,h,sizeOf,typeInfo,B,A]
theorem at_index{P:Program}{ops:Array Oper}{Q:Exit→Act→World→Prop}{rest:List Oper}{a:Act}{w:World}{d:Option Tmp}{t:TypeId}{p:String}{af:Array Edge}{g:Option (Nat×Bool)}{ty:TypeId}{x y:Operand}(h:wpList P ops Q ({ dst:=d,op:=.index ty x y,type:=t,pos:=p,after:=af,guard:=g}::rest) a w):wpList P ops Q ({ dst:=d,op:=.index ty x y,type:=t,pos:=p,after:=af,guard:=g}::rest) a w:=h
def outP(S:St8)(i:Nat):List UInt8:=(List.range 32).map fun k=>if k<4*i then (UA S).getD k 0 else 0
def b8(x:Int)(d:Nat):Value:=.int .u8 ((UInt8.ofNat (x.toNat / d)).toNat:Int)
theorem outP_length(S:St8)(i:Nat):(idV (outP S i)).length=32:=by simp [idV,outP]
theorem outP_set(S:St8){i:Nat}(hi:i<8):((((idV (outP S i)).toArray.setIfInBounds (4*i) (b8 ((st8 S).getD i 0) 16777216)).setIfInBounds (4*i+1) (b8 ((st8 S).getD i 0) 65536)).setIfInBounds (4*i+2) (b8 ((st8 S).getD i 0) 256)).setIfInBounds (4*i+3) (.int .u8 ((UInt8.ofNat ((st8 S).getD i 0).toNat).toNat:Int))=(idV (outP S (i+1))).toArray:=by
  match i,hi with
  | 0,_ | 1,_ | 2,_ | 3,_ | 4,_ | 5,_ | 6,_ | 7,_=>rfl
structure OutAt (w:World) (z:Nat) (S:St8) (i:Nat) (wx:World):Prop where
  but:But (fun k=>k=z) w wx
  row:wx.heap[z]?=some (.cells (idV (outP S i)).toArray 41 (0,0))
theorem OutAt.any{w:World}{z:Nat}{S:St8}{i:Nat}{wx:World}(h:OutAt w z S i wx){k:Nat}(hk:k<32):∃u,wx.cell? ⟨z,k,none⟩=some u:=
  ⟨(idV (outP S i))[k]'(by rw[outP_length];exact hk),(k4 h.row k).trans (List.getElem?_eq_getElem _)⟩
theorem OutAt.fr{w:World}{z:Nat}{S:St8}{i:Nat}{wx:World}(h:OutAt w z S i wx)(k:Nat):wx.frozen? ⟨z,k,none⟩=false:=frozen_of_row _ _ _ _ _ h.row
theorem OutAt.next{w:World}{z:Nat}{S:St8}{i:Nat}{wx:World}(h:OutAt w z S i wx)(hi:i<8):OutAt w z S (i+1) ((((wx.setCell ⟨z,4*i,none⟩ (b8 ((st8 S).getD i 0) 16777216)).setCell ⟨z,4*i+1,none⟩ (b8 ((st8 S).getD i 0) 65536)).setCell ⟨z,4*i+2,none⟩ (b8 ((st8 S).getD i 0) 256)).setCell ⟨z,4*i+3,none⟩ (.int .u8 ((UInt8.ofNat ((st8 S).getD i 0).toNat).toNat:Int))):=by
  refine⟨(((h.but.setCell (fun _=>rfl) _).setCell (fun _=>rfl) _).setCell (fun _=>rfl) _).setCell (fun _=>rfl) _,?_⟩;rw[←outP_set S hi];exact Kh (Kh (Kh (Kh h.row _) _) _) _
theorem b8_mid{X:Int}{d:Nat}(h:0≤X):Value.int .u8 (X / (d:Int) % 256)=b8 X d:=by
  obtain⟨x,rfl⟩:=Int.eq_ofNat_of_zero_le h;unfold b8;rw[Int.toNat_natCast,UInt8.toNat_ofNat'];rfl
theorem b8_top{X:Int}(h:0≤X)(h2:X≤4294967295):Value.int .u8 (X / 16777216)=b8 X 16777216:=by
  rw[←b8_mid h]
  congr 1
  show X / 16777216=X / 16777216 % 256;omega
theorem b8_low{X:Int}(h:0≤X):Value.int .u8 (X % 256)=.int .u8 ((UInt8.ofNat X.toNat).toNat:Int):=by
  obtain⟨x,rfl⟩:=Int.eq_ofNat_of_zero_le h;rw[Int.toNat_natCast,UInt8.toNat_ofNat'];rfl
theorem hashSum_any(z:Nat)(D rest:List UInt8)(w wz:World)(h:HashAt wz z D rest D.length w)(hD:D.length≤1099511627776)(hg:ShaG w):
    Calls prog 153 #[.pointer (some ⟨z,0,none⟩)] w fun e w'=>e=.returned (.agg (idV (ZJ D)).toArray)∧Below w.heap.size w w':=by
  have G:=hid h.left;have A7:=hid h.row;have O:=hid h.lt;have HG:=hid hg
  clear h hg;go_enter func153,ntmps153
  go_upto_region 3 with (first
    |(with_reducible refine kA ?_
      refine ks yx 41 rfl (List.replicate 32 (.int .u8 0)) yy ?_;intro W0 Aq Ar As;have I:=hid Aq;have f:=hid Ar;have P:=hid As
      clear Aq Ar As))
  have Q:=hid ((I.block z O.out).trans A7.out)
  go_upto_region 4 with (first
    |(with_reducible refine k6 ?_
      refine k5 yx (kc 324 _ rfl (p:=⟨z,0,none⟩) rfl (qV _ _ _ _ (hv (jU D firstS (D.length / 64)) rest (D.length % 64) D.length) _ (fun j u y=>by rw[qZ];exact(k4 Q.out j).trans y) underlying324 rfl (by rw[Uq G.1];kernel_rfl))) ?_)
    |(with_reducible refine kA ?_
      refine ks yx 324 rfl hashZ yy ?_;intro W2 At Au Av;have R:=hid At;have g:=hid Au;have l:=hid Av
      clear At Au Av)
    |(with_reducible refine kw ?_
      refine ko yx 324 _ _ rfl W0.heap.size 0 [] hashZ [] (hv (jU D firstS (D.length / 64)) rest (D.length % 64) D.length) 324 (.agg (hv (jU D firstS (D.length / 64)) rest (D.length % 64) D.length).toArray) rfl rfl rfl rfl (by simpa using g.out) (by rw[Uq G.1];rfl) (by rw[Uq G.1];kernel_rfl) (hv_one G.1) ?_;intro H A3 Aw Ax;have K:=hid (R.trans (A3.below R.size (fun k hk e=>by have e':k=W0.heap.size:=e;omega)));have T:Hid (H.heap[W0.heap.size]?=some (.cells (hv (jU D firstS (D.length / 64)) rest (D.length % 64) D.length).toArray 324 (0,0))):=hid (by simpa using Aw);have n:=hid Ax;clear A3 Aw Ax))
  obtain⟨N,An⟩:∃x,w.heap.size=x:=⟨_,rfl⟩;obtain⟨b,Ay⟩:∃x,W0.heap.size=x:=⟨_,rfl⟩;have J:=hid (I.trans (K.mono I.size));have B:=hid (show w.heap.size=N∧N<b∧b<H.heap.size∧z<N by have:=P.out;have:=l.out;have:=n.out;have:=O.out;omega);have A8:Hid (H.heap[N]?=some (.cells (List.replicate 32 (.int .u8 0)).toArray 41 (0,0))):=hid (by rw[←An];exact(K.block _ (by have:=P.out;omega)).trans f.out);rw[Ay] at T ⊢;rw[An]
  try go_frame
  have Aa:=hid ((K.block z (qL O.out I.size)).trans Q.out);clear An Ay f g R P l n I K Q
  go_upto_region 5 with fail
  have o:=hid (World.ownsRow_lit (e:=5) (size:=1) H #[.int .u8 128] 1 (qR _) yk rfl);have q:=hid (show Below H.heap.size H (H.alloc (.cells #[.int .u8 128] 5)) from (qB _ _).alloc (qR _) _);have AH:jY D.length≤63:=by unfold jY;omega
  go_loopw [4] (fun t4 wr=>∃(k:Nat) (A:Option Addr) (c:Nat),k≤jY D.length∧t4=.slice A (k+1) c∧Hid (wr.ownsRow H.heap.size 5 1 (.slice A (k+1) c) (k+1) (idV (128::List.replicate k 0)))∧Hid (Below H.heap.size H wr)) (fun t4 _=>100 - q8 t4)
  case atStart=>exact⟨0,_,_,Nat.zero_le _,rfl,o,q⟩
  case round=>
    clear o q;obtain⟨k,A,c,hk,rfl,C,E⟩:=hrel;have AI:wr.cell? ⟨z,73,none⟩=some (.int .i64 (D.length:Int)):=(E.cell (p:=⟨z,73,none⟩) (show z<H.heap.size by have:=B.out;omega)).trans ((k4 Aa.out 73).trans (hv_size G.1));have A4:=zeros_go hk;by_cases hlt:k<jY D.length
    ·have Ao:=A4.1 hlt;have AM:((((D.length:Int)+((k:Int)+1)) % 64) != 56)=true:=by rw[bne_iff_ne];omega
     clear A4 Ao;have A3:=E.size
     go_wp2_with (at_builtin;refine J3 rfl _ _ 169 rfl H.heap.size 5 (.int .u8 0) 1 underlying169 jg rfl _ _ _ rfl C.out _ _ rfl rfl ?c1 ?c2 ?c3 ?_)
     case c1=>unfold maxLen;omega
     case c2=>omega
     case c3=>omega
     intro v9 w9 a A0;obtain⟨A9,c9,rfl⟩:=kO a;have U:=hid a;have V:=hid (A0 H.heap.size H (qR _) E.out);clear a A0;go_wp2_with fail
     go_roundw
     case rel=>
       refine⟨k+1,A9,c9,by omega,rfl,hid ?_,V⟩;rw[List.replicate_succ',←List.cons_append,uo];exact U.out
     case measure=>simp only[q8];omega
    ·obtain rfl:k=jY D.length:=by omega
     have Ao:((((D.length:Int)+((jY D.length:Int)+1)) % 64) != 56)=false:=by
       rw[bne_eq_false_iff_eq];have h:=(not_congr A4).1 yz;omega
     clear A4;have Ab:=hid AH
     go_upto_region 9 with fail
     clear AI Ao
     go_loopw [36,4] (fun t36 t4 wr=>∃(i:Nat) (A:Option Addr) (c:Nat),i≤8∧t36=.int .i64 (i:Int)∧t4=.slice A (jY D.length+1+i) c∧Hid (wr.ownsRow H.heap.size 5 1 (.slice A (jY D.length+1+i) c) (jY D.length+1+i) (idV (128::List.replicate (jY D.length) 0++(lenS D.length).take i)))∧Hid (Below H.heap.size H wr)) (fun t36 _ _=>8 - (intOf t36).toNat)
     case atStart=>exact⟨0,A,c,Nat.zero_le _,rfl,rfl,by rw[List.take_zero,List.append_nil];exact C,E⟩
     case round=>
       clear C E;obtain⟨i,A,c,hi,rfl,rfl,C,E⟩:=hrel;have A3:=E.size;by_cases hlt:i<8
       ·have i8:(i:Int)<8:=by omega
        obtain⟨s,hs⟩:∃s,56 - 8*i=s:=⟨_,rfl⟩;have es:56 - 8*(i:Int)=(s:Int):=by omega
        have AL:s≤56:=by omega
        have Ac:=hid hs;clear hs
        go_wp2_with (at_builtin;refine J3 rfl _ _ 169 rfl H.heap.size 5 (.int .u8 0) 1 underlying169 jg rfl _ _ _ rfl C.out _ _ rfl rfl ?c1 ?c2 ?c3 ?_)
        case c1=>unfold maxLen;omega
        case c2=>omega
        case c3=>omega
        intro v9 w9 a A0;obtain⟨A9,c9,rfl⟩:=kO a;have U:=hid a;have V:=hid (A0 H.heap.size H (qR _) E.out);clear a A0;go_wp2_with fail
        go_roundw
        case rel=>
          refine⟨i+1,A9,c9,by omega,by go_num,rfl,hid ?_,V⟩;have h:=U.out;rw[←u8_mod,←idV_snoc] at h;rw[lenS_take hlt,Ac.out,←List.append_assoc];exact h
        case measure=>(simp [intOf])<;>omega
       ·obtain rfl:i=8:=by omega
        have i8:¬((8:Nat):Int)<8:=by omega
        obtain⟨TL,A5⟩:∃TL,(128::List.replicate (jY D.length) 0++(lenS D.length).take 8:List UInt8)=TL:=⟨_,rfl⟩;have Ad:=hid (show D++TL=Uz D by rw[←A5];rfl);have A6:TL.length=jY D.length+1+8:=by rw[←A5];simp [lenS]
        rw[A5,←A6] at C;rw[←A6];have Ae:=hid A6;clear A5 A6;have Af:=hid (own_bytes C.out (E.block b (by have:=B.out;omega)|>.trans T.out) yv);have Ag:=hid (HG.next (J.trans (E.mono J.size)));have Ah:=hid (show 2≠b∧1≠b by have h1:=Zl (HG.1 0 yv);have h2:=Zl (HG.2 0 yv);have:=B.out;omega);have Ai:=hid (own_cap8 C.out);have AG:TL.length≤1099511627776:=by rw[Ae.out];have:=Ab.out;omega
        go_upto_region 15 with (first
          |(go_at_call 152;refine(write_any b D rest D.length TL A c wr ⟨But.refl _ _,(E.block b (by have:=B.out;omega)).trans T.out,G.out⟩ Ai.out AG yz Af.out Ag.out Ah.out).mono ?_;rintro e w5 ⟨rfl,AK,Az⟩;have F:=hid Az;clear Az)
          |(with_reducible refine kA ?_
            refine ks yx 41 rfl (List.replicate 32 (.int .u8 0)) yy ?_;intro W4 AA AB AC;have L:=hid AA;have W:=hid AB;have r:=hid AC
            clear AA AB AC))
        obtain⟨S,hS⟩:∃S,jU (Uz D) firstS ((Uz D).length / 64)=S:=⟨_,rfl⟩;have HS:=hid hS;have Aj:Hid S.ok:=hid (hS▸ok_hash Q4 _);have Y:Hid (∃tl:List Value,W4.heap[b]?=some (.cells (jB (st8 S)++tl).toArray 324 (0,0))):=hid ⟨_,by rw[←hS,←Ad.out];exact(L.block b F.lt).trans F.row⟩;have Z:=hid ((J.trans (E.mono J.size)).trans ((F.but.andBelow L.out).below (qT J.size E.size) fun k hk e=>by have:=B.out;omega));have A1:=hid ((L.block N (qL (by have:=B.out;omega) (qT E.size F.but.size))).trans ((F.but.block N (qL (by have:=B.out;omega) E.size) (by have:=B.out;omega)).trans ((E.block N (by have:=B.out;omega)).trans A8.out)));obtain⟨zo,AD⟩:∃x,w5.heap.size=x:=⟨_,rfl⟩;have M:=hid (show N<zo∧zo<W4.heap.size by have h1:=F.but.size;have h2:=E.size;have h3:=B.out;have h4:=r.out;omega);rw[AD] at W ⊢
        try go_frame
        have v:Hid (OutAt W4 zo S 0 W4):=hid ⟨But.refl _ _,W.out⟩;clear hS AD r W L F C E;obtain⟨tl,Ap⟩:=Y.out;have Y:=hid Ap;clear Ap
        go_upto_region 16 with (first|(with_reducible refine k6 ?_
                                       refine k5 yx (kc 287 _ rfl (p:=⟨b,0,none⟩) rfl (qV _ _ _ _ (jB (st8 S)) _ (fun j u y=>by rw[qZ];exact(k4 Y.out j).trans ((List.getElem?_append_left (List.getElem?_eq_some_iff.1 y).1).trans y)) underlying287 rfl yy)) ?_))
        go_loopw [53] (fun t53 wr=>∃i:Nat,i≤8∧t53=.int .i64 (i:Int)∧Hid (OutAt W4 zo S i wr)) (fun t53 _=>8 - (intOf t53).toNat)
        case atStart=>exact⟨0,by omega,rfl,v⟩
        case round=>
          clear v;obtain⟨i,hi,rfl,C⟩:=hrel;by_cases hlt:i<8
          ·have i8:(i:Int)<8:=by omega
           obtain⟨X,hX⟩:∃x,(st8 S).getD i 0=x:=⟨_,rfl⟩;obtain⟨X0,X1⟩:0≤X∧X≤4294967295:=hX▸Kq Aj.out i hlt;have HX:=hid hX;clear hX;obtain⟨m,hm⟩:∃m,4*i=m:=⟨_,rfl⟩;have e4:4*(i:Int)=(m:Int):=by omega
           have AN:m+3<32:=by omega
           have HM:=hid hm;obtain⟨u0,q0⟩:=C.any (k:=m) yz;obtain⟨u1,q1⟩:=C.any (k:=m+1) yz;obtain⟨u2,q2⟩:=C.any (k:=m+2) yz;obtain⟨u3,q3⟩:=C.any (k:=m+3) yz;have f0:=C.fr m;have f1:=C.fr (m+1);have f2:=C.fr (m+2);have f3:=C.fr (m+3);clear hm
           go_wp2_with (first|(with_reducible refine at_index ?_
                               refine k5 yx (ex_idx8 _ _ rfl (xs:=st8 S) rfl rfl (t:=i) hlt rfl HX.out) ?_))
           go_roundw
           case rel=>
             refine⟨i+1,by omega,by go_num,hid ?_⟩;have h:=C.next hlt;rw[HX.out,HM.out] at h;rw[b8_top X0 X1,b8_low X0,show Value.int .u8 (X / 65536 % 256)=b8 X 65536 from b8_mid (d:=65536) X0,show Value.int .u8 (X / 256 % 256)=b8 X 256 from b8_mid (d:=256) X0];exact h
           case measure=>(simp [intOf])<;>omega
          ·obtain rfl:i=8:=by omega
           have i8:¬((8:Nat):Int)<8:=by omega
           have A2:Hid (wr.heap[zo]?=some (.cells (idV (UA S)).toArray 41 (0,0))):=hid C.row;have Ak:=hid ((C.but.block N (Nat.lt_trans M.1 M.2) (by have:=M.out;omega)).trans A1.out)
           go_wp2_with (first
             |(with_reducible refine k6 ?_
               refine k5 yx (kc 41 _ rfl (p:=⟨zo,0,none⟩) rfl (qV _ _ _ _ (idV (UA S)) _ (fun j u y=>by rw[qZ];exact(k4 A2.out j).trans y) underlying41 rfl yy)) ?_)
             |(with_reducible refine kw ?_
               refine ko yx 41 _ _ rfl N 0 [] (List.replicate 32 (.int .u8 0)) [] (idV (UA S)) 41 (.agg (idV (UA S)).toArray) rfl rfl rfl rfl (by simpa using Ak.out) rfl yy (kV _) ?_;intro W6 AE AF AJ;have Al:=hid AE;have Am:Hid (W6.heap[N]?=some (.cells (idV (UA S)).toArray 41 (0,0))):=hid (by simpa using AF);clear AE AF AJ))
           refine bodyPost_ret (jk results153 _ _ rfl (qV _ N 0 41 (idV (UA S)) _ (fun j u y=>by rw[qZ];exact(k4 Am.out j).trans y) underlying41 rfl yy)) rfl ?_;refine⟨by unfold ZJ;rw[HS.out],Z.trans ((C.but.below Z.size (fun k hk e=>by have:=M.out;have:=B.out;omega)).trans (Al.below (qT Z.size C.but.size) fun k hk e=>by have:=B.out;omega))⟩
theorem hash_built(w:World):(Instr.build 324 #[(0,.agg (jB (st8 firstS)).toArray)]).run prog w=.ok (.agg (hv firstS (List.replicate 64 0) 0 0).toArray) w:=by kernel_rfl
theorem first_cell{w:World}(h:ShaG w){j:Nat}{u:Value}(hj:(jB (st8 firstS))[j]?=some u):w.cell? ⟨1,j,none⟩=some u:=by
  have A:j<8:=(List.getElem?_eq_some_iff.1 hj).1;rw[h.1 j A,←hj,Ku (l:=st8 firstS) A]
theorem new_any(w:World)(hg:ShaG w):Calls prog 151 #[] w fun e w'=>e=.returned (.pointer (some ⟨w.heap.size,0,none⟩))∧Below w.heap.size w w'∧HashAt w' w.heap.size [] (List.replicate 64 0) 0 w':=by
  have F:=hid hg;clear hg;go_enter func151,ntmps151
  go_wp2_with (first
    |(with_reducible refine k6 ?_
      refine k5 yx (kc 287 _ rfl (p:=⟨1,0,none⟩) rfl (qV _ _ _ _ (jB (st8 firstS)) _ (fun j u G=>by rw[qZ];exact first_cell F.out G) underlying287 rfl yy)) ?_)
    |(with_reducible refine kJ ?_
      refine k5 yx (kj 324 #[(0,.tmp 1)] rfl (by simp only[List.map_toArray,List.map_cons,List.map_nil];exact hash_built _)) ?_)
    |(with_reducible refine kB ?_
      refine kr yx 324 _ rfl (hv firstS (List.replicate 64 0) 0 0) (.agg (hv firstS (List.replicate 64 0) 0 0).toArray) rfl rfl yy ?_;intro I C D E;have A:=hid C;have B:=hid D;have H:=hid E
      clear C D E))
  go_ret;exact⟨rfl,A.out,⟨But.refl _ _,B.out,⟨rfl,fun j G=>by simp at G⟩⟩⟩
theorem src_bytes{w:World}{B z:Nat}{A:Option Addr}{l:List UInt8}(h:Sl w B A l.length 1 (idV l))(hz:z≥B)(hB:B≤w.heap.size):0<l.length→∃b C,A=some ⟨b,C,none⟩∧b<w.heap.size∧b≠z∧∀j (hj:j<l.length),w.cell? ⟨b,C+j,none⟩=some (.int .u8 (j3 l j:Int)):=by
  intro D;obtain⟨b,C,rfl,F,E⟩:=h.2 D;refine⟨b,C,rfl,by omega,by omega,fun j hj=>E j _ ?_⟩;unfold idV j3;rw[List.getElem?_map,List.getElem?_eq_getElem hj,List.getD_eq_getElem?_getD,List.getElem?_eq_getElem hj];rfl
theorem shaSum_any(l:List UInt8)(A:Option Addr)(c bp op cp:Nat)(w:World)(hc:l.length≤c)(hl:l.length≤1099511627776)(hbp:bp<w.heap.size)(hp:w.cell? ⟨bp,op,none⟩=some (.slice A l.length c))(hs:Sl w w.heap.size A l.length 1 (idV l))(hg:ShaG w):
    Calls prog 92 #[.slice (some ⟨bp,op,none⟩) 1 cp] w fun e w'=>e=.returned (.agg (idV (ZJ l)).toArray)∧Below w.heap.size w w':=by
  have y:=hid hp;have S:=hid hs;have F:=hid hg
  clear hp hs hg;go_enter func92,ntmps92
  go_upto_region 1 with (first
    |(with_reducible refine kA ?_
      refine ks yx 41 rfl (List.replicate 32 (.int .u8 0)) yy ?_;intro W0 f g m;have G:=hid f;have N:=hid g;have H:=hid m
      clear f g m))
  go_upto_region 3 with (first
    |(go_at_call 151;refine(new_any W0 (F.next G.out)).mono ?_;rintro e Z ⟨rfl,n,o⟩;have O:=hid n;have D:=hid o
      clear n o))
  obtain⟨Q,a⟩:∃x,w.heap.size=x:=⟨_,rfl⟩;obtain⟨M,r⟩:∃x,W0.heap.size=x:=⟨_,rfl⟩;have E:=hid (G.trans (O.mono G.size));have B:=hid (show w.heap.size=Q∧Q<M∧M<Z.heap.size by have h1:=H.out;have h2:=D.lt;omega);have T:Hid (Z.heap[Q]?=some (.cells (List.replicate 32 (.int .u8 0)).toArray 41 (0,0))):=hid (by rw[←a];exact(O.block _ (by have:=H.out;omega)).trans N.out);rw[r] at D ⊢;rw[a]
  try go_frame
  clear N H a r
  go_loopw [9] (fun t9 wr=>∃i:Nat,i≤1∧t9=.int .i64 (i:Int)∧Hid (i=0→HashAt Z M [] (List.replicate 64 0) 0 wr)∧Hid (i=1→∃rest,HashAt Z M ([]++l) rest (0+l.length) wr)) (fun t9 _=>1 - (intOf t9).toNat)
  case atStart=>exact⟨0,by omega,rfl,hid (fun _=>D.out),hid (fun h=>absurd h yv)⟩
  case round=>
    clear D;obtain⟨i,hi,rfl,z,H1⟩:=hrel;by_cases hlt:i<1
    ·obtain rfl:i=0:=by omega
     have i8:((0:Nat):Int)<1:=by omega
     have L:=hid (z.out rfl);have C:=hid (E.trans (L.but.below E.size fun k hk e=>by have:=B.out;omega));have I:=hid (F.next C.out);have U:=hid (show 2≠M∧1≠M by have h1:=Zl (F.1 0 yv);have h2:=Zl (F.2 0 yv);have:=B.out;omega);have V:=hid (src_bytes (S.keep C.out) (show M≥w.heap.size by have:=B.out;omega) C.size);have qp:wr.cell? ⟨bp,op,none⟩=some (.slice A l.length c):=(C.cell (p:=⟨bp,op,none⟩) hbp).trans y.out
     go_wp2_with (first
       |(go_at_call 152;refine(write_any M [] (List.replicate 64 0) 0 l A c wr ⟨But.refl _ _,L.row,L.left⟩ hc hl yz V.out I.out U.out).mono ?_;rintro e w5 ⟨rfl,b,s⟩;have J:=hid s;clear s))
     go_roundw
     case rel=>exact⟨1,by omega,rfl,hid (fun h=>absurd h yv),hid (fun _=>⟨b,L.but.trans J.but fun _ _ q=>q,J.row,J.left⟩)⟩
     case measure=>(simp [intOf])<;>omega
    ·obtain rfl:i=1:=by omega
     have i8:¬((1:Nat):Int)<1:=by omega
     obtain⟨rest,d⟩:=H1.out rfl;have HL:=hid d;have C:=hid (E.trans (d.but.below E.size fun k hk e=>by have:=B.out;omega));have I:=hid (F.next C.out);have P:=hid ((d.but.block Q (by have:=B.out;omega) (by have:=B.out;omega)).trans T.out);have t:=(qX P.out);have W:=hid t;clear d t
     go_wp2_with (first
       |(go_at_call 153;refine(hashSum_any M l rest wr Z (by have h:=HL.out;rw[qZ,List.nil_append] at h;exact h) hl I.out).mono ?_;rintro e w6 ⟨rfl,R⟩;have K:=hid R;clear R)
       |(with_reducible refine kw ?_
         refine ko yx 41 _ _ rfl Q 0 [] (List.replicate 32 (.int .u8 0)) [] (idV (ZJ l)) 41 (.agg (idV (ZJ l)).toArray) rfl rfl rfl rfl (by simpa using ((K.block Q W.out).trans P.out)) rfl yy (kV _) ?_;intro W6 R v A0;have X:=hid R;have Y:Hid (W6.heap[Q]?=some (.cells (idV (ZJ l)).toArray 41 (0,0))):=hid (by simpa using v);clear R v A0))
     refine bodyPost_ret (jk results92 _ _ rfl (qV _ Q 0 41 (idV (ZJ l)) _ (fun j u hj=>by rw[qZ];exact(k4 Y.out j).trans hj) underlying41 rfl yy)) rfl ?_;exact⟨rfl,C.trans ((K.mono C.size).trans (X.below (qT C.size K.size) fun k hk e=>by have:=B.out;omega))⟩
end

section
open Go.RowKit Go.Maps
open Lib (hid)
def JL(o:ZT):Int:=if zk o=true then (if 262144<(J5 o).length then 2 else 0) else 1
def idD(o:ZT):List UInt8:=if JL o=0 then ZJ (J5 o) else List.replicate 32 0
theorem UI(o:ZT)(v:Value)(w:World)(h:ObjIn w w.heap.size v o)(hl1:o.2.1.2.1.length≤1099511627776)(hl2:o.2.1.2.2.2.length≤1099511627776)(hl3:o.2.2.1.length≤1099511627776)(hl4:o.2.2.2.1.length≤1099511627776)(hone:RowKit.Hid (o.1=1)):
    Calls prog 103 #[v] w fun e w'=>Below w.heap.size w w'∧JT o e w':=by
  obtain⟨Y,rfl,P,Q⟩:=h.ten;have K:=hid h;have C:=hid P;have X:=hid Q
  clear h P Q;go_enter func103,ntmps103
  go_upto_region 1 with (first
    |(with_reducible refine kB ?_
      refine kr yx 70 _ rfl Y (.agg (Y).toArray) rfl rfl (by rw[C.out];kernel_rfl) ?_;intro W R S T;have A:=hid R;have D:=hid S;have H:=hid T
      clear R S T))
  have G:=hid ((K.keep A.out).more A.size);obtain⟨z,Z⟩:∃z,w.heap.size=z:=⟨_,rfl⟩;have L:=hid (show z<W.heap.size by have:=H.out;omega);rw[Z] at D ⊢
  try go_frame
  clear Z H;rcases Bool.eq_false_or_eq_true (zk o) with O|O
  rotate_left
  ·have B:=hid O;clear O
   go_wp2_with (first
     |(with_reducible refine k6 ?_
       refine k5 yx (kc 70 _ rfl (p:=⟨z,0,none⟩) rfl (vf D.out C.out)) ?_)
     |(go_at_call 161;refine(qY o _ W G.out hl1 hl2 hl3 hl4 hone).mono ?_;rintro e a ⟨F,rfl⟩;rw[B.out];have E:=hid (A.trans (F.mono A.size));clear F))
   go_ret2;exact⟨E.out,by unfold JT;rw[B.out];rfl⟩
  ·have B:=hid O;clear O
   go_upto_region 3 with (first
     |(with_reducible refine k6 ?_
       refine k5 yx (kc 70 _ rfl (p:=⟨z,0,none⟩) rfl (vf D.out C.out)) ?_)
     |(go_at_call 161;refine(qY o _ W G.out hl1 hl2 hl3 hl4 hone).mono ?_;rintro e a ⟨F,rfl⟩;rw[B.out];have E:=hid (A.trans (F.mono A.size));have M:=hid ((F.block z L.out).trans D.out);have N:=hid ((G.keep F).more F.size);clear F))
   go_upto_region 4 with (first
     |(with_reducible refine k6 ?_
       refine k5 yx (kc 70 _ rfl (p:=⟨z,0,none⟩) rfl (vf M.out C.out)) ?_)
     |(go_at_call 162;refine(refBytesO_any o _ a N.out B.out hone).mono ?_;rintro e d ⟨U,Ay,b,rfl,V⟩;have I:=hid (E.trans (U.mono E.size));have J:=hid V
       clear U V))
   by_cases hlong:262144<(J5 o).length
   ·have c:(262144:Int)<((J5 o).length:Int):=by omega
    go_wp2_with fail;go_ret2;exact⟨I.out,by unfold JT;rw[if_pos B.out,if_pos hlong];rfl⟩
   ·have c:¬(262144:Int)<((J5 o).length:Int):=by omega
    go_wp2_with fail;go_ret2;exact⟨I.out,by unfold JT;rw[if_pos B.out,if_neg hlong];exact⟨Ay,b,rfl,Sl.of_own J.out,own_cap8 J.out⟩⟩
end
section
open Go.RowKit Go.Maps
def encC(c:kQ):Int:=JL (1,c,kK)
def idC(c:kQ):List UInt8:=idD (1,c,kK)
def DocsIx(S:kz):Prop:=∀x∈S.1,RunIx x.2
theorem DocsIx.do{S:kz}(h:DocsIx S)(i:List UInt8)(t:Int)(place next:Nat)(x:OpD):DocsIx (JP S i t place next x):=by
  have A:∀(k:kF) (d:List kX) (r:List kS×List (List UInt8×vE)),RunIx d→DocsIx (zN S.1 k d,r):=fun k d r C y D=>by
    rcases Z6 D with D|rfl
    ·exact h y D
    ·exact C
  unfold JP
  split
  ·exact A _ _ _ fun r E=>by cases E
  ·split
   ·exact h
   ·split
    ·exact h
    ·rename_i d C;have B:=h _ (vR C)
     split
     ·exact A _ _ _ (B.insert _ _ _ _)
     ·split
      ·exact A _ _ _ (B.delete _ _)
      ·exact h
structure Qy (S:kz) (x:OpD):Prop where
  fin:KR x
  doc:RefIx S x.2.1
  at':RefIx S x.2.2.1
  small:x.2.2.2.1.size≤1073741824
  text:KO x.2.2.2.1=true
  count:x.2.2.2.2.1≤1099511627776
  kind:x.1=1∨x.1=3∨x.1=4∨x.1=5
def mkN(l:List OpD):Nat:=(l.map fun x=>1+jV x.2.2.2.1).sum
structure Q6 (S:kz) (q:j5) (c:kQ):Prop where
  ok:Zt c
  ops:∀x∈c.2.2.2,KR x
  author:c.2.2.1.size≤maxLen
  deps:c.2.1.length≤1073741824
  len:c.2.2.2.length≤1048576
  fine:encC c=0→∀x∈c.2.2.2,Qy S x
  made:mkN c.2.2.2≤1073741824
  nd:q.nd+c.2.2.2.length≤1073741824
  chg:S.2.2.length≤1073741824
  ix:DocsIx S
  le:∃c0 t0,StateLe S c0 t0∧c0+c.2.2.2.length≤1073741824∧t0+ve c.2.2.2≤1073741820
structure AddMid (W:World) (b4 b5 ze n0:Nat) (i:List UInt8) (c:kQ) (A1:Option Addr) (c1:Nat) (A2:Option Addr) (c2:Nat):Prop where
  id:W.heap[b4]?=some (.cells (idV i).toArray 41 (0,0))
  chg:W.heap[b5]?=some (.cells [.int .i64 c.1,.slice A1 c.2.1.length c1,.string c.2.2.1,.slice A2 c.2.2.2.length c2].toArray 37 (0,0))
  err:W.heap[ze]?=some (.cells [.int .i64 0].toArray 29 (0,0))
  ids:W.ownsRow n0 41 32 (.slice A1 c.2.1.length c1) c.2.1.length (zf c.2.1)
  ops:W.ownsRow n0 112 70 (.slice A2 c.2.2.2.length c2) c.2.2.2.length (ke opV c.2.2.2)
def midTag(t:TypeId):Bool:=t == 41 || t == 37 || t == 29 || t == 112
theorem AddMid.but{X:Nat→Prop}{W W':World}{b4 b5 ze n0:Nat}{i:List UInt8}{c:kQ}{A1 A2:Option Addr}{c1 c2:Nat}(h:AddMid W b4 b5 ze n0 i c A1 c1 A2 c2)(hb:But X W W')(hx:∀k,X k→∀A t fr,W.heap[k]?=some (.cells A t fr)→midTag t=false):AddMid W' b4 b5 ze n0 i c A1 c1 A2 c2:=by
  have B:∀{k:Nat} {A:Array Value} {t:TypeId} {fr:Nat×Nat},W.heap[k]?=some (.cells A t fr)→midTag t=true→¬X k:=fun C F D=>by
    have:=hx _ D _ _ _ C;rw[F] at this;cases this
  refine⟨(hb.block b4 (qX h.id) (B h.id yv)).trans h.id,(hb.block b5 (qX h.chg) (B h.chg yv)).trans h.chg,(hb.block ze (qX h.err) (B h.err yv)).trans h.err,hb.own h.ids fun g E D=>?_,hb.own h.ops fun g E D=>?_⟩
  ·obtain⟨A,C⟩:=kE h.ids E;exact B C yv D
  ·obtain⟨A,C⟩:=kE h.ops E;exact B C yv D
theorem AddMid.keep{W W':World}{b4 b5 ze n0:Nat}{i:List UInt8}{c:kQ}{A1 A2:Option Addr}{c1 c2:Nat}(h:AddMid W b4 b5 ze n0 i c A1 c1 A2 c2)(hb:Below W.heap.size W W'):AddMid W' b4 b5 ze n0 i c A1 c1 A2 c2:=h.but (X:=NoB) (But.of_below hb) fun k A=>A.elim
theorem fit_any(B0 B a s:Nat)(S:kz)(q:j5)(i:List UInt8)(c:kQ)(dv ov:Value)(Am:Option Addr)(cm:Nat)(mk:List zE)(x:OpD)(w:World)(h:MidAt w B a s S q i c dv ov Am cm mk)(hrow:w.ownsRow B0 199 35 (.slice Am mk.length cm) mk.length (ke kY mk))(hB0:B0≤w.heap.size)(hlm:mk.length≤1073741824)(htm:(Lit.int .i64 c.1).wf=true)(hx:Qy S x):
    Calls prog 52 #[.pointer (some ⟨a,0,none⟩),.agg (opV x).toArray] w (FitGives S w a s B0 i c dv ov (.slice Am mk.length cm) mk x):=by
  by_cases h3:x.1=3
  ·exact fit_create B0 B a s S q i c dv ov Am cm mk x w h hrow hB0 hx.fin hlm h3
  ·exact fit_other B0 B a s S q i c dv ov Am cm mk x w h hrow hB0 hx.fin hlm h3 htm hx.doc hx.at' hx.small hx.text hx.count
theorem QY(S:kz)(i:List UInt8)(t:Int)(x:OpD):∀(l:List OpD) (m0:List zE),KQ S i t m0 (l++[x])=(KQ S i t m0 l).bind fun p=>(KU S i t p.1 x).map fun mk2=>(mk2,p.2++[p.1.length])
  | [],m0=>by
    show KQ S i t m0 (x::[])=(KU S i t m0 x).map fun mk2=>(mk2,[m0.length])
    conv=>lhs;unfold KQ
    cases KU S i t m0 x<;>rfl
  |y::l,m0=>by
   rw[List.cons_append]
   conv=>lhs;unfold KQ
   conv=>rhs;unfold KQ
   cases KU S i t m0 y with
   |none=>rfl
   |some mk2=>
    dsimp only;rw[QY S i t x l mk2];cases KQ S i t mk2 l with
    |none=>rfl
    |some p=>
     simp only[Option.bind_some,Option.map_some];cases KU S i t p.1 x with
     |none=>rfl
     |some mk3=>rfl
theorem QZ(S:kz)(i:List UInt8)(t:Int):∀(l l2:List OpD) (m0:List zE),KQ S i t m0 l=none→KQ S i t m0 (l++l2)=none
  | [],l2,m0,h=>by cases h
  |y::l,l2,m0,h=>by
   rw[List.cons_append];unfold KQ at h ⊢;cases hf:KU S i t m0 y with
   |none=>rfl
   |some mk2=>
    rw[hf] at h;dsimp only at h ⊢;rw[Option.map_eq_none_iff] at h;rw[QZ S i t l l2 mk2 h];rfl
theorem fitAt_len{S:kz}{i:List UInt8}{t:Int}{mk mk2:List zE}{x:OpD}(h:KU S i t mk x=some mk2):mk2.length≤mk.length+(1+jV x.2.2.2.1)∧∀m∈mk2,m∈mk∨m.2=(0,k7,0)∨m.2=jy S i t x.2.1:=by
  unfold KU at h
  split at h
  ·cases h
   refine⟨by rw[List.length_append,List.length_singleton];omega,fun m A=>?_⟩;rcases List.mem_append.1 A with A|A
   ·exact .inl A
   ·rw[List.mem_singleton.1 A];exact .inr (.inl rfl)
  ·split at h
   ·cases h
   ·split at h
    ·cases h
    ·split at h
     ·split at h
      ·cases h;exact⟨by omega,fun m A=>.inl A⟩
      ·cases h
     ·split at h
      ·split at h
       ·cases h
        refine⟨by rw[List.length_append,List.length_replicate];omega,fun m A=>?_⟩;rcases List.mem_append.1 A with A|A
        ·exact .inl A
        ·rw[(List.mem_replicate.1 A).2];exact .inr (.inr rfl)
       ·cases h
      ·cases h;exact⟨by omega,fun m A=>.inl A⟩
theorem mkN_snoc(l:List OpD){j:Nat}(hj:j<l.length):mkN (l.take (j+1))=mkN (l.take j)+(1+jV l[j].2.2.2.1):=by
  unfold mkN;rw[List.take_succ_eq_append_getElem hj,List.map_append,List.sum_append];simp
theorem mkN_le(l:List OpD)(j:Nat):mkN (l.take j)≤mkN l:=by
  unfold mkN
  conv=>rhs;rw[←List.take_append_drop j l]
  rw[List.map_append,List.sum_append];omega
theorem dosAt_snoc(i:List UInt8)(t:Int)(x:OpD)(n:Nat):∀(l:List OpD) (ns:List Nat) (place:Nat) (s:kz),l.length=ns.length→Jg i t place s (l++[x]) (ns++[n])=JP (Jg i t place s l ns) i t (place+l.length) n x
  | [],[],place,s,_=>rfl
  | [],m::ns,place,s,h=>by cases h
  |y::l,[],place,s,h=>by cases h
  |y::l,m::ns,place,s,h=>by
   show Jg i t (place+1) (JP s i t place m y) (l++[x]) (ns++[n])=JP (Jg i t (place+1) (JP s i t place m y) l ns) i t (place+(l.length+1)) n x;rw[dosAt_snoc i t x n l ns (place+1) _ (by simpa using h)]
   congr 1
   omega
theorem runes_le{s:ByteArray}{l:List Nat}(h:jx s=some l):l.length≤s.size:=by
  have:=ub s;unfold jV at this;rw[h] at this;exact this
theorem doc_len{w:World}{B p:Nat}{v:Value}{d:List kX}(h:DocAt w B p v d):d.length≤Kd d:=by
  obtain⟨E,rfl,C⟩:=h.runs;refine QT (p:=fun _=>True) fun r A=>?_
  obtain⟨x,D,rfl⟩:=List.mem_map.1 A;exact⟨trivial,(C.ins x D).2.2⟩
theorem do_any(B a s:Nat)(S0 S:kz)(q:j5)(i:List UInt8)(c:kQ)(dv ov vm:Value)(place next:Nat)(x:OpD)(w:World)(h:StateAt w B s S q)(hA:AdderAt w a s i c dv ov vm)(hx:Qy S0 x)(htm:(Lit.int .i64 c.1).wf=true)(hpl:place≤1073741824)(hnx:next≤1099511627776)(hcl:S.2.1.length≤1073741824)(hnd:q.nd≤1073741824)(hix:DocsIx S)(hsz:∀x∈S.1,Kd x.2≤1073741820):
    Calls prog 53 #[.pointer (some ⟨a,0,none⟩),.int .i64 (place:Int),.int .i64 (next:Int),.agg (opV x).toArray] w (qN w B s S (JP S i c.1 place next x) q):=by
  rcases hx.kind with A|A|A
  ·obtain⟨l,D⟩:∃l,jx x.2.2.2.1=some l:=by
     have:=hx.text;unfold KO at this;cases hq:jx x.2.2.2.1 with
     |none=>rw[hq] at this;cases this
     |some l=>exact⟨l,rfl⟩
   have F:=runes_le D;have G:=hx.small;refine do_insert B a s S q i c dv ov vm place next x w h hA hx.fin htm hpl hnx A l D yz yz (by unfold Ix;have:=hx.at'.2.1;omega) fun d C=>⟨hix _ (vR C),?_⟩
   have H:=doc_len (h.docs _ _ C).2;have E:=hsz _ (vR C);dsimp only at E;omega
  ·exact do_create B a s S q i c dv ov vm place next x w h hA hx.fin htm hpl hnx A hcl hx.fin.2.2 hnd
  ·exact do_claim B a s S q i c dv ov vm place next x w h hA hx.fin htm hpl hnx A hcl hx.fin.2.2
end
section
open Go.RowKit Go.Maps
open Lib (hid)
theorem add_idle(p:Addr)(w:World):
    CallsD prog 50 #[.pointer (some p)] .returning w fun e u' w'=>e=.returned (.tuple #[])∧u'=.returning∧w'=w:=by
  have A:∀w:World,(binOp .neq 20 .nilIface .nilIface).run prog w=.ok (.bool false) w:=fun w=>by kernel_rfl
  refine callsD_of_wpS func50 rfl fun B D C=>?_
  apply wpS_seq;apply wpS_region;simp [wpOpsS,go_sem,recoverD,C,ntmps50,Exit.thenS];apply wpS_seq;apply wpS_region;simp [wpOpsS,go_sem,A,Exit.thenS];refine wpS_cond (t:=false) (by simp [Act.eval,Array.replicate]) ?_;simp only[Bool.false_eq_true,if_false];refine wpS_of_wp (wp_skip ?_);cases B
  simp_all [bodyPostS,results,results50]
theorem uZ(ze:Nat)(n m:Int)(w:World)(he:w.heap[ze]?=some (.cells [.int .i64 m].toArray 29 (0,0))):
    CallsD prog 50 #[.pointer (some ⟨ze,0,none⟩)] (.panicking (qM n)) w fun e u' w'=>e=.returned (.tuple #[])∧settle u'=.returning∧
      w'.heap[ze]?=some (.cells [Value.int .i64 n].toArray 29 (0,0))∧But (fun k=>k=ze) w w':=by
  have Z:∀w:World,(binOp .neq 20 (.iface 122 (.agg #[.int .i64 n])) .nilIface).run prog w=.ok (.bool true) w:=fun w=>by kernel_rfl
  have a:∀w:World,(Instr.typeAssert (.iface 122 (.agg #[.int .i64 n])) 20 122 true).run prog w=.ok (.tuple #[.agg #[.int .i64 n],.bool true]) w:=fun w=>by kernel_rfl
  refine callsD_of_wpS func50 rfl fun b c C=>?_
  apply wpS_seq;apply wpS_region;simp [wpOpsS,go_sem,recoverD,C,qM,ntmps50,Exit.thenS];refine wpS_of_wp ?_;simp only[Array.replicate_succ,Array.replicate_zero,List.push_toArray,List.append_toArray,List.nil_append,List.cons_append,List.setIfInBounds_toArray,List.set_cons_zero,List.set_cons_succ];have R:∀u:World,(zeroValue 122).run prog u=.ok (.agg ([.int .i64 0]:List Value).toArray) u:=fun u=>by kernel_rfl
  have B:=hid he;clear he
  go_upto_region 5 with (first
    |(with_reducible refine kA ?_
      refine ks yx 122 rfl [.int .i64 0] (R _) ?_;intro d L N S;have A:=hid ((L.block ze (qX B.out)).trans B.out);have D:=hid (But.of_below (X:=fun k=>k=ze) L);have E:=hid N
      clear L N S)
    |(with_reducible refine kw ?_
      refine ko yx 122 _ _ rfl w.heap.size 0 [] [.int .i64 0] [] [.int .i64 n] 122 (.agg #[.int .i64 n]) rfl rfl rfl rfl E.out rfl yy (by intro u C;rw[List.mem_singleton.1 C];rfl) ?_;intro T M O U;have F:=(qX B.out);have G:=hid ((M.block ze (qX A.out) yz).trans A.out);have H:=hid (D.trans M fun i V e=>absurd V yz);have I:Hid (T.heap[w.heap.size]?=some (.cells [Value.int .i64 n].toArray 122 (0,0))):=hid (by simpa using O);clear M O U F))
  have f:T.cell? ⟨w.heap.size,0,none⟩=some (.int .i64 n):=k4 I.out 0
  go_wp2_with (first
    |(with_reducible refine kw ?_
      refine ko yx 29 _ _ rfl ze 0 [] [.int .i64 m] [] [.int .i64 n] 29 (.int .i64 n) rfl rfl rfl rfl (by simpa using G.out) rfl yy (by intro u C;simp only[List.mem_singleton] at C;subst C;rfl) ?_;intro Y P Q W;have J:Hid (Y.heap[ze]?=some (.cells [Value.int .i64 n].toArray 29 (0,0))):=hid (by simpa using Q);have K:=hid (H.trans P fun i V e=>e);clear P Q W))
  exact⟨rfl,_,rfl,_,results_none rfl _ _ _,rfl,rfl,J.out,K.out⟩
end
section
open Go.RowKit Go.Maps Go.Shelf
open Lib (hid)
theorem wp_appL{P:Program}{ops:Array Oper}{rest:List Oper}{o:Oper}{a:Act}{w:World}{Q:Exit→Act→World→Prop}(hw:Region.wanted o (yielded ops a.tmps)=true)(s x:Operand)(t:TypeId)
    (ho:o.op=.call { callee:=.builtin .append,args:=#[s,x],argTypes:=#[t,t]})
    (base:Nat) (e:TypeId) (z:Value) (size bytes:Nat) (ht:P.underlying t=some (.slice e)) (hinf:(P.info? e).map (fun i=>(i.zero,i.size,i.bytes))=some (some z,size,bytes))
    (hzs:z.cells.size=size) (hsz:0<size)
    (v:Value) (n:Nat) (xs:List Value) (hs:a.eval s=v) (hown:w.ownsRow base e size v n xs)
    (A:Option Addr) (m c B:Nat) (news:List Value) (hx:a.eval x=.slice A m c) (hsl:Sl w B A m size news) (h1:∀u∈news,u.oneCell'=true)
    (h63:n+m≤maxLen) (hbytes:(n+m)*bytes≤140737488355328) (hbase:base≤w.heap.size)
    (h:∀C w',w'.ownsRow base e size C (n+m) (xs++news)→w.grownBy w' v.ownBlock→wpList P ops Q rest (a.put o.dst C) w'):wpList P ops Q (o::rest) a w:=by
  obtain⟨i,G,D,E,F⟩:=info_parts hinf;refine BigFrame.wpList_want hw fun K H=>?_
  exact JQ s x t ho base e i z size bytes ht G D E F hzs hsz v n xs hs hown A m c B news hx hsl h1 h63 hbytes hbase fun C w' I J=>H _ _ (h C w' I J)
theorem infoOp15:(prog.info? 112).map (fun i=>(i.zero,i.size,i.bytes))=some (some (.agg (opV (0,kg,kg,kM,0,kM)).toArray),70,128):=by kernel_rfl
theorem cloneIds15(l:List (List UInt8))(A:Option Addr)(c:Nat)(w:World)(hn:l.length≤1073741824)(hsl:Sl w w.heap.size A l.length 32 (zf l)):
    Calls prog 42 #[.slice A l.length c] w fun e w'=>Below w.heap.size w w'∧∃v,e=.returned v∧w'.ownsRow w.heap.size 41 32 v l.length (zf l):=by
  have J:∀(w:World) (a:Option Addr) (n c K L:Nat),(binOp .eql 34 (.slice a n c) (.slice none K L)).run prog w=.ok (.bool a.isNone) w:=fun w a n c K L=>Lib.run_eql_slice_nil w _ _ a n c K L underlying34
  rcases A with _ |P
  ·have M:l.length=0:=by
     rcases Nat.eq_zero_or_pos l.length with h|h
     ·exact h
     ·obtain⟨b,R,e,_⟩:=hsl.2 h;cases e
   obtain rfl:l=[]:=List.length_eq_zero_iff.1 M;clear M hsl;have S:=J w none 0 c 0 0;go_enter func42,ntmps42;go_wp2_with fail;go_ret;exact⟨Below.refl _ _,_,rfl,World.ownsRow_nil _ _ _ _⟩
  ·have C:=hid hsl;have G:=Qp w w.heap.size 41 32 (Nat.le_refl _);have H:Below w.heap.size w (w.alloc (.cells #[] 41)):=(Below.refl _ _).alloc (Nat.le_refl _) _;have D:=hid G;have B:=hid H
   clear hsl G H;go_enter func42,ntmps42
   go_wp2_with (at_builtin;refine wp_appL yx _ _ 34 rfl w.heap.size 41 (.agg (idV k7).toArray) 32 32 underlying34 infoId rfl yv (.slice (some ⟨w.heap.size,0,none⟩) 0 0) 0 [] rfl D.out (some P) l.length c w.heap.size (zf l) rfl (C.keep B.out) (idsV_one _) yk yz yq ?_;intro Q w' F N
                rw[Nat.zero_add,List.nil_append] at F;obtain⟨T,U,O⟩:∃A c,Q=.slice A l.length c:=jd F;subst O;have I:=hid F;have E:=hid (B.grown N yq (fun k e=>by have V:w.heap.size=k:=(by simpa [Value.ownBlock] using e);omega));clear F N)
   go_ret;exact⟨E.out,_,rfl,I.out⟩
theorem cloneOps15(l:List OpD)(A:Option Addr)(c:Nat)(w:World)(hn:l.length≤1073741824)(hsl:Sl w w.heap.size A l.length 70 (ke opV l)):
    Calls prog 43 #[.slice A l.length c] w fun e w'=>Below w.heap.size w w'∧∃v,e=.returned v∧w'.ownsRow w.heap.size 112 70 v l.length (ke opV l):=by
  have J:∀(w:World) (a:Option Addr) (n c K L:Nat),(binOp .eql 35 (.slice a n c) (.slice none K L)).run prog w=.ok (.bool a.isNone) w:=fun w a n c K L=>Lib.run_eql_slice_nil w _ _ a n c K L underlying35
  rcases A with _ |Q
  ·have N:l.length=0:=by
     rcases Nat.eq_zero_or_pos l.length with h|h
     ·exact h
     ·obtain⟨b,S,e,_⟩:=hsl.2 h;cases e
   obtain rfl:l=[]:=List.length_eq_zero_iff.1 N;clear N hsl;have T:=J w none 0 c 0 0;go_enter func43,ntmps43;go_wp2_with fail;go_ret;exact⟨Below.refl _ _,_,rfl,World.ownsRow_nil _ _ _ _⟩
  ·have C:=hid hsl;have G:=Qp w w.heap.size 112 70 (Nat.le_refl _);have H:Below w.heap.size w (w.alloc (.cells #[] 112)):=(Below.refl _ _).alloc (Nat.le_refl _) _;have D:=hid G;have B:=hid H
   clear hsl G H;go_enter func43,ntmps43
   go_wp2_with (at_builtin;refine wp_appL yx _ _ 35 rfl w.heap.size 112 (.agg (opV (0,kg,kg,kM,0,kM)).toArray) 70 128 underlying35 infoOp15 rfl yv (.slice (some ⟨w.heap.size,0,none⟩) 0 0) 0 [] rfl D.out (some Q) l.length c w.heap.size (ke opV l) rfl (C.keep B.out) (fun u M=>by obtain⟨x,U,M⟩:=List.mem_flatMap.1 M;exact Ud x u M) yk yz yq ?_;intro R w' F O
                rw[Nat.zero_add,List.nil_append] at F;obtain⟨V,W,P⟩:∃A c,R=.slice A l.length c:=jd F;subst P;have I:=hid F;have E:=hid (B.grown O yq (fun k e=>by have X:w.heap.size=k:=(by simpa [Value.ownBlock] using e);omega));clear F O)
   go_ret;exact⟨E.out,_,rfl,I.out⟩
end
section
open Go.RowKit Go.Maps
open Lib (hid)
theorem ids_nil(w:World):Calls prog 16 #[.pointer none] w fun e w'=>w'=w∧e=.returned (.slice none 0 0):=by
  go_enter func16,ntmps16
  go_wp2
  go_ret;exact⟨rfl,rfl⟩
theorem files_nil(w:World):Calls prog 11 #[.pointer none] w fun e w'=>w'=w∧e=.returned (.slice none 0 0):=by
  go_enter func11,ntmps11
  go_wp2
  go_ret;exact⟨rfl,rfl⟩
theorem copy_nil15(w:World):Calls prog 24 #[.pointer none] w fun e w'=>w'=w∧e=.returned (.pointer none):=by
  go_enter func24,ntmps24
  go_wp2
  go_ret;exact⟨rfl,rfl⟩
theorem time_nil(w:World):Calls prog 21 #[.pointer none] w fun e w'=>w'=w∧e=.returned (.int .i64 0):=by
  go_enter func21,ntmps21
  go_wp2
  go_ret;exact⟨rfl,rfl⟩
theorem pieces_nil(w:World):Calls prog 41 #[.pointer none] w fun e w'=>w'=w∧e=.returned (.slice none 0 0):=by
  go_enter func41,ntmps41
  go_wp2
  go_ret;exact⟨rfl,rfl⟩
theorem vz{P:Program}{fn:Func}{p t u:Tmp}{ty:TypeId}(h:fn.results=#[.cell p ty,.tmp t,.tmp u])(tmps:Array Value)(w:World){a:Addr}{r:Value}(hp:tmps.getD p undef=.pointer (some a))(hl:(loadVar ty a).run P w=.ok r w):
    (results fn tmps).run P w=.ok (.tuple #[r,tmps.getD t undef,tmps.getD u undef]) w:=by
  have A:tmps[p]?.getD undef=.pointer (some a):=by simpa using hp
  simp only[results,h];simp [A,asAddr,hl]
theorem results_ct{P:Program}{fn:Func}{p t:Tmp}{ty:TypeId}(h:fn.results=#[.cell p ty,.tmp t])(tmps:Array Value)(w:World){a:Addr}{r:Value}(hp:tmps.getD p undef=.pointer (some a))(hl:(loadVar ty a).run P w=.ok r w):
    (results fn tmps).run P w=.ok (.tuple #[r,tmps.getD t undef]) w:=by
  have A:tmps[p]?.getD undef=.pointer (some a):=by simpa using hp
  simp only[results,h];simp [A,asAddr,hl]
theorem keyZ_built(w:World):(Instr.build 89 #[]).run prog w=.ok (.agg (k8 (0,k7,0)).toArray) w:=by kernel_rfl
theorem find_nil(p:ByteArray)(w:World):Calls prog 40 #[.pointer none,.string p] w fun e w'=>Below w.heap.size w w'∧e=.returned (.tuple #[.agg (k8 (0,k7,0)).toArray,.pointer none,.int .i64 1]):=by
  go_enter func40,ntmps40
  go_wp2_with (first
    |(with_reducible refine kA ?_
      refine ks yx 89 rfl (k8 (0,k7,0)) (zq _) ?_;intro N F G J;have A:=hid F;have C:=hid G
      clear F G J)
    |(with_reducible refine kJ ?_
      refine k5 yx (kj 89 _ rfl (keyZ_built _)) ?_)
    |(with_reducible refine kw ?_
      refine ko yx 89 _ _ rfl w.heap.size 0 [] (k8 (0,k7,0)) [] (k8 (0,k7,0)) 89 (.agg (k8 (0,k7,0)).toArray) rfl rfl rfl rfl (by simpa using C.out) rfl yy (j4 _) ?_;intro L H I K;have D:Hid (L.rangeAt w.heap.size 0 (k8 (0,k7,0))):=hid (fun j u M=>by rw[qZ];exact(k4 I j).trans (by simpa using M));have E:=hid (H.below (B:=w.heap.size) A.size (fun k O e=>by
         have P:k=w.heap.size:=e;omega))
      clear H I K))
  refine bodyPost_ret (vz results40 _ _ rfl (qV _ w.heap.size 0 89 (k8 (0,k7,0)) _ D.out underlying89 rfl yy)) rfl ?_;exact⟨A.trans E.out,rfl⟩
def changeZ:List Value:=[.int .i64 0,.slice none 0 0,.string kM,.slice none 0 0]
theorem ka0(w:World):(zeroValue 37).run prog w=.ok (.agg changeZ.toArray) w:=by kernel_rfl
theorem changeZ_built(w:World):(Instr.build 37 #[]).run prog w=.ok (.agg changeZ.toArray) w:=by kernel_rfl
theorem change_nil(i:List UInt8)(w:World)(hi:jp i):Calls prog 13 #[.pointer none,.agg (idV i).toArray] w fun e w'=>Below w.heap.size w w'∧e=.returned (.tuple #[.agg changeZ.toArray,.int .i64 1]):=by
  have M:=hid hi;clear hi;go_enter func13,ntmps13
  go_wp2_with (first
    |(with_reducible refine kB ?_
      refine kr yx 41 _ rfl (idV i) _ rfl rfl (by rw[kf,M.out];kernel_rfl) ?_;intro G H N O;have A:=hid H;clear H N O)
    |(with_reducible refine kA ?_
      refine ks yx 37 rfl changeZ (ka0 _) ?_;intro U I J P;have C:=hid I;have D:=hid J
      clear I J P)
    |(with_reducible refine kJ ?_
      refine k5 yx (kj 37 _ rfl (changeZ_built _)) ?_)
    |(with_reducible refine kw ?_
      refine ko yx 37 _ _ rfl G.heap.size 0 [] changeZ [] changeZ 37 (.agg changeZ.toArray) rfl rfl rfl rfl (by simpa using D.out) rfl yy (by unfold changeZ;intro u Q;simp only[List.mem_cons,List.not_mem_nil,or_false] at Q;rcases Q with rfl|rfl|rfl|rfl<;>rfl) ?_;intro S K L R;have E:Hid (S.rangeAt G.heap.size 0 changeZ):=hid (fun j u T=>by rw[qZ];exact(k4 L j).trans (by simpa using T));have F:=hid (K.below (B:=G.heap.size) C.size (fun k V e=>by
         have W:k=G.heap.size:=e;omega))
      clear K L R))
  refine bodyPost_ret (results_ct results13 _ _ rfl (qV _ G.heap.size 0 37 changeZ _ E.out underlying37 rfl yy)) rfl ?_;exact⟨A.trans ((C.trans F.out).mono A.size),rfl⟩
theorem blame_nil(p:ByteArray)(w:World):Calls prog 12 #[.pointer none,.string p] w fun e w'=>Below w.heap.size w w'∧e=.returned (.tuple #[.slice none 0 0,.int .i64 1]):=by
  go_enter func12,ntmps12
  go_wp2_with (first
    |(go_at_call 40;refine(find_nil p _).mono ?_;rintro e K ⟨G,rfl⟩;have A:=hid G;clear G)
    |(go_at_call 41;refine(pieces_nil _).mono ?_;rintro e O ⟨rfl,rfl⟩)
    |(with_reducible refine kA ?_
      refine ks yx 89 rfl (k8 (0,k7,0)) (zq _) ?_;intro P H I L;have C:=hid H;have D:=hid I
      clear H I L)
    |(with_reducible refine kw ?_
      refine ko yx 89 _ _ rfl K.heap.size 0 [] (k8 (0,k7,0)) [] (k8 (0,k7,0)) 89 (.agg (k8 (0,k7,0)).toArray) rfl rfl rfl rfl (by simpa using D.out) rfl yy (j4 _) ?_;intro Q J M N;have E:=hid (J.below (B:=K.heap.size) C.size (fun k R e=>by
         have S:k=K.heap.size:=e;omega))
      clear J M N))
  go_loopw [9,24] (fun t9 t wr=>t9=.slice none 0 0∧t=.int .i64 0∧Hid (Below w.heap.size w wr)) (fun _ _ _=>0)
  case atStart=>exact⟨rfl,rfl,hid (A.trans ((C.trans E.out).mono A.size))⟩
  case round=>
    obtain⟨rfl,rfl,F⟩:=hrel;go_wp2_with fail;go_ret2;exact⟨F.out,rfl⟩
end
section
open Go.RowKit Go.Maps
theorem load_err15{w:World}{zo:Nat}{v:Value}(h:w.heap[zo]?=some (.cells [v].toArray 29 (0,0))):(loadVar 29 ⟨zo,0,none⟩).run prog w=.ok v w:=by
  have A:w.cell? ⟨zo,0,none⟩=some v:=k4 h 0;unfold loadVar isAgg;simp only[Sem.run_bind,run_underlying underlying29,Result.andThen_ok];simp [Result.andThen,A]
theorem add_nil(i:List UInt8)(n:Int)(dv ov:Value)(au:ByteArray)(w:World)(hi:jp i):Calls prog 17 #[.pointer none,.agg (idV i).toArray,.agg [.int .i64 n,dv,.string au,ov].toArray] w fun e w'=>Below w.heap.size w w'∧e=.returned (.int .i64 1):=by
  have A:=Lib.hid hi;clear hi
  go_enter_defers func17,ntmps17
  go_wp2_with fail;refine⟨_,jk results17 _ _ rfl (load_err15 ?_),?_,rfl⟩
  ·have h:=heap_alloc_new ((w.alloc (.cells (idV i).toArray 41)).alloc (.cells #[.int .i64 n,dv,.string au,ov] 37)) (.cells #[.int .i64 1] 29);simp only[World.size_alloc] at h;exact h
  ·exact(((qB _ _).alloc (qR _) _).alloc yq _).alloc yj _

end
section
open Go.RowKit Go.Maps
open Lib (hid)
def PadGives(l:List UInt8)(w:World)(e:Ending)(w':World):Prop:=∃A' c',e=.returned (.slice A' (Uz l).length c')∧w'.ownsRow w.heap.size 5 1 (.slice A' (Uz l).length c') (Uz l).length (idV (Uz l))∧Below w.heap.size w w'
theorem padded_any(l:List UInt8)(A:Option Addr)(c:Nat)(w:World)(hs:Sl w w.heap.size A l.length 1 (idV l))(hl:l.length≤1099511627776):
    Calls prog 163 #[.slice A l.length c] w (PadGives l w):=by
  have Q:=hid hs;have G:=hid (show Below w.heap.size w (w.alloc (.cells #[] 5)) from (qB _ _).alloc (qR _) _);have a:jY l.length≤63:=by unfold jY;omega
  clear hs;go_enter func163,ntmps163
  go_upto_region 2 with (first
    |(at_builtin;refine zR yx _ _ 169 rfl w.heap.size 5 (.int .u8 0) 1 1 underlying169 jg rfl yv (.slice (some ⟨w.heap.size,0,none⟩) 0 0) 0 [] rfl (Qp w w.heap.size 5 1 (qR _)) A l.length c w.heap.size (idV l) rfl (Q.keep G.out) (kV _) yk yz G.size ?_
      intro d U I P;obtain⟨V,W,rfl⟩:=kO I;have E:=hid (show U.ownsRow w.heap.size 5 1 (.slice V l.length W) l.length (idV l) by rw[qZ,List.nil_append] at I;exact I)
      have B:=hid (G.grown P G.size (fun k e=>by have h:w.heap.size=k:=by simpa [Value.ownBlock] using e
                                                 omega))
      clear I P;rw[qZ]))
  have J:=B.size
  go_upto_region 3 with (at_builtin;refine J3 rfl _ _ 169 rfl w.heap.size 5 (.int .u8 0) 1 underlying169 jg rfl _ _ _ rfl E.out _ _ rfl rfl ?c1 ?c2 ?c3 ?_)
  case c1=>unfold maxLen;omega
  case c2=>omega
  case c3=>omega
  intro R S F H;obtain⟨N,O,rfl⟩:=kO F;have C:=hid F;have D:=hid (H w.heap.size w (qR _) B.out);clear F H
  go_upto_region 3 with fail
  go_loopw [3] (fun t3 wr=>∃(k:Nat) (A:Option Addr) (c:Nat),k≤jY l.length∧t3=.slice A (l.length+1+k) c∧Hid (wr.ownsRow w.heap.size 5 1 (.slice A (l.length+1+k) c) (l.length+1+k) (idV (l++(128::List.replicate k 0))))∧Hid (Below w.heap.size w wr)) (fun t3 _=>l.length+100 - q8 t3)
  case atStart=>exact⟨0,_,_,Nat.zero_le _,rfl,hid (by have h:=C.out;rw[show (128::List.replicate 0 0:List UInt8)=[128] from rfl,idV_snoc];exact h),D⟩
  case round=>
    clear E B C D J;obtain⟨k,A,c,X,rfl,E,B⟩:=hrel;have K:=zeros_go X;have J:=B.size;by_cases hlt:k<jY l.length
    ·have M:=K.1 hlt;have b:((((l.length:Int)+1+(k:Int)) % 64) != 56)=true:=by rw[bne_iff_ne];omega
     clear K M
     go_wp2_with (at_builtin;refine J3 rfl _ _ 169 rfl w.heap.size 5 (.int .u8 0) 1 underlying169 jg rfl _ _ _ rfl E.out _ _ rfl rfl ?c1 ?c2 ?c3 ?_)
     case c1=>unfold maxLen;omega
     case c2=>omega
     case c3=>omega
     intro R S F H;obtain⟨N,O,rfl⟩:=kO F;have C:=hid F;have D:=hid (H w.heap.size w (qR _) B.out);clear F H;go_wp2_with fail
     go_roundw
     case rel=>
       refine⟨k+1,N,O,by omega,rfl,hid ?_,D⟩;rw[List.replicate_succ',←List.cons_append,←List.append_assoc,uo];exact C.out
     case measure=>simp only[q8];omega
    ·obtain rfl:k=jY l.length:=by omega
     have M:((((l.length:Int)+1+(jY l.length:Int)) % 64) != 56)=false:=by
       rw[bne_eq_false_iff_eq];have h:=(not_congr K).1 yz;omega
     clear K
     go_upto_region 7 with fail
     clear M
     go_loopw [5,3] (fun t5 t3 wr=>∃(i:Nat) (A:Option Addr) (c:Nat),i≤8∧t5=.int .i64 (i:Int)∧t3=.slice A (l.length+1+jY l.length+i) c∧Hid (wr.ownsRow w.heap.size 5 1 (.slice A (l.length+1+jY l.length+i) c) (l.length+1+jY l.length+i) (idV (l++(128::List.replicate (jY l.length) 0++(lenS l.length).take i))))∧Hid (Below w.heap.size w wr)) (fun t5 _ _=>8 - (intOf t5).toNat)
     case atStart=>exact⟨0,A,c,Nat.zero_le _,rfl,rfl,by rw[List.take_zero,List.append_nil];exact E,B⟩
     case round=>
       clear E B J;obtain⟨i,A,c,f,rfl,rfl,E,B⟩:=hrel;have J:=B.size;by_cases hlt:i<8
       ·have Y:(i:Int)<8:=by omega
        obtain⟨s,hs⟩:∃s,56 - 8*i=s:=⟨_,rfl⟩;have g:56 - 8*(i:Int)=(s:Int):=by omega
        have Z:s≤56:=by omega
        have L:=hid hs;clear hs
        go_wp2_with (at_builtin;refine J3 rfl _ _ 169 rfl w.heap.size 5 (.int .u8 0) 1 underlying169 jg rfl _ _ _ rfl E.out _ _ rfl rfl ?c1 ?c2 ?c3 ?_)
        case c1=>unfold maxLen;omega
        case c2=>omega
        case c3=>omega
        intro R S F H;obtain⟨N,O,rfl⟩:=kO F;have C:=hid F;have D:=hid (H w.heap.size w (qR _) B.out);clear F H;go_wp2_with fail
        go_roundw
        case rel=>
          refine⟨i+1,N,O,by omega,by go_num,rfl,hid ?_,D⟩;have h:=C.out;rw[←u8_mod,←idV_snoc] at h;rw[lenS_take hlt,L.out,←List.append_assoc,←List.append_assoc];rw[List.append_assoc l];exact h
        case measure=>(simp [intOf])<;>omega
       ·obtain rfl:i=8:=by omega
        have Y:¬((8:Nat):Int)<8:=by omega
        go_wp2_with fail;go_ret;have T:(Uz l).length=l.length+1+jY l.length+8:=vy l;refine⟨A,c,by rw[T];rfl,?_,B.out⟩;rw[T];exact E.out
end
end Go.Proofs.YtdgbjhfkmembdaaGreatDoor