/-
  StateNil: for every change and text the law returns true and its arguments read aS they did. Condition: the listed variables of Go's library hold what the program's text lays (the card ties them).
-/
import Derived.Test.YtdgbjhfkmembdaaGreatDoorPart21
import Derived.Test.YtdgbjhfkmembdaaGreatDoorPart5
import Derived.Lib.LaidTab
set_option linter.unusedVariables false
open Go.Proofs.Tryz
namespace Go.Proofs.YtdgbjhfkmembdaaGreatDoor
open Go.ChangeMaps (open_string shut_string)
open Go.ChangeShapes Go.WideShapes Go.ChangeAt Go.RowKit
namespace stateNil
theorem tabF{W : World}(hL : laidMetH prog Rows.stateNilRow.laid W): Lib.TabIs prog W "variorum/sha.first" .u32 (st8 firstS) := by
  rw [MakeChecks.laidMetH_plain _ _ _ yy] at hL;obtain ⟨ps, h1, _, _⟩ := hL;obtain ⟨_, _, _, _, _, _, _, _, _, _, h2, _⟩ := h1;obtain ⟨_, _, _, _, _, _, _, _, _, _, h2, _⟩ := h2;obtain ⟨_, _, _, _, _, _, _, _, _, _, h2, _⟩ := h2;obtain ⟨_, _, _, _, _, _, _, _, _, _, h2, _⟩ := h2;obtain ⟨g', t', cs, fuel, p, q, hg', ht', hvar, hd, _, _⟩ := h2;have hg : prog.globalNamed "variorum/sha.first" = some 1 := by kernel_rfl
  obtain rfl:=Option.some.inj (hg.symm.trans hg');have hty:(prog.globals[1]?).map (·.type)=some 287:=by kernel_rfl
  obtain rfl:=Option.some.inj (hty.symm.trans ht');have e:(Rows.laid_variorum_sha_first:DataW Unit)=Lib.tabData .u32 (st8 firstS):=by kernel_rfl
  rw[e] at hd;unfold Lib.TabIs;rw[hvar,←Lib.cells_of_tab underlying287 underlying262 yy yy hd]
theorem tabK{W : World}(hL : laidMetH prog Rows.stateNilRow.laid W): Lib.TabIs prog W "variorum/sha.words" .u32 keysS := by
  rw [MakeChecks.laidMetH_plain _ _ _ yy] at hL;obtain ⟨ps, h1, _, _⟩ := hL;obtain ⟨_, _, _, _, _, _, _, _, _, _, h2, _⟩ := h1;obtain ⟨_, _, _, _, _, _, _, _, _, _, h2, _⟩ := h2;obtain ⟨_, _, _, _, _, _, _, _, _, _, h2, _⟩ := h2;obtain ⟨_, _, _, _, _, _, _, _, _, _, h2, _⟩ := h2;obtain ⟨_, _, _, _, _, _, _, _, _, _, h2, _⟩ := h2;obtain ⟨g', t', cs, fuel, p, q, hg', ht', hvar, hd, _, _⟩ := h2;have hg : prog.globalNamed "variorum/sha.words" = some 2 := by kernel_rfl
  obtain rfl:=Option.some.inj (hg.symm.trans hg');have hty:(prog.globals[2]?).map (·.type)=some 289:=by kernel_rfl
  obtain rfl:=Option.some.inj (hty.symm.trans ht');have e:(Rows.laid_variorum_sha_words:DataW Unit)=Lib.tabData .u32 keysS:=by kernel_rfl
  rw[e] at hd;unfold Lib.TabIs;rw[hvar,←Lib.cells_of_tab underlying289 underlying262 yy yy hd]
theorem shaG0{W:World}(hL:laidMetH prog Rows.stateNilRow.laid W):ShaG W:=⟨fun j A=>(tabF hL).cell yy j A,fun j A=>(tabK hL).cell yy j A⟩
set_option maxRecDepth 100000 in
theorem contract(H:Type)(enc:TypeId×Value→H)(W:World)(base:Nat)(args:Array Value)(ds gs:List (DataW H))(before:List MemPlace)
    (hsz0:(DataW.weightsEach prog (Tryz.f7.params.toList++(OpenSpec.ofChange Rows.stateNilSpec).bare.plain.varTypes prog) (ds++gs)).all (· ≤reachBytes)=true)
    (hval:∀(j:Nat) t v,Tryz.f7.params[j]?=some t→args[j]?=some v→Value.okWide prog W .any base t v)
    (hW:DataW.Whole enc prog Tryz.f7.params.toList Rows.stateNilSpec.vars false W args.toList ds gs before) (hS:W.ShapedOpen prog) (hL:laidMetH prog Rows.stateNilRow.laid W):
    Calls prog 7 args W fun e E=>∃v,e=.returned v∧Rows.stateNilSpec.post enc prog Tryz.f7 false true false false W args v E:=by
  have A:=hW;obtain⟨p,q,B,O,rfl,Y,Z⟩:=hW;have F:DataW.TrodAll enc prog W 0 (fun _=>true) true Tryz.f7.params.toList args.toList ds p:=B;rw[Tryz.params7] at F hval hsz0;obtain⟨G,a,f,b,P,g,N,rfl,rfl,I,Q⟩:=trodAll_cons F;obtain⟨J,c,i,d,k,l,rfl,rfl,rfl,R,S⟩:=trodAll_cons Q;obtain⟨rfl,rfl,rfl⟩:=trodAll_nil S;obtain rfl:args=#[G,J]:=by cases args;simp_all
  obtain⟨rfl,rfl⟩:=trodVars_none O;have K:=I;have L:∀x∈P,x.block<W.heap.size:=by obtain⟨m,T⟩:=K;exact DataW.trod_lt m _ _ _ T
  obtain⟨U,M,rfl⟩:=change_arg (hval 0 37 G rfl rfl) I;obtain⟨V,rfl,rfl,rfl,C⟩:=open_string underlying9 (hval 1 9 J rfl rfl) R;clear B;simp only[List.append_nil] at A;refine(walk U V W M C (glob0 hS) (shaG0 hL)).mono fun e E ⟨X,D⟩=>?_
  subst X;exact⟨_,rfl,_,_,_,[],_,[],A,trodAll_mk1 (shut_bool underlying4 _),(trodAll_cons_mk (Below.trod laidOut yy (of_decide_eq_true yy) K D L) (trodAll_cons_mk (shut_string underlying9 C) trodAll_mk0)),rfl,D.frame _,fun h=>by cases h⟩
noncomputable def laidWorld(os:Os):World:=World.laidAll prog os Rows.stateNilRow.laid
set_option maxRecDepth 100000 in
theorem laid_met(os:Os):laidMetH prog Rows.stateNilRow.laid ((laidWorld os).forCall (fun _ _=>0) ⟨#[],#[.agg chZ15.toArray,.string ByteArray.empty],[]⟩).memory:=by
  rw[MakeChecks.laidMetH_plain _ _ _ yy];exact laidMet_laidAll _ yy yy
set_option maxRecDepth 100000 in
theorem reads(os:Os){H:Type}(enc:TypeId×Value→H):∃places,DataW.whole enc prog ((laidWorld os).forCall (fun _ _=>0) ⟨#[],#[.agg chZ15.toArray,.string ByteArray.empty],[]⟩).memory Tryz.f7.params.toList Rows.stateNilSpec.vars false #[Value.agg chZ15.toArray,Value.string ByteArray.empty].toList 8=some ([chData H,.lit (.string [])],[],places):=
  ⟨[],by kernel_rfl⟩
set_option maxRecDepth 100000 in
theorem lifted(os:Os)(started:os.Started)(H:Type)(enc:TypeId×Value→H)(F:Stop.Interp):
    ReturnsInHanded {} Tryz.checked os 7 .any ((OpenSpec.ofChange Rows.stateNilSpec).preRow enc prog Tryz.f7 Rows.stateNilRow.domain false Rows.stateNilRow.laid) (((OpenSpec.ofChange Rows.stateNilSpec).at F).post enc prog Tryz.f7 false true false false):=by
  obtain⟨G,J⟩:=reads os enc;refine returnsInHanded_of_row (C:=Tryz.checked) (s:=OpenSpec.ofChange Rows.stateNilSpec) own started yy func7
    (witness_laid (C:=Tryz.checked) (laidWorld os) #[.agg chZ15.toArray,.string ByteArray.empty] (World.laidAll_os _ _ _) (World.shaped_of_ZipB yy yy) yy
      (OpenSpec.preRow_of_cond 8 J yy (fun k K=>by cases K) yy (laid_met os))) ?_
  intro W B D L M A E N _ _ I O P _;exact contract H enc W B D L M A I E N P O
set_option maxHeartbeats 4000000 in
set_option maxRecDepth 100000 in
theorem facts:joinedFacts Tryz.pinned.checked.prog 7 Tryz.f7 (OpenSpec.ofChange Rows.stateNilSpec).bare Rows.stateNilRow=true:=by
  simp only[joinedFacts,Bool.and_eq_true]
  repeat' (with_reducible refine And.intro ?_ ?_)
  all_goals (as_aux_lemma=>kernel_rfl)
theorem said:Rows.StateNilSaid:=
  OpenClaim.holds_of_cond 7 Tryz.f7 rfl rfl rfl rfl rfl rfl rfl ⟨rfl,rfl,rfl,rfl,rfl⟩ rfl rfl rfl rfl rfl yy func7 facts
    (of_decide_eq_true yy) (by unfold Func.isWrapper;first|(rw[if_pos (by decide+kernel)];kernel_rfl)|(rw[if_neg (by decide+kernel)];exact⟨rfl,rfl⟩))
    (fun C A H B _ F=>by rw[OpenClaim.pre_eq_preRow];exact lifted C A H B F)
theorem plain(f : FuncId)(fn : Func)(hf : Tryz.pinned.checked.prog.funcNamed "variorum/variorumlaw15.StateNil" = some f)(hfn : Tryz.pinned.checked.prog.funcs[f]? = some fn):
    true=Tryz.pinned.checked.prog.looks []∧∀(j:Nat) t,fn.params[j]?=some t→Tryz.pinned.checked.prog.wantsStandIn t=false:=by
  obtain rfl : f = 7 := Option.some.inj ((show prog.funcNamed "variorum/variorumlaw15.StateNil" = some 7 by kernel_rfl).symm.trans hf) |>.symm;obtain rfl : fn = Tryz.f7 := (Option.some.inj (func7.symm.trans hfn)).symm;refine ⟨by kernel_rfl, fun j t ht => ?_⟩;rw [Tryz.params7] at ht;have hm : t ∈ [37, 9] := by simpa using Array.mem_of_getElem? ht
  have hall:([37,9].all fun u=> !prog.wantsStandIn u)=true:=by kernel_rfl
  exact(show prog.wantsStandIn t=false by simpa using List.all_eq_true.1 hall t hm)
theorem card:Rows.StateNilCardSaid:=
  Claim7.holds_tied_plain_at .later [] _ _ _ _ said (fun _ h=>by cases h) yy (fun _ h=>by cases h) stateNil_row_tie rfl ⟨rfl,rfl⟩ yy rfl plain yy
end stateNil
end Go.Proofs.YtdgbjhfkmembdaaGreatDoor