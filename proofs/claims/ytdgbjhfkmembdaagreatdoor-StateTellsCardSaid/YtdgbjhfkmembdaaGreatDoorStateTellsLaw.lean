/-
  StateTells: for all changes the law returns true and its argument reads aS it did. Condition: the listed variables of Go's library hold what the program's text lays (the card ties them).
-/
import Derived.Test.YtdgbjhfkmembdaaGreatDoorPart19
import Derived.Test.YtdgbjhfkmembdaaGreatDoorPart7
import Derived.Lib.LaidTab
set_option linter.unusedVariables false
open Go.Proofs.Tryz
namespace Go.Proofs.YtdgbjhfkmembdaaGreatDoor
open Go.ChangeMaps (open_string shut_string)
open Go.ChangeShapes Go.WideShapes Go.ChangeAt Go.RowKit
namespace stateTells
theorem tabF{W : World}(hL : laidMetH prog Rows.stateTellsRow.laid W): Lib.TabIs prog W "variorum/sha.first" .u32 (st8 firstS) := by
  rw [MakeChecks.laidMetH_plain _ _ _ yq] at hL;obtain ⟨ps, h1, _, _⟩ := hL;obtain ⟨_, _, _, _, _, _, _, _, _, _, h2, _⟩ := h1;obtain ⟨_, _, _, _, _, _, _, _, _, _, h2, _⟩ := h2;obtain ⟨_, _, _, _, _, _, _, _, _, _, h2, _⟩ := h2;obtain ⟨_, _, _, _, _, _, _, _, _, _, h2, _⟩ := h2;obtain ⟨g', t', cs, fuel, p, q, hg', ht', hvar, hd, _, _⟩ := h2;have hg : prog.globalNamed "variorum/sha.first" = some 1 := yq
  obtain rfl:=Option.some.inj (hg.symm.trans hg');have hty:(prog.globals[1]?).map (·.type)=some 287:=yq;obtain rfl:=Option.some.inj (hty.symm.trans ht');have e:(Rows.laid_variorum_sha_first:DataW Unit)=Lib.tabData .u32 (st8 firstS):=yq;rw[e] at hd;unfold Lib.TabIs;rw[hvar,←Lib.cells_of_tab underlying287 underlying262 yq yq hd]
theorem tabK{W : World}(hL : laidMetH prog Rows.stateTellsRow.laid W): Lib.TabIs prog W "variorum/sha.words" .u32 keysS := by
  rw [MakeChecks.laidMetH_plain _ _ _ yq] at hL;obtain ⟨ps, h1, _, _⟩ := hL;obtain ⟨_, _, _, _, _, _, _, _, _, _, h2, _⟩ := h1;obtain ⟨_, _, _, _, _, _, _, _, _, _, h2, _⟩ := h2;obtain ⟨_, _, _, _, _, _, _, _, _, _, h2, _⟩ := h2;obtain ⟨_, _, _, _, _, _, _, _, _, _, h2, _⟩ := h2;obtain ⟨_, _, _, _, _, _, _, _, _, _, h2, _⟩ := h2;obtain ⟨g', t', cs, fuel, p, q, hg', ht', hvar, hd, _, _⟩ := h2;have hg : prog.globalNamed "variorum/sha.words" = some 2 := yq;obtain rfl := Option.some.inj (hg.symm.trans hg');have hty : (prog.globals[2]?).map (·.type) = some 289 := yq;obtain rfl := Option.some.inj (hty.symm.trans ht');have e : (Rows.laid_variorum_sha_words : DataW Unit) = Lib.tabData .u32 keysS := yq;rw [e] at hd;unfold Lib.TabIs;rw [hvar, ← Lib.cells_of_tab underlying289 underlying262 yq yq hd]
theorem shaG0{W:World}(hL:laidMetH prog Rows.stateTellsRow.laid W):ShaG W:=⟨fun j A=>(tabF hL).cell yq j A,fun j A=>(tabK hL).cell yq j A⟩
theorem tab0{W : World}(hL : laidMetH prog Rows.stateTellsRow.laid W): Lib.TabIs prog W "internal/strconv.uint64pow10" .u64 Lib.pow10Tab := by
  rw [MakeChecks.laidMetH_plain _ _ _ yq] at hL;obtain ⟨ps, h1, _, _⟩ := hL;obtain ⟨_, _, _, _, _, _, _, _, _, _, h2, _⟩ := h1;obtain ⟨_, _, _, _, _, _, _, _, _, _, h2, _⟩ := h2;obtain ⟨g', t', cs, fuel, p, q, hg', ht', hvar, hd, _, _⟩ := h2;have hg : prog.globalNamed "internal/strconv.uint64pow10" = some 3 := yq;obtain rfl := Option.some.inj (hg.symm.trans hg');have hty : (prog.globals[3]?).map (·.type) = some 388 := yq;obtain rfl := Option.some.inj (hty.symm.trans ht');have e : (Rows.laid_internal_strconv_uint64pow10 : DataW Unit) = Lib.tabData .u64 Lib.pow10Tab := yq;rw [e] at hd;unfold Lib.TabIs;rw [hvar, ← Lib.cells_of_tab underlying388 underlying264 yq yq hd]
set_option maxRecDepth 100000 in
theorem contract(H:Type)(enc:TypeId×Value→H)(W:World)(base:Nat)(args:Array Value)(ds gs:List (DataW H))(before:List MemPlace)
    (hsz0:(DataW.weightsEach prog (Tryz.f3.params.toList++(OpenSpec.ofChange Rows.stateTellsSpec).bare.plain.varTypes prog) (ds++gs)).all (· ≤reachBytes)=true)
    (hval:∀(j:Nat) t v,Tryz.f3.params[j]?=some t→args[j]?=some v→Value.okWide prog W .any base t v)
    (hW:DataW.Whole enc prog Tryz.f3.params.toList Rows.stateTellsSpec.vars false W args.toList ds gs before) (hS:W.ShapedOpen prog) (hL:laidMetH prog Rows.stateTellsRow.laid W):
    Calls prog 3 args W fun e F=>∃v,e=.returned v∧Rows.stateTellsSpec.post enc prog Tryz.f3 false true false false W args v F:=by
  have A:=hW;obtain⟨p,q,B,P,rfl,Y,Z⟩:=hW;have G:DataW.TrodAll enc prog W 0 (fun _=>true) true Tryz.f3.params.toList args.toList ds p:=B;rw[Tryz.params3] at G hval hsz0;obtain⟨I,a,c,b,Q,d,O,rfl,rfl,R,S⟩:=trodAll_cons G;obtain⟨rfl,rfl,rfl⟩:=trodAll_nil S;obtain rfl:args=#[I]:=by cases args;simp_all
  obtain⟨rfl,rfl⟩:=trodVars_none P;obtain⟨T,U,D,rfl⟩:=okWide_slice underlying22 (hval 0 22 I rfl rfl);have E:=R;have J:∀x∈Q,x.block<W.heap.size:=by obtain⟨m,V⟩:=E;exact DataW.trod_lt m _ _ _ V
  obtain⟨K,L,M,N⟩:=changes_in E hsz0 (j:=0) rfl rfl;subst L;clear B;simp only[List.append_nil] at A;refine(walk K T D W M N (glob0 hS) (shaG0 hL) (itoaB_tab 202 W yj (tab0 hL))).mono fun e F ⟨X,C⟩=>?_
  subst X;exact⟨_,rfl,_,_,_,[],_,[],A,trodAll_mk1 (shut_bool underlying4 _),(trodAll_cons_mk (Below.trod laidOut yq (of_decide_eq_true yq) E C J) trodAll_mk0),rfl,C.frame _,fun h=>by cases h⟩
noncomputable def laidWorld(os:Os):World:=World.laidAll prog os Rows.stateTellsRow.laid
set_option maxRecDepth 100000 in
theorem laid_met(os:Os):laidMetH prog Rows.stateTellsRow.laid ((laidWorld os).forCall (fun _ _=>0) ⟨#[],#[.slice none 0 0],[]⟩).memory:=by
  rw[MakeChecks.laidMetH_plain _ _ _ yq];exact laidMet_laidAll _ yq yq
set_option maxRecDepth 100000 in
theorem reads(os:Os){H:Type}(enc:TypeId×Value→H):∃places,DataW.whole enc prog ((laidWorld os).forCall (fun _ _=>0) ⟨#[],#[.slice none 0 0],[]⟩).memory Tryz.f3.params.toList Rows.stateTellsSpec.vars false #[Value.slice none 0 0].toList 8=some ([.nil],[],places):=
  ⟨[],by kernel_rfl⟩
set_option maxRecDepth 100000 in
theorem lifted(os:Os)(started:os.Started)(H:Type)(enc:TypeId×Value→H)(F:Stop.Interp):
    ReturnsInHanded {} Tryz.checked os 3 .any ((OpenSpec.ofChange Rows.stateTellsSpec).preRow enc prog Tryz.f3 Rows.stateTellsRow.domain false Rows.stateTellsRow.laid) (((OpenSpec.ofChange Rows.stateTellsSpec).at F).post enc prog Tryz.f3 false true false false):=by
  obtain⟨G,J⟩:=reads os enc;refine returnsInHanded_of_row (C:=Tryz.checked) (s:=OpenSpec.ofChange Rows.stateTellsSpec) own started yq func3
    (witness_laid (C:=Tryz.checked) (laidWorld os) #[.slice none 0 0] (World.laidAll_os _ _ _) (World.shaped_of_ZipB yq yq) yq
      (OpenSpec.preRow_of_cond 8 J yq (fun k K=>by cases K) yq (laid_met os))) ?_
  intro W B D L M A E N _ _ I O P _;exact contract H enc W B D L M A I E N P O
set_option maxHeartbeats 4000000 in
set_option maxRecDepth 100000 in
theorem facts:joinedFacts Tryz.pinned.checked.prog 3 Tryz.f3 (OpenSpec.ofChange Rows.stateTellsSpec).bare Rows.stateTellsRow=true:=by
  simp only[joinedFacts,xy]
  repeat' (with_reducible refine And.intro ?_ ?_)
  all_goals (as_aux_lemma=>kernel_rfl)
theorem said:Rows.StateTellsSaid:=
  OpenClaim.holds_of_cond 3 Tryz.f3 rfl rfl rfl rfl rfl rfl rfl ⟨rfl,rfl,rfl,rfl,rfl⟩ rfl rfl rfl rfl rfl yq func3 facts
    (of_decide_eq_true yq) (by unfold Func.isWrapper;first|(rw[if_pos (by decide+kernel)];kernel_rfl)|(rw[if_neg (by decide+kernel)];exact⟨rfl,rfl⟩))
    (fun C A H B _ F=>by rw[OpenClaim.pre_eq_preRow];exact lifted C A H B F)
theorem plain(f : FuncId)(fn : Func)(hf : Tryz.pinned.checked.prog.funcNamed "variorum/variorumlaw15.StateTells" = some f)(hfn : Tryz.pinned.checked.prog.funcs[f]? = some fn):
    true=Tryz.pinned.checked.prog.looks []∧∀(j:Nat) t,fn.params[j]?=some t→Tryz.pinned.checked.prog.wantsStandIn t=false:=by
  obtain rfl : f = 3 := Option.some.inj ((show prog.funcNamed "variorum/variorumlaw15.StateTells" = some 3 by kernel_rfl).symm.trans hf) |>.symm;obtain rfl : fn = Tryz.f3 := (Option.some.inj (func3.symm.trans hfn)).symm;refine ⟨by kernel_rfl, fun j t ht => ?_⟩;rw [Tryz.params3] at ht;have hm : t ∈ [22] := by simpa using Array.mem_of_getElem? ht
  have hall:([22].all fun u=> !prog.wantsStandIn u)=true:=yq;exact(show prog.wantsStandIn t=false by simpa using List.all_eq_true.1 hall t hm)
theorem card:Rows.StateTellsCardSaid:=
  Claim7.holds_tied_plain_at .later [] _ _ _ _ said (fun _ h=>by cases h) yq (fun _ h=>by cases h) stateTells_row_tie rfl ⟨rfl,rfl⟩ yq rfl plain yq
end stateTells
end Go.Proofs.YtdgbjhfkmembdaaGreatDoor