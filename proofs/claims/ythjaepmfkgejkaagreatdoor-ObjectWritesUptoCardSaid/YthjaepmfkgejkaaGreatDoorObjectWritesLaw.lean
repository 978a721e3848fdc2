/-
  ObjectWrites, where what it reads is of bulk at most 1048576: for every object the law returns true and its argument reads as it did. Condition: the listed variables hold what the program's text lays (the card ties them).
-/
import Derived.Test.YthjaepmfkgejkaaGreatDoorObjectWritesWalk
import Derived.Test.YthjaepmfkgejkaaGreatDoorMerged29
import Derived.Test.YthjaepmfkgejkaaGreatDoorMerged7
import Derived.Lib.LaidTab
set_option linter.unusedVariables false
set_option maxRecDepth 100000
namespace Go.Proofs.YthjaepmfkgejkaaGreatDoor.objectWrites
open Go.ChangeShapes Go.WideShapes Go.ChangeAt Go.RowKit
open Go.ChangeMaps (open_string shut_string)
theorem tabF {W : World} (hL : laidMetH Tryz.prog Rows.objectWritesUptoRow.laid W) : Lib.TabIs Tryz.prog W "variorum/sha.first" .u32 (st8 firstS) := by
  rw [MakeChecks.laidMetH_plain _ _ _ (by kernel_rfl)] at hL
  obtain ⟨ps, h1, _, _⟩ := hL
  obtain ⟨_, _, _, _, _, q1, _, _, _, _, h2, _⟩ := h1
  obtain ⟨g', t', cs, fuel, p, q, hg', ht', hvar, hd, _, _⟩ := h2
  have hg : Tryz.prog.globalNamed "variorum/sha.first" = some 0 := by kernel_rfl
  obtain rfl := Option.some.inj (hg.symm.trans hg')
  have hty : (Tryz.prog.globals[0]?).map (·.type) = some 84 := by kernel_rfl
  obtain rfl := Option.some.inj (hty.symm.trans ht')
  have e : (Rows.laid_variorum_sha_first : DataW Unit) = Lib.tabData .u32 (st8 firstS) := by kernel_rfl
  rw [e] at hd
  unfold Lib.TabIs
  rw [hvar, ← Lib.cells_of_tab Tryz.underlying84 Tryz.underlying83 (by kernel_rfl) (by kernel_rfl) hd]
theorem tabK {W : World} (hL : laidMetH Tryz.prog Rows.objectWritesUptoRow.laid W) : Lib.TabIs Tryz.prog W "variorum/sha.words" .u32 keysS := by
  rw [MakeChecks.laidMetH_plain _ _ _ (by kernel_rfl)] at hL
  obtain ⟨ps, h1, _, _⟩ := hL
  obtain ⟨_, _, _, _, _, q1, _, _, _, _, h2, _⟩ := h1
  obtain ⟨_, _, _, _, _, q2, _, _, _, _, h2, _⟩ := h2
  obtain ⟨g', t', cs, fuel, p, q, hg', ht', hvar, hd, _, _⟩ := h2
  have hg : Tryz.prog.globalNamed "variorum/sha.words" = some 1 := by kernel_rfl
  obtain rfl := Option.some.inj (hg.symm.trans hg')
  have hty : (Tryz.prog.globals[1]?).map (·.type) = some 85 := by kernel_rfl
  obtain rfl := Option.some.inj (hty.symm.trans ht')
  have e : (Rows.laid_variorum_sha_words : DataW Unit) = Lib.tabData .u32 keysS := by kernel_rfl
  rw [e] at hd
  unfold Lib.TabIs
  rw [hvar, ← Lib.cells_of_tab Tryz.underlying85 Tryz.underlying83 (by kernel_rfl) (by kernel_rfl) hd]
theorem shaG0 {W : World} (hL : laidMetH Tryz.prog Rows.objectWritesUptoRow.laid W) : ShaG W := ⟨fun j hj => (tabF hL).cell (by kernel_rfl) j hj, fun j hj => (tabK hL).cell (by kernel_rfl) j hj⟩
theorem contract (H : Type) (enc : TypeId × Value → H) (W : World) (base : Nat) (args : Array Value) (ds gs : List (DataW H)) (before : List MemPlace)
    (hsz0 : (DataW.weightsEach Tryz.prog (Tryz.f4.params.toList ++ (OpenSpec.ofChange Rows.objectWritesSpec).bare.plain.varTypes Tryz.prog) (ds ++ gs)).all (· ≤ reachBytes) = true)
    (hval : ∀ (j : Nat) t v, Tryz.f4.params[j]? = some t → args[j]? = some v → Value.okWide Tryz.prog W .any base t v)
    (hW : DataW.Whole enc Tryz.prog Tryz.f4.params.toList Rows.objectWritesSpec.vars false W args.toList ds gs before) (hS : W.ShapedOpen Tryz.prog) (hk : Rows.uptoSmall H (ds ++ gs) = true) (hL : laidMetH Tryz.prog Rows.objectWritesUptoRow.laid W) :
    Calls Tryz.prog 4 args W fun e W' => ∃ v, e = .returned v ∧ Rows.objectWritesSpec.post enc Tryz.prog Tryz.f4 false true false false W args v W' := by
  have hW' := hW
  obtain ⟨p, q, hA0, hV, rfl, hfz, hnd⟩ := hW
  have hA : DataW.TrodAll enc Tryz.prog W 0 (fun _ => true) true Tryz.f4.params.toList args.toList ds p := hA0
  rw [Tryz.params4] at hA hval hsz0
  obtain ⟨v0, vs0, d0, ds0, p0, q0, hargs, rfl, rfl, h0, r0⟩ := trodAll_cons hA
  obtain ⟨rfl, rfl, rfl⟩ := trodAll_nil r0
  obtain rfl : args = #[v0] := by cases args; simp_all
  obtain ⟨rfl, rfl⟩ := trodVars_none hV
  have k0 := h0
  have lt0 : ∀ x ∈ p0, x.block < W.heap.size := by obtain ⟨m, hm⟩ := k0; exact DataW.trod_lt m _ _ _ hm
  obtain ⟨x0, hx0, _⟩ := object_arg (hval 0 30 v0 rfl rfl) h0
  have hb0 : Rows.uptoBulk d0 ≤ 1048576 := by
    have h1 : Rows.uptoBulkAll ([d0] ++ ([] : List (DataW H))) ≤ 1048576 := of_decide_eq_true hk
    simp only [List.append_nil, Rows.uptoBulkAll] at h1
    omega
  have ht0 : ∀ x ∈ x0.2.1.2.2.2, x.2.2.2.1.size ≤ 1099511627776 := fun x hx => Nat.le_trans (objTexts hx0 k0 x hx) (Nat.le_trans hb0 (by decide))
  clear hA0
  simp only [List.append_nil] at hW'
  refine (walk x0 v0 W hx0 ht0 (glob0 hS) (shaG0 hL)).mono fun e W' ⟨he, bel⟩ => ?_
  subst he
  exact ⟨_, rfl, _, _, _, [], _, [], hW', trodAll_mk1 (shut_bool Tryz.underlying4 _), (trodAll_cons_mk (Below.trod laidOut (by kernel_rfl) (of_decide_eq_true (by kernel_rfl)) k0 bel lt0) trodAll_mk0), rfl, bel.frame _, fun h => by cases h⟩
noncomputable def laidWorld (os : Os) : World := World.laidAll Tryz.prog os Rows.objectWritesUptoRow.laid
theorem laid_met (os : Os) : laidMetH Tryz.prog Rows.objectWritesUptoRow.laid ((laidWorld os).forCall (fun _ _ => 0) ⟨#[], #[.agg objZ.toArray], []⟩).memory := by
  rw [MakeChecks.laidMetH_plain _ _ _ (by kernel_rfl)]
  exact laidMet_laidAll _ (by kernel_rfl) (by kernel_rfl)
theorem reads (os : Os) {H : Type} (enc : TypeId × Value → H) : ∃ places, DataW.whole enc Tryz.prog ((laidWorld os).forCall (fun _ _ => 0) ⟨#[], #[.agg objZ.toArray], []⟩).memory Tryz.f4.params.toList Rows.objectWritesSpec.vars false #[Value.agg objZ.toArray].toList 8 = some ([objData H], [], places) :=
  ⟨[], by kernel_rfl⟩
theorem lifted (os : Os) (started : os.Started) (H : Type) (enc : TypeId × Value → H) (F : Stop.Interp) :
    ReturnsInHanded {} Tryz.checked os 4 .any ((Rows.OpenSpec.upto Rows.objectWritesSpec).preRow enc Tryz.prog Tryz.f4 Rows.objectWritesUptoRow.domain false Rows.objectWritesUptoRow.laid) (((Rows.OpenSpec.upto Rows.objectWritesSpec).at F).post enc Tryz.prog Tryz.f4 false true false false) := by
  obtain ⟨places, hx⟩ := reads os enc
  refine returnsInHanded_of_row (C := Tryz.checked) (s := Rows.OpenSpec.upto Rows.objectWritesSpec) own started (by kernel_rfl) Tryz.func4
    (Qu (C := Tryz.checked) (laidWorld os) #[.agg objZ.toArray] (World.laidAll_os _ _ _) (World.shaped_of_ZipB (by kernel_rfl) (by kernel_rfl)) (by kernel_rfl)
      (OpenSpec.preRow_of_cond 8 hx (by kernel_rfl) (fun k hk => by cases hk; kernel_rfl) (by kernel_rfl) (laid_met os))) ?_
  intro W base args ds gs before hval hW _ hcond hsz hL hS _
  exact contract H enc W base args ds gs before hsz hval hW hS (hcond _ rfl) hL
theorem said : Rows.ObjectWritesUptoSaid :=
  OpenClaim.holds_of_cond 4 Tryz.f4 rfl rfl rfl rfl rfl rfl rfl ⟨rfl, rfl, rfl, rfl, rfl⟩ rfl rfl rfl rfl rfl (by kernel_rfl) Tryz.func4 (by kernel_rfl)
    (of_decide_eq_true (by kernel_rfl)) (by unfold Func.isWrapper; first | (rw [if_pos (by decide +kernel)]; kernel_rfl) | (rw [if_neg (by decide +kernel)]; exact ⟨rfl, rfl⟩))
    (fun os started H enc _ F => by rw [OpenClaim.pre_eq_preRow]; exact lifted os started H enc F)
theorem plain (f : FuncId) (fn : Func) (hf : Tryz.pinned.checked.prog.funcNamed "variorum/variorumlaw08.ObjectWrites" = some f) (hfn : Tryz.pinned.checked.prog.funcs[f]? = some fn) :
    true = Tryz.pinned.checked.prog.looks [] ∧ ∀ (j : Nat) t, fn.params[j]? = some t → Tryz.pinned.checked.prog.wantsStandIn t = false := by
  obtain rfl : f = 4 := Option.some.inj ((show Tryz.prog.funcNamed "variorum/variorumlaw08.ObjectWrites" = some 4 by kernel_rfl).symm.trans hf) |>.symm
  obtain rfl : fn = Tryz.f4 := (Option.some.inj (Tryz.func4.symm.trans hfn)).symm
  refine ⟨by kernel_rfl, fun j t ht => ?_⟩
  rw [Tryz.params4] at ht
  have hm : t ∈ [30] := by simpa using Array.mem_of_getElem? ht
  have hall : ([30].all fun u => !Tryz.prog.wantsStandIn u) = true := by kernel_rfl
  exact (show Tryz.prog.wantsStandIn t = false by simpa using List.all_eq_true.1 hall t hm)
theorem card : Rows.ObjectWritesUptoCardSaid :=
  Claim7.holds_tied_plain_at .later [] _ _ _ _ said (fun _ h => by cases h) (by kernel_rfl) (fun _ h => by cases h) objectWritesUpto_row_tie rfl ⟨rfl, rfl⟩ (by kernel_rfl) rfl plain (by kernel_rfl)
end Go.Proofs.YthjaepmfkgejkaaGreatDoor.objectWrites
