/-
  Evaluation of closed runs, part O: operations, unwinding, the whole run. No conditions; no program.
-/
import Derived.Test.YtmlhijlcefogmaaGreatDoorMerged23
set_option linter.unusedVariables false
set_option linter.unusedSimpArgs false
namespace Go.Proofs.YtmlhijlcefogmaaGreatDoor
namespace Ev

section
variable {P : Program} {lim : Nat} {S : Nat → Prop} {μ : Nat → Loc} {w w' : World} {fn : FuncId} {nt : Nat} {F : T V} {todo : List AI} {df : List DV} {kd : Bool} {rnd : Option Nat} {cs : List AF} {H : T O} {n : Nat} {fr : Frame} {frs : List Frame} {out : Out}
section
variable {s : Sem Next} {callers : List Frame}
theorem apply_value {x : Value} (h : s.run P w = .ok (.value x) w') : (stepG.apply P true fr callers none s w).bare = .go { frame := fr.finish x, callers := callers, status := .running, dying := none } w' := by
  simp [stepG.apply, Sem.runT_eq, h]
theorem apply_skip (h : s.run P w = .ok .skip w') : (stepG.apply P true fr callers none s w).bare = .go { frame := fr.finish undef, callers := callers, status := .running, dying := none } w' := by
  simp [stepG.apply, Sem.runT_eq, h]
theorem apply_enter {f : FuncId} {xs : Array Value} (h : s.run P w = .ok (.enter f xs) w') (hf : ∀ d r a k, fr.todo ≠ .call d true r a :: k) : (stepG.apply P true fr callers none s w).bare = .go { frame := Frame.enter P f xs .normal, callers := fr :: callers, status := .running, dying := none } w' := by
  simp only [stepG.apply, Sem.runT_eq, h, if_true, GStep.bare_after]
  rfl
theorem apply_defer {d : Deferred} (h : s.run P w = .ok (.defer d) w') : (stepG.apply P true fr callers none s w).bare = .go { frame := { fr with defers := d :: fr.defers }.finish undef, callers := callers, status := .running, dying := none } w' := by
  simp [stepG.apply, Sem.runT_eq, h]
theorem apply_panic {x : Value} (h : s.run P w = .halt (.panic x) w') : (stepG.apply P true fr callers none s w).bare = .go { frame := fr.raise [{ v := x, recovered := false }], callers := callers, status := .running, dying := none } w' := by
  simp [stepG.apply, Sem.runT_eq, h]
theorem apply_recover (h : s.run P w = .ok .recover w') (hr : fr.roundOf = none) : (stepG.apply P true fr callers none s w).bare = .go (match tryRecover fr callers with
    | some (v, callers) => { frame := fr.finish v, callers := callers, status := .running, dying := none }
    | none => { frame := fr.finish .nilIface, callers := callers, status := .running, dying := none }) w' := by
  simp only [stepG.apply, Sem.runT_eq, h, if_true, GStep.bare_after, hr]
  cases tryRecover fr callers with
  | none => rfl
  | some x => rfl
theorem apply_round {l : Nat} {f : FuncId} {tmps : Array Value} {asg body : Code} (h : s.run P w = .ok (.round l f tmps asg body) w') : (stepG.apply P true fr callers none s w).bare = .go { frame := Frame.round l f tmps asg body .normal, callers := fr :: callers, status := .running, dying := none } w' := by
  simp [stepG.apply, Sem.runT_eq, h]
end
theorem opStep_ok {sm : Sums} (hsm : SumsOk P 1024 sm) {ops : Array Oper} {i : Nat} {r : List Nat} {k : List AI} (hc : CR 1024 lim S μ ⟨⟨fn, nt, F, .it (.inRegion ops (i :: r)) :: k, df, .run, kd, rnd⟩, cs, H, n⟩ fr frs w) (he : opStep P sm lim fn nt F ops i r k df kd rnd cs H n = some out) :
    Sim P 1024 lim S μ H.at w n fr frs out := by
  have hok : ∀ x ∈ k, x.ok S := fun x hx => hc.top.ok x (by simp [hx])
  have htodo := hc.top.todo
  have hmd := hc.top.md
  simp only [List.map_cons, AI.real, MR] at htodo hmd
  obtain ⟨fn', tm', todo', df', md', kd', rnd'⟩ := fr
  simp only at htodo hmd
  subst htodo hmd
  rw [opStep_eq] at he
  unfold opStepS at he
  split at he
  · cases he
  rename_i o ho
  -- an operation's value put
  have done' : ∀ (cs2 : List Frame) {F' : T V} {v : V} {x : Value} {w' : World} {S' : Nat → Prop} {μ' : Nat → Loc} {H' : T O} {n' : Nat}, putT nt F o.dst v = some F' → VR S' μ' v x → RH 1024 S' μ' H'.at w' → Go S μ H.at w n S' μ' H'.at w' n' →
      Steps P (lone ⟨fn', tm', .inRegion ops (i :: r) :: k.map (AI.real μ), df', .run, kd', rnd'⟩ (frs ++ cs2) w) (lone ((Frame.mk fn' tm' (.inRegion ops (i :: r) :: k.map (AI.real μ)) df' .run kd' rnd').finish x) (frs ++ cs2) w') →
      ∃ fr2 frs2 w2 S2 μ2, Steps P (lone ⟨fn', tm', .inRegion ops (i :: r) :: k.map (AI.real μ), df', .run, kd', rnd'⟩ (frs ++ cs2) w) (lone fr2 (frs2 ++ cs2) w2) ∧ CR 1024 lim S2 μ2 ⟨⟨fn, nt, F', .it (.inRegion ops r) :: k, df, .run, kd, rnd⟩, cs, H', n'⟩ fr2 frs2 w2 ∧ Go S μ H.at w n S2 μ2 H'.at w2 n' := by
    intro cs2 F' v x w' S' μ' H' n' hF hv hr hg hs
    have hm := hc.top.mono (fun _ => hg.up) hg.same
    refine ⟨_, frs, w', S', μ', hs, ⟨?_, hc.cs.mono (fun _ => hg.up) hg.same, hr, fresh_go hg hc.fresh⟩, hg⟩
    rw [finish_region ho]
    refine ⟨hm.fn, putT_ok hF hm.tm hv, ?_, ok_it (ok_mono (fun _ => hg.up) hg.same hok), hm.df, rfl, hm.kd, hm.rnd, hm.rok⟩
    simp only [List.map_cons, AI.real]
    rw [real_mono (fun _ => hg.up) hg.same hok]
  have done : ∀ {F' : T V} {v : V} {x : Value} {w' : World} {S' : Nat → Prop} {μ' : Nat → Loc} {H' : T O} {n' : Nat}, putT nt F o.dst v = some F' → VR S' μ' v x → RH 1024 S' μ' H'.at w' → Go S μ H.at w n S' μ' H'.at w' n' →
      (∀ cs2, (stepG P true { frame := ⟨fn', tm', .inRegion ops (i :: r) :: k.map (AI.real μ), df', .run, kd', rnd'⟩, callers := frs ++ cs2, status := .running, dying := none } w).bare = .go { frame := (Frame.mk fn' tm' (.inRegion ops (i :: r) :: k.map (AI.real μ)) df' .run kd' rnd').finish x, callers := frs ++ cs2, status := .running, dying := none } w') →
      Sim P 1024 lim S μ H.at w n ⟨fn', tm', .inRegion ops (i :: r) :: k.map (AI.real μ), df', .run, kd', rnd'⟩ frs (.next ⟨⟨fn, nt, F', .it (.inRegion ops r) :: k, df, .run, kd, rnd⟩, cs, H', n'⟩) :=
    fun hF hv hr hg hs cs2 => done' cs2 hF hv hr hg (steps1 (hs cs2))
  split at he
  · cases he
  · -- not wanted
    rename_i hwant
    have hw := wantedA_ok hwant hc.top.tm
    simp only at hw
    split at he
    · rename_i F' hF
      unfold nx at he
      injection he with he
      subst he
      refine done (x := undef) hF (.t [] [] .nil) hc.rh (Go.refl hc.rh) (fun cs2 => ?_)
      simp [stepG, stepG.exec, ho, hw]
    · cases he
  · rename_i hwant
    have hw := wantedA_ok hwant hc.top.tm
    simp only at hw
    split at he
    case h_2 => cases he
    rename_i x hlt hx
    have hlt := blt_lt hlt
    have hop := evalOp_ok (w := w) hx (ρ_ok hc.top.tm hc.rh.glob _) hc.rh (hc.fresh n (Nat.le_refl _) hlt)
    have hstep : (rnd' = none ∨ ∀ c, o.op ≠ .defer c) → ∀ cs2, (stepG P true { frame := ⟨fn', tm', .inRegion ops (i :: r) :: k.map (AI.real μ), df', .run, kd', rnd'⟩, callers := frs ++ cs2, status := .running, dying := none } w).bare = _ := fun hd cs2 => op_step ho hw hd (frs ++ cs2) w
    have hnodef : ∀ {y : Next}, (∀ d, y ≠ .defer d) → ∀ {w2}, (execOp (Frame.eval ⟨fn', tm', .inRegion ops (i :: r) :: k.map (AI.real μ), df', .run, kd', rnd'⟩) o).run P w = .ok y w2 → ∀ c, o.op ≠ .defer c := by
      intro y hy w2 hrun c hop
      simp only [execOp, hop, Sem.run_bind] at hrun
      cases hres : (resolve (Frame.eval ⟨fn', tm', .inRegion ops (i :: r) :: k.map (AI.real μ), df', .run, kd', rnd'⟩) c o.type).run P w with
      | halt a b => rw [hres] at hrun; simp at hrun
      | ok d w3 => rw [hres] at hrun; simp at hrun; exact hy d hrun.1.symm
    split at he
    · -- a value, the world stands
      rename_i v
      obtain ⟨x, h1, h2⟩ := hop
      split at he
      · rename_i F' hF
        unfold nx at he
        injection he with he
        subst he
        exact done hF h2 hc.rh (Go.refl hc.rh) (fun cs2 => (hstep (.inr (hnodef (by simp) h1)) cs2).trans (apply_value h1))
      · cases he
    · rename_i v H' n'
      obtain ⟨x, w', S', μ', h1, h2, h3, h4⟩ := hop
      split at he
      · rename_i F' hF
        unfold nx at he
        injection he with he
        subst he
        rcases h1 with h1 | ⟨h1, rfl⟩
        · exact done hF h2 h3 h4 (fun cs2 => (hstep (.inr (hnodef (by simp) h1)) cs2).trans (apply_value h1))
        · exact done hF h2 h3 h4 (fun cs2 => (hstep (.inr (hnodef (by simp) h1)) cs2).trans (apply_skip h1))
      · cases he
    · -- a call
      rename_i f args
      obtain ⟨xs, h1, h2, _⟩ := hop
      have henter := fun cs2 => (hstep (.inr (hnodef (by simp) h1)) cs2).trans (apply_enter h1 (by intro d r a k h; cases h))
      split at he
      · -- by its summary
        rename_i g hg
        split at he
        · rename_i v H' n' hgv
          split at he
          · rename_i F' hF hle
            unfold nx at he
            injection he with he
            subst he
            have hcall := hsm f g args H n v H' n' hg hgv S μ w xs.toList h2 hc.rh (fun b hb hl => hc.fresh b hb (Nat.lt_of_lt_of_le hl (by simpa using hle)))
            intro cs2
            obtain ⟨e, w', fr2, ⟨x, rfl, S', μ', g1, g2, g3⟩, hcomes, hfn2, hleave⟩ := hcall (⟨fn', tm', .inRegion ops (i :: r) :: k.map (AI.real μ), df', .run, kd', rnd'⟩ :: (frs ++ cs2))
            exact done' cs2 hF g1 g2 g3 (((steps1 (henter cs2)).trans hcomes).trans (.one (step_leave_returned hleave)))
          · cases he
        · cases he
      · split at he
        · rename_i A hA
          injection he with he
          subst he
          obtain ⟨e1, _⟩ := enterA_ok hA h2
          exact fun cs2 => ⟨_, ⟨fn', tm', .inRegion ops (i :: r) :: k.map (AI.real μ), df', .run, kd', rnd'⟩ :: frs, w, S, μ, steps1 (henter cs2), ⟨e1, .cons hc.top hc.cs, hc.rh, hc.fresh⟩, Go.refl hc.rh⟩
        · cases he
    · -- defer
      rename_i d
      obtain ⟨x, h1, h2⟩ := hop
      split at he
      · rename_i F' hF
        unfold nx at he
        injection he with he
        subst he
        have hro := hc.top.rnd
        simp only [Option.map_none] at hro
        subst hro
        refine fun cs2 => ⟨_, frs, w, S, μ, steps1 ((hstep (.inl rfl) cs2).trans (apply_defer h1)), ⟨?_, hc.cs, hc.rh, hc.fresh⟩, Go.refl hc.rh⟩
        rw [finish_region ho]
        refine ⟨hc.top.fn, putT_ok hF hc.top.tm (.t [] [] .nil), by simp [AI.real], ok_it hok, .cons ?_ hc.top.df, rfl, hc.top.kd, rfl, hc.top.rok⟩
        cases d with
        | fn fn caps args => obtain ⟨cs, xs, e, h3, h4⟩ := h2; exact ⟨cs, xs, e, h3, h4⟩
        | col b => exact h2.elim
      · cases he
    · -- panic
      rename_i v
      obtain ⟨x, h1, h2⟩ := hop
      unfold nx at he
      injection he with he
      subst he
      have hnd : ∀ c, o.op ≠ .defer c := by
        intro c hop
        simp only [execOp, hop, Sem.run_bind] at h1
        unfold resolve at h1
        cases hcal : c.callee with
        | value f =>
          simp only [hcal] at h1
          unfold Deferred.ofValue at h1
          split at h1 <;> simp at h1
        | invoke rv m => simp [hcal] at h1
        | builtin b => simp [hcal] at h1
      exact fun cs2 => ⟨_, frs, w, S, μ, steps1 ((hstep (.inr hnd) cs2).trans (apply_panic h1)), ⟨⟨hc.top.fn, hc.top.tm, by simp [AI.real, Frame.raise], hc.top.ok, hc.top.df, ⟨_, rfl, .cons h2 .nil⟩, hc.top.kd, hc.top.rnd, hc.top.rok⟩, hc.cs, hc.rh, hc.fresh⟩, Go.refl hc.rh⟩
    · -- recover
      have hop : (execOp (Frame.eval ⟨fn', tm', .inRegion ops (i :: r) :: k.map (AI.real μ), df', .run, kd', rnd'⟩) o).run P w = .ok .recover w := hop
      have hst := hstep (.inr (hnodef (by simp) hop))
      have hro := hc.top.rnd
      have hkd := hc.top.kd
      split at he
      · -- no deferred call
        simp only [Option.map_none] at hro
        subst hro
        simp only [kdOf, Bool.false_eq_true, if_false] at hkd
        subst hkd
        split at he
        · rename_i F' hF
          unfold nx at he
          injection he with he
          subst he
          exact done hF (.g .nilIface) hc.rh (Go.refl hc.rh) (fun cs2 => ((hst cs2).trans (apply_recover hop rfl)).trans (by simp [tryRecover]))
        · cases he
      · rename_i fn2 nt2 F2 todo2 df2 md2 kd2 rnd2 cs'
        simp only [Option.map_none] at hro
        subst hro
        simp only [kdOf, if_true] at hkd
        subst hkd
        cases hcs : hc.cs with
        | cons hA hAs =>
          rename_i R Rs
          obtain ⟨rfn, rtm, rtodo, rdf, rmd, rkd, rrnd⟩ := R
          have hmd2 := hA.md
          split at he
          · -- a panic is caught
            rename_i v older
            split at he
            · rename_i F' hF
              unfold nx at he
              injection he with he
              subst he
              obtain ⟨ps, e, hps⟩ := hmd2
              simp only at e
              subst e
              cases hps with
              | cons hv hold =>
                rename_i x xs
                intro cs2
                refine ⟨_, ⟨rfn, rtm, rtodo, rdf, .panicking ({ v := x, recovered := true } :: xs), rkd, rrnd⟩ :: Rs, w, S, μ, steps1 (((hst cs2).trans (apply_recover hop rfl)).trans (by simp [tryRecover]; rfl)), ⟨?_, .cons ⟨hA.fn, hA.tm, hA.todo, hA.ok, hA.df, ⟨_, rfl, .cons hv hold⟩, hA.kd, hA.rnd, hA.rok⟩ hAs, hc.rh, hc.fresh⟩, Go.refl hc.rh⟩
                rw [finish_region ho]
                exact ⟨hc.top.fn, putT_ok hF hc.top.tm hv, by simp [AI.real], ok_it hok, hc.top.df, rfl, hc.top.kd, rfl, hc.top.rok⟩
            · cases he
          · split at he
            · rename_i F' hF
              unfold nx at he
              injection he with he
              subst he
              simp only [MR] at hmd2
              subst hmd2
              exact done hF (.g .nilIface) hc.rh (Go.refl hc.rh) (fun cs2 => ((hst cs2).trans (apply_recover hop rfl)).trans (by simp [tryRecover]))
            · cases he
          · cases he
      · cases he
    · -- a round
      rename_i l args
      obtain ⟨hSl, xs, hrun, hxs⟩ := hop
      split at he
      case h_2 => cases he
      rename_i st pend fn2 F2 nt2 ps asg body d hl
      split at he
      case h_2 => cases he
      rename_i F3 hF3
      injection he with he
      subst he
      obtain ⟨_, hSd, tm2, hx2, htm2⟩ := RH.loop hc.rh hl
      obtain ⟨k1, k2⟩ := putPs_ok hF3 htm2 hxs
      have hsz : xs.size = ps.size := by
        have := hxs.length
        simp only [Array.length_toList] at this k2
        omega
      have hy : (Instr.yield (μ l).blk xs).run P w = .ok (.round (μ l).blk fn2 ((ps.toList.zip xs.toList).foldl (fun tm x => tm.setIfInBounds x.1 x.2) tm2) asg body) w := by
        have hfold : (ps.zip xs).foldl (fun tmps (x : Tmp × Value) => tmps.setIfInBounds x.1 x.2) tm2 = (ps.toList.zip xs.toList).foldl (fun tm x => tm.setIfInBounds x.1 x.2) tm2 := by
          rw [← Array.foldl_toList, Array.toList_zip]
        simp only [Instr.yield, Sem.run_bind, getLoop_run hx2, Result.andThen_ok]
        rw [if_neg (by simp [hsz]), ← hfold]
        rfl
      rw [hy] at hrun
      refine fun cs2 => ⟨_, ⟨fn', tm', .inRegion ops (i :: r) :: k.map (AI.real μ), df', .run, kd', rnd'⟩ :: frs, w, S, μ, steps1 ((hstep (.inr (hnodef (by simp) hrun)) cs2).trans (apply_round hrun)), ⟨⟨rfl, k1, rfl, ?_, .nil, rfl, rfl, rfl, fun l' hl' => by cases hl'; exact hSl⟩, .cons hc.top hc.cs, hc.rh, hc.fresh⟩, Go.refl hc.rh⟩
      exact ok_it (ok_it (ok_it (by simp)))
theorem RH.dfr {G : Nat} {h : Nat → Option O} (r : RH G S μ h w) {b : Nat} {g : Bool} (hb : h b = some (.dfr g)) : S b ∧ w.heap[(μ b).blk]? = some (.deferred (if g then none else some [])) := by
  obtain ⟨hS, x, hx, rfl⟩ := r.ok b _ hb
  exact ⟨hS, hx⟩
theorem unwindStep_ok {md : AM} (hc : CR 1024 lim S μ ⟨⟨fn, nt, F, todo, df, md, kd, rnd⟩, cs, H, n⟩ fr frs w) (hnr : md ≠ .run) (he : unwindStep P fn nt F todo df md kd rnd cs H n = some out) :
    Sim P 1024 lim S μ H.at w n fr frs out := by
  have htodo := hc.top.todo
  have hmd := hc.top.md
  have hdf := hc.top.df
  have hfn := hc.top.fn
  have hkd := hc.top.kd
  obtain ⟨fn', tm', todo', df', md', kd', rnd'⟩ := fr
  simp only at htodo hmd hdf hfn hkd
  subst hfn
  have hmr : md' ≠ .run := by
    cases md with
    | run => exact absurd rfl hnr
    | ret => simp only [MR] at hmd; rw [hmd]; simp
    | pan ch => obtain ⟨ps, e, _⟩ := hmd; rw [e]; simp
  have hstep : ∀ (cs2 : List Frame), stepG P true { frame := ⟨fn', tm', todo', df', md', kd', rnd'⟩, callers := cs2, status := .running, dying := none } w = unwind P true ⟨fn', tm', todo', df', md', kd', rnd'⟩ cs2 none w := by
    intro cs2
    cases md' with
    | run => exact absurd rfl hmr
    | returning => rfl
    | panicking ps => rfl
  unfold unwindStep at he
  split at he
  · -- a loop's block of calls
    rename_i b ds
    split at he
    case h_2 => cases he
    rename_i hb
    rw [T.putK_eq] at he
    unfold nx at he
    injection he with he
    subst he
    cases hdf with
    | cons hd hds =>
      rename_i x xs
      obtain ⟨hSb, rfl⟩ := hd
      obtain ⟨_, hx⟩ := RH.dfr hc.rh hb
      simp only [Bool.false_eq_true, if_false] at hx
      obtain ⟨q1, q2⟩ := setHeap_upd (n := n) hc.rh hb rfl (x := .deferred none) (o' := .dfr true) rfl
      have hrun : (Instr.takeDeferred (μ b).blk).run P w = .ok [] { w with heap := w.heap.setIfInBounds (μ b).blk (.deferred none) } := by
        simp [Instr.takeDeferred, getObj, setObj, Sem.run, hx]
      refine fun cs2 => ⟨⟨fn', tm', todo', xs, md', kd', rnd'⟩, frs, _, S, μ, steps1 ?_, ⟨⟨rfl, hc.top.tm, htodo, hc.top.ok, hds, hmd, hkd, hc.top.rnd, hc.top.rok⟩, hc.cs, q1, hc.fresh⟩, q2⟩
      rw [hstep]
      simp [unwind, Sem.runT_eq, hrun]
  · -- a deferred call
    rename_i f caps args ds
    split at he
    case h_2 => cases he
    rename_i A hcall hA
    injection he with he
    subst he
    cases hdf with
    | cons hd hds =>
      rename_i x xs
      obtain ⟨c2, x2, rfl, hcaps, hargs⟩ := hd
      obtain ⟨e1, _⟩ := enterA_ok (xs := x2 ++ c2) hA (by rw [appL_eq]; simpa using hargs.append hcaps)
      have hinv : ∀ w', (invoke (.fn (.func f) c2) x2).run P w' = .ok (.enter f (x2 ++ c2)) w' := fun w' => callOk_run hcall _ w'
      refine fun cs2 => ⟨Frame.enter P f (x2 ++ c2) (kdOf true), ⟨fn', tm', todo', xs, md', kd', rnd'⟩ :: frs, w, S, μ, steps1 ?_, ⟨e1, .cons ⟨rfl, hc.top.tm, htodo, hc.top.ok, hds, hmd, hkd, hc.top.rnd, hc.top.rok⟩ hc.cs, hc.rh, hc.fresh⟩, Go.refl hc.rh⟩
      rw [hstep]
      simp only [unwind, callDeferred, Sem.runT_eq, hinv, GStep.bare_after]
      simp [kdOf]
  · cases he
  · -- no deferred call is left
    cases hdf
    split at he
    · cases he
    · -- a return
      simp only [MR] at hmd
      subst hmd
      split at he
      · cases he
      · rename_i v hv
        obtain ⟨f, x, hf, hres, hvx⟩ := resV_ok hv hc.top.tm hc.rh
        simp only at hres
        have hun : ∀ cs2, (stepG P true { frame := ⟨fn', tm', todo', [], .returning, kd', rnd'⟩, callers := cs2, status := .running, dying := none } w).bare = (doReturn P true ⟨fn', tm', todo', [], .returning, kd', rnd'⟩ cs2 none x w).bare := by
          intro cs2
          rw [hstep]
          simp [unwind, hf, Sem.runT_eq, hres]
        split at he
        · split at he
          · injection he with he
            subst he
            cases hc.cs
            simp only [kdOf, Bool.false_eq_true, if_false] at hkd
            subst hkd
            exact ⟨rfl, rfl, rfl, rfl, x, ⟨rfl, rfl, rfl, f, hf, hres⟩, hvx⟩
          · cases he
        · rename_i A cs'
          cases hcs : hc.cs with
          | cons hA hAs =>
            rename_i R Rs
            split at he
            · simp only [kdOf, Bool.false_eq_true, if_false] at hkd
              subst hkd
              split at he
              · rename_i A' hfin
                injection he with he
                subst he
                exact fun cs2 => ⟨R.finish x, Rs, w, S, μ, steps1 ((hun _).trans (by simp [doReturn])), ⟨finA_ok hfin hA hvx, hAs, hc.rh, hc.fresh⟩, Go.refl hc.rh⟩
              · cases he
            · simp only [kdOf, if_true] at hkd
              subst hkd
              obtain ⟨fn2, nt2, F2, todo2, df2, md2, kd2, rnd2⟩ := A
              obtain ⟨rfn, rtm, rtodo, rdf, rmd, rkd, rrnd⟩ := R
              have hmd2 := hA.md
              simp only at he hmd2
              split at he
              · rename_i v2 older
                unfold nx at he
                injection he with he
                subst he
                obtain ⟨ps, e, hps⟩ := hmd2
                subst e
                cases hps with
                | cons hv hold =>
                  rename_i y ys
                  have hdrop : ∀ {c : List (V × Bool)} {p : List PanicEntry}, PRs S μ c p → p.dropWhile (fun e => !e.goexit) = [] := by
                    intro c p h
                    induction h with
                    | nil => rfl
                    | cons _ _ ih => simp [List.dropWhile_cons, ih]
                  refine fun cs2 => ⟨⟨rfn, rtm, rtodo, rdf, .returning, rkd, rrnd⟩, Rs, w, S, μ, steps1 ((hun _).trans ?_), ⟨⟨hA.fn, hA.tm, hA.todo, hA.ok, hA.df, rfl, hA.kd, hA.rnd, hA.rok⟩, hAs, hc.rh, hc.fresh⟩, Go.refl hc.rh⟩
                  simp [doReturn, hdrop hold]
              · rename_i hne
                unfold nx at he
                injection he with he
                subst he
                refine fun cs2 => ⟨⟨rfn, rtm, rtodo, rdf, rmd, rkd, rrnd⟩, Rs, w, S, μ, steps1 ((hun _).trans ?_), ⟨⟨hA.fn, hA.tm, hA.todo, hA.ok, hA.df, hmd2, hA.kd, hA.rnd, hA.rok⟩, hAs, hc.rh, hc.fresh⟩, Go.refl hc.rh⟩
                cases md2 with
                | run => simp only [MR] at hmd2; subst hmd2; simp [doReturn]
                | ret => simp only [MR] at hmd2; subst hmd2; simp [doReturn]
                | pan ch =>
                  obtain ⟨ps, e, hps⟩ := hmd2
                  subst e
                  cases hps with
                  | nil => simp [doReturn]
                  | cons hv hold =>
                    rename_i v3 y b3 ds ys
                    cases b3 with
                    | true => exact absurd rfl (hne v3 ds)
                    | false => simp [doReturn]
    · -- a panic
      rename_i ch
      obtain ⟨ps, e, hps⟩ := hmd
      subst e
      split at he
      · cases he
      · rename_i f hf
        split at he
        · split at he
          · injection he with he
            subst he
            cases hc.cs
            exact ⟨rfl, rfl, rfl, rfl, ps, ⟨rfl, rfl, f, hf⟩, hps⟩
          · cases he
        · rename_i A cs'
          injection he with he
          subst he
          cases hcs : hc.cs with
          | cons hA hAs =>
            rename_i R Rs
            refine fun cs2 => ⟨R.raise ps, Rs, w, S, μ, steps1 ?_, ⟨raiseA_ok hA hps, hAs, hc.rh, hc.fresh⟩, Go.refl hc.rh⟩
            rw [hstep]
            simp [unwind, Frame.catches, hf]
theorem astep_ok {sm : Sums} (hsm : SumsOk P 1024 sm) {dw : Draws} (hdw : DrawsOk P 1024 lim dw) {c : Cfg} (hc : CR 1024 lim S μ c fr frs w) (he : astep P sm dw lim c = some out) : Sim P 1024 lim S μ c.H.at w c.n fr frs out := by
  obtain ⟨⟨fn, nt, F, todo, df, md, kd, rnd⟩, cs, H, n⟩ := c
  simp only [astep] at he
  split at he
  · split at he
    · -- the end
      refine leaveA_ok hc he (fun hr hj cs => ?_) (fun l hr v w' hrun cs => ?_)
      · have htodo := hc.top.todo
        have hmd := hc.top.md
        obtain ⟨fn', tm', todo', df', md', kd', rnd'⟩ := fr
        simp only [List.map_nil, MR] at htodo hmd hr
        subst htodo hmd hr
        simp [stepG, stepG.exec]
      · have htodo := hc.top.todo
        have hmd := hc.top.md
        obtain ⟨fn', tm', todo', df', md', kd', rnd'⟩ := fr
        simp only [List.map_nil, MR] at htodo hmd hr
        subst htodo hmd hr
        simp [stepG, stepG.exec, Sem.runT_eq, hrun]
    · rename_i i k
      have hok : ∀ x ∈ k, x.ok S := fun x hx => hc.top.ok x (by simp [hx])
      split at he
      · exact codeStep_ok hdw hc he
      all_goals
        have htodo := hc.top.todo
        have hmd := hc.top.md
      · obtain ⟨fn', tm', todo', df', md', kd', rnd'⟩ := fr
        simp only [List.map_cons, AI.real, MR] at htodo hmd
        subst htodo hmd
        exact sim_todo hc k .run .run rfl hok he (fun cs => by simp [stepG, stepG.exec])
      · obtain ⟨fn', tm', todo', df', md', kd', rnd'⟩ := fr
        simp only [List.map_cons, AI.real, MR] at htodo hmd
        subst htodo hmd
        exact sim_todo hc k .run .run rfl hok he (fun cs => by simp [stepG, stepG.exec])
      · obtain ⟨fn', tm', todo', df', md', kd', rnd'⟩ := fr
        simp only [List.map_cons, AI.real, MR] at htodo hmd
        subst htodo hmd
        exact sim_todo hc _ .run .run rfl (ok_it (ok_it hok)) he (fun cs => by simp [stepG, stepG.exec, AI.real])
      · obtain ⟨fn', tm', todo', df', md', kd', rnd'⟩ := fr
        simp only [List.map_cons, AI.real, MR] at htodo hmd
        subst htodo hmd
        exact sim_todo hc k .run .run rfl hok he (fun cs => by simp [stepG, stepG.exec])
      · exact opStep_ok hsm hc he
      · -- a round begins
        split at he
        case h_2 => cases he
        rename_i l
        split at he
        case h_2 => cases he
        rename_i pend fn2 F2 nt2 ps asg body d hl
        rw [T.putK_eq] at he
        unfold nx at he
        injection he with he
        subst he
        have hro := hc.top.rnd
        obtain ⟨fn', tm', todo', df', md', kd', rnd'⟩ := fr
        simp only [List.map_cons, AI.real, MR, Option.map_some] at htodo hmd hro
        subst htodo hmd hro
        obtain ⟨hSl, hSd, tm2, hx2, htm2⟩ := RH.loop hc.rh hl
        obtain ⟨q1, q2⟩ := setHeap_upd (n := n) hc.rh hl rfl (x := .loop { state := .busy, pending := pend, fn := fn2, tmps := tm2, params := ps, assign := asg, body := body, defers := (μ d).blk }) (o' := .loop .busy pend fn2 F2 nt2 ps asg body d) ⟨hSd, tm2, rfl, htm2⟩
        have hrun : (Instr.beginRound (μ l).blk).run P w = .ok () { w with heap := w.heap.setIfInBounds (μ l).blk (.loop { state := .busy, pending := pend, fn := fn2, tmps := tm2, params := ps, assign := asg, body := body, defers := (μ d).blk }) } := by
          simp [Instr.beginRound, getLoop_run hx2, setObj_loop hx2]
        refine fun cs2 => ⟨⟨fn', tm', k.map (AI.real μ), df', .run, kd', some (μ l).blk⟩, frs, _, S, μ, steps1 ?_, ⟨⟨hc.top.fn, hc.top.tm, rfl, hok, hc.top.df, rfl, hc.top.kd, rfl, hc.top.rok⟩, hc.cs, q1, hc.fresh⟩, q2⟩
        simp [stepG, stepG.exec, stepG.apply, Sem.runT_eq, hrun, Frame.finish]
      · cases he
    · -- a loop ends
      rename_i l k
      have hok : ∀ x ∈ k, x.ok S := fun x hx => hc.top.ok x (by simp [hx])
      split at he
      case h_2 => cases he
      rename_i st pend fn2 F2 nt2 ps asg body d hl
      split at he
      case h_2 => cases he
      rename_i hst
      rw [T.putK_eq] at he
      unfold nx at he
      injection he with he
      subst he
      have htodo := hc.top.todo
      have hmd := hc.top.md
      obtain ⟨fn', tm', todo', df', md', kd', rnd'⟩ := fr
      simp only [List.map_cons, AI.real, MR] at htodo hmd
      subst htodo hmd
      obtain ⟨hSl, hSd, tm2, hx2, htm2⟩ := RH.loop hc.rh hl
      obtain ⟨q1, q2⟩ := setHeap_upd (n := n) hc.rh hl rfl (x := .loop { state := .exhausted, pending := pend, fn := fn2, tmps := tm2, params := ps, assign := asg, body := body, defers := (μ d).blk }) (o' := .loop .exhausted pend fn2 F2 nt2 ps asg body d) ⟨hSd, tm2, rfl, htm2⟩
      have hrun : (Instr.endLoop (μ l).blk).run P w = .ok pend { w with heap := w.heap.setIfInBounds (μ l).blk (.loop { state := .exhausted, pending := pend, fn := fn2, tmps := tm2, params := ps, assign := asg, body := body, defers := (μ d).blk }) } := by
        cases st <;> simp at hst <;> simp [Instr.endLoop, getLoop_run hx2, setObj_loop hx2]
      refine fun cs2 => ⟨⟨fn', tm', (match pend with | some j => AI.it (.code j) :: k | none => k).map (AI.real μ), df', .run, kd', rnd'⟩, frs, _, S, μ, steps1 ?_, ⟨⟨hc.top.fn, hc.top.tm, rfl, ?_, hc.top.df, rfl, hc.top.kd, hc.top.rnd, hc.top.rok⟩, hc.cs, q1, hc.fresh⟩, q2⟩
      · cases pend <;> simp [stepG, stepG.exec, Sem.runT_eq, hrun, AI.real]
      · cases pend with
        | none => exact hok
        | some j => exact ok_it hok
    · cases he
  · rename_i hne
    exact unwindStep_ok hc (fun e => hne e) he
/-- What a whole run says. -/
def RunOk (P : Program) (S : Nat → Prop) (μ : Nat → Loc) (h : Nat → Option O) (w : World) (n : Nat) (fr : Frame) (frs cs : List Frame) : Res → Prop
  | .ret fn v H n' => ∃ fr' w' S' μ' x, Steps P (lone fr (frs ++ cs) w) (lone fr' cs w') ∧ fr'.fn = fn ∧ fr'.leaving P w' (.returned x) ∧ VR S' μ' v x ∧ RH 1024 S' μ' H.at w' ∧ Go S μ h w n S' μ' H.at w' n'
  | .pan fn ch H n' => ∃ fr' w' S' μ' ps, Steps P (lone fr (frs ++ cs) w) (lone fr' cs w') ∧ fr'.fn = fn ∧ fr'.leaving P w' (.panicked ps) ∧ PRs S' μ' ch ps ∧ RH 1024 S' μ' H.at w' ∧ Go S μ h w n S' μ' H.at w' n'
theorem runA_ok {sm : Sums} (hsm : SumsOk P 1024 sm) {dw : Draws} (hdw : DrawsOk P 1024 lim dw) (cs2 : List Frame) : ∀ (fuel : Nat) {c : Cfg} {r : Res} {S : Nat → Prop} {μ : Nat → Loc} {fr : Frame} {frs : List Frame} {w : World}, runA P sm dw lim fuel c = some r → CR 1024 lim S μ c fr frs w →
    RunOk P S μ c.H.at w c.n fr frs cs2 r := by
  intro fuel
  induction fuel with
  | zero => intro c r S μ fr frs w h _; cases h
  | succ fuel ih =>
    intro c r S μ fr frs w h hc
    have h' : (match astep P sm dw lim c with | none => none | some (.done r) => some r | some (.next c) => runA P sm dw lim fuel c) = some r := h
    split at h'
    · cases h'
    · rename_i r' hs
      injection h' with h'
      subst h'
      have := astep_ok hsm hdw hc hs
      cases r' with
      | ret fn v H n' =>
        obtain ⟨rfl, e1, e2, e3, x, h1, h2⟩ := this
        subst e3
        exact ⟨fr, w, S, μ, x, .refl _ _, e1, h1, h2, by rw [e2]; exact hc.rh, by rw [e2]; exact Go.refl hc.rh⟩
      | pan fn ch H n' =>
        obtain ⟨rfl, e1, e2, e3, x, h1, h2⟩ := this
        subst e3
        exact ⟨fr, w, S, μ, x, .refl _ _, e1, h1, h2, by rw [e2]; exact hc.rh, by rw [e2]; exact Go.refl hc.rh⟩
    · rename_i c' hs
      obtain ⟨fr2, frs2, w2, S2, μ2, h1, h2, h3⟩ := astep_ok hsm hdw hc hs cs2
      have := ih h' h2
      cases r with
      | ret fn v H n' =>
        obtain ⟨fr3, w3, S3, μ3, x, k1, k2, k3, k4, k5, k6⟩ := this
        exact ⟨fr3, w3, S3, μ3, x, h1.trans k1, k2, k3, k4, k5, h3.trans k6⟩
      | pan fn ch H n' =>
        obtain ⟨fr3, w3, S3, μ3, x, k1, k2, k3, k4, k5, k6⟩ := this
        exact ⟨fr3, w3, S3, μ3, x, h1.trans k1, k2, k3, k4, k5, h3.trans k6⟩
end

noncomputable section
/-- A call, whole. -/
def callA (P : Program) (sm : Sums) (dw : Draws) (lim fuel : Nat) (f : FuncId) (args : List V) (H : T O) (n : Nat) : Option (V × T O × Nat) :=
  match enterA P f args false with
  | none => none
  | some A => match runA P sm dw lim fuel ⟨A, [], H, n⟩ with
    | some (.ret fn v H' n') => match Nat.beq fn f with | true => some (v, H', n') | false => none
    | _ => none
end
theorem callA_ok {P : Program} {lim : Nat} {sm : Sums} (hsm : SumsOk P 1024 sm) {dw : Draws} (hdw : DrawsOk P 1024 lim dw) {fuel : Nat} {f : FuncId} {args : List V} {H H' : T O} {n n' : Nat} {v : V} (he : callA P sm dw lim fuel f args H n = some (v, H', n'))
    {S : Nat → Prop} {μ : Nat → Loc} {w : World} {xs : Array Value} (hv : VRs S μ args xs.toList) (hr : RH 1024 S μ H.at w) (hfr : ∀ b, n ≤ b → b < lim → ¬ S b) :
    Calls P f xs w fun e w' => ∃ x, e = .returned x ∧ ∃ S' μ', VR S' μ' v x ∧ RH 1024 S' μ' H'.at w' ∧ Go S μ H.at w n S' μ' H'.at w' n' := by
  unfold callA at he
  split at he
  · cases he
  · rename_i A hA
    split at he
    · rename_i fn v2 H2 n2 hrun
      split at he
      · rename_i hb
        have hb := Nat.eq_of_beq_eq_true hb
        subst hb
        injection he with he
        injection he with e1 he
        injection he with e2 e3
        subst e1 e2 e3
        obtain ⟨k1, k2, k3, k4⟩ := enterA_ok (P := P) hA hv
        intro cs
        obtain ⟨fr', w', S', μ', x, h1, h2, h3, h4, h5, h6⟩ := runA_ok hsm hdw cs fuel hrun (fr := Frame.enter P fn xs (kdOf false)) (frs := []) ⟨k1, .nil, hr, hfr⟩
        exact ⟨.returned x, w', fr', ⟨x, rfl, S', μ', h4, h5, h6⟩, h1, h2, h3⟩
      · cases he
    · cases he
end Ev
end Go.Proofs.YtmlhijlcefogmaaGreatDoor
