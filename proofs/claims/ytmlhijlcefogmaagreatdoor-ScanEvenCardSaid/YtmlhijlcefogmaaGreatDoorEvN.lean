/-
  Evaluation of closed runs, part N: each step of the abstract machine. No conditions; no program.
-/
import Derived.Test.YtmlhijlcefogmaaGreatDoorEvM
set_option linter.unusedVariables false
set_option linter.unusedSimpArgs false
namespace Go.Proofs.YtmlhijlcefogmaaGreatDoor
namespace Ev

section
variable {P : Program} {lim : Nat} {S : Nat → Prop} {μ : Nat → Loc} {w : World} {fn : FuncId} {nt : Nat} {F : T V} {todo : List AI} {df : List DV} {kd : Bool} {rnd : Option Nat} {cs : List AF} {H : T O} {n : Nat} {fr : Frame} {frs : List Frame} {out : Out}
theorem RH.loop {G : Nat} {h : Nat → Option O} (r : RH G S μ h w) {l : Nat} {st : LoopState} {pend : Option Code} {fn : FuncId} {F : T V} {nt : Nat} {params : Array Tmp} {asg body : Code} {d : Nat} (hl : h l = some (.loop st pend fn F nt params asg body d)) :
    S l ∧ S d ∧ ∃ tm, w.heap[(μ l).blk]? = some (.loop { state := st, pending := pend, fn := fn, tmps := tm, params := params, assign := asg, body := body, defers := (μ d).blk }) ∧ TR S μ nt F tm := by
  obtain ⟨hS, x, hx, h1, tm, rfl, h2⟩ := r.ok l _ hl
  exact ⟨hS, h1, tm, hx, h2⟩
theorem getLoop_run {l : Nat} {r : Loop} (h : w.heap[l]? = some (.loop r)) : (Instr.getLoop l).run P w = .ok r w := by
  simp [Instr.getLoop, getObj, Sem.run, h]
theorem setObj_loop {l : Nat} {r : Loop} (h : w.heap[l]? = some (.loop r)) (o : Obj) : (setObj l o).run P w = .ok () { w with heap := w.heap.setIfInBounds l o } := by
  simp [setObj, Sem.run, h]
/-- A frame's way out. -/
theorem leaveA_ok {jump : Option Code} (hc : CR 1024 lim S μ ⟨⟨fn, nt, F, todo, df, .run, kd, rnd⟩, cs, H, n⟩ fr frs w) (he : leaveA fn nt F todo df kd rnd cs H n jump = some out)
    (h1 : fr.roundOf = none → (jump = none ∨ jump = some .ret) → ∀ cs, (stepG P true { frame := fr, callers := cs, status := .running, dying := none } w).bare = .go { frame := { fr with mode := .returning }, callers := cs, status := .running, dying := none } w)
    (h2 : ∀ l, fr.roundOf = some l → ∀ v w', (Instr.endRound l jump).run P w = .ok v w' → ∀ cs, (stepG P true { frame := fr, callers := cs, status := .running, dying := none } w).bare = (doReturn P true fr cs none v w').bare) :
    Sim P 1024 lim S μ H.at w n fr frs out := by
  unfold leaveA at he
  have hrnd := hc.top.rnd
  simp only at hrnd
  split at he
  · -- no round
    simp only [Option.map_none] at hrnd
    have key : (jump = none ∨ jump = some .ret) → nx fn nt F todo df .ret kd none cs H n = some out → Sim P 1024 lim S μ H.at w n fr frs out := fun hj he => by
      have ht := hc.top.todo
      simp only at ht
      exact sim_todo hc todo .ret .returning rfl hc.top.ok he (fun cs => by rw [h1 hrnd hj cs, ← ht])
    split at he
    · exact key (.inl rfl) he
    · exact key (.inr rfl) he
    · cases he
  · rename_i l
    simp only [Option.map_some] at hrnd
    split at he
    case h_2 => cases he
    rename_i st pend fn' F' nt' ps asg body d A cs' hl
    split at he
    case h_2 => cases he
    rename_i A' hfin
    rw [T.putK_eq] at he
    injection he with he
    subst he
    obtain ⟨hS, hSd, tm, hx, htm⟩ := RH.loop hc.rh hl
    cases hcs : hc.cs with
    | cons hA hAs =>
      rename_i R Rs
      have hkd := hc.top.kd
      simp only [kdOf, Bool.false_eq_true, if_false] at hkd
      have hrun : (Instr.endRound (μ l).blk jump).run P w = .ok (.bool jump.isNone) { w with heap := w.heap.setIfInBounds (μ l).blk (.loop { state := if jump.isNone then .ready else .done, pending := jump, fn := fn', tmps := tm, params := ps, assign := asg, body := body, defers := (μ d).blk }) } := by
        simp [Instr.endRound, getLoop_run hx, setObj_loop hx]
      obtain ⟨q1, q2⟩ := setHeap_upd (n := n) hc.rh hl rfl (x := .loop { state := if jump.isNone then .ready else .done, pending := jump, fn := fn', tmps := tm, params := ps, assign := asg, body := body, defers := (μ d).blk })
        (o' := .loop (roundSt jump) jump fn' F' nt' ps asg body d) ⟨hSd, tm, by cases jump <;> rfl, htm⟩
      refine fun cs => ⟨R.finish (.bool jump.isNone), Rs, _, S, μ, steps1 ?_, ⟨finA_ok hfin hA (.b _), hAs, q1, hc.fresh⟩, q2⟩
      rw [h2 _ hrnd _ _ hrun, List.cons_append]
      simp [doReturn, hkd]
theorem ok_cons {S : Nat → Prop} {a : AI} {k : List AI} (ha : a.ok S) (hk : ∀ x ∈ k, x.ok S) : ∀ x ∈ a :: k, x.ok S := fun x hx => (List.mem_cons.1 hx).elim (fun e => e ▸ ha) (hk x)
theorem ok_it {S : Nat → Prop} {i : Item} {k : List AI} (hk : ∀ x ∈ k, x.ok S) : ∀ x ∈ AI.it i :: k, x.ok S := ok_cons (a := .it i) trivial hk
theorem callOk_run {g : FuncId} (h : callOk P g = true) (xs : Array Value) (w : World) : (callFunc g xs).run P w = .ok (.enter g xs) w := by
  unfold callOk at h
  split at h
  · rename_i f hf
    simp only [Bool.and_eq_true, Bool.not_eq_true'] at h
    have hb : ¬ f.body = none := fun e => by rw [e] at h; simp at h
    have hname : ¬ f.name = "runtime.NumGoroutine" := by simpa using h.2
    simp [callFunc, hf, hname, hb]
  · cases h
/-- A loop over a function begins. -/
theorem loop_begin {h : Nat → Option O} {ps : Array Tmp} {asg body : Code} {tm : Array Value} {d : Nat} (hr : RH 1024 S μ h w) (hn : ¬ S n) (hd : S d) (htm : TR S μ nt F tm) :
    RH 1024 (S1 S n) (μ1 μ n ⟨w.heap.size, 0, 0⟩) (h1 h n (.loop .ready none fn F nt ps asg body d)) (w.alloc (.loop { state := .ready, pending := none, fn := fn, tmps := tm, params := ps, assign := asg, body := body, defers := (μ d).blk })) ∧
    Go S μ h w n (S1 S n) (μ1 μ n ⟨w.heap.size, 0, 0⟩) (h1 h n (.loop .ready none fn F nt ps asg body d)) (w.alloc (.loop { state := .ready, pending := none, fn := fn, tmps := tm, params := ps, assign := asg, body := body, defers := (μ d).blk })) (n + 1) := by
  refine RH.alloc hr hn _ 0 _ ⟨.inl hd, tm, ?_, htm.mono (fun _ => .inl) (μ1_same hn)⟩
  rw [μ1_same hn d hd]
theorem loop_begin0 {ps : Array Tmp} {asg body : Code} {tm : Array Value} (hr : RH 1024 S μ H.at w) (hfr : ∀ b, n ≤ b → b < lim → ¬ S b) (hlt : n + 1 < lim) (htm : TR S μ nt F tm) :
    ∃ S2 μ2, RH 1024 S2 μ2 ((H.put n (some (.dfr false))).put (n + 1) (some (.loop .ready none fn F nt ps asg body n))).at ((w.alloc (.deferred (some []))).alloc (.loop { state := .ready, pending := none, fn := fn, tmps := tm, params := ps, assign := asg, body := body, defers := w.heap.size })) ∧
      Go S μ H.at w n S2 μ2 ((H.put n (some (.dfr false))).put (n + 1) (some (.loop .ready none fn F nt ps asg body n))).at ((w.alloc (.deferred (some []))).alloc (.loop { state := .ready, pending := none, fn := fn, tmps := tm, params := ps, assign := asg, body := body, defers := w.heap.size })) (n + 2) ∧
      S2 n ∧ S2 (n + 1) ∧ (μ2 n).blk = w.heap.size ∧ (μ2 (n + 1)).blk = w.heap.size + 1 := by
  have hn : ¬ S n := hfr n (Nat.le_refl _) (by omega)
  obtain ⟨a1, b1⟩ := RH.alloc hr hn (Obj.deferred (some [])) 0 (O.dfr false) rfl
  have hn1 : ¬ S1 S n (n + 1) := fun h => h.elim (fun h => hfr (n + 1) (by omega) (by omega) h) (fun h => by omega)
  have htm' := htm.mono (fun _ => b1.up) b1.same
  obtain ⟨a2, b2⟩ := loop_begin (fn := fn) (ps := ps) (asg := asg) (body := body) a1 hn1 (d := n) (Or.inr ⟨Nat.le_refl _, Nat.lt_succ_self _⟩) htm'
  have hblkd : (μ1 μ n ⟨w.heap.size, 0, 0⟩ n).blk = w.heap.size := by rw [μ1_new]
  rw [hblkd] at a2 b2
  refine ⟨_, _, by rw [at_put1, at_put1]; exact a2, by rw [at_put1, at_put1]; exact b1.trans b2, ?_, ?_, ?_, ?_⟩
  · exact Or.inl (Or.inr ⟨Nat.le_refl _, Nat.lt_succ_self _⟩)
  · exact Or.inr ⟨Nat.le_refl _, Nat.lt_succ_self _⟩
  · rw [b2.same n (Or.inr ⟨Nat.le_refl _, Nat.lt_succ_self _⟩), μ1_new]
  · rw [μ1_new]; simp
theorem fresh_go {h h' : Nat → Option O} {S' : Nat → Prop} {μ' : Nat → Loc} {w' : World} {n' : Nat} (hg : Go S μ h w n S' μ' h' w' n') (hf : ∀ b, n ≤ b → b < lim → ¬ S b) : ∀ b, n' ≤ b → b < lim → ¬ S' b := by
  intro b hb hl
  rw [hg.new]
  have := hg.le
  rintro (h | h)
  · exact hf b (by omega) hl h
  · omega
theorem codeStep_ok {dw : Draws} (hdw : DrawsOk P 1024 lim dw) {c : Code} {k : List AI} (hc : CR 1024 lim S μ ⟨⟨fn, nt, F, .it (.code c) :: k, df, .run, kd, rnd⟩, cs, H, n⟩ fr frs w) (he : codeStep P dw lim fn nt F c k df kd rnd cs H n = some out) :
    Sim P 1024 lim S μ H.at w n fr frs out := by
  have hok : ∀ x ∈ k, x.ok S := fun x hx => hc.top.ok x (by simp [hx])
  have htodo := hc.top.todo
  have hmd := hc.top.md
  simp only [List.map_cons, AI.real, MR] at htodo hmd
  obtain ⟨fn', tm', todo', df', md', kd', rnd'⟩ := fr
  simp only at htodo hmd
  subst htodo hmd
  unfold codeStep at he
  split at he
  · exact sim_todo hc k .run .run rfl hok he (fun cs => by simp [stepG, stepG.exec])
  · exact sim_todo hc k .run .run rfl hok he (fun cs => by simp [stepG, stepG.exec])
  · exact sim_todo hc _ .run .run rfl (ok_it (ok_it hok)) he (fun cs => by simp [stepG, stepG.exec, AI.real])
  · -- cond
    rename_i x a b
    split at he
    case h_2 => cases he
    rename_i t hx
    have hv := ev_ok hc.top.tm hc.rh.glob hx
    refine sim_todo hc _ .run .run rfl (ok_it hok) he (fun cs => ?_)
    generalize hval : Frame.eval ⟨fn', tm', .code (.cond x a b) :: k.map (AI.real μ), df', .run, kd', rnd'⟩ x = xv at hv
    cases hv
    simp only [stepG, stepG.exec, hval]
    cases t <;> simp [AI.real]
  · exact sim_todo hc _ .run .run rfl (ok_it (ok_it hok)) he (fun cs => by simp [stepG, stepG.exec, AI.real])
  · exact sim_todo hc _ .run .run rfl (ok_it (ok_it hok)) he (fun cs => by simp [stepG, stepG.exec, AI.real])
  · exact sim_todo hc _ .run .run rfl (ok_it (ok_it hok)) he (fun cs => by simp [stepG, stepG.exec, AI.real])
  · -- exit
    rename_i id
    have hex := exitA_ok (S := S) μ id k hok
    split at he
    · rename_i k' hk
      rw [hk] at hex
      exact sim_todo hc _ .run .run rfl hex.2 he (fun cs => by simp [stepG, stepG.exec, hex.1])
    · rename_i hk
      rw [hk] at hex
      refine leaveA_ok hc he (fun hr hj cs => by rcases hj with hj | hj <;> cases hj) (fun l hr v w' hrun cs => ?_)
      simp only at hr
      subst hr
      simp [stepG, stepG.exec, hex, Frame.roundOf, Sem.runT_eq, hrun]
  · -- goto
    rename_i l
    have hex := gotoA_ok (S := S) μ l k hok
    split at he
    · rename_i k' hk
      rw [hk] at hex
      exact sim_todo hc _ .run .run rfl hex.2 he (fun cs => by simp [stepG, stepG.exec, hex.1])
    · rename_i hk
      rw [hk] at hex
      refine leaveA_ok hc he (fun hr hj cs => by rcases hj with hj | hj <;> cases hj) (fun l hr v w' hrun cs => ?_)
      simp only at hr
      subst hr
      simp [stepG, stepG.exec, hex, Sem.runT_eq, hrun]
  · -- ret
    refine leaveA_ok hc he (fun hr hj cs => ?_) (fun l hr v w' hrun cs => ?_)
    · simp only at hr
      subst hr
      simp [stepG, stepG.exec]
    · simp only at hr
      subst hr
      simp [stepG, stepG.exec, Sem.runT_eq, hrun]
  · -- region
    rename_i id ops draw
    split at he
    · exact sim_todo hc _ .run .run rfl (ok_it hok) he (fun cs => by simp [stepG, stepG.exec, AI.real])
    · split at he
      case h_2 => cases he
      rename_i F' H' n' hd
      unfold nx at he
      injection he with he
      subst he
      have hfn := hc.top.fn
      intro cs2
      obtain ⟨tm2, w', S', μ', h1, h2, h3, h4⟩ := hdw _ _ _ _ _ _ _ _ _ _ hd S μ w _ (k.map (AI.real μ)) hfn rfl rfl hc.top.tm hc.rh hc.fresh (frs ++ cs2)
      refine ⟨_, frs, w', S', μ', h1, ⟨⟨hc.top.fn, h2, (real_mono (fun _ => h4.up) h4.same hok).symm, ok_mono (fun _ => h4.up) h4.same hok, hc.top.df.mono (fun _ => h4.up) h4.same, rfl, hc.top.kd, ?_, fun l hl => h4.up (hc.top.rok l hl)⟩, hc.cs.mono (fun _ => h4.up) h4.same, h3, fun b hb hl => ?_⟩, h4⟩
      · have := (hc.top.mono (fun _ => h4.up) h4.same).rnd
        exact this
      · rw [h4.new]
        have := h4.le
        simp only at hb
        rintro (h | h)
        · exact hc.fresh b (by simp only; omega) hl h
        · omega
  · -- a loop over a function
    rename_i f ps asg body
    split at he
    · rename_i g caps hf hlt
      have hlt := blt_lt hlt
      split at he
      case h_2 => cases he
      rename_i A hcall hA
      rw [T.putK_eq, T.putK_eq] at he
      injection he with he
      subst he
      have hro := hc.top.rnd
      simp only [Option.map_none] at hro
      subst hro
      have hfnn : fn' = fn := hc.top.fn
      subst hfnn
      obtain ⟨S2, μ2, a, hgo, s1, s2, m1, m2⟩ := loop_begin0 (fn := fn') (nt := nt) (F := F) (H := H) (n := n) (tm := tm') (ps := ps) (asg := asg) (body := body) hc.rh hc.fresh hlt hc.top.tm
      have hv := ev_ok hc.top.tm hc.rh.glob hf
      generalize hval : Frame.eval ⟨fn', tm', .code (.rangeFunc f ps asg body) :: k.map (AI.real μ), df', .run, kd', none⟩ f = xv at hv
      cases hv with
      | f _ _ cs' hcaps =>
        have hy : VR S2 μ2 (.y (n + 1)) (.func (.yield (w.heap.size + 1)) #[] #[]) := by
          have := VR.y (μ := μ2) (n + 1) s2
          rwa [m2] at this
        obtain ⟨e1, e2, e3, e4⟩ := enterA_ok (xs := #[.func (.yield (w.heap.size + 1)) #[] #[]] ++ cs'.toArray) hA (by simpa using VRs.cons hy (hcaps.mono (fun _ => hgo.up) hgo.same))
        have hcaller : FR S2 μ2 ⟨fn', nt, F, .rf (n + 1) :: k, .col n :: df, .run, kd, none⟩ ⟨fn', tm', .inRangeFunc (w.heap.size + 1) :: k.map (AI.real μ), { target := .collected w.heap.size, args := #[] } :: df', .run, kd', none⟩ := by
          refine ⟨rfl, hc.top.tm.mono (fun _ => hgo.up) hgo.same, ?_, ok_cons (a := .rf (n + 1)) s2 (ok_mono (fun _ => hgo.up) hgo.same hok), .cons ⟨s1, by rw [m1]⟩ (hc.top.df.mono (fun _ => hgo.up) hgo.same), rfl, hc.top.kd, rfl, fun l hl => absurd hl (by simp)⟩
          simp only [List.map_cons, AI.real, m2]
          rw [real_mono (fun _ => hgo.up) hgo.same hok]
        have hrunL : (Instr.enterLoop fn' tm' ps asg body none).run P w = .ok (w.heap.size + 1, [{ target := .collected w.heap.size, args := #[] }]) ((w.alloc (.deferred (some []))).alloc (.loop { state := .ready, pending := none, fn := fn', tmps := tm', params := ps, assign := asg, body := body, defers := w.heap.size })) := by
          simp [Instr.enterLoop]
        have heval : Frame.eval ⟨fn', tm', .inRangeFunc (w.heap.size + 1) :: k.map (AI.real μ), { target := .collected w.heap.size, args := #[] } :: df', .run, kd', none⟩ f = .func (.func g) #[] cs'.toArray := by
          rw [← hval]
          cases f <;> rfl
        have hstep : ∀ cs2 : List Frame, (stepG P true { frame := ⟨fn', tm', .code (.rangeFunc f ps asg body) :: k.map (AI.real μ), df', .run, kd', none⟩, callers := frs ++ cs2, status := .running, dying := none } w).bare =
            .go { frame := Frame.enter P g (#[.func (.yield (w.heap.size + 1)) #[] #[]] ++ cs'.toArray) (kdOf false), callers := ⟨fn', tm', .inRangeFunc (w.heap.size + 1) :: k.map (AI.real μ), { target := .collected w.heap.size, args := #[] } :: df', .run, kd', none⟩ :: (frs ++ cs2), status := .running, dying := none }
              ((w.alloc (.deferred (some []))).alloc (.loop { state := .ready, pending := none, fn := fn', tmps := tm', params := ps, assign := asg, body := body, defers := w.heap.size })) := fun cs2 => by
          have hres : ∀ w', (resolve (Frame.eval ⟨fn', tm', .inRangeFunc (w.heap.size + 1) :: k.map (AI.real μ), { target := .collected w.heap.size, args := #[] } :: df', .run, kd', none⟩) { callee := .value f, args := #[.const (.func (.yield (w.heap.size + 1)) #[] #[])], argTypes := #[] } 0).run P w' = .ok { target := .fn (.func g) cs'.toArray, args := #[.func (.yield (w.heap.size + 1)) #[] #[]] } w' := fun w' => by
            unfold resolve
            simp only [heval, Deferred.ofValue]
            simp [Frame.eval]
          have hinv : ∀ w', (invoke (.fn (.func g) cs'.toArray) #[.func (.yield (w.heap.size + 1)) #[] #[]]).run P w' = .ok (.enter g (#[.func (.yield (w.heap.size + 1)) #[] #[]] ++ cs'.toArray)) w' := fun w' => callOk_run hcall _ w'
          simp only [stepG, stepG.exec, Sem.runT_eq, hrunL, stepG.apply, Sem.run_bind, List.cons_append, List.nil_append, hres, Result.andThen_ok, hinv, if_true, GStep.bare_after, kdOf]
          rfl
        generalize ((w.alloc (.deferred (some []))).alloc (.loop { state := .ready, pending := none, fn := fn', tmps := tm', params := ps, assign := asg, body := body, defers := w.heap.size })) = w2 at *
        generalize (⟨fn', tm', .inRangeFunc (w.heap.size + 1) :: k.map (AI.real μ), { target := .collected w.heap.size, args := #[] } :: df', .run, kd', none⟩ : Frame) = C at *
        exact fun cs2 => ⟨_, C :: frs, w2, S2, μ2, steps1 (hstep cs2), ⟨e1, .cons hcaller (hc.cs.mono (fun _ => hgo.up) hgo.same), a, fresh_go hgo hc.fresh⟩, hgo⟩
    · cases he
  · cases he

/-- A frame at an operation: what the operation's run does. -/
theorem op_step {ops : Array Oper} {i : Nat} {r : List Nat} {o : Oper} {k : List Item} {df' : List Deferred} {kd' : CallKind} {rnd' : Option Nat} {fn' : FuncId} {tm' : Array Value} (ho : ops[i]? = some o) (hw : Region.wanted o (yielded ops tm') = true) (hd : rnd' = none ∨ ∀ c, o.op ≠ .defer c) (cs : List Frame) (w : World) :
    (stepG P true { frame := ⟨fn', tm', .inRegion ops (i :: r) :: k, df', .run, kd', rnd'⟩, callers := cs, status := .running, dying := none } w).bare =
    (stepG.apply P true ⟨fn', tm', .inRegion ops (i :: r) :: k, df', .run, kd', rnd'⟩ cs none (execOp (Frame.eval ⟨fn', tm', .inRegion ops (i :: r) :: k, df', .run, kd', rnd'⟩) o) w).bare := by
  simp only [stepG, stepG.exec, ho, Option.map_some, hw, Option.getD_some, if_true, stepG.oper, Frame.oper?]
  rcases hd with rfl | hd
  · rfl
  · cases rnd' with
    | none => rfl
    | some l =>
      cases hop : o.op <;> first | rfl | exact absurd hop (hd _)
theorem wantedA_ok {ops : Array Oper} {o : Oper} {tm' : Array Value} {b : Bool} (h : wantedA ops F o = some b) (ht : TR S μ nt F tm') : Region.wanted o (yielded ops tm') = b := by
  unfold wantedA at h
  unfold Region.wanted
  split at h
  · rename_i hg
    injection h with h
    subst h
    simp [hg]
  · rename_i j want hg
    simp only [hg]
    unfold yielded
    split at h
    · rename_i hd
      injection h with h
      subst h
      simp [hd]
    · rename_i d hd
      split at h
      · rename_i t hF
        injection h with h
        subst h
        obtain ⟨_, x, hx, hr⟩ := ht.2 d _ hF
        cases hr
        simp [hd, hx]
      · rename_i vs hF
        injection h with h
        subst h
        obtain ⟨_, x, hx, hr⟩ := ht.2 d _ hF
        cases hr
        simp [hd, hx]
      · cases h
theorem finish_region {ops : Array Oper} {i : Nat} {r : List Nat} {o : Oper} (ho : ops[i]? = some o) {k : List Item} {df' : List Deferred} {md' : FrameMode} {kd' : CallKind} {rnd' : Option Nat} {fn' : FuncId} {tm' : Array Value} (x : Value) :
    (Frame.mk fn' tm' (.inRegion ops (i :: r) :: k) df' md' kd' rnd').finish x = Frame.mk fn' (putR tm' o.dst x) (.inRegion ops r :: k) df' md' kd' rnd' := by
  simp only [Frame.finish, ho, Option.bind_some, putR]
  cases o.dst <;> rfl
theorem putPs_ok : ∀ {ts : List Tmp} {vs : List V} {F F' : T V} {tm : Array Value} {xs : List Value}, putPs nt ts vs F = some F' → TR S μ nt F tm → VRs S μ vs xs → TR S μ nt F' ((ts.zip xs).foldl (fun tm x => tm.setIfInBounds x.1 x.2) tm) ∧ ts.length = vs.length := by
  intro ts
  induction ts with
  | nil =>
    intro vs F F' tm xs h ht hv
    cases vs with
    | nil => injection h with h; subst h; exact ⟨ht, rfl⟩
    | cons v vs => simp [putPs] at h
  | cons t ts ih =>
    intro vs F F' tm xs h ht hv
    cases vs with
    | nil => simp [putPs] at h
    | cons v vs =>
      cases hv with
      | cons hv hvs =>
        rename_i x xs
        simp only [putPs] at h
        split at h
        · rename_i hlt
          have hlt := blt_lt hlt
          rw [T.putK_eq] at h
          have ht' : TR S μ nt (F.put t (some v)) (tm.setIfInBounds t x) := by
            refine ⟨by simp [ht.1], fun u y hu => ?_⟩
            rw [T.at_put] at hu
            split at hu
            · rename_i e
              subst e
              injection hu with hu
              subst hu
              exact ⟨hlt, x, by rw [Array.getElem?_setIfInBounds_self, if_pos (by rw [ht.1]; exact hlt)], hv⟩
            · rename_i hne
              obtain ⟨a, z, h1, h2⟩ := ht.2 u y hu
              exact ⟨a, z, by rw [Array.getElem?_setIfInBounds_ne (Ne.symm hne)]; exact h1, h2⟩
          obtain ⟨a, b⟩ := ih h ht' hvs
          exact ⟨a, by simp [b]⟩
        · cases h
end
end Ev
end Go.Proofs.YtmlhijlcefogmaaGreatDoor
