/-
  Evaluation of closed runs, part M: the abstract machine's steps are the machine's. No conditions; no program.
  Evaluation of closed runs, part N: each step of the abstract machine. No conditions; no program.
-/
import Derived.Test.YtmlhijlcefogmaaGreatDoorMerged22
set_option linter.unusedVariables false
set_option linter.unusedSimpArgs false
namespace Go.Proofs.YtmlhijlcefogmaaGreatDoor
namespace Ev

structure CR (G lim : Nat) (S : Nat → Prop) (μ : Nat → Loc) (c : Cfg) (fr : Frame) (frs : List Frame) (w : World) : Prop where
  top : FR S μ c.top fr
  cs : FRs S μ c.cs frs
  rh : RH G S μ c.H.at w
  fresh : ∀ b, c.n ≤ b → b < lim → ¬ S b

/-- What a step says. -/
def Sim (P : Program) (G lim : Nat) (S : Nat → Prop) (μ : Nat → Loc) (h : Nat → Option O) (w : World) (n : Nat) (fr : Frame) (frs : List Frame) : Out → Prop
  | .next c => ∀ cs, ∃ fr' frs' w' S' μ', Steps P (lone fr (frs ++ cs) w) (lone fr' (frs' ++ cs) w') ∧ CR G lim S' μ' c fr' frs' w' ∧ Go S μ h w n S' μ' c.H.at w' c.n
  | .done (.ret fn v H n') => frs = [] ∧ fr.fn = fn ∧ H.at = h ∧ n' = n ∧ ∃ x, fr.leaving P w (.returned x) ∧ VR S μ v x
  | .done (.pan fn ch H n') => frs = [] ∧ fr.fn = fn ∧ H.at = h ∧ n' = n ∧ ∃ ps, fr.leaving P w (.panicked ps) ∧ PRs S μ ch ps

def SumsOk (P : Program) (G : Nat) (sm : Sums) : Prop := ∀ f g args H n v H' n', sm f = some g → g args H n = some (v, H', n') →
  ∀ S μ w xs, VRs S μ args xs → RH G S μ H.at w → (∀ b, n ≤ b → b < n' → ¬ S b) → Calls P f xs.toArray w fun e w' => ∃ x, e = .returned x ∧ ∃ S' μ', VR S' μ' v x ∧ RH G S' μ' H'.at w' ∧ Go S μ H.at w n S' μ' H'.at w' n'
def DrawsOk (P : Program) (G lim : Nat) (dw : Draws) : Prop := ∀ fn id ops nt F H n F' H' n', dw fn id ops nt F H n = some (F', H', n') → ∀ S μ w (fr : Frame) k, fr.fn = fn → fr.mode = .run → fr.todo = .code (.region id ops true) :: k → TR S μ nt F fr.tmps → RH G S μ H.at w → (∀ b, n ≤ b → b < lim → ¬ S b) →
  ∀ cs, ∃ tm' w' S' μ', Steps P (lone fr cs w) (lone { fr with tmps := tm', todo := k } cs w') ∧ TR S' μ' nt F' tm' ∧ RH G S' μ' H'.at w' ∧ Go S μ H.at w n S' μ' H'.at w' n'

theorem steps1 {P : Program} {fr fr' : Frame} {cs cs' : List Frame} {w w' : World}
    (h : (stepG P true { frame := fr, callers := cs, status := .running, dying := none } w).bare = .go { frame := fr', callers := cs', status := .running, dying := none } w') : Steps P (lone fr cs w) (lone fr' cs' w') := .one (step_lone_go h)

section
variable {P : Program} {G lim : Nat} {S : Nat → Prop} {μ : Nat → Loc} {w : World} {fn : FuncId} {nt : Nat} {F : T V} {todo : List AI} {df : List DV} {kd : Bool} {rnd : Option Nat} {cs : List AF} {H : T O} {n : Nat} {fr : Frame} {frs : List Frame} {out : Out}
theorem FR.put (h : FR S μ ⟨fn, nt, F, todo, df, .run, kd, rnd⟩ fr) {todo' : List AI} (hok : ∀ x ∈ todo', x.ok S) : FR S μ ⟨fn, nt, F, todo', df, .run, kd, rnd⟩ { fr with todo := todo'.map (AI.real μ) } :=
  ⟨h.fn, h.tm, rfl, hok, h.df, h.md, h.kd, h.rnd, h.rok⟩
/-- A step that turns what is to be done alone. -/
theorem sim_todo {md : AM} (hc : CR G lim S μ ⟨⟨fn, nt, F, todo, df, md, kd, rnd⟩, cs, H, n⟩ fr frs w) (todo' : List AI) (md' : AM) (m' : FrameMode) (hm : MR S μ md' m') (hok : ∀ x ∈ todo', x.ok S) (he : nx fn nt F todo' df md' kd rnd cs H n = some out)
    (hs : ∀ cs, (stepG P true { frame := fr, callers := cs, status := .running, dying := none } w).bare = .go { frame := { fr with todo := todo'.map (AI.real μ), mode := m' }, callers := cs, status := .running, dying := none } w) :
    Sim P G lim S μ H.at w n fr frs out := by
  unfold nx at he
  injection he with he
  subst he
  exact fun cs => ⟨{ fr with todo := todo'.map (AI.real μ), mode := m' }, frs, w, S, μ, steps1 (hs _), ⟨⟨hc.top.fn, hc.top.tm, rfl, hok, hc.top.df, hm, hc.top.kd, hc.top.rnd, hc.top.rok⟩, hc.cs, hc.rh, hc.fresh⟩, Go.refl hc.rh⟩
theorem exitA_ok (μ : Nat → Loc) (id : Nat) : ∀ (k : List AI), (∀ x ∈ k, x.ok S) → (match exitA id k with | some k' => exitTo id (k.map (AI.real μ)) = some (k'.map (AI.real μ)) ∧ ∀ x ∈ k', x.ok S | none => exitTo id (k.map (AI.real μ)) = none) := by
  intro k
  induction k with
  | nil => intro _; rfl
  | cons a k ih =>
    intro hok
    have hk := ih fun x hx => hok x (by simp [hx])
    cases a with
    | rf l => exact hk
    | erf l => exact hk
    | it i =>
      cases i <;> try exact hk
      rename_i id'
      simp only [exitA, List.map_cons, AI.real, exitTo]
      cases hb : Nat.beq id' id with
      | true =>
        have := Nat.eq_of_beq_eq_true hb
        subst this
        simp
        exact fun x hx => hok x (by simp [hx])
      | false =>
        have : (id' == id) = false := by
          simp only [beq_eq_false_iff_ne, ne_eq]
          intro e
          subst e
          rw [Nat.beq_refl] at hb
          cases hb
        simp only [this]
        exact hk
theorem gotoA_ok (μ : Nat → Loc) (l : Nat) : ∀ (k : List AI), (∀ x ∈ k, x.ok S) → (match gotoA l k with | some k' => gotoIn l (k.map (AI.real μ)) = some (k'.map (AI.real μ)) ∧ ∀ x ∈ k', x.ok S | none => gotoIn l (k.map (AI.real μ)) = none) := by
  intro k
  induction k with
  | nil => intro _; rfl
  | cons a k ih =>
    intro hok
    have hk := ih fun x hx => hok x (by simp [hx])
    cases a with
    | rf l => exact hk
    | erf l => exact hk
    | it i =>
      cases i <;> try exact hk
      rename_i body
      simp only [gotoA, List.map_cons, AI.real, gotoIn]
      cases hf : findLabel body l with
      | some rest =>
        simp [AI.real]
        exact ⟨trivial, trivial, fun x hx => hok x (by simp [hx])⟩
      | none => exact hk
def putR (tm : Array Value) (dst : Option Tmp) (x : Value) : Array Value := match dst with | some d => tm.setIfInBounds d x | none => tm
theorem putT_ok {F F' : T V} {dst : Option Tmp} {v : V} {x : Value} {tm : Array Value} (h : putT nt F dst v = some F') (ht : TR S μ nt F tm) (hv : VR S μ v x) :
    TR S μ nt F' (putR tm dst x) := by
  unfold putT at h
  unfold putR
  cases dst with
  | none => injection h with h; subst h; exact ht
  | some d =>
    simp only at h ⊢
    split at h
    · rename_i hlt
      have hlt := blt_lt hlt
      rw [fV_eq, T.putK_eq] at h
      injection h with h
      subst h
      refine ⟨by simp [ht.1], fun t u hu => ?_⟩
      rw [T.at_put] at hu
      split at hu
      · rename_i e
        subst e
        injection hu with hu
        subst hu
        exact ⟨hlt, x, by rw [Array.getElem?_setIfInBounds_self, if_pos (by rw [ht.1]; exact hlt)], hv⟩
      · rename_i hne
        obtain ⟨a, y, h1, h2⟩ := ht.2 t u hu
        exact ⟨a, y, by rw [Array.getElem?_setIfInBounds_ne (Ne.symm hne)]; exact h1, h2⟩
    · cases h
theorem ev_ok {F : T V} {fr : Frame} (ht : TR S μ nt F fr.tmps) (hg : ∀ g, g < 1024 → S g ∧ (μ g).blk = g ∧ (μ g).sh = 0) {x : Operand} {v : V} (h : ev F x = some v) : VR S μ v (fr.eval x) := by
  cases x with
  | tmp t =>
    obtain ⟨a, y, h1, h2⟩ := ht.2 t v h
    simp only [Frame.eval, Array.getD_eq_getD_getElem?, h1]
    exact h2
  | const c => injection h with h; subst h; exact .ofVal c
  | global g =>
    have h' : Bool.rec (motive := fun _ => Option V) none (some (.p g 0)) (Nat.blt g 1024) = some v := h
    cases hb : Nat.blt g 1024 with
    | false => rw [hb] at h'; cases h'
    | true =>
      rw [hb] at h'
      injection h' with h'
      subst h'
      obtain ⟨a, b, c⟩ := hg g (Nat.le_of_ble_eq_true hb)
      have := VR.p (S := S) (μ := μ) g 0 a
      rw [b, c] at this
      exact this
  | func f => injection h with h; subst h; exact .f _ _ _ .nil
theorem ρ_ok {F : T V} {fr : Frame} (ht : TR S μ nt F fr.tmps) (hg : ∀ g, g < 1024 → S g ∧ (μ g).blk = g ∧ (μ g).sh = 0) (l : List Operand) : ρOk S μ F fr.eval l := fun x _ v hv => ev_ok ht hg hv
theorem enterA_ok {f : FuncId} {args : List V} {xs : Array Value} {kd : Bool} {A : AF} (h : enterA P f args kd = some A) (hv : VRs S μ args xs.toList) : FR S μ A (Frame.enter P f xs (kdOf kd)) ∧ A.fn = f ∧ A.kd = kd ∧ A.rnd = none := by
  unfold enterA at h
  split at h
  case h_2 => cases h
  rename_i fn hf
  split at h
  case h_2 => cases h
  rename_i c hb
  rw [putNK_eq, fN_eq] at h
  injection h with h
  subst h
  have hl := hv.length
  simp only [Array.length_toList] at hl
  refine ⟨⟨rfl, ⟨?_, fun t v ht => ?_⟩, ?_, fun x hx => ?_, .nil, rfl, rfl, rfl, fun l hl => by cases hl⟩, rfl, rfl, rfl⟩
  · simp [Frame.enter, hf, hl]
  · rw [putN_at] at ht
    split at ht
    · rename_i hi
      obtain ⟨y, hy, hr⟩ := hv.at _ _ ht
      simp only [Nat.sub_zero] at hy
      refine ⟨by simp only; omega, y, ?_, hr⟩
      simp only [Frame.enter]
      rw [Array.getElem?_append_left (by omega)]
      simpa using hy
    · rw [T.at_nil] at ht; cases ht
  · simp [Frame.enter, hf, hb, AI.real]
  · simp at hx
    subst hx
    trivial
theorem finA_ok {A A' : AF} {R : Frame} {v : V} {x : Value} (h : finA A v = some A') (hA : FR S μ A R) (hv : VR S μ v x) : FR S μ A' (R.finish x) := by
  obtain ⟨fn', tm', todo', df', md', kd', rnd'⟩ := R
  obtain ⟨fn, nt, F, todo, df, md, kd, rnd⟩ := A
  have htodo := hA.todo
  have hok := hA.ok
  simp only at htodo hok
  unfold finA at h
  simp only at h
  split at h
  · rename_i ops i r k
    split at h
    · rename_i F' hF
      injection h with h
      subst h
      have ht := putT_ok hF hA.tm hv
      simp only [List.map_cons, AI.real] at htodo
      subst htodo
      have hfin : (Frame.mk fn' tm' (.inRegion ops (i :: r) :: k.map (AI.real μ)) df' md' kd' rnd').finish x = Frame.mk fn' (putR tm' ((ops[i]?).bind (·.dst)) x) (.inRegion ops r :: k.map (AI.real μ)) df' md' kd' rnd' := by
        unfold putR
        simp only [Frame.finish]
        cases (ops[i]?).bind (·.dst) <;> rfl
      rw [hfin]
      exact ⟨hA.fn, ht, rfl, fun y hy => (List.mem_cons.1 hy).elim (fun e => by subst e; trivial) (fun hy => hok y (by simp [hy])), hA.df, hA.md, hA.kd, hA.rnd, hA.rok⟩
    · cases h
  · rename_i l k
    injection h with h
    subst h
    simp only [List.map_cons, AI.real] at htodo
    subst htodo
    exact ⟨hA.fn, hA.tm, rfl, fun y hy => (List.mem_cons.1 hy).elim (fun e => by subst e; exact hok (.rf l) (by simp)) (fun hy => hok y (by simp [hy])), hA.df, hA.md, hA.kd, hA.rnd, hA.rok⟩
  · cases h
theorem raiseA_ok {A : AF} {R : Frame} {ch : List (V × Bool)} {ps : List PanicEntry} (hA : FR S μ A R) (hv : PRs S μ ch ps) : FR S μ (raiseA A ch) (R.raise ps) := by
  obtain ⟨fn', tm', todo', df', md', kd', rnd'⟩ := R
  obtain ⟨fn, nt, F, todo, df, md, kd, rnd⟩ := A
  have app : ∀ {c1 c2 : List (V × Bool)} {p1 p2 : List PanicEntry}, PRs S μ c1 p1 → PRs S μ c2 p2 → PRs S μ (c1 ++ c2) (p1 ++ p2) := by
    intro c1 c2 p1 p2 h1 h2
    induction h1 with
    | nil => exact h2
    | cons h _ ih => exact .cons h ih
  have hmd := hA.md
  cases md with
  | run =>
    simp only [MR] at hmd
    subst hmd
    exact ⟨hA.fn, hA.tm, hA.todo, hA.ok, hA.df, ⟨ps, rfl, hv⟩, hA.kd, hA.rnd, hA.rok⟩
  | ret =>
    simp only [MR] at hmd
    subst hmd
    exact ⟨hA.fn, hA.tm, hA.todo, hA.ok, hA.df, ⟨ps, rfl, hv⟩, hA.kd, hA.rnd, hA.rok⟩
  | pan ch' =>
    obtain ⟨ps', e, h⟩ := hmd
    subst e
    exact ⟨hA.fn, hA.tm, hA.todo, hA.ok, hA.df, ⟨ps ++ ps', rfl, app hv h⟩, hA.kd, hA.rnd, hA.rok⟩
def resOne (tm : Array Value) (x : ResultVar) : Sem Value := match x with | .tmp t => pure (tm.getD t undef) | .cell a t => do loadVar t (← asAddr (tm.getD a undef))
theorem results_eq (f : Func) (tm : Array Value) : results f tm = (do let vs ← f.results.mapM (resOne tm); pure (if h : vs.size = 1 then vs[0] else .tuple vs)) := by
  unfold results
  have : (fun x : ResultVar => match x with | .tmp t => (pure (tm.getD t undef) : Sem Value) | .cell a t => do loadVar t (← asAddr (tm.getD a undef))) = resOne tm := by funext x; cases x <;> rfl
  rw [← this]
  rfl
theorem resA_ok {H : T O} {tm : Array Value} : ∀ {l : List ResultVar} {vs : List V}, resA P H F l = some vs → TR S μ nt F tm → RH G S μ H.at w →
    ∃ xs, (l.mapM (resOne tm)).run P w = .ok xs w ∧ VRs S μ vs xs := by
  intro l
  induction l with
  | nil => intro vs h _ _; injection h with h; subst h; exact ⟨[], rfl, .nil⟩
  | cons x l ih =>
    intro vs h ht hr
    have h' : (match (match x with
    | .tmp t => F.at t
    | .cell a t => match F.at a with | some p => eLoad P H t p | none => none) with
    | none => none
    | some v => match resA P H F l with | none => none | some vs => some (v :: vs)) = some vs := h
    split at h'
    · cases h'
    · rename_i v hx
      split at h'
      · cases h'
      · rename_i vs' hvs
        injection h' with h'
        subst h'
        obtain ⟨xs, h1, h2⟩ := ih hvs ht hr
        cases x with
        | tmp t =>
          obtain ⟨_, y, hy, hyr⟩ := ht.2 t v hx
          refine ⟨y :: xs, ?_, .cons hyr h2⟩
          simp only [List.mapM_cons, resOne, Sem.run_bind, Sem.run_pure, Result.andThen_ok, h1, Array.getD_eq_getD_getElem?, hy, Option.getD_some]
        | cell a t =>
          simp only at hx
          split at hx
          · rename_i p hp
            obtain ⟨_, y, hy, hyr⟩ := ht.2 a p hp
            obtain ⟨z, hz, hzr⟩ := eLoad_ok hx hr hyr
            refine ⟨z :: xs, ?_, .cons hzr h2⟩
            cases hyr <;> try (simp [eLoad] at hx; done)
            simp only [Instr.loadAt, Instr.sureAddr, Sem.run_bind, Sem.run_pure, Result.andThen_ok] at hz
            simp only [List.mapM_cons, resOne, Sem.run_bind, Array.getD_eq_getD_getElem?, hy, Option.getD_some, asAddr, Sem.run_pure, Result.andThen_ok, hz, h1]
          · cases hx
theorem resV_ok {H : T O} {tm : Array Value} {v : V} (h : resV P H F fn = some v) (ht : TR S μ nt F tm) (hr : RH G S μ H.at w) : ∃ f x, P.funcs[fn]? = some f ∧ (results f tm).run P w = .ok x w ∧ VR S μ v x := by
  unfold resV at h
  split at h
  case h_2 => cases h
  rename_i f hf
  have key : ∀ vs, resA P H F f.results.toList = some vs → ∃ xs, VRs S μ vs xs ∧ (results f tm).run P w = .ok (if h : xs.length = 1 then xs[0] else .tuple xs.toArray) w := by
    intro vs hvs
    obtain ⟨xs, h1, h2⟩ := resA_ok hvs ht hr
    refine ⟨xs, h2, ?_⟩
    have hm : (f.results.mapM (resOne tm)).run P w = .ok xs.toArray w := by
      rw [Array.mapM_eq_mapM_toList, Sem.run_map, h1]
      rfl
    rw [results_eq, Sem.run_bind, hm]
    simp
  split at h
  · rename_i v' hvs
    injection h with h
    subst h
    obtain ⟨xs, h1, h2⟩ := key _ hvs
    cases h1 with
    | cons h1 hs =>
      cases hs
      exact ⟨f, _, hf, h2, h1⟩
  · rename_i vs hne hvs
    injection h with h
    subst h
    obtain ⟨xs, h1, h2⟩ := key _ hvs
    have hl := h1.length
    refine ⟨f, .tuple xs.toArray, hf, ?_, .t vs xs h1⟩
    rw [h2, dif_neg]
    intro e
    rw [hl] at e
    obtain ⟨a, rfl⟩ := List.length_eq_one_iff.1 e
    exact hne a rfl
  · cases h
end
end Ev
end Go.Proofs.YtmlhijlcefogmaaGreatDoor
namespace Go.Proofs.YtmlhijlcefogmaaGreatDoor
namespace Ev

section
variable {P : Program} {lim : Nat} {S : Nat → Prop} {μ : Nat → Loc} {w : World} {fn : FuncId} {nt : Nat} {F : T V} {todo : List AI} {df : List DV} {kd : Bool} {rnd : Option Nat} {cs : List AF} {H : T O} {n : Nat} {fr : Frame} {frs : List Frame} {out : Out}
theorem RH.loop {G : Nat} {h : Nat → Option O} (r : RH G S μ h w) {l : Nat} {st : LoopState} {pend : Option Code} {fn : FuncId} {F : T V} {nt : Nat} {params : Array Tmp} {asg body : Code} {d : Nat} (hl : h l = some (.loop st pend fn F nt params asg body d)) :
    S l ∧ S d ∧ ∃ tm, w.heap[(μ l).blk]? = some (.loop { state := st, pending := pend, fn := fn, tmps := tm, params := params, assign := asg, body := body, defers := (μ d).blk }) ∧ TR S μ nt F tm := by
  obtain ⟨hS, x, hx, h1, tm, rfl, h2⟩ := r.ok l _ hl
  exact ⟨hS, h1, tm, hx, h2⟩
theorem getLoop_run {l : Nat} {r : Loop} (h : w.heap[l]? = some (.loop r)) : (Instr.getLoop l).run P w = .ok r w := by
  simp [Instr.getLoop, getObj, Sem.run, h]
theorem setObj_loop {l : Nat} {r : Loop} (h : w.heap[l]? = some (.loop r)) (o : Obj) : (setObj l o).run P w = .ok () { w with heap := w.heap.setIfInBounds l o } := by
  simp [setObj, Sem.run, h]
/-- A frame's way out. -/
theorem leaveA_ok {jump : Option Code} (hc : CR 1024 lim S μ ⟨⟨fn, nt, F, todo, df, .run, kd, rnd⟩, cs, H, n⟩ fr frs w) (he : leaveA fn nt F todo df kd rnd cs H n jump = some out)
    (h1 : fr.roundOf = none → (jump = none ∨ jump = some .ret) → ∀ cs, (stepG P true { frame := fr, callers := cs, status := .running, dying := none } w).bare = .go { frame := { fr with mode := .returning }, callers := cs, status := .running, dying := none } w)
    (h2 : ∀ l, fr.roundOf = some l → ∀ v w', (Instr.endRound l jump).run P w = .ok v w' → ∀ cs, (stepG P true { frame := fr, callers := cs, status := .running, dying := none } w).bare = (doReturn P true fr cs none v w').bare) :
    Sim P 1024 lim S μ H.at w n fr frs out := by
  unfold leaveA at he
  have hrnd := hc.top.rnd
  simp only at hrnd
  split at he
  · -- no round
    simp only [Option.map_none] at hrnd
    have key : (jump = none ∨ jump = some .ret) → nx fn nt F todo df .ret kd none cs H n = some out → Sim P 1024 lim S μ H.at w n fr frs out := fun hj he => by
      have ht := hc.top.todo
      simp only at ht
      exact sim_todo hc todo .ret .returning rfl hc.top.ok he (fun cs => by rw [h1 hrnd hj cs, ← ht])
    split at he
    · exact key (.inl rfl) he
    · exact key (.inr rfl) he
    · cases he
  · rename_i l
    simp only [Option.map_some] at hrnd
    split at he
    case h_2 => cases he
    rename_i st pend fn' F' nt' ps asg body d A cs' hl
    split at he
    case h_2 => cases he
    rename_i A' hfin
    rw [T.putK_eq] at he
    injection he with he
    subst he
    obtain ⟨hS, hSd, tm, hx, htm⟩ := RH.loop hc.rh hl
    cases hcs : hc.cs with
    | cons hA hAs =>
      rename_i R Rs
      have hkd := hc.top.kd
      simp only [kdOf, Bool.false_eq_true, if_false] at hkd
      have hrun : (Instr.endRound (μ l).blk jump).run P w = .ok (.bool jump.isNone) { w with heap := w.heap.setIfInBounds (μ l).blk (.loop { state := if jump.isNone then .ready else .done, pending := jump, fn := fn', tmps := tm, params := ps, assign := asg, body := body, defers := (μ d).blk }) } := by
        simp [Instr.endRound, getLoop_run hx, setObj_loop hx]
      obtain ⟨q1, q2⟩ := setHeap_upd (n := n) hc.rh hl rfl (x := .loop { state := if jump.isNone then .ready else .done, pending := jump, fn := fn', tmps := tm, params := ps, assign := asg, body := body, defers := (μ d).blk })
        (o' := .loop (roundSt jump) jump fn' F' nt' ps asg body d) ⟨hSd, tm, by cases jump <;> rfl, htm⟩
      refine fun cs => ⟨R.finish (.bool jump.isNone), Rs, _, S, μ, steps1 ?_, ⟨finA_ok hfin hA (.b _), hAs, q1, hc.fresh⟩, q2⟩
      rw [h2 _ hrnd _ _ hrun, List.cons_append]
      simp [doReturn, hkd]
theorem ok_cons {S : Nat → Prop} {a : AI} {k : List AI} (ha : a.ok S) (hk : ∀ x ∈ k, x.ok S) : ∀ x ∈ a :: k, x.ok S := fun x hx => (List.mem_cons.1 hx).elim (fun e => e ▸ ha) (hk x)
theorem ok_it {S : Nat → Prop} {i : Item} {k : List AI} (hk : ∀ x ∈ k, x.ok S) : ∀ x ∈ AI.it i :: k, x.ok S := ok_cons (a := .it i) trivial hk
theorem callOk_run {g : FuncId} (h : callOk P g = true) (xs : Array Value) (w : World) : (callFunc g xs).run P w = .ok (.enter g xs) w := by
  unfold callOk at h
  split at h
  · rename_i f hf
    simp only [Bool.and_eq_true, Bool.not_eq_true'] at h
    have hb : ¬ f.body = none := fun e => by rw [e] at h; simp at h
    have hname : ¬ f.name = "runtime.NumGoroutine" := by simpa using h.2
    simp [callFunc, hf, hname, hb]
  · cases h
/-- A loop over a function begins. -/
theorem loop_begin {h : Nat → Option O} {ps : Array Tmp} {asg body : Code} {tm : Array Value} {d : Nat} (hr : RH 1024 S μ h w) (hn : ¬ S n) (hd : S d) (htm : TR S μ nt F tm) :
    RH 1024 (S1 S n) (μ1 μ n ⟨w.heap.size, 0, 0⟩) (h1 h n (.loop .ready none fn F nt ps asg body d)) (w.alloc (.loop { state := .ready, pending := none, fn := fn, tmps := tm, params := ps, assign := asg, body := body, defers := (μ d).blk })) ∧
    Go S μ h w n (S1 S n) (μ1 μ n ⟨w.heap.size, 0, 0⟩) (h1 h n (.loop .ready none fn F nt ps asg body d)) (w.alloc (.loop { state := .ready, pending := none, fn := fn, tmps := tm, params := ps, assign := asg, body := body, defers := (μ d).blk })) (n + 1) := by
  refine RH.alloc hr hn _ 0 _ ⟨.inl hd, tm, ?_, htm.mono (fun _ => .inl) (μ1_same hn)⟩
  rw [μ1_same hn d hd]
theorem loop_begin0 {ps : Array Tmp} {asg body : Code} {tm : Array Value} (hr : RH 1024 S μ H.at w) (hfr : ∀ b, n ≤ b → b < lim → ¬ S b) (hlt : n + 1 < lim) (htm : TR S μ nt F tm) :
    ∃ S2 μ2, RH 1024 S2 μ2 ((H.put n (some (.dfr false))).put (n + 1) (some (.loop .ready none fn F nt ps asg body n))).at ((w.alloc (.deferred (some []))).alloc (.loop { state := .ready, pending := none, fn := fn, tmps := tm, params := ps, assign := asg, body := body, defers := w.heap.size })) ∧
      Go S μ H.at w n S2 μ2 ((H.put n (some (.dfr false))).put (n + 1) (some (.loop .ready none fn F nt ps asg body n))).at ((w.alloc (.deferred (some []))).alloc (.loop { state := .ready, pending := none, fn := fn, tmps := tm, params := ps, assign := asg, body := body, defers := w.heap.size })) (n + 2) ∧
      S2 n ∧ S2 (n + 1) ∧ (μ2 n).blk = w.heap.size ∧ (μ2 (n + 1)).blk = w.heap.size + 1 := by
  have hn : ¬ S n := hfr n (Nat.le_refl _) (by omega)
  obtain ⟨a1, b1⟩ := RH.alloc hr hn (Obj.deferred (some [])) 0 (O.dfr false) rfl
  have hn1 : ¬ S1 S n (n + 1) := fun h => h.elim (fun h => hfr (n + 1) (by omega) (by omega) h) (fun h => by omega)
  have htm' := htm.mono (fun _ => b1.up) b1.same
  obtain ⟨a2, b2⟩ := loop_begin (fn := fn) (ps := ps) (asg := asg) (body := body) a1 hn1 (d := n) (Or.inr ⟨Nat.le_refl _, Nat.lt_succ_self _⟩) htm'
  have hblkd : (μ1 μ n ⟨w.heap.size, 0, 0⟩ n).blk = w.heap.size := by rw [μ1_new]
  rw [hblkd] at a2 b2
  refine ⟨_, _, by rw [at_put1, at_put1]; exact a2, by rw [at_put1, at_put1]; exact b1.trans b2, ?_, ?_, ?_, ?_⟩
  · exact Or.inl (Or.inr ⟨Nat.le_refl _, Nat.lt_succ_self _⟩)
  · exact Or.inr ⟨Nat.le_refl _, Nat.lt_succ_self _⟩
  · rw [b2.same n (Or.inr ⟨Nat.le_refl _, Nat.lt_succ_self _⟩), μ1_new]
  · rw [μ1_new]; simp
theorem fresh_go {h h' : Nat → Option O} {S' : Nat → Prop} {μ' : Nat → Loc} {w' : World} {n' : Nat} (hg : Go S μ h w n S' μ' h' w' n') (hf : ∀ b, n ≤ b → b < lim → ¬ S b) : ∀ b, n' ≤ b → b < lim → ¬ S' b := by
  intro b hb hl
  rw [hg.new]
  have := hg.le
  rintro (h | h)
  · exact hf b (by omega) hl h
  · omega
theorem codeStep_ok {dw : Draws} (hdw : DrawsOk P 1024 lim dw) {c : Code} {k : List AI} (hc : CR 1024 lim S μ ⟨⟨fn, nt, F, .it (.code c) :: k, df, .run, kd, rnd⟩, cs, H, n⟩ fr frs w) (he : codeStep P dw lim fn nt F c k df kd rnd cs H n = some out) :
    Sim P 1024 lim S μ H.at w n fr frs out := by
  have hok : ∀ x ∈ k, x.ok S := fun x hx => hc.top.ok x (by simp [hx])
  have htodo := hc.top.todo
  have hmd := hc.top.md
  simp only [List.map_cons, AI.real, MR] at htodo hmd
  obtain ⟨fn', tm', todo', df', md', kd', rnd'⟩ := fr
  simp only at htodo hmd
  subst htodo hmd
  unfold codeStep at he
  split at he
  · exact sim_todo hc k .run .run rfl hok he (fun cs => by simp [stepG, stepG.exec])
  · exact sim_todo hc k .run .run rfl hok he (fun cs => by simp [stepG, stepG.exec])
  · exact sim_todo hc _ .run .run rfl (ok_it (ok_it hok)) he (fun cs => by simp [stepG, stepG.exec, AI.real])
  · -- cond
    rename_i x a b
    split at he
    case h_2 => cases he
    rename_i t hx
    have hv := ev_ok hc.top.tm hc.rh.glob hx
    refine sim_todo hc _ .run .run rfl (ok_it hok) he (fun cs => ?_)
    generalize hval : Frame.eval ⟨fn', tm', .code (.cond x a b) :: k.map (AI.real μ), df', .run, kd', rnd'⟩ x = xv at hv
    cases hv
    simp only [stepG, stepG.exec, hval]
    cases t <;> simp [AI.real]
  · exact sim_todo hc _ .run .run rfl (ok_it (ok_it hok)) he (fun cs => by simp [stepG, stepG.exec, AI.real])
  · exact sim_todo hc _ .run .run rfl (ok_it (ok_it hok)) he (fun cs => by simp [stepG, stepG.exec, AI.real])
  · exact sim_todo hc _ .run .run rfl (ok_it (ok_it hok)) he (fun cs => by simp [stepG, stepG.exec, AI.real])
  · -- exit
    rename_i id
    have hex := exitA_ok (S := S) μ id k hok
    split at he
    · rename_i k' hk
      rw [hk] at hex
      exact sim_todo hc _ .run .run rfl hex.2 he (fun cs => by simp [stepG, stepG.exec, hex.1])
    · rename_i hk
      rw [hk] at hex
      refine leaveA_ok hc he (fun hr hj cs => by rcases hj with hj | hj <;> cases hj) (fun l hr v w' hrun cs => ?_)
      simp only at hr
      subst hr
      simp [stepG, stepG.exec, hex, Frame.roundOf, Sem.runT_eq, hrun]
  · -- goto
    rename_i l
    have hex := gotoA_ok (S := S) μ l k hok
    split at he
    · rename_i k' hk
      rw [hk] at hex
      exact sim_todo hc _ .run .run rfl hex.2 he (fun cs => by simp [stepG, stepG.exec, hex.1])
    · rename_i hk
      rw [hk] at hex
      refine leaveA_ok hc he (fun hr hj cs => by rcases hj with hj | hj <;> cases hj) (fun l hr v w' hrun cs => ?_)
      simp only at hr
      subst hr
      simp [stepG, stepG.exec, hex, Sem.runT_eq, hrun]
  · -- ret
    refine leaveA_ok hc he (fun hr hj cs => ?_) (fun l hr v w' hrun cs => ?_)
    · simp only at hr
      subst hr
      simp [stepG, stepG.exec]
    · simp only at hr
      subst hr
      simp [stepG, stepG.exec, Sem.runT_eq, hrun]
  · -- region
    rename_i id ops draw
    split at he
    · exact sim_todo hc _ .run .run rfl (ok_it hok) he (fun cs => by simp [stepG, stepG.exec, AI.real])
    · split at he
      case h_2 => cases he
      rename_i F' H' n' hd
      unfold nx at he
      injection he with he
      subst he
      have hfn := hc.top.fn
      intro cs2
      obtain ⟨tm2, w', S', μ', h1, h2, h3, h4⟩ := hdw _ _ _ _ _ _ _ _ _ _ hd S μ w _ (k.map (AI.real μ)) hfn rfl rfl hc.top.tm hc.rh hc.fresh (frs ++ cs2)
      refine ⟨_, frs, w', S', μ', h1, ⟨⟨hc.top.fn, h2, (real_mono (fun _ => h4.up) h4.same hok).symm, ok_mono (fun _ => h4.up) h4.same hok, hc.top.df.mono (fun _ => h4.up) h4.same, rfl, hc.top.kd, ?_, fun l hl => h4.up (hc.top.rok l hl)⟩, hc.cs.mono (fun _ => h4.up) h4.same, h3, fun b hb hl => ?_⟩, h4⟩
      · have := (hc.top.mono (fun _ => h4.up) h4.same).rnd
        exact this
      · rw [h4.new]
        have := h4.le
        simp only at hb
        rintro (h | h)
        · exact hc.fresh b (by simp only; omega) hl h
        · omega
  · -- a loop over a function
    rename_i f ps asg body
    split at he
    · rename_i g caps hf hlt
      have hlt := blt_lt hlt
      split at he
      case h_2 => cases he
      rename_i A hcall hA
      rw [T.putK_eq, T.putK_eq] at he
      injection he with he
      subst he
      have hro := hc.top.rnd
      simp only [Option.map_none] at hro
      subst hro
      have hfnn : fn' = fn := hc.top.fn
      subst hfnn
      obtain ⟨S2, μ2, a, hgo, s1, s2, m1, m2⟩ := loop_begin0 (fn := fn') (nt := nt) (F := F) (H := H) (n := n) (tm := tm') (ps := ps) (asg := asg) (body := body) hc.rh hc.fresh hlt hc.top.tm
      have hv := ev_ok hc.top.tm hc.rh.glob hf
      generalize hval : Frame.eval ⟨fn', tm', .code (.rangeFunc f ps asg body) :: k.map (AI.real μ), df', .run, kd', none⟩ f = xv at hv
      cases hv with
      | f _ _ cs' hcaps =>
        have hy : VR S2 μ2 (.y (n + 1)) (.func (.yield (w.heap.size + 1)) #[] #[]) := by
          have := VR.y (μ := μ2) (n + 1) s2
          rwa [m2] at this
        obtain ⟨e1, e2, e3, e4⟩ := enterA_ok (xs := #[.func (.yield (w.heap.size + 1)) #[] #[]] ++ cs'.toArray) hA (by simpa using VRs.cons hy (hcaps.mono (fun _ => hgo.up) hgo.same))
        have hcaller : FR S2 μ2 ⟨fn', nt, F, .rf (n + 1) :: k, .col n :: df, .run, kd, none⟩ ⟨fn', tm', .inRangeFunc (w.heap.size + 1) :: k.map (AI.real μ), { target := .collected w.heap.size, args := #[] } :: df', .run, kd', none⟩ := by
          refine ⟨rfl, hc.top.tm.mono (fun _ => hgo.up) hgo.same, ?_, ok_cons (a := .rf (n + 1)) s2 (ok_mono (fun _ => hgo.up) hgo.same hok), .cons ⟨s1, by rw [m1]⟩ (hc.top.df.mono (fun _ => hgo.up) hgo.same), rfl, hc.top.kd, rfl, fun l hl => absurd hl (by simp)⟩
          simp only [List.map_cons, AI.real, m2]
          rw [real_mono (fun _ => hgo.up) hgo.same hok]
        have hrunL : (Instr.enterLoop fn' tm' ps asg body none).run P w = .ok (w.heap.size + 1, [{ target := .collected w.heap.size, args := #[] }]) ((w.alloc (.deferred (some []))).alloc (.loop { state := .ready, pending := none, fn := fn', tmps := tm', params := ps, assign := asg, body := body, defers := w.heap.size })) := by
          simp [Instr.enterLoop]
        have heval : Frame.eval ⟨fn', tm', .inRangeFunc (w.heap.size + 1) :: k.map (AI.real μ), { target := .collected w.heap.size, args := #[] } :: df', .run, kd', none⟩ f = .func (.func g) #[] cs'.toArray := by
          rw [← hval]
          cases f <;> rfl
        have hstep : ∀ cs2 : List Frame, (stepG P true { frame := ⟨fn', tm', .code (.rangeFunc f ps asg body) :: k.map (AI.real μ), df', .run, kd', none⟩, callers := frs ++ cs2, status := .running, dying := none } w).bare =
            .go { frame := Frame.enter P g (#[.func (.yield (w.heap.size + 1)) #[] #[]] ++ cs'.toArray) (kdOf false), callers := ⟨fn', tm', .inRangeFunc (w.heap.size + 1) :: k.map (AI.real μ), { target := .collected w.heap.size, args := #[] } :: df', .run, kd', none⟩ :: (frs ++ cs2), status := .running, dying := none }
              ((w.alloc (.deferred (some []))).alloc (.loop { state := .ready, pending := none, fn := fn', tmps := tm', params := ps, assign := asg, body := body, defers := w.heap.size })) := fun cs2 => by
          have hres : ∀ w', (resolve (Frame.eval ⟨fn', tm', .inRangeFunc (w.heap.size + 1) :: k.map (AI.real μ), { target := .collected w.heap.size, args := #[] } :: df', .run, kd', none⟩) { callee := .value f, args := #[.const (.func (.yield (w.heap.size + 1)) #[] #[])], argTypes := #[] } 0).run P w' = .ok { target := .fn (.func g) cs'.toArray, args := #[.func (.yield (w.heap.size + 1)) #[] #[]] } w' := fun w' => by
            unfold resolve
            simp only [heval, Deferred.ofValue]
            simp [Frame.eval]
          have hinv : ∀ w', (invoke (.fn (.func g) cs'.toArray) #[.func (.yield (w.heap.size + 1)) #[] #[]]).run P w' = .ok (.enter g (#[.func (.yield (w.heap.size + 1)) #[] #[]] ++ cs'.toArray)) w' := fun w' => callOk_run hcall _ w'
          simp only [stepG, stepG.exec, Sem.runT_eq, hrunL, stepG.apply, Sem.run_bind, List.cons_append, List.nil_append, hres, Result.andThen_ok, hinv, if_true, GStep.bare_after, kdOf]
          rfl
        generalize ((w.alloc (.deferred (some []))).alloc (.loop { state := .ready, pending := none, fn := fn', tmps := tm', params := ps, assign := asg, body := body, defers := w.heap.size })) = w2 at *
        generalize (⟨fn', tm', .inRangeFunc (w.heap.size + 1) :: k.map (AI.real μ), { target := .collected w.heap.size, args := #[] } :: df', .run, kd', none⟩ : Frame) = C at *
        exact fun cs2 => ⟨_, C :: frs, w2, S2, μ2, steps1 (hstep cs2), ⟨e1, .cons hcaller (hc.cs.mono (fun _ => hgo.up) hgo.same), a, fresh_go hgo hc.fresh⟩, hgo⟩
    · cases he
  · cases he

/-- A frame at an operation: what the operation's run does. -/
theorem op_step {ops : Array Oper} {i : Nat} {r : List Nat} {o : Oper} {k : List Item} {df' : List Deferred} {kd' : CallKind} {rnd' : Option Nat} {fn' : FuncId} {tm' : Array Value} (ho : ops[i]? = some o) (hw : Region.wanted o (yielded ops tm') = true) (hd : rnd' = none ∨ ∀ c, o.op ≠ .defer c) (cs : List Frame) (w : World) :
    (stepG P true { frame := ⟨fn', tm', .inRegion ops (i :: r) :: k, df', .run, kd', rnd'⟩, callers := cs, status := .running, dying := none } w).bare =
    (stepG.apply P true ⟨fn', tm', .inRegion ops (i :: r) :: k, df', .run, kd', rnd'⟩ cs none (execOp (Frame.eval ⟨fn', tm', .inRegion ops (i :: r) :: k, df', .run, kd', rnd'⟩) o) w).bare := by
  simp only [stepG, stepG.exec, ho, Option.map_some, hw, Option.getD_some, if_true, stepG.oper, Frame.oper?]
  rcases hd with rfl | hd
  · rfl
  · cases rnd' with
    | none => rfl
    | some l =>
      cases hop : o.op <;> first | rfl | exact absurd hop (hd _)
theorem wantedA_ok {ops : Array Oper} {o : Oper} {tm' : Array Value} {b : Bool} (h : wantedA ops F o = some b) (ht : TR S μ nt F tm') : Region.wanted o (yielded ops tm') = b := by
  unfold wantedA at h
  unfold Region.wanted
  split at h
  · rename_i hg
    injection h with h
    subst h
    simp [hg]
  · rename_i j want hg
    simp only [hg]
    unfold yielded
    split at h
    · rename_i hd
      injection h with h
      subst h
      simp [hd]
    · rename_i d hd
      split at h
      · rename_i t hF
        injection h with h
        subst h
        obtain ⟨_, x, hx, hr⟩ := ht.2 d _ hF
        cases hr
        simp [hd, hx]
      · rename_i vs hF
        injection h with h
        subst h
        obtain ⟨_, x, hx, hr⟩ := ht.2 d _ hF
        cases hr
        simp [hd, hx]
      · cases h
theorem finish_region {ops : Array Oper} {i : Nat} {r : List Nat} {o : Oper} (ho : ops[i]? = some o) {k : List Item} {df' : List Deferred} {md' : FrameMode} {kd' : CallKind} {rnd' : Option Nat} {fn' : FuncId} {tm' : Array Value} (x : Value) :
    (Frame.mk fn' tm' (.inRegion ops (i :: r) :: k) df' md' kd' rnd').finish x = Frame.mk fn' (putR tm' o.dst x) (.inRegion ops r :: k) df' md' kd' rnd' := by
  simp only [Frame.finish, ho, Option.bind_some, putR]
  cases o.dst <;> rfl
theorem putPs_ok : ∀ {ts : List Tmp} {vs : List V} {F F' : T V} {tm : Array Value} {xs : List Value}, putPs nt ts vs F = some F' → TR S μ nt F tm → VRs S μ vs xs → TR S μ nt F' ((ts.zip xs).foldl (fun tm x => tm.setIfInBounds x.1 x.2) tm) ∧ ts.length = vs.length := by
  intro ts
  induction ts with
  | nil =>
    intro vs F F' tm xs h ht hv
    cases vs with
    | nil => injection h with h; subst h; exact ⟨ht, rfl⟩
    | cons v vs => simp [putPs] at h
  | cons t ts ih =>
    intro vs F F' tm xs h ht hv
    cases vs with
    | nil => simp [putPs] at h
    | cons v vs =>
      cases hv with
      | cons hv hvs =>
        rename_i x xs
        simp only [putPs] at h
        split at h
        · rename_i hlt
          have hlt := blt_lt hlt
          rw [T.putK_eq] at h
          have ht' : TR S μ nt (F.put t (some v)) (tm.setIfInBounds t x) := by
            refine ⟨by simp [ht.1], fun u y hu => ?_⟩
            rw [T.at_put] at hu
            split at hu
            · rename_i e
              subst e
              injection hu with hu
              subst hu
              exact ⟨hlt, x, by rw [Array.getElem?_setIfInBounds_self, if_pos (by rw [ht.1]; exact hlt)], hv⟩
            · rename_i hne
              obtain ⟨a, z, h1, h2⟩ := ht.2 u y hu
              exact ⟨a, z, by rw [Array.getElem?_setIfInBounds_ne (Ne.symm hne)]; exact h1, h2⟩
          obtain ⟨a, b⟩ := ih h ht' hvs
          exact ⟨a, by simp [b]⟩
        · cases h
end
end Ev
end Go.Proofs.YtmlhijlcefogmaaGreatDoor
