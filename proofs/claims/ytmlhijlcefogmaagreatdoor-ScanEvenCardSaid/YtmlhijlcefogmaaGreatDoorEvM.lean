/-
  Evaluation of closed runs, part M: the abstract machine's steps are the machine's. No conditions; no program.
-/
import Derived.Test.YtmlhijlcefogmaaGreatDoorMerged19
set_option linter.unusedVariables false
set_option linter.unusedSimpArgs false
namespace Go.Proofs.YtmlhijlcefogmaaGreatDoor
namespace Ev

structure CR (G lim : Nat) (S : Nat → Prop) (μ : Nat → Loc) (c : Cfg) (fr : Frame) (frs : List Frame) (w : World) : Prop where
  top : FR S μ c.top fr
  cs : FRs S μ c.cs frs
  rh : RH G S μ c.H.at w
  fresh : ∀ b, c.n ≤ b → b < lim → ¬ S b

/-- What a step says. -/
def Sim (P : Program) (G lim : Nat) (S : Nat → Prop) (μ : Nat → Loc) (h : Nat → Option O) (w : World) (n : Nat) (fr : Frame) (frs : List Frame) : Out → Prop
  | .next c => ∀ cs, ∃ fr' frs' w' S' μ', Steps P (lone fr (frs ++ cs) w) (lone fr' (frs' ++ cs) w') ∧ CR G lim S' μ' c fr' frs' w' ∧ Go S μ h w n S' μ' c.H.at w' c.n
  | .done (.ret fn v H n') => frs = [] ∧ fr.fn = fn ∧ H.at = h ∧ n' = n ∧ ∃ x, fr.leaving P w (.returned x) ∧ VR S μ v x
  | .done (.pan fn ch H n') => frs = [] ∧ fr.fn = fn ∧ H.at = h ∧ n' = n ∧ ∃ ps, fr.leaving P w (.panicked ps) ∧ PRs S μ ch ps

def SumsOk (P : Program) (G : Nat) (sm : Sums) : Prop := ∀ f g args H n v H' n', sm f = some g → g args H n = some (v, H', n') →
  ∀ S μ w xs, VRs S μ args xs → RH G S μ H.at w → (∀ b, n ≤ b → b < n' → ¬ S b) → Calls P f xs.toArray w fun e w' => ∃ x, e = .returned x ∧ ∃ S' μ', VR S' μ' v x ∧ RH G S' μ' H'.at w' ∧ Go S μ H.at w n S' μ' H'.at w' n'
def DrawsOk (P : Program) (G lim : Nat) (dw : Draws) : Prop := ∀ fn id ops nt F H n F' H' n', dw fn id ops nt F H n = some (F', H', n') → ∀ S μ w (fr : Frame) k, fr.fn = fn → fr.mode = .run → fr.todo = .code (.region id ops true) :: k → TR S μ nt F fr.tmps → RH G S μ H.at w → (∀ b, n ≤ b → b < lim → ¬ S b) →
  ∀ cs, ∃ tm' w' S' μ', Steps P (lone fr cs w) (lone { fr with tmps := tm', todo := k } cs w') ∧ TR S' μ' nt F' tm' ∧ RH G S' μ' H'.at w' ∧ Go S μ H.at w n S' μ' H'.at w' n'

theorem steps1 {P : Program} {fr fr' : Frame} {cs cs' : List Frame} {w w' : World}
    (h : (stepG P true { frame := fr, callers := cs, status := .running, dying := none } w).bare = .go { frame := fr', callers := cs', status := .running, dying := none } w') : Steps P (lone fr cs w) (lone fr' cs' w') := .one (step_lone_go h)

section
variable {P : Program} {G lim : Nat} {S : Nat → Prop} {μ : Nat → Loc} {w : World} {fn : FuncId} {nt : Nat} {F : T V} {todo : List AI} {df : List DV} {kd : Bool} {rnd : Option Nat} {cs : List AF} {H : T O} {n : Nat} {fr : Frame} {frs : List Frame} {out : Out}
theorem FR.put (h : FR S μ ⟨fn, nt, F, todo, df, .run, kd, rnd⟩ fr) {todo' : List AI} (hok : ∀ x ∈ todo', x.ok S) : FR S μ ⟨fn, nt, F, todo', df, .run, kd, rnd⟩ { fr with todo := todo'.map (AI.real μ) } :=
  ⟨h.fn, h.tm, rfl, hok, h.df, h.md, h.kd, h.rnd, h.rok⟩
/-- A step that turns what is to be done alone. -/
theorem sim_todo {md : AM} (hc : CR G lim S μ ⟨⟨fn, nt, F, todo, df, md, kd, rnd⟩, cs, H, n⟩ fr frs w) (todo' : List AI) (md' : AM) (m' : FrameMode) (hm : MR S μ md' m') (hok : ∀ x ∈ todo', x.ok S) (he : nx fn nt F todo' df md' kd rnd cs H n = some out)
    (hs : ∀ cs, (stepG P true { frame := fr, callers := cs, status := .running, dying := none } w).bare = .go { frame := { fr with todo := todo'.map (AI.real μ), mode := m' }, callers := cs, status := .running, dying := none } w) :
    Sim P G lim S μ H.at w n fr frs out := by
  unfold nx at he
  injection he with he
  subst he
  exact fun cs => ⟨{ fr with todo := todo'.map (AI.real μ), mode := m' }, frs, w, S, μ, steps1 (hs _), ⟨⟨hc.top.fn, hc.top.tm, rfl, hok, hc.top.df, hm, hc.top.kd, hc.top.rnd, hc.top.rok⟩, hc.cs, hc.rh, hc.fresh⟩, Go.refl hc.rh⟩
theorem exitA_ok (μ : Nat → Loc) (id : Nat) : ∀ (k : List AI), (∀ x ∈ k, x.ok S) → (match exitA id k with | some k' => exitTo id (k.map (AI.real μ)) = some (k'.map (AI.real μ)) ∧ ∀ x ∈ k', x.ok S | none => exitTo id (k.map (AI.real μ)) = none) := by
  intro k
  induction k with
  | nil => intro _; rfl
  | cons a k ih =>
    intro hok
    have hk := ih fun x hx => hok x (by simp [hx])
    cases a with
    | rf l => exact hk
    | erf l => exact hk
    | it i =>
      cases i <;> try exact hk
      rename_i id'
      simp only [exitA, List.map_cons, AI.real, exitTo]
      cases hb : Nat.beq id' id with
      | true =>
        have := Nat.eq_of_beq_eq_true hb
        subst this
        simp
        exact fun x hx => hok x (by simp [hx])
      | false =>
        have : (id' == id) = false := by
          simp only [beq_eq_false_iff_ne, ne_eq]
          intro e
          subst e
          rw [Nat.beq_refl] at hb
          cases hb
        simp only [this]
        exact hk
theorem gotoA_ok (μ : Nat → Loc) (l : Nat) : ∀ (k : List AI), (∀ x ∈ k, x.ok S) → (match gotoA l k with | some k' => gotoIn l (k.map (AI.real μ)) = some (k'.map (AI.real μ)) ∧ ∀ x ∈ k', x.ok S | none => gotoIn l (k.map (AI.real μ)) = none) := by
  intro k
  induction k with
  | nil => intro _; rfl
  | cons a k ih =>
    intro hok
    have hk := ih fun x hx => hok x (by simp [hx])
    cases a with
    | rf l => exact hk
    | erf l => exact hk
    | it i =>
      cases i <;> try exact hk
      rename_i body
      simp only [gotoA, List.map_cons, AI.real, gotoIn]
      cases hf : findLabel body l with
      | some rest =>
        simp [AI.real]
        exact ⟨trivial, trivial, fun x hx => hok x (by simp [hx])⟩
      | none => exact hk
def putR (tm : Array Value) (dst : Option Tmp) (x : Value) : Array Value := match dst with | some d => tm.setIfInBounds d x | none => tm
theorem putT_ok {F F' : T V} {dst : Option Tmp} {v : V} {x : Value} {tm : Array Value} (h : putT nt F dst v = some F') (ht : TR S μ nt F tm) (hv : VR S μ v x) :
    TR S μ nt F' (putR tm dst x) := by
  unfold putT at h
  unfold putR
  cases dst with
  | none => injection h with h; subst h; exact ht
  | some d =>
    simp only at h ⊢
    split at h
    · rename_i hlt
      have hlt := blt_lt hlt
      rw [fV_eq, T.putK_eq] at h
      injection h with h
      subst h
      refine ⟨by simp [ht.1], fun t u hu => ?_⟩
      rw [T.at_put] at hu
      split at hu
      · rename_i e
        subst e
        injection hu with hu
        subst hu
        exact ⟨hlt, x, by rw [Array.getElem?_setIfInBounds_self, if_pos (by rw [ht.1]; exact hlt)], hv⟩
      · rename_i hne
        obtain ⟨a, y, h1, h2⟩ := ht.2 t u hu
        exact ⟨a, y, by rw [Array.getElem?_setIfInBounds_ne (Ne.symm hne)]; exact h1, h2⟩
    · cases h
theorem ev_ok {F : T V} {fr : Frame} (ht : TR S μ nt F fr.tmps) (hg : ∀ g, g < 1024 → S g ∧ (μ g).blk = g ∧ (μ g).sh = 0) {x : Operand} {v : V} (h : ev F x = some v) : VR S μ v (fr.eval x) := by
  cases x with
  | tmp t =>
    obtain ⟨a, y, h1, h2⟩ := ht.2 t v h
    simp only [Frame.eval, Array.getD_eq_getD_getElem?, h1]
    exact h2
  | const c => injection h with h; subst h; exact .ofVal c
  | global g =>
    have h' : Bool.rec (motive := fun _ => Option V) none (some (.p g 0)) (Nat.blt g 1024) = some v := h
    cases hb : Nat.blt g 1024 with
    | false => rw [hb] at h'; cases h'
    | true =>
      rw [hb] at h'
      injection h' with h'
      subst h'
      obtain ⟨a, b, c⟩ := hg g (Nat.le_of_ble_eq_true hb)
      have := VR.p (S := S) (μ := μ) g 0 a
      rw [b, c] at this
      exact this
  | func f => injection h with h; subst h; exact .f _ _ _ .nil
theorem ρ_ok {F : T V} {fr : Frame} (ht : TR S μ nt F fr.tmps) (hg : ∀ g, g < 1024 → S g ∧ (μ g).blk = g ∧ (μ g).sh = 0) (l : List Operand) : ρOk S μ F fr.eval l := fun x _ v hv => ev_ok ht hg hv
theorem enterA_ok {f : FuncId} {args : List V} {xs : Array Value} {kd : Bool} {A : AF} (h : enterA P f args kd = some A) (hv : VRs S μ args xs.toList) : FR S μ A (Frame.enter P f xs (kdOf kd)) ∧ A.fn = f ∧ A.kd = kd ∧ A.rnd = none := by
  unfold enterA at h
  split at h
  case h_2 => cases h
  rename_i fn hf
  split at h
  case h_2 => cases h
  rename_i c hb
  rw [putNK_eq, fN_eq] at h
  injection h with h
  subst h
  have hl := hv.length
  simp only [Array.length_toList] at hl
  refine ⟨⟨rfl, ⟨?_, fun t v ht => ?_⟩, ?_, fun x hx => ?_, .nil, rfl, rfl, rfl, fun l hl => by cases hl⟩, rfl, rfl, rfl⟩
  · simp [Frame.enter, hf, hl]
  · rw [putN_at] at ht
    split at ht
    · rename_i hi
      obtain ⟨y, hy, hr⟩ := hv.at _ _ ht
      simp only [Nat.sub_zero] at hy
      refine ⟨by simp only; omega, y, ?_, hr⟩
      simp only [Frame.enter]
      rw [Array.getElem?_append_left (by omega)]
      simpa using hy
    · rw [T.at_nil] at ht; cases ht
  · simp [Frame.enter, hf, hb, AI.real]
  · simp at hx
    subst hx
    trivial
theorem finA_ok {A A' : AF} {R : Frame} {v : V} {x : Value} (h : finA A v = some A') (hA : FR S μ A R) (hv : VR S μ v x) : FR S μ A' (R.finish x) := by
  obtain ⟨fn', tm', todo', df', md', kd', rnd'⟩ := R
  obtain ⟨fn, nt, F, todo, df, md, kd, rnd⟩ := A
  have htodo := hA.todo
  have hok := hA.ok
  simp only at htodo hok
  unfold finA at h
  simp only at h
  split at h
  · rename_i ops i r k
    split at h
    · rename_i F' hF
      injection h with h
      subst h
      have ht := putT_ok hF hA.tm hv
      simp only [List.map_cons, AI.real] at htodo
      subst htodo
      have hfin : (Frame.mk fn' tm' (.inRegion ops (i :: r) :: k.map (AI.real μ)) df' md' kd' rnd').finish x = Frame.mk fn' (putR tm' ((ops[i]?).bind (·.dst)) x) (.inRegion ops r :: k.map (AI.real μ)) df' md' kd' rnd' := by
        unfold putR
        simp only [Frame.finish]
        cases (ops[i]?).bind (·.dst) <;> rfl
      rw [hfin]
      exact ⟨hA.fn, ht, rfl, fun y hy => (List.mem_cons.1 hy).elim (fun e => by subst e; trivial) (fun hy => hok y (by simp [hy])), hA.df, hA.md, hA.kd, hA.rnd, hA.rok⟩
    · cases h
  · rename_i l k
    injection h with h
    subst h
    simp only [List.map_cons, AI.real] at htodo
    subst htodo
    exact ⟨hA.fn, hA.tm, rfl, fun y hy => (List.mem_cons.1 hy).elim (fun e => by subst e; exact hok (.rf l) (by simp)) (fun hy => hok y (by simp [hy])), hA.df, hA.md, hA.kd, hA.rnd, hA.rok⟩
  · cases h
theorem raiseA_ok {A : AF} {R : Frame} {ch : List (V × Bool)} {ps : List PanicEntry} (hA : FR S μ A R) (hv : PRs S μ ch ps) : FR S μ (raiseA A ch) (R.raise ps) := by
  obtain ⟨fn', tm', todo', df', md', kd', rnd'⟩ := R
  obtain ⟨fn, nt, F, todo, df, md, kd, rnd⟩ := A
  have app : ∀ {c1 c2 : List (V × Bool)} {p1 p2 : List PanicEntry}, PRs S μ c1 p1 → PRs S μ c2 p2 → PRs S μ (c1 ++ c2) (p1 ++ p2) := by
    intro c1 c2 p1 p2 h1 h2
    induction h1 with
    | nil => exact h2
    | cons h _ ih => exact .cons h ih
  have hmd := hA.md
  cases md with
  | run =>
    simp only [MR] at hmd
    subst hmd
    exact ⟨hA.fn, hA.tm, hA.todo, hA.ok, hA.df, ⟨ps, rfl, hv⟩, hA.kd, hA.rnd, hA.rok⟩
  | ret =>
    simp only [MR] at hmd
    subst hmd
    exact ⟨hA.fn, hA.tm, hA.todo, hA.ok, hA.df, ⟨ps, rfl, hv⟩, hA.kd, hA.rnd, hA.rok⟩
  | pan ch' =>
    obtain ⟨ps', e, h⟩ := hmd
    subst e
    exact ⟨hA.fn, hA.tm, hA.todo, hA.ok, hA.df, ⟨ps ++ ps', rfl, app hv h⟩, hA.kd, hA.rnd, hA.rok⟩
def resOne (tm : Array Value) (x : ResultVar) : Sem Value := match x with | .tmp t => pure (tm.getD t undef) | .cell a t => do loadVar t (← asAddr (tm.getD a undef))
theorem results_eq (f : Func) (tm : Array Value) : results f tm = (do let vs ← f.results.mapM (resOne tm); pure (if h : vs.size = 1 then vs[0] else .tuple vs)) := by
  unfold results
  have : (fun x : ResultVar => match x with | .tmp t => (pure (tm.getD t undef) : Sem Value) | .cell a t => do loadVar t (← asAddr (tm.getD a undef))) = resOne tm := by funext x; cases x <;> rfl
  rw [← this]
  rfl
theorem resA_ok {H : T O} {tm : Array Value} : ∀ {l : List ResultVar} {vs : List V}, resA P H F l = some vs → TR S μ nt F tm → RH G S μ H.at w →
    ∃ xs, (l.mapM (resOne tm)).run P w = .ok xs w ∧ VRs S μ vs xs := by
  intro l
  induction l with
  | nil => intro vs h _ _; injection h with h; subst h; exact ⟨[], rfl, .nil⟩
  | cons x l ih =>
    intro vs h ht hr
    have h' : (match (match x with
    | .tmp t => F.at t
    | .cell a t => match F.at a with | some p => eLoad P H t p | none => none) with
    | none => none
    | some v => match resA P H F l with | none => none | some vs => some (v :: vs)) = some vs := h
    split at h'
    · cases h'
    · rename_i v hx
      split at h'
      · cases h'
      · rename_i vs' hvs
        injection h' with h'
        subst h'
        obtain ⟨xs, h1, h2⟩ := ih hvs ht hr
        cases x with
        | tmp t =>
          obtain ⟨_, y, hy, hyr⟩ := ht.2 t v hx
          refine ⟨y :: xs, ?_, .cons hyr h2⟩
          simp only [List.mapM_cons, resOne, Sem.run_bind, Sem.run_pure, Result.andThen_ok, h1, Array.getD_eq_getD_getElem?, hy, Option.getD_some]
        | cell a t =>
          simp only at hx
          split at hx
          · rename_i p hp
            obtain ⟨_, y, hy, hyr⟩ := ht.2 a p hp
            obtain ⟨z, hz, hzr⟩ := eLoad_ok hx hr hyr
            refine ⟨z :: xs, ?_, .cons hzr h2⟩
            cases hyr <;> try (simp [eLoad] at hx; done)
            simp only [Instr.loadAt, Instr.sureAddr, Sem.run_bind, Sem.run_pure, Result.andThen_ok] at hz
            simp only [List.mapM_cons, resOne, Sem.run_bind, Array.getD_eq_getD_getElem?, hy, Option.getD_some, asAddr, Sem.run_pure, Result.andThen_ok, hz, h1]
          · cases hx
theorem resV_ok {H : T O} {tm : Array Value} {v : V} (h : resV P H F fn = some v) (ht : TR S μ nt F tm) (hr : RH G S μ H.at w) : ∃ f x, P.funcs[fn]? = some f ∧ (results f tm).run P w = .ok x w ∧ VR S μ v x := by
  unfold resV at h
  split at h
  case h_2 => cases h
  rename_i f hf
  have key : ∀ vs, resA P H F f.results.toList = some vs → ∃ xs, VRs S μ vs xs ∧ (results f tm).run P w = .ok (if h : xs.length = 1 then xs[0] else .tuple xs.toArray) w := by
    intro vs hvs
    obtain ⟨xs, h1, h2⟩ := resA_ok hvs ht hr
    refine ⟨xs, h2, ?_⟩
    have hm : (f.results.mapM (resOne tm)).run P w = .ok xs.toArray w := by
      rw [Array.mapM_eq_mapM_toList, Sem.run_map, h1]
      rfl
    rw [results_eq, Sem.run_bind, hm]
    simp
  split at h
  · rename_i v' hvs
    injection h with h
    subst h
    obtain ⟨xs, h1, h2⟩ := key _ hvs
    cases h1 with
    | cons h1 hs =>
      cases hs
      exact ⟨f, _, hf, h2, h1⟩
  · rename_i vs hne hvs
    injection h with h
    subst h
    obtain ⟨xs, h1, h2⟩ := key _ hvs
    have hl := h1.length
    refine ⟨f, .tuple xs.toArray, hf, ?_, .t vs xs h1⟩
    rw [h2, dif_neg]
    intro e
    rw [hl] at e
    obtain ⟨a, rfl⟩ := List.length_eq_one_iff.1 e
    exact hne a rfl
  · cases h
end
end Ev
end Go.Proofs.YtmlhijlcefogmaaGreatDoor
