/-
  Evaluation of closed runs, part W: many steps at once. No conditions; no program.
-/
import Derived.Test.YtmlhijlcefogmaaGreatDoorEvT
set_option linter.unusedVariables false
set_option linter.unusedSimpArgs false
namespace Go.Proofs.YtmlhijlcefogmaaGreatDoor
namespace Ev

noncomputable section
abbrev R0 := Option Res
def putO (nt : Nat) (dst : Option Tmp) (F : T V) (v : V) (k : T V → R0) (z : R0) : R0 :=
  Option.rec (motive := fun _ => R0) (k F) (fun d => Bool.rec (motive := fun _ => R0) z (fV v fun v => F.putK d (some v) k) (Nat.blt d nt)) dst
def stS (lim nt : Nat) (dst : Option Tmp) (F : T V) (k : T V → T O → Nat → R0) (z : R0) (x : Option (V × T O × Nat)) : R0 :=
  Option.rec (motive := fun _ => R0) z (fun p => Prod.rec (motive := fun _ => R0) (fun v q => Prod.rec (motive := fun _ => R0) (fun H n => Bool.rec (motive := fun _ => R0) z (putO nt dst F v (fun F => k F H n) z) (Nat.ble n lim)) q) p) x
def stC (sm : Sums) (lim nt : Nat) (dst : Option Tmp) (F : T V) (H : T O) (n : Nat) (k : T V → T O → Nat → R0) (z : R0) (f : FuncId) (args : List V) : R0 :=
  Option.rec (motive := fun _ => R0) z (fun g => stS lim nt dst F k z (g args H n)) (sm f)
def stE (sm : Sums) (lim nt : Nat) (dst : Option Tmp) (F : T V) (H : T O) (n : Nat) (k : T V → T O → Nat → R0) (z : R0) (x : Option Nx) : R0 :=
  Option.rec (motive := fun _ => R0) z (fun x => Nx.rec (motive := fun _ => R0) (fun v => putO nt dst F v (fun F => k F H n) z) (fun v H n => putO nt dst F v (fun F => k F H n) z) (stC sm lim nt dst F H n k z) (fun _ => z) (fun _ => z) z (fun _ _ => z) x) x
def stW (P : Program) (sm : Sums) (lim nt : Nat) (o : Oper) (F : T V) (H : T O) (n : Nat) (k : T V → T O → Nat → R0) (z : R0) (w : Option Bool) : R0 :=
  Option.rec (motive := fun _ => R0) z (fun b => Bool.rec (motive := fun _ => R0) (putO nt o.dst F undefV (fun F => k F H n) z) (Bool.rec (motive := fun _ => R0) z (stE sm lim nt o.dst F H n k z (evalOp P H n F o)) (Nat.blt n lim)) b) w
def stK (P : Program) (sm : Sums) (lim nt : Nat) (ops : Array Oper) (i : Nat) (F : T V) (H : T O) (n : Nat) (k : T V → T O → Nat → R0) (z : R0) : R0 :=
  Option.rec (motive := fun _ => R0) z (fun o => stW P sm lim nt o F H n k z (wantedA ops F o)) ops[i]?
/-- A plain region's operations, as many as are simple. -/
def regL (P : Program) (sm : Sums) (lim nt : Nat) (ops : Array Oper) (r : List Nat) : T V → T O → Nat → (T V → T O → Nat → List Nat → R0) → R0 :=
  List.rec (motive := fun _ => T V → T O → Nat → (T V → T O → Nat → List Nat → R0) → R0) (fun F H n K => K F H n [])
    (fun i r ih F H n K => stK P sm lim nt ops i F H n (fun F H n => ih F H n K) (K F H n (i :: r))) r
abbrev KT := List AI → T V → T O → Nat → R0
def codD (dw : Draws) (fn : FuncId) (nt id : Nat) (ops : Array Oper) (t : List AI) (F : T V) (H : T O) (n : Nat) (ih : List AI → T V → T O → Nat → KT → R0) (K : KT) (z : R0) : R0 :=
  Option.rec (motive := fun _ => R0) z (fun p => Prod.rec (motive := fun _ => R0) (fun F q => Prod.rec (motive := fun _ => R0) (fun H n => ih t F H n K) q) p) (dw fn id ops nt F H n)
def codR (P : Program) (sm : Sums) (lim nt : Nat) (ops : Array Oper) (r : List Nat) (t : List AI) (F : T V) (H : T O) (n : Nat) (ih : List AI → T V → T O → Nat → KT → R0) (K : KT) : R0 :=
  regL P sm lim nt ops r F H n fun F H n r => List.rec (motive := fun _ => R0) (ih t F H n K) (fun i r _ => K (.it (.inRegion ops (i :: r)) :: t) F H n) r
def codB (a b : Code) (t : List AI) (F : T V) (H : T O) (n : Nat) (ih : List AI → T V → T O → Nat → KT → R0) (K : KT) (z : R0) (v : Option V) : R0 :=
  match v with
  | some (.b c) => ih (.it (.code (Bool.rec (motive := fun _ => Code) b a c)) :: t) F H n K
  | _ => z
def codX (t : Option (List AI)) (F : T V) (H : T O) (n : Nat) (ih : List AI → T V → T O → Nat → KT → R0) (K : KT) (z : R0) : R0 :=
  Option.rec (motive := fun _ => R0) z (fun t => ih t F H n K) t
/-- What is to be done, as much as is simple. -/
def codC (P : Program) (sm : Sums) (dw : Draws) (lim : Nat) (fn : FuncId) (nt : Nat) (c : Code) (t : List AI) (F : T V) (H : T O) (n : Nat) (ih : List AI → T V → T O → Nat → KT → R0) (K : KT) (z : R0) : R0 :=
  Code.rec (motive := fun _ => R0) (ih t F H n K)
    (fun id ops draw => Bool.rec (motive := fun _ => R0) (codR P sm lim nt ops (List.range ops.size) t F H n ih K) (codD dw fn nt id ops t F H n ih K z) draw)
    (fun a b _ _ => ih (.it (.code a) :: .it (.code b) :: t) F H n K)
    (fun x a b _ _ => codB a b t F H n ih K z (ev F x))
    (fun id b _ => ih (.it (.code b) :: .it (.inBlock id) :: t) F H n K)
    (fun b _ => ih (.it (.code b) :: .it (.inLoop b) :: t) F H n K)
    (fun _ _ _ _ _ _ => z)
    (fun id => codX (exitA id t) F H n ih K z)
    (fun b _ => ih (.it (.code b) :: .it (.inScope b) :: t) F H n K)
    (fun _ => ih t F H n K)
    (fun l => codX (gotoA l t) F H n ih K z)
    z (fun _ => z) c
def codI (P : Program) (sm : Sums) (dw : Draws) (lim : Nat) (fn : FuncId) (nt : Nat) (i : Item) (t : List AI) (F : T V) (H : T O) (n : Nat) (ih : List AI → T V → T O → Nat → KT → R0) (K : KT) (z : R0) : R0 :=
  Item.rec (motive := fun _ => R0) (fun c => codC P sm dw lim fn nt c t F H n ih K z) (fun _ => ih t F H n K) (fun b => ih (.it (.code b) :: .it (.inLoop b) :: t) F H n K) (fun _ => ih t F H n K)
    (fun ops r => codR P sm lim nt ops r t F H n ih K) (fun _ => z) (fun _ => z) z (fun _ _ _ _ => z) (fun _ _ => z) i
def codL (P : Program) (sm : Sums) (dw : Draws) (lim : Nat) (fn : FuncId) (nt : Nat) (fuel : Nat) : List AI → T V → T O → Nat → KT → R0 :=
  Nat.rec (motive := fun _ => List AI → T V → T O → Nat → KT → R0) (fun t F H n K => K t F H n)
    (fun _ ih t F H n K => List.rec (motive := fun _ => R0) (K [] F H n) (fun a t _ => AI.rec (motive := fun _ => R0) (fun i => codI P sm dw lim fn nt i t F H n ih K (K (.it i :: t) F H n)) (fun l => K (.rf l :: t) F H n) (fun l => K (.erf l :: t) F H n) a) t) fuel
end
theorem putO_ok (nt : Nat) (dst : Option Tmp) (F : T V) (v : V) (k : T V → R0) (z : R0) : putO nt dst F v k z = match putT nt F dst v with | some F => k F | none => z := by
  cases dst with
  | none => rfl
  | some d =>
    show Bool.rec (motive := fun _ => R0) z (fV v fun v => F.putK d (some v) k) (Nat.blt d nt) = _
    unfold putT
    cases hb : Nat.blt d nt with
    | false => simp only [hb]
    | true => simp only [hb, fV_eq, T.putK_eq]
section
variable {P : Program} {sm : Sums} {lim nt : Nat}
theorem stE_ok (ops : Array Oper) (i : Nat) (o : Oper) (ho : ops[i]? = some o) (F : T V) (H : T O) (n : Nat) (hw : wantedA ops F o = some true) (hn : Nat.blt n lim = true) (k : T V → T O → Nat → R0) (z : R0) :
    stE sm lim nt o.dst F H n k z (evalOp P H n F o) = z ∨ ∃ F' H' n', stE sm lim nt o.dst F H n k z (evalOp P H n F o) = k F' H' n' ∧
      ∀ fn r t df kd rnd cs, opStep P sm lim fn nt F ops i r t df kd rnd cs H n = nx fn nt F' (.it (.inRegion ops r) :: t) df .run kd rnd cs H' n' := by
  have hop : ∀ fn r t df kd rnd cs, opStep P sm lim fn nt F ops i r t df kd rnd cs H n = opStepS P sm lim fn nt F ops i r t df kd rnd cs H n := fun fn r t df kd rnd cs => opStep_eq P sm lim fn nt F ops i r t df kd rnd cs H n
  simp only [hop, opStepS, ho, hw, hn]
  cases evalOp P H n F o with
  | none => exact .inl rfl
  | some x =>
    cases x with
    | lt v =>
      have e : stE sm lim nt o.dst F H n k z (some (.lt v)) = putO nt o.dst F v (fun F => k F H n) z := rfl
      rw [e, putO_ok]
      cases hp : putT nt F o.dst v with
      | none => exact .inl rfl
      | some F' => exact .inr ⟨F', H, n, rfl, fun _ _ _ _ _ _ _ => by simp only [hp]⟩
    | val v H' n' =>
      have e : stE sm lim nt o.dst F H n k z (some (.val v H' n')) = putO nt o.dst F v (fun F => k F H' n') z := rfl
      rw [e, putO_ok]
      cases hp : putT nt F o.dst v with
      | none => exact .inl rfl
      | some F' => exact .inr ⟨F', H', n', rfl, fun _ _ _ _ _ _ _ => by simp only [hp]⟩
    | call f args =>
      have e : stE sm lim nt o.dst F H n k z (some (.call f args)) = stC sm lim nt o.dst F H n k z f args := rfl
      rw [e]
      unfold stC
      cases hsf : sm f with
      | none => exact .inl rfl
      | some g =>
        simp only
        unfold stS
        cases hg : g args H n with
        | none => exact .inl rfl
        | some p =>
          obtain ⟨v, H', n'⟩ := p
          simp only
          cases hb : Nat.ble n' lim with
          | false => exact .inl rfl
          | true =>
            simp only [putO_ok]
            cases hp : putT nt F o.dst v with
            | none => exact .inl rfl
            | some F' => exact .inr ⟨F', H', n', rfl, fun _ _ _ _ _ _ _ => by simp only [hp, hsf, hg, hb]⟩
    | _ => exact .inl rfl
theorem stK_ok (ops : Array Oper) (i : Nat) (F : T V) (H : T O) (n : Nat) (k : T V → T O → Nat → R0) (z : R0) :
    stK P sm lim nt ops i F H n k z = z ∨ ∃ F' H' n', stK P sm lim nt ops i F H n k z = k F' H' n' ∧
      ∀ fn r t df kd rnd cs, opStep P sm lim fn nt F ops i r t df kd rnd cs H n = nx fn nt F' (.it (.inRegion ops r) :: t) df .run kd rnd cs H' n' := by
  unfold stK
  cases ho : ops[i]? with
  | none => exact .inl rfl
  | some o =>
    simp only
    unfold stW
    cases hw : wantedA ops F o with
    | none => exact .inl rfl
    | some b =>
      cases b with
      | false =>
        simp only [putO_ok]
        cases hp : putT nt F o.dst undefV with
        | none => exact .inl rfl
        | some F' => exact .inr ⟨F', H, n, rfl, fun fn r t df kd rnd cs => by rw [opStep_eq]; simp only [opStepS, ho, hw, hp]⟩
      | true =>
        cases hn : Nat.blt n lim with
        | false => exact .inl rfl
        | true => exact stE_ok ops i o ho F H n hw hn k z
end
/-- The run goes on from one configuration to another. -/
def Rch (P : Program) (sm : Sums) (dw : Draws) (lim : Nat) (c c' : Cfg) : Prop := ∃ m, ∀ fuel, runA P sm dw lim (fuel + m) c = runA P sm dw lim fuel c'
section
variable {P : Program} {sm : Sums} {dw : Draws} {lim nt : Nat} {fn : FuncId} {df : List DV} {kd : Bool} {rnd : Option Nat} {cs : List AF}
theorem Rch.refl (c : Cfg) : Rch P sm dw lim c c := ⟨0, fun _ => rfl⟩
theorem Rch.trans {a b c : Cfg} (h : Rch P sm dw lim a b) (k : Rch P sm dw lim b c) : Rch P sm dw lim a c := by
  obtain ⟨m, h⟩ := h
  obtain ⟨l, k⟩ := k
  exact ⟨l + m, fun fuel => by rw [← Nat.add_assoc, h, k]⟩
theorem Rch.step {c c' : Cfg} (h : astep P sm dw lim c = some (.next c')) : Rch P sm dw lim c c' := ⟨1, fun fuel => by
  show (match astep P sm dw lim c with | none => none | some (.done r) => some r | some (.next c) => runA P sm dw lim fuel c) = _
  rw [h]⟩
/-- A configuration of a frame that runs. -/
def rc (fn : FuncId) (nt : Nat) (df : List DV) (kd : Bool) (rnd : Option Nat) (cs : List AF) (t : List AI) (F : T V) (H : T O) (n : Nat) : Cfg := ⟨⟨fn, nt, F, t, df, .run, kd, rnd⟩, cs, H, n⟩
theorem regL_ok (ops : Array Oper) (t : List AI) : ∀ (r : List Nat) (F : T V) (H : T O) (n : Nat) (K : T V → T O → Nat → List Nat → R0), ∃ F' H' n' r', regL P sm lim nt ops r F H n K = K F' H' n' r' ∧
    Rch P sm dw lim (rc fn nt df kd rnd cs (.it (.inRegion ops r) :: t) F H n) (rc fn nt df kd rnd cs (.it (.inRegion ops r') :: t) F' H' n') := by
  intro r
  induction r with
  | nil => intro F H n K; exact ⟨F, H, n, [], rfl, .refl _⟩
  | cons i r ih =>
    intro F H n K
    have h := stK_ok (P := P) (sm := sm) (lim := lim) (nt := nt) ops i F H n (fun F H n => regL P sm lim nt ops r F H n K) (K F H n (i :: r))
    rcases h with h | ⟨F', H', n', h, hs⟩
    · exact ⟨F, H, n, i :: r, h, .refl _⟩
    · obtain ⟨F2, H2, n2, r2, h2, hr2⟩ := ih F' H' n' K
      refine ⟨F2, H2, n2, r2, Eq.trans h h2, Rch.trans (.step ?_) hr2⟩
      exact hs fn r t df kd rnd cs
/-- What the quick code says: it gives K what the run comes to. -/
def LOk (P : Program) (sm : Sums) (dw : Draws) (lim : Nat) (fn : FuncId) (nt : Nat) (df : List DV) (kd : Bool) (rnd : Option Nat) (cs : List AF) (K : KT) (t : List AI) (F : T V) (H : T O) (n : Nat) (x : R0) : Prop :=
  ∃ t' F' H' n', x = K t' F' H' n' ∧ Rch P sm dw lim (rc fn nt df kd rnd cs t F H n) (rc fn nt df kd rnd cs t' F' H' n')
theorem LOk.after {K : KT} {t t1 : List AI} {F F1 : T V} {H H1 : T O} {n n1 : Nat} {x : R0} (h : Rch P sm dw lim (rc fn nt df kd rnd cs t F H n) (rc fn nt df kd rnd cs t1 F1 H1 n1)) (k : LOk P sm dw lim fn nt df kd rnd cs K t1 F1 H1 n1 x) : LOk P sm dw lim fn nt df kd rnd cs K t F H n x := by
  obtain ⟨t', F', H', n', e, hr⟩ := k
  exact ⟨t', F', H', n', e, h.trans hr⟩
theorem LOk.stop {K : KT} {t : List AI} {F : T V} {H : T O} {n : Nat} : LOk P sm dw lim fn nt df kd rnd cs K t F H n (K t F H n) := ⟨t, F, H, n, rfl, .refl _⟩
theorem codL_ok (fuel : Nat) : ∀ (t : List AI) (F : T V) (H : T O) (n : Nat) (K : KT), LOk P sm dw lim fn nt df kd rnd cs K t F H n (codL P sm dw lim fn nt fuel t F H n K) := by
  induction fuel with
  | zero => intro t F H n K; exact .stop
  | succ fuel ih =>
    intro t F H n K
    cases t with
    | nil => exact .stop
    | cons a t =>
      cases a with
      | rf l => exact .stop
      | erf l => exact .stop
      | it i =>
        have reg : ∀ (ops : Array Oper) (r : List Nat), LOk P sm dw lim fn nt df kd rnd cs K (.it (.inRegion ops r) :: t) F H n (codR P sm lim nt ops r t F H n (codL P sm dw lim fn nt fuel) K) := by
          intro ops r
          unfold codR
          obtain ⟨F', H', n', r', h, hr⟩ := regL_ok (P := P) (sm := sm) (dw := dw) (lim := lim) (nt := nt) (fn := fn) (df := df) (kd := kd) (rnd := rnd) (cs := cs) ops t r F H n (fun F H n r => List.rec (motive := fun _ => R0) (codL P sm dw lim fn nt fuel t F H n K) (fun i r _ => K (.it (.inRegion ops (i :: r)) :: t) F H n) r)
          rw [h]
          refine LOk.after hr ?_
          cases r' with
          | nil => exact LOk.after (.step (c' := rc fn nt df kd rnd cs t F' H' n') rfl) (ih t F' H' n' K)
          | cons i r => exact .stop
        cases i with
        | code c =>
          show LOk P sm dw lim fn nt df kd rnd cs K _ F H n (codC P sm dw lim fn nt c t F H n (codL P sm dw lim fn nt fuel) K (K (.it (.code c) :: t) F H n))
          cases c with
          | skip => exact LOk.after (.step (c' := rc fn nt df kd rnd cs t F H n) rfl) (ih t F H n K)
          | label l => exact LOk.after (.step (c' := rc fn nt df kd rnd cs t F H n) rfl) (ih t F H n K)
          | seq a b => exact LOk.after (.step (c' := rc fn nt df kd rnd cs (.it (.code a) :: .it (.code b) :: t) F H n) rfl) (ih _ F H n K)
          | block id b => exact LOk.after (.step (c' := rc fn nt df kd rnd cs (.it (.code b) :: .it (.inBlock id) :: t) F H n) rfl) (ih _ F H n K)
          | loop b => exact LOk.after (.step (c' := rc fn nt df kd rnd cs (.it (.code b) :: .it (.inLoop b) :: t) F H n) rfl) (ih _ F H n K)
          | scope b => exact LOk.after (.step (c' := rc fn nt df kd rnd cs (.it (.code b) :: .it (.inScope b) :: t) F H n) rfl) (ih _ F H n K)
          | rangeFunc f ps a b => exact .stop
          | ret => exact .stop
          | refuse w => exact .stop
          | exit id =>
            show LOk P sm dw lim fn nt df kd rnd cs K _ F H n (codX (exitA id t) F H n _ K _)
            unfold codX
            cases he : exitA id t with
            | none => exact .stop
            | some t' => exact LOk.after (.step (c' := rc fn nt df kd rnd cs t' F H n) (by simp only [rc, astep, codeStep, he]; rfl)) (ih t' F H n K)
          | goto l =>
            show LOk P sm dw lim fn nt df kd rnd cs K _ F H n (codX (gotoA l t) F H n _ K _)
            unfold codX
            cases he : gotoA l t with
            | none => exact .stop
            | some t' => exact LOk.after (.step (c' := rc fn nt df kd rnd cs t' F H n) (by simp only [rc, astep, codeStep, he]; rfl)) (ih t' F H n K)
          | cond x a b =>
            show LOk P sm dw lim fn nt df kd rnd cs K _ F H n (codB a b t F H n _ K _ (ev F x))
            unfold codB
            split
            · rename_i c hc
              refine LOk.after (.step (c' := rc fn nt df kd rnd cs (.it (.code (Bool.rec (motive := fun _ => Code) b a c)) :: t) F H n) ?_) (ih _ F H n K)
              simp only [rc, astep, codeStep, hc]
              cases c <;> rfl
            · exact .stop
          | region id ops draw =>
            cases draw with
            | false => exact LOk.after (.step (c' := rc fn nt df kd rnd cs (.it (.inRegion ops (List.range ops.size)) :: t) F H n) rfl) (reg ops _)
            | true =>
              show LOk P sm dw lim fn nt df kd rnd cs K _ F H n (codD dw fn nt id ops t F H n _ K _)
              unfold codD
              cases he : dw fn id ops nt F H n with
              | none => exact .stop
              | some p =>
                obtain ⟨F', H', n'⟩ := p
                exact LOk.after (.step (c' := rc fn nt df kd rnd cs t F' H' n') (by simp only [rc, astep, codeStep, he]; rfl)) (ih t F' H' n' K)
        | inBlock id => exact LOk.after (.step (c' := rc fn nt df kd rnd cs t F H n) rfl) (ih t F H n K)
        | inScope b => exact LOk.after (.step (c' := rc fn nt df kd rnd cs t F H n) rfl) (ih t F H n K)
        | inLoop b => exact LOk.after (.step (c' := rc fn nt df kd rnd cs (.it (.code b) :: .it (.inLoop b) :: t) F H n) rfl) (ih _ F H n K)
        | inRegion ops r => exact reg ops r
        | _ => exact .stop
end
noncomputable section
/-- The run, quicker. -/
def runF (P : Program) (sm : Sums) (dw : Draws) (lim fuel : Nat) : Cfg → R0 :=
  Nat.rec (motive := fun _ => Cfg → R0) (fun _ => none) (fun _ ih c => match c with
    | ⟨⟨fn, nt, F, t, df, md, kd, rnd⟩, cs, H, n⟩ => match md with
      | .run => codL P sm dw lim fn nt 1000000 t F H n fun t F H n => match astep P sm dw lim ⟨⟨fn, nt, F, t, df, .run, kd, rnd⟩, cs, H, n⟩ with | none => none | some (.done r) => some r | some (.next c) => ih c
      | md => match astep P sm dw lim ⟨⟨fn, nt, F, t, df, md, kd, rnd⟩, cs, H, n⟩ with | none => none | some (.done r) => some r | some (.next c) => ih c) fuel
end
theorem runF_ok {P : Program} {sm : Sums} {dw : Draws} {lim : Nat} : ∀ (fuel : Nat) (c : Cfg) (r : Res), runF P sm dw lim fuel c = some r → ∃ m, runA P sm dw lim m c = some r := by
  intro fuel
  induction fuel with
  | zero => intro c r h; cases h
  | succ fuel ih =>
    intro c r h
    have one : ∀ c : Cfg, (match astep P sm dw lim c with | none => none | some (.done r) => some r | some (.next c) => runF P sm dw lim fuel c) = some r → ∃ m, runA P sm dw lim m c = some r := by
      intro c h
      cases ha : astep P sm dw lim c with
      | none => rw [ha] at h; cases h
      | some o =>
        rw [ha] at h
        cases o with
        | done r' => injection h with h; subst h; exact ⟨1, by show (match astep P sm dw lim c with | none => none | some (.done r) => some r | some (.next c) => runA P sm dw lim 0 c) = _; rw [ha]⟩
        | next c' =>
          obtain ⟨m, hm⟩ := ih c' r h
          obtain ⟨k, hk⟩ := Rch.step (P := P) (sm := sm) (dw := dw) (lim := lim) ha
          exact ⟨m + k, by rw [hk, hm]⟩
    obtain ⟨⟨fn, nt, F, t, df, md, kd, rnd⟩, cs, H, n⟩ := c
    cases md with
    | run =>
      obtain ⟨t', F', H', n', e, hr⟩ := codL_ok (P := P) (sm := sm) (dw := dw) (lim := lim) (fn := fn) (nt := nt) (df := df) (kd := kd) (rnd := rnd) (cs := cs) 1000000 t F H n (fun t F H n => match astep P sm dw lim ⟨⟨fn, nt, F, t, df, .run, kd, rnd⟩, cs, H, n⟩ with | none => none | some (.done r) => some r | some (.next c) => runF P sm dw lim fuel c)
      have h2 := e.symm.trans h
      obtain ⟨m, hm⟩ := one _ h2
      obtain ⟨k, hk⟩ := hr
      exact ⟨m + k, (hk m).trans hm⟩
    | ret => exact one _ h
    | pan ch => exact one _ h
noncomputable section
/-- A call, whole, quicker. -/
def callF (P : Program) (sm : Sums) (dw : Draws) (lim fuel : Nat) (f : FuncId) (args : List V) (H : T O) (n : Nat) : Option (V × T O × Nat) :=
  match enterA P f args false with
  | none => none
  | some A => match runF P sm dw lim fuel ⟨A, [], H, n⟩ with
    | some (.ret fn v H' n') => match Nat.beq fn f with | true => some (v, H', n') | false => none
    | _ => none
end
theorem callF_ok {P : Program} {sm : Sums} {dw : Draws} {lim fuel : Nat} {f : FuncId} {args : List V} {H H' : T O} {n n' : Nat} {v : V} (h : callF P sm dw lim fuel f args H n = some (v, H', n')) : ∃ m, callA P sm dw lim m f args H n = some (v, H', n') := by
  unfold callF at h
  split at h
  · cases h
  · rename_i A hA
    split at h
    · rename_i fn v2 H2 n2 hr
      obtain ⟨m, hm⟩ := runF_ok _ _ _ hr
      refine ⟨m, ?_⟩
      unfold callA
      rw [hA]
      simp only [hm]
      exact h
    · cases h
noncomputable section
def cfF (P : Program) (sm : Sums) (lim fuel : Nat) (dw : Draws) : Callee' := fun f args H n =>
  match sm f with
  | some g => match g args H n with
    | some (v, H', n') => match Nat.ble n' lim with | true => some (v, H', n') | false => none
    | none => none
  | none => callF P sm dw lim fuel f args H n
def dwF (P : Program) (sm : Sums) (lim fuel : Nat) (d : Nat) : Draws :=
  Nat.rec (motive := fun _ => Draws) (fun _ _ _ _ _ _ _ => none) (fun _ ih => drawA P (cfF P sm lim fuel ih) lim) d
end
theorem cfF_ok {P : Program} {sm : Sums} (hsm : SumsOk P 1024 sm) {lim fuel : Nat} {dw : Draws} (hdw : DrawsOk P 1024 lim dw) : CalleeOk P lim (cfF P sm lim fuel dw) := by
  intro f args H n v H' n' h
  unfold cfF at h
  cases hs : sm f with
  | some g =>
    have h2 : cfOf P sm lim fuel dw f args H n = some (v, H', n') := by unfold cfOf; rw [hs] at h ⊢; exact h
    exact cfOf_ok hsm hdw f args H n v H' n' h2
  | none =>
    rw [hs] at h
    obtain ⟨m, hm⟩ := callF_ok h
    have h2 : cfOf P sm lim m dw f args H n = some (v, H', n') := by unfold cfOf; rw [hs]; exact hm
    exact cfOf_ok hsm hdw f args H n v H' n' h2
theorem dwF_ok {P : Program} (hm : P.follows .mixedOrders = true) {sm : Sums} (hsm : SumsOk P 1024 sm) {lim fuel : Nat} : ∀ d, DrawsOk P 1024 lim (dwF P sm lim fuel d) := by
  intro d
  induction d with
  | zero => intro fn id ops nt F H n F' H' n' h; cases h
  | succ d ih => exact drawA_ok hm (cfF_ok hsm ih)
end Ev
end Go.Proofs.YtmlhijlcefogmaaGreatDoor
