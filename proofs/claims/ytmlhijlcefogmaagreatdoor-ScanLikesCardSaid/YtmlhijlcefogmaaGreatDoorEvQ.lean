/-
  Evaluation of closed runs, part Q: a region that draws its order, from its facts. No conditions; no program.
-/
import Derived.Test.YtmlhijlcefogmaaGreatDoorEvP
set_option linter.unusedVariables false
set_option linter.unusedSimpArgs false
namespace Go.Proofs.YtmlhijlcefogmaaGreatDoor
namespace Ev

section
variable {P : Program} {cf : Callee'} {lim : Nat} {ops : Array Oper} {nt : Nat} {F0 : T V} {H0 : T O} {n0 : Nat} (D : DF P cf lim ops nt F0 H0 n0)
/-- Is the block b one that stands by itself, at stage s? -/
def DF.act (L : Array Bool) (s b : Nat) : Prop := n0 ≤ b ∧ b < n0 + ops.size ∧ (∃ H v, D.kd (b - n0) = .al H v) ∧ L.getD (b - n0) false = true ∧ s < D.st (b - n0)
noncomputable def DF.fl (b : Nat) : Option O := match D.kd (b - n0) with | .al H _ => H.at b | _ => none
open Classical in
noncomputable def DF.hL (L : Array Bool) (s : Nat) (b : Nat) : Option O := if D.act L s b then D.fl b else (D.g s).at b
def DF.NL (L : Array Bool) (s : Nat) (b : Nat) : Prop := (n0 ≤ b ∧ b < n0 + ops.size ∧ (∃ H v, D.kd (b - n0) = .al H v) ∧ L.getD (b - n0) false = true) ∨ (D.nn 0 ≤ b ∧ b < D.nn s)
def DF.FL (L : Array Bool) (t : Tmp) (v : V) : Prop := (∃ (j : Nat) (oj : Oper), ops[j]? = some oj ∧ oj.dst = some t ∧ L.getD j false = true ∧ v = (D.kd j).val) ∨ ((∀ (j : Nat) (oj : Oper), ops[j]? = some oj → oj.dst = some t → L.getD j false ≠ true) ∧ F0.at t = some v)
def DF.TRL (S : Nat → Prop) (μ : Nat → Loc) (L : Array Bool) (tm : Array Value) : Prop := tm.size = nt ∧ ∀ t v, D.FL L t v → t < nt ∧ ∃ x, tm[t]? = some x ∧ VR S μ v x

theorem DF.nn_mono : ∀ j k, j ≤ k → k ≤ D.K → D.nn j ≤ D.nn k := by
  intro j k hjk
  induction hjk with
  | refl => intro _; exact Nat.le_refl _
  | step h ih => intro hk; exact Nat.le_trans (ih (by omega)) (D.hnm _ (by omega))
theorem putT_eq {F F' : T V} {dst : Option Tmp} {v : V} (h : putT nt F dst v = some F') : (dst = none ∧ F' = F) ∨ ∃ d, dst = some d ∧ d < nt ∧ F' = F.put d (some v) := by
  unfold putT at h
  cases dst with
  | none => injection h with h; exact .inl ⟨rfl, h.symm⟩
  | some d =>
    simp only at h
    split at h
    · rename_i hlt
      rw [fV_eq, T.putK_eq] at h
      injection h with h
      exact .inr ⟨d, rfl, blt_lt hlt, h.symm⟩
    · cases h
theorem DF.Fi_at : ∀ i, i ≤ ops.size → ∀ t, (∀ (j : Nat) (oj : Oper), j < i → ops[j]? = some oj → oj.dst = some t → (D.Fi i).at t = some (D.kd j).val) ∧ ((∀ (j : Nat) (oj : Oper), j < i → ops[j]? = some oj → oj.dst ≠ some t) → (D.Fi i).at t = F0.at t) := by
  intro i
  induction i with
  | zero => intro _ t; exact ⟨fun j oj hj => by omega, fun _ => by rw [D.hF0]⟩
  | succ i ih =>
    intro hi t
    have ho : ops[i]? = some ops[i] := Array.getElem?_eq_getElem (by omega)
    have hp := D.hFi i _ ho
    obtain ⟨h1, h2⟩ := ih (by omega) t
    rcases putT_eq hp with ⟨hd, e⟩ | ⟨d, hd, _, e⟩
    · rw [e]
      refine ⟨fun j oj hj hoj hdj => ?_, fun hno => h2 fun j oj hj hoj => hno j oj (by omega) hoj⟩
      by_cases hji : j = i
      · subst hji
        rw [ho] at hoj
        injection hoj with hoj
        subst hoj
        rw [hd] at hdj
        cases hdj
      · exact h1 j oj (by omega) hoj hdj
    · rw [e, T.at_put]
      refine ⟨fun j oj hj hoj hdj => ?_, fun hno => ?_⟩
      · by_cases hji : j = i
        · subst hji
          rw [ho] at hoj
          injection hoj with hoj
          subst hoj
          rw [hd] at hdj
          injection hdj with hdj
          rw [if_pos hdj.symm]
        · rw [if_neg (fun e2 => hji (D.hdst j oj i _ t hoj ho hdj (by rw [hd, e2])))]
          exact h1 j oj (by omega) hoj hdj
      · rw [if_neg (fun e2 => hno i _ (by omega) ho (by rw [hd, e2]))]
        exact h2 fun j oj hj hoj => hno j oj (by omega) hoj

section
variable {S S' : Nat → Prop} {μ μ' : Nat → Loc} {L : Array Bool} {tm : Array Value} {w : World}
/-- What an operation looks at is there. -/
theorem DF.look (ht : D.TRL S μ L tm) {i : Nat} {o : Oper} (ho : ops[i]? = some o) (hpre : ∀ j, preB ops D.pf i j = true → L.getD j false = true) (hdn : Down ops L) (hni : L.getD i false = false) {t : Tmp} (hlk : t ∈ looks ops o) {v : V} (hv : (D.Fi i).at t = some v) : t < nt ∧ ∃ x, tm[t]? = some x ∧ VR S μ v x := by
  have hi : i < ops.size := (Array.getElem?_eq_some_iff.1 ho).1
  obtain ⟨h1, h2⟩ := D.Fi_at i (by omega) t
  refine ht.2 t v ?_
  by_cases hw : ∃ (j : Nat) (oj : Oper), ops[j]? = some oj ∧ oj.dst = some t
  · obtain ⟨j, oj, hoj, hdj⟩ := hw
    rcases D.hlook i o j oj t ho hoj hdj hlk with hp | hp
    · have hlt := preB_lt D.hed _ _ _ hp
      refine .inl ⟨j, oj, hoj, hdj, hpre j hp, ?_⟩
      rw [h1 j oj hlt hoj hdj] at hv
      injection hv with hv
      exact hv.symm
    · have hle : i ≤ j := by
        rcases hp with hp | hp
        · have := preB_lt D.hed _ _ _ hp; omega
        · omega
      have hnj : L.getD j false ≠ true := fun hj => by
        rcases hp with hp | hp
        · have := preB_listed hdn _ _ _ (fun o' ho' => hdn j o' ho' hj) hp
          rw [hni] at this
          cases this
        · rw [hp, hni] at hj
          cases hj
      have huq : ∀ (j' : Nat) (oj' : Oper), ops[j']? = some oj' → oj'.dst = some t → j' = j := fun j' oj' h h' => D.hdst j' oj' j oj t h hoj h' hdj
      refine .inr ⟨fun j' oj' h h' => by rw [huq j' oj' h h']; exact hnj, ?_⟩
      rw [← h2 fun j' oj' hj' h h' => by have := huq j' oj' h h'; omega]
      exact hv
  · refine .inr ⟨fun j oj hoj hdj => absurd ⟨j, oj, hoj, hdj⟩ hw, ?_⟩
    rw [← h2 fun j oj hj hoj hdj => hw ⟨j, oj, hoj, hdj⟩]
    exact hv
theorem DF.ρ (ht : D.TRL S μ L tm) {i : Nat} {o : Oper} (ho : ops[i]? = some o) (hpre : ∀ j, preB ops D.pf i j = true → L.getD j false = true) (hdn : Down ops L) (hni : L.getD i false = false) (hg : ∀ g, g < 1024 → S g ∧ (μ g).blk = g ∧ (μ g).sh = 0) {fr : Frame} (hfr : fr.tmps = tm) : ρOk S μ (D.Fi i) fr.eval o.op.operands.toList := by
  intro x hx v hv
  cases x with
  | tmp t =>
    obtain ⟨_, y, h1, h2⟩ := D.look ht ho hpre hdn hni (t := t) (by unfold looks; exact List.mem_append_left _ (List.mem_filterMap.2 ⟨.tmp t, hx, rfl⟩)) hv
    simp only [Frame.eval, hfr, Array.getD_eq_getD_getElem?, h1]
    exact h2
  | const c => injection hv with hv; subst hv; exact .ofVal c
  | global g =>
    have h' : Bool.rec (motive := fun _ => Option V) none (some (.p g 0)) (Nat.blt g 1024) = some v := hv
    cases hb : Nat.blt g 1024 with
    | false => rw [hb] at h'; cases h'
    | true =>
      rw [hb] at h'
      injection h' with h'
      subst h'
      obtain ⟨a, b, c⟩ := hg g (Nat.le_of_ble_eq_true hb)
      have := VR.p (S := S) (μ := μ) g 0 a
      rw [b, c] at this
      exact this
  | func f => injection hv with hv; subst hv; exact .f _ _ _ .nil
theorem wantedA_ok2 {F : T V} {o : Oper} {b : Bool} (h : wantedA ops F o = some b) (ht : ∀ j want d v, o.guard = some (j, want) → (ops[j]?).bind (·.dst) = some d → F.at d = some v → ∃ x, tm[d]? = some x ∧ VR S μ v x) : Region.wanted o (yielded ops tm) = b := by
  unfold wantedA at h
  unfold Region.wanted
  split at h
  · rename_i hg
    injection h with h
    subst h
    simp [hg]
  · rename_i j want hg
    simp only [hg]
    unfold yielded
    split at h
    · rename_i hd
      injection h with h
      subst h
      simp [hd]
    · rename_i d hd
      split at h
      · rename_i t hF
        injection h with h
        subst h
        obtain ⟨x, hx, hr⟩ := ht j want d _ hg hd hF
        cases hr
        simp [hd, hx]
      · rename_i vs hF
        injection h with h
        subst h
        obtain ⟨x, hx, hr⟩ := ht j want d _ hg hd hF
        cases hr
        simp [hd, hx]
      · cases h
theorem DF.want (ht : D.TRL S μ L tm) {i : Nat} {o : Oper} (ho : ops[i]? = some o) (hpre : ∀ j, preB ops D.pf i j = true → L.getD j false = true) (hdn : Down ops L) (hni : L.getD i false = false) {b : Bool} (h : wantedA ops (D.Fi i) o = some b) : Region.wanted o (yielded ops tm) = b :=
  wantedA_ok2 (S := S) (μ := μ) h fun j want d v hg hd hv => (D.look ht ho hpre hdn hni (by unfold looks; rw [hg]; exact List.mem_append_right _ (by simp [hd])) hv).2
theorem DF.put (ht : D.TRL S μ L tm) (hS : ∀ b, S b → S' b) (hμ : ∀ b, S b → μ' b = μ b) {i : Nat} {o : Oper} (ho : ops[i]? = some o) (hL : L.size = ops.size) {x : Value} (hx : VR S' μ' (D.kd i).val x) : D.TRL S' μ' (L.setIfInBounds i true) (putR tm o.dst x) := by
  have hi : i < ops.size := (Array.getElem?_eq_some_iff.1 ho).1
  have hLi : (L.setIfInBounds i true).getD i false = true := by simp [Array.getD_eq_getD_getElem?, hL, hi]
  have hp := D.hFi i o ho
  have hsz : (putR tm o.dst x).size = nt := by unfold putR; cases o.dst <;> simp [ht.1]
  refine ⟨hsz, fun t v hv => ?_⟩
  by_cases hd : o.dst = some t
  · have hlt : t < nt := by
      rcases putT_eq hp with ⟨h, _⟩ | ⟨d, h, h2, _⟩
      · rw [hd] at h; cases h
      · rw [hd] at h; injection h with h; rw [h]; exact h2
    have hvv : v = (D.kd i).val := by
      rcases hv with ⟨j, oj, hoj, hdj, hlj, e⟩ | ⟨h, _⟩
      · have := D.hdst j oj i o t hoj ho hdj hd
        subst this
        exact e
      · exact absurd hLi (h i o ho hd)
    subst hvv
    refine ⟨hlt, x, ?_, hx⟩
    unfold putR
    rw [hd]
    simp only
    rw [Array.getElem?_setIfInBounds_self, if_pos (by rw [ht.1]; exact hlt)]
  · have hv' : D.FL L t v := by
      rcases hv with ⟨j, oj, hoj, hdj, hlj, e⟩ | ⟨h, e⟩
      · have hji : i ≠ j := fun e2 => by subst e2; rw [ho] at hoj; injection hoj with hoj; subst hoj; exact hd hdj
        rw [getD_set_ne false hji] at hlj
        exact .inl ⟨j, oj, hoj, hdj, hlj, e⟩
      · refine .inr ⟨fun j oj hoj hdj hlj => ?_, e⟩
        exact h j oj hoj hdj (getD_set_true hlj)
    obtain ⟨a, y, h1, h2⟩ := ht.2 t v hv'
    refine ⟨a, y, ?_, h2.mono hS hμ⟩
    unfold putR
    cases hdd : o.dst with
    | none => exact h1
    | some d => simp only; rw [Array.getElem?_setIfInBounds_ne (fun e => hd (by rw [hdd, e]))]; exact h1
end

/-- How it stands between two operations. -/
def DF.Inv (S : Nat → Prop) (μ : Nat → Loc) (w0 : World) (L : Array Bool) (tm : Array Value) (w : World) : Prop :=
  ∃ s S' μ', s ≤ D.K ∧ (∀ k, 1 ≤ k → k ≤ D.K → (L.getD (D.x k) false = true ↔ k ≤ s)) ∧ L.size = ops.size ∧ Down ops L ∧ RH 1024 S' μ' (D.hL L s) w ∧ GoN S μ H0.at w0 (D.NL L s) S' μ' (D.hL L s) w ∧ D.TRL S' μ' L tm

theorem getD_put {L : Array Bool} {i : Nat} (hi : i < L.size) (j : Nat) : (L.setIfInBounds i true).getD j false = if j = i then true else L.getD j false := by
  by_cases h : j = i
  · subst h
    simp [Array.getD_eq_getD_getElem?, hi]
  · rw [getD_set_ne false (Ne.symm h), if_neg h]
section
variable {S S' : Nat → Prop} {μ μ' : Nat → Loc} {L : Array Bool} {tm : Array Value} {w w0 : World} {s i : Nat} {o : Oper}
theorem DF.hL_of (b : Nat) (h : D.act L s b) : D.hL L s b = D.fl b := by unfold DF.hL; rw [if_pos h]
theorem DF.hL_not (b : Nat) (h : ¬ D.act L s b) : D.hL L s b = (D.g s).at b := by unfold DF.hL; rw [if_neg h]
theorem DF.g_none {b : Nat} (h : D.act L s b) {s' : Nat} (hs : s' < D.st (b - n0)) (hK : s' ≤ D.K) : (D.g s').at b = none := by
  obtain ⟨h1, h2, ⟨H, v, hk⟩, _, _⟩ := h
  have := (D.hst (b - n0) H v (by omega) hk).2.2.2 s' hs hK
  rwa [show n0 + (b - n0) = b by omega] at this
theorem DF.g_sub (hs : s ≤ D.K) : ∀ b o, (D.g s).at b = some o → D.hL L s b = some o := fun b o h => by
  by_cases ha : D.act L s b
  · rw [D.g_none ha ha.2.2.2.2 hs] at h; cases h
  · rw [D.hL_not b ha]; exact h
/-- The listing behind a light operation. -/
theorem DF.hL_light (hi : i < ops.size) (hL : L.size = ops.size) (hk : ∀ H v, D.kd i ≠ .al H v) (s : Nat) : D.hL (L.setIfInBounds i true) s = D.hL L s := by
  funext b
  have : D.act (L.setIfInBounds i true) s b ↔ D.act L s b := by
    unfold DF.act
    constructor
    · rintro ⟨h1, h2, ⟨H, v, h3⟩, h4, h5⟩
      rw [getD_put (by omega)] at h4
      rw [if_neg (fun (e : b - n0 = i) => hk H v (by rw [← e]; exact h3))] at h4
      exact ⟨h1, h2, ⟨H, v, h3⟩, h4, h5⟩
    · rintro ⟨h1, h2, h3, h4, h5⟩
      exact ⟨h1, h2, h3, getD_set_true h4, h5⟩
  by_cases h : D.act L s b
  · rw [D.hL_of b h, D.hL_of b (this.2 h)]
  · rw [D.hL_not b h, D.hL_not b (fun h' => h (this.1 h'))]
theorem DF.NL_light (hi : i < ops.size) (hL : L.size = ops.size) (hk : ∀ H v, D.kd i ≠ .al H v) (s b : Nat) : D.NL (L.setIfInBounds i true) s b ↔ D.NL L s b := by
  unfold DF.NL
  constructor
  · rintro (⟨h1, h2, ⟨H, v, h3⟩, h4⟩ | h)
    · rw [getD_put (by omega), if_neg (fun (e : b - n0 = i) => hk H v (by rw [← e]; exact h3))] at h4
      exact .inl ⟨h1, h2, ⟨H, v, h3⟩, h4⟩
    · exact .inr h
  · rintro (⟨h1, h2, h3, h4⟩ | h)
    · exact .inl ⟨h1, h2, h3, getD_set_true h4⟩
    · exact .inr h
theorem DF.fresh (hfr : ∀ b, n0 ≤ b → b < lim → ¬ S b) {h : Nat → Option O} (hg : GoN S μ H0.at w0 (D.NL L s) S' μ' h w) {b : Nat} (h1 : n0 ≤ b) (h2 : b < lim) (h3 : b < n0 + ops.size → ∀ H v, D.kd (b - n0) = .al H v → L.getD (b - n0) false ≠ true) (h4 : D.nn 0 ≤ b → D.nn s ≤ b) : ¬ S' b := by
  rw [hg.new]
  rintro (h | ⟨_, k2, ⟨H, v, k3⟩, k4⟩ | ⟨k1, k2⟩)
  · exact hfr b h1 h2 h
  · exact h3 k2 H v k3 k4
  · have := h4 k1; omega

/-- One more operation, whatever it is. -/
theorem DF.step (hcf : CalleeOk P lim cf) (hfr : ∀ b, n0 ≤ b → b < lim → ¬ S b) {fn' : FuncId} {df' : List Deferred} {kd' : CallKind} {rnd' : Option Nat} {k : List Item} (cs : List Frame) (hI : D.Inv S μ w0 L tm w) (hr : i ∈ Region.ready .any ops L) (rest : List Nat) :
    ∃ tm' w', Steps P (lone ⟨fn', tm, .inRegion ops (i :: rest) :: k, df', .run, kd', rnd'⟩ cs w) (lone ⟨fn', tm', .inRegion ops rest :: k, df', .run, kd', rnd'⟩ cs w') ∧ D.Inv S μ w0 (L.setIfInBounds i true) tm' w' := by
  obtain ⟨s, S', μ', hs, hstage, hsz, hdown, hrh, hgo, htr⟩ := hI
  obtain ⟨hun, o, ho, hall⟩ := mem_ready.1 hr
  have hi : i < ops.size := (Array.getElem?_eq_some_iff.1 ho).1
  have hni : L.getD i false = false := by
    simp only [Array.getD_eq_getD_getElem?, hsz ▸ hi, Array.getElem?_eq_getElem, Option.getD_some] at hun ⊢
    exact hun
  have hpre : ∀ j, preB ops D.pf i j = true → L.getD j false = true := fun j hj => preB_listed hdown D.pf i j (fun o' ho' => by rw [ho] at ho'; injection ho' with ho'; subst ho'; exact hall) hj
  have hdown' := down_put hdown hr
  have hsz' : (L.setIfInBounds i true).size = ops.size := by simp [hsz]
  have hρ := D.ρ htr ho hpre hdown hni hrh.glob (fr := ⟨fn', tm, .inRegion ops (i :: rest) :: k, df', .run, kd', rnd'⟩) rfl
  have hnn : ∀ j, j ≤ D.K → n0 + ops.size ≤ D.nn j := fun j hj => by have := D.nn_mono 0 j (Nat.zero_le _) hj; rw [D.hn0] at this; exact this
  have hnK : ∀ j, j ≤ D.K → D.nn j < lim := fun j hj => Nat.lt_of_le_of_lt (D.nn_mono j D.K hj (Nat.le_refl _)) D.hnl
  -- listed behind it: what stands behind a listed one is listed
  have hback : ∀ j, L.getD j false = true → preB ops D.pf j i = true → False := fun j hj hp => by
    have := preB_listed hdown D.pf j i (fun o' ho' e he hb => hdown j o' ho' hj e he hb) hp
    rw [hni] at this; cases this
  have hnodef : ∀ {y : Next}, (∀ d, y ≠ .defer d) → ∀ {w2}, (execOp (Frame.eval ⟨fn', tm, .inRegion ops (i :: rest) :: k, df', .run, kd', rnd'⟩) o).run P w = .ok y w2 → ∀ c, o.op ≠ .defer c := by
    intro y hy w2 hrun c hop
    simp only [execOp, hop, Sem.run_bind] at hrun
    cases hres : (resolve (Frame.eval ⟨fn', tm, .inRegion ops (i :: rest) :: k, df', .run, kd', rnd'⟩) c o.type).run P w with
    | halt a b => rw [hres] at hrun; simp at hrun
    | ok d w3 => rw [hres] at hrun; simp at hrun; exact hy d hrun.1.symm
  rcases D.hw i o ho with hwant | ⟨hwant, hkd⟩
  case inr =>
    -- not wanted
    have hw := D.want htr ho hpre hdown hni hwant
    have hk : ∀ H v, D.kd i ≠ .al H v := fun H v e => by rw [hkd] at e; cases e
    refine ⟨putR tm o.dst undef, w, .one (step_lone_go ?_), s, S', μ', hs, fun j h1 h2 => ?_, hsz', hdown', by rw [D.hL_light hi hsz hk]; exact hrh, ?_, D.put htr (fun _ h => h) (fun _ _ => rfl) ho hsz (by rw [hkd]; exact .t [] [] .nil)⟩
    · rw [← finish_region (md' := .run) ho undef]
      simp [stepG, stepG.exec, ho, hw]
    · have hne : D.x j ≠ i := fun e => by obtain ⟨_, v, hv⟩ := D.hx j h1 h2; rw [e, hkd] at hv; cases hv
      rw [getD_put (by omega), if_neg hne]
      exact hstage j h1 h2
    · rw [D.hL_light hi hsz hk]
      have hN : D.NL (L.setIfInBounds i true) s = D.NL L s := by funext b; exact propext (D.NL_light hi hsz hk s b)
      rw [hN]
      exact hgo
  have hw := D.want htr ho hpre hdown hni hwant
  have hopstep := fun (hd : rnd' = none ∨ ∀ c, o.op ≠ .defer c) => op_step (P := P) (k := k) (df' := df') (kd' := kd') (rnd' := rnd') (fn' := fn') (r := rest) ho hw hd cs w
  -- a value put
  have hval : ∀ {y : Value} {w' : World}, ((execOp (Frame.eval ⟨fn', tm, .inRegion ops (i :: rest) :: k, df', .run, kd', rnd'⟩) o).run P w = .ok (.value y) w' ∨ ((execOp (Frame.eval ⟨fn', tm, .inRegion ops (i :: rest) :: k, df', .run, kd', rnd'⟩) o).run P w = .ok .skip w' ∧ y = undef)) →
      Steps P (lone ⟨fn', tm, .inRegion ops (i :: rest) :: k, df', .run, kd', rnd'⟩ cs w) (lone ⟨fn', putR tm o.dst y, .inRegion ops rest :: k, df', .run, kd', rnd'⟩ cs w') := by
    intro y w' h
    rcases h with h | ⟨h, rfl⟩
    · rw [← finish_region (md' := .run) ho y]
      exact steps1 ((hopstep (.inr (hnodef (by simp) h))).trans (apply_value h))
    · rw [← finish_region (md' := .run) ho undef]
      exact steps1 ((hopstep (.inr (hnodef (by simp) h))).trans (apply_skip h))
  cases hkd : D.kd i with
  | lt v =>
    have hk : ∀ H v, D.kd i ≠ .al H v := fun H v e => by rw [hkd] at e; cases e
    have hev := D.hlt i o v s ho hwant hkd hs (fun j h1 h2 hp => (hstage j h1 h2).1 (hpre _ hp)) (fun j h1 h2 hp => by
      rcases Nat.lt_or_ge s j with h | h
      · exact h
      · exact (hback _ ((hstage j h1 h2).2 h) hp).elim)
    have hop := evalOp_ok (G := 1024) (w := w) hev hρ (hrh.sub (D.g_sub hs)) (D.fresh hfr hgo (by have := hnn D.K (Nat.le_refl _); have := D.hnl; omega) (by have := D.hnl; omega) (fun h => by have := hnn D.K (Nat.le_refl _); have := D.hnl; omega) (fun _ => by have := D.nn_mono s D.K hs (Nat.le_refl _); have := D.hnl; omega))
    obtain ⟨y, h1, h2⟩ := hop
    refine ⟨putR tm o.dst y, w, hval (.inl h1), s, S', μ', hs, fun j h1 h2 => ?_, hsz', hdown', by rw [D.hL_light hi hsz hk]; exact hrh, ?_, D.put htr (fun _ h => h) (fun _ _ => rfl) ho hsz (by rw [hkd]; exact h2)⟩
    · have hne : D.x j ≠ i := fun e => by obtain ⟨_, v, hv⟩ := D.hx j h1 h2; rw [e, hkd] at hv; cases hv
      rw [getD_put (by omega), if_neg hne]
      exact hstage j h1 h2
    · rw [D.hL_light hi hsz hk]
      have hN : D.NL (L.setIfInBounds i true) s = D.NL L s := by funext b; exact propext (D.NL_light hi hsz hk s b)
      rw [hN]
      exact hgo
  | al H v =>
    have hev := D.hal i o H v ho hkd
    have hst := D.hst i H v hi hkd
    have hsi : s < D.st i := by
      rcases Nat.lt_or_ge s (D.st i) with h | h
      · exact h
      · exact (hback _ ((hstage (D.st i) hst.1 (by omega)).2 h) (hst.2.1 (by omega))).elim
    have hnew : ¬ S' (n0 + i) := D.fresh hfr hgo (by omega) (by have := hnK D.K (Nat.le_refl _); have := hnn D.K (Nat.le_refl _); omega)
      (fun _ H v _ => by rw [show n0 + i - n0 = i by omega, hni]; simp) (fun h => by rw [D.hn0] at h; omega)
    have hop := evalOp_ok (G := 1024) (w := w) hev hρ (hrh.sub (fun b o h => by rw [T.at_nil] at h; cases h)) hnew
    obtain ⟨y, w', S2, μ2, h1, h2, h3, h4⟩ := hop
    obtain ⟨q1, q2⟩ := RH.frame (h₀ := (T.nil : T O).at) (h := D.hL L s) (fun b o h => by rw [T.at_nil] at h; cases h) hrh (fun b hb => by
      rcases Nat.lt_or_ge b (n0 + i) with h | h
      · exact .inl h
      · rcases Nat.lt_or_ge b (n0 + i + 1) with h' | h'
        · exact absurd (show S' (n0 + i) by rwa [show n0 + i = b by omega]) hnew
        · exact .inr h') h4 h3
    have hnone : ∀ b, b ≠ n0 + i → H.at b = none := fun b hb => by
      cases hq : H.at b with
      | none => rfl
      | some x =>
        rcases h4.dom b x hq with ⟨_, x', hx'⟩ | h
        · rw [T.at_nil] at hx'; cases hx'
        · omega
    have hover : over (T.nil : T O).at (D.hL L s) H.at = D.hL (L.setIfInBounds i true) s := by
      funext b
      unfold over
      by_cases hb : b = n0 + i
      · subst hb
        have hact : D.act (L.setIfInBounds i true) s (n0 + i) := ⟨by omega, by omega, ⟨H, v, by rw [show n0 + i - n0 = i by omega]; exact hkd⟩, by rw [show n0 + i - n0 = i by omega, getD_put (by omega), if_pos rfl], by rw [show n0 + i - n0 = i by omega]; exact hsi⟩
        have hnact : ¬ D.act L s (n0 + i) := fun h => by have := h.2.2.2.1; rw [show n0 + i - n0 = i by omega, hni] at this; cases this
        have hgn := D.g_none hact (s' := s) hact.2.2.2.2 hs
        rw [D.hL_of _ hact, D.hL_not _ hnact, hgn]
        simp only [T.at_nil, Option.isNone_none, Option.isSome_none, Bool.and_false, Bool.false_eq_true, if_false]
        unfold DF.fl
        rw [show n0 + i - n0 = i by omega, hkd]
      · have hsame : D.hL (L.setIfInBounds i true) s b = D.hL L s b := by
          have : D.act (L.setIfInBounds i true) s b ↔ D.act L s b := by
            unfold DF.act
            constructor
            · rintro ⟨a1, a2, a3, a4, a5⟩
              rw [getD_put (by omega), if_neg (by omega)] at a4
              exact ⟨a1, a2, a3, a4, a5⟩
            · rintro ⟨a1, a2, a3, a4, a5⟩
              exact ⟨a1, a2, a3, getD_set_true a4, a5⟩
          by_cases h : D.act L s b
          · rw [D.hL_of b h, D.hL_of b (this.2 h)]
          · rw [D.hL_not b h, D.hL_not b (fun h' => h (this.1 h'))]
        rw [hsame, T.at_nil, hnone b hb]
        cases D.hL L s b <;> rfl
    rw [hover] at q1 q2
    refine ⟨putR tm o.dst y, w', hval h1, s, S2, μ2, hs, fun j h1 h2 => ?_, hsz', hdown', q1, ?_, D.put htr (fun _ => q2.up) q2.same ho hsz (by rw [hkd]; exact h2)⟩
    · have hne : D.x j ≠ i := fun e => by obtain ⟨_, v, hv⟩ := D.hx j h1 h2; rw [e, hkd] at hv; cases hv
      rw [getD_put (by omega), if_neg hne]
      exact hstage j h1 h2
    · refine hgo.trans q2.toN fun b => ?_
      unfold DF.NL
      constructor
      · rintro (⟨a1, a2, a3, a4⟩ | h)
        · by_cases hb : b = n0 + i
          · exact .inr ⟨by omega, by omega⟩
          · rw [getD_put (by omega), if_neg (by omega)] at a4
            exact .inl (.inl ⟨a1, a2, a3, a4⟩)
        · exact .inl (.inr h)
      · rintro ((⟨a1, a2, a3, a4⟩ | h) | h)
        · exact .inl ⟨a1, a2, a3, getD_set_true a4⟩
        · exact .inr h
        · have hb : b = n0 + i := by omega
          subst hb
          exact .inl ⟨by omega, by omega, ⟨H, v, by rw [show n0 + i - n0 = i by omega]; exact hkd⟩, by rw [show n0 + i - n0 = i by omega, getD_put (by omega), if_pos rfl]⟩
  | hv v =>
    obtain ⟨kk, k1, k2, hxk⟩ := D.hxi i v hi hkd
    have hks : kk = s + 1 := by
      have h1 : s < kk := by
        rcases Nat.lt_or_ge s kk with h | h
        · exact h
        · have := (hstage kk k1 k2).2 h; rw [hxk, hni] at this; cases this
      rcases Nat.lt_or_ge (s + 1) kk with h | h
      · have hp := D.hord (s + 1) kk (by omega) h k2
        rw [hxk] at hp
        have := (hstage (s + 1) (by omega) (by omega)).1 (hpre _ hp)
        omega
      · omega
    subst hks
    have hsub : ∀ b o, (D.kt (s + 1)).at b = some o → D.hL L s b = some o := by
      intro b o' hb
      rw [D.hkt (s + 1) b k1 k2] at hb
      simp only [Nat.add_sub_cancel] at hb
      split at hb
      · rename_i hrange
        split at hb
        · rename_i Ha va hka
          split at hb
          · rename_i hst
            have hlist : L.getD (b - n0) false = true := hpre _ (by have := (D.hst (b - n0) Ha va (by omega) hka).2.1 (by omega); rw [hst, hxk] at this; exact this)
            have hact : D.act L s b := ⟨hrange.1, hrange.2, ⟨Ha, va, hka⟩, hlist, by omega⟩
            rw [D.hL_of b hact]
            unfold DF.fl
            rw [hka]
            exact hb
          · exact D.g_sub hs b o' hb
        · exact D.g_sub hs b o' hb
      · exact D.g_sub hs b o' hb
    have hnewn : ∀ b, D.nn s ≤ b → b < lim → ¬ S' b := fun b hb hl => D.fresh hfr hgo (by have := hnn s hs; omega) hl (fun h => by have := hnn s hs; omega) (fun _ => hb)
    -- behind the operation
    have fin : ∀ {y : Value} {w' : World} {S2 : Nat → Prop} {μ2 : Nat → Loc}, VR S2 μ2 v y → RH 1024 S2 μ2 (D.g (s + 1)).at w' → Go S' μ' (D.kt (s + 1)).at w (D.nn s) S2 μ2 (D.g (s + 1)).at w' (D.nn (s + 1)) →
        Steps P (lone ⟨fn', tm, .inRegion ops (i :: rest) :: k, df', .run, kd', rnd'⟩ cs w) (lone ⟨fn', putR tm o.dst y, .inRegion ops rest :: k, df', .run, kd', rnd'⟩ cs w') →
        ∃ tm' w', Steps P (lone ⟨fn', tm, .inRegion ops (i :: rest) :: k, df', .run, kd', rnd'⟩ cs w) (lone ⟨fn', tm', .inRegion ops rest :: k, df', .run, kd', rnd'⟩ cs w') ∧ D.Inv S μ w0 (L.setIfInBounds i true) tm' w' := by
      intro y w' S2 μ2 hy h3 h4 hsteps
      obtain ⟨q1, q2⟩ := RH.frame hsub hrh (fun b hb => by
        rcases Nat.lt_or_ge b (D.nn s) with h | h
        · exact .inl h
        · rcases Nat.lt_or_ge b lim with h' | h'
          · exact absurd hb (hnewn b h h')
          · exact .inr (by have := hnK (s + 1) k2; omega)) h4 h3
      have hkal : ∀ H v, D.kd i ≠ .al H v := fun H v e => by rw [hkd] at e; cases e
      have hover : over (D.kt (s + 1)).at (D.hL L s) (D.g (s + 1)).at = D.hL (L.setIfInBounds i true) (s + 1) := by
        rw [D.hL_light hi hsz hkal]
        funext b
        unfold over
        by_cases hact1 : D.act L (s + 1) b
        · have hact : D.act L s b := ⟨hact1.1, hact1.2.1, hact1.2.2.1, hact1.2.2.2.1, by have := hact1.2.2.2.2; omega⟩
          rw [D.hL_of b hact1, D.hL_of b hact]
          have hst := hact1.2.2.2.2
          have hkt : (D.kt (s + 1)).at b = none := by
            rw [D.hkt (s + 1) b k1 k2, if_pos ⟨hact1.1, hact1.2.1⟩]
            simp only [Nat.add_sub_cancel]
            split
            · rw [if_neg (by omega)]; exact D.g_none hact hact.2.2.2.2 hs
            · exact D.g_none hact hact.2.2.2.2 hs
          have hg1 := D.g_none hact1 (s' := s + 1) hst k2
          rw [hkt, hg1]
          cases D.fl b <;> rfl
        · rw [D.hL_not b hact1]
          by_cases hact : D.act L s b
          · have hst : D.st (b - n0) = s + 1 := by
              have h5 := hact.2.2.2.2
              have : ¬ (s + 1 < D.st (b - n0)) := fun h => hact1 ⟨hact.1, hact.2.1, hact.2.2.1, hact.2.2.2.1, h⟩
              omega
            obtain ⟨Ha, va, hka⟩ := hact.2.2.1
            have hkt : (D.kt (s + 1)).at b = D.fl b := by
              rw [D.hkt (s + 1) b k1 k2, if_pos ⟨hact.1, hact.2.1⟩]
              unfold DF.fl
              rw [hka]
              simp only
              rw [if_pos hst]
            rw [D.hL_of b hact, hkt]
            cases D.fl b <;> rfl
          · have hkt : (D.kt (s + 1)).at b = (D.g s).at b := by
              rw [D.hkt (s + 1) b k1 k2]
              simp only [Nat.add_sub_cancel]
              split
              · rename_i hrange
                split
                · rename_i Ha va hka
                  rw [if_neg]
                  intro hst
                  have hlist : L.getD (b - n0) false = true := hpre _ (by have := (D.hst (b - n0) Ha va (by omega) hka).2.1 (by omega); rw [hst, hxk] at this; exact this)
                  exact hact ⟨hrange.1, hrange.2, ⟨Ha, va, hka⟩, hlist, by omega⟩
                · rfl
              · rfl
            rw [D.hL_not b hact, hkt]
            cases (D.g s).at b <;> rfl
      rw [hover] at q1 q2
      refine ⟨putR tm o.dst y, w', hsteps, s + 1, S2, μ2, k2, fun j h1 h2 => ?_, hsz', hdown', q1, ?_, D.put htr (fun _ => q2.up) q2.same ho hsz (by rw [hkd]; exact hy)⟩
      · rw [getD_put (by omega)]
        by_cases hj : D.x j = i
        · rw [if_pos hj]
          have hjk : j = s + 1 := by
            rcases Nat.lt_trichotomy j (s + 1) with h | h | h
            · have := D.hord j (s + 1) h1 h k2; rw [hxk, hj] at this; have := preB_lt D.hed _ _ _ this; omega
            · exact h
            · have := D.hord (s + 1) j (by omega) h h2; rw [hxk, hj] at this; have := preB_lt D.hed _ _ _ this; omega
          subst hjk
          simp
        · rw [if_neg hj, hstage j h1 h2]
          constructor
          · intro h; omega
          · intro h
            rcases Nat.lt_or_ge s j with h' | h'
            · have : j = s + 1 := by omega
              subst this
              exact absurd hxk hj
            · exact h'
      · refine hgo.trans q2.toN fun b => ?_
        have hm1 := D.nn_mono 0 s (Nat.zero_le _) hs
        have hm2 := D.nn_mono s (s + 1) (by omega) k2
        have hN := D.NL_light hi hsz hkal (s + 1) b
        rw [hN]
        unfold DF.NL
        constructor
        · rintro (h | h)
          · exact .inl (.inl h)
          · by_cases hb : b < D.nn s
            · exact .inl (.inr ⟨h.1, hb⟩)
            · exact .inr ⟨by omega, h.2⟩
        · rintro ((h | h) | h)
          · exact .inl h
          · exact .inr ⟨h.1, by omega⟩
          · exact .inr ⟨by omega, h.2⟩
    have hnn' : s + 1 - 1 = s := by omega
    rcases D.hhv (s + 1) o v k1 k2 (by rw [hxk]; exact ho) (by rw [hxk]; exact hkd) with hev | ⟨f, args, hev, hcall⟩
    · rw [hnn', hxk] at hev
      have hop := evalOp_ok (G := 1024) (w := w) hev hρ (hrh.sub hsub) (hnewn _ (Nat.le_refl _) (hnK s hs))
      obtain ⟨y, w', S2, μ2, h1, h2, h3, h4⟩ := hop
      exact fin h2 h3 h4 (hval h1)
    · rw [hnn', hxk] at hev
      rw [hnn'] at hcall
      have hop := evalOp_ok (G := 1024) (w := w) hev hρ (hrh.sub hsub) (hnewn _ (Nat.le_refl _) (hnK s hs))
      obtain ⟨xs, h1, h2, _⟩ := hop
      obtain ⟨e, w', fr2, ⟨y, rfl, S2, μ2, g1, g2, g3⟩, hcomes, hfn2, hleave⟩ := hcf f args _ _ _ _ _ hcall S' μ' w xs.toList h2 (hrh.sub hsub) hnewn (⟨fn', tm, .inRegion ops (i :: rest) :: k, df', .run, kd', rnd'⟩ :: cs)
      refine fin g1 g2 g3 ?_
      have henter := (hopstep (.inr (hnodef (by simp) h1))).trans (apply_enter h1 (by intro d r a k h; cases h))
      have hret := Steps.one (step_leave_returned (c := ⟨fn', tm, .inRegion ops (i :: rest) :: k, df', .run, kd', rnd'⟩) (cs := cs) hleave)
      rw [finish_region (md' := .run) ho y] at hret
      exact ((steps1 henter).trans hcomes).trans hret
end

theorem DF.region (hm : P.follows .mixedOrders = true) (hcf : CalleeOk P lim cf) {Hf : T O} (hHf : ∀ b, Hf.at b = if n0 ≤ b ∧ b < n0 + ops.size then (match D.kd (b - n0) with | .al H _ => if D.K < D.st (b - n0) then H.at b else (D.g D.K).at b | _ => (D.g D.K).at b) else (D.g D.K).at b)
    {S : Nat → Prop} {μ : Nat → Loc} {w : World} {fr : Frame} {k : List Item} {id : Nat} (hmode : fr.mode = .run) (htodo : fr.todo = .code (.region id ops true) :: k) (ht : TR S μ nt F0 fr.tmps) (hr : RH 1024 S μ H0.at w) (hfr : ∀ b, n0 ≤ b → b < lim → ¬ S b) (cs : List Frame) :
    ∃ tm' w' S' μ', Steps P (lone fr cs w) (lone { fr with tmps := tm', todo := k } cs w') ∧ TR S' μ' nt (D.Fi ops.size) tm' ∧ RH 1024 S' μ' Hf.at w' ∧ Go S μ H0.at w n0 S' μ' Hf.at w' (D.nn D.K) := by
  obtain ⟨fn', tm0, todo', df', md', kd', rnd'⟩ := fr
  simp only at hmode htodo ht
  subst hmode htodo
  have hfalse : ∀ j, (Array.replicate ops.size false).getD j false = false := fun j => by
    simp only [Array.getD_eq_getD_getElem?, Array.getElem?_replicate]
    split <;> rfl
  have hnact : ∀ s b, ¬ D.act (Array.replicate ops.size false) s b := fun s b h => by have := h.2.2.2.1; rw [hfalse] at this; cases this
  have hh0 : D.hL (Array.replicate ops.size false) 0 = H0.at := by
    funext b
    rw [D.hL_not b (hnact 0 b), D.hg0]
  have hI0 : D.Inv S μ w (Array.replicate ops.size false) tm0 { w with drawn := w.drawn + 1 } := by
    refine ⟨0, S, μ, Nat.zero_le _, fun k h1 h2 => ?_, by simp, fun i o ho hl => ?_, by rw [hh0]; exact hr.drew, ?_, ht.1, fun t v hv => ?_⟩
    · rw [hfalse]
      constructor
      · intro h; cases h
      · intro h; omega
    · rw [hfalse] at hl; cases hl
    · rw [hh0]
      have := (Go.drew (n := n0) hr).toN
      refine ⟨fun b => ?_, this.same, this.os, this.tape, this.output, this.size, this.still, fun b o ho => .inl ⟨(hr.ok b o ho).1, o, ho⟩, this.own⟩
      unfold DF.NL
      constructor
      · exact .inl
      · rintro (h | ⟨_, _, _, h⟩ | h)
        · exact h
        · rw [hfalse] at h; cases h
        · omega
    · rcases hv with ⟨j, oj, _, _, h, _⟩ | ⟨_, h⟩
      · rw [hfalse] at h; cases h
      · exact ht.2 t v h
  have h1 : Steps P (lone ⟨fn', tm0, .code (.region id ops true) :: k, df', .run, kd', rnd'⟩ cs w) (lone ⟨fn', tm0, .inRegion ops (Region.linearise.go .any ops ops.size (w.tape w.drawn (.order fn' id)) (Array.replicate ops.size false) []) :: k, df', .run, kd', rnd'⟩ cs { w with drawn := w.drawn + 1 }) := by
    refine steps1 ?_
    have hsch : ∀ t, Region.schedule (P.follows .mixedOrders) ops t = Region.linearise.go .any ops ops.size t (Array.replicate ops.size false) [] := fun t => by
      simp only [Region.schedule, hm, Bool.true_or, if_true, Region.linearise]
    simp [stepG, stepG.exec, choose, Sem.run, Question.forced, Question.cut, hsch]
  obtain ⟨L, tm, w', h2, hI, hsz, hall⟩ := sched_run (P := P) (fn' := fn') (df' := df') (kd' := kd') (rnd' := rnd') (k := k) cs (D.Inv S μ w) (fun listed tm w i hI hr rest => D.step hcf hfr cs hI hr rest) ops.size (w.tape w.drawn (.order fn' id)) _ _ _ hI0
  obtain ⟨s, S', μ', hs, hstage, hLsz, hdown, hrh, hgo, htr⟩ := hI
  have hlist := all_listed D.hed hLsz (hall.imp (fun h => h) (fun h => by omega))
  have hsK : s = D.K := by
    rcases Nat.eq_zero_or_pos D.K with h | h
    · omega
    · have := (hstage D.K h (Nat.le_refl _)).1 (hlist _ (D.hx D.K h (Nat.le_refl _)).1)
      omega
  subst hsK
  have hHL : D.hL L D.K = Hf.at := by
    funext b
    rw [hHf b]
    by_cases hact : D.act L D.K b
    · rw [D.hL_of b hact, if_pos ⟨hact.1, hact.2.1⟩]
      obtain ⟨Ha, va, hka⟩ := hact.2.2.1
      unfold DF.fl
      rw [hka]
      simp only
      rw [if_pos hact.2.2.2.2]
    · rw [D.hL_not b hact]
      split
      · rename_i hrange
        split
        · rename_i Ha va hka
          rw [if_neg]
          intro h
          exact hact ⟨hrange.1, hrange.2, ⟨Ha, va, hka⟩, hlist _ (by omega), h⟩
        · rfl
      · rfl
  rw [hHL] at hrh hgo
  have hm0 := D.nn_mono 0 D.K (Nat.zero_le _) (Nat.le_refl _)
  have hn0 := D.hn0
  obtain ⟨q1, q2, q3⟩ := hgo.pad (n := n0) (n' := D.nn D.K) hrh (by omega) (fun b hb => by
    rcases hb with ⟨a1, a2, _, _⟩ | ⟨a1, a2⟩
    · omega
    · omega)
  refine ⟨tm, w', _, μ', (h1.trans h2).trans (steps1 (by simp [stepG, stepG.exec])), ⟨htr.1, fun t v hv => ?_⟩, q1, q2⟩
  obtain ⟨f1, f2⟩ := D.Fi_at ops.size (Nat.le_refl _) t
  have hFL : D.FL L t v := by
    by_cases hw : ∃ (j : Nat) (oj : Oper), ops[j]? = some oj ∧ oj.dst = some t
    · obtain ⟨j, oj, hoj, hdj⟩ := hw
      have hj := (Array.getElem?_eq_some_iff.1 hoj).1
      rw [f1 j oj hj hoj hdj] at hv
      injection hv with hv
      exact .inl ⟨j, oj, hoj, hdj, hlist j hj, hv.symm⟩
    · refine .inr ⟨fun j oj hoj hdj => absurd ⟨j, oj, hoj, hdj⟩ hw, ?_⟩
      rw [← f2 fun j oj hj hoj hdj => hw ⟨j, oj, hoj, hdj⟩]
      exact hv
  obtain ⟨a, x, hx, hxr⟩ := htr.2 t v hFL
  exact ⟨a, x, hx, hxr.mono q3 (fun _ _ => rfl)⟩
end
end Ev
end Go.Proofs.YtmlhijlcefogmaaGreatDoor
