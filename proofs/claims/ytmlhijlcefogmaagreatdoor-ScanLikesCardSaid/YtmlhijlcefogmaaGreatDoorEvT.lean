/-
  Evaluation of closed runs, part T: regions that draw their order, by their depth. No conditions; no program.
-/
import Derived.Test.YtmlhijlcefogmaaGreatDoorMerged24
set_option linter.unusedVariables false
set_option linter.unusedSimpArgs false
namespace Go.Proofs.YtmlhijlcefogmaaGreatDoor
namespace Ev

section
variable {P : Program} {cf : Callee'} {lim : Nat} {pr : Nat → Nat → Bool} {ops : Array Oper} {nt n0 : Nat} {F0 : T V} {H0 : T O} {es : List (RR × DSt)} {f : DSt}
/-- The facts of a run. -/
structure RF (P : Program) (cf : Callee') (lim : Nat) (pr : Nat → Nat → Bool) (ops : Array Oper) (nt n0 : Nat) (F0 : T V) (H0 : T O) (es : List (RR × DSt)) (f : DSt) : Prop where
  len : es.length = ops.size
  zero : stAt es f 0 = ⟨F0, H0, n0 + ops.size, [], []⟩
  fin : stAt es f ops.size = f
  step : ∀ i o, ops[i]? = some o → stepD P cf lim pr ops nt n0 i o (stAt es f i) = some (kdAt es i, stAt es f (i + 1))
  pre : ∀ i j, pr i j = preB ops ops.size i j
  hed : ∀ i o, ops[i]? = some o → ∀ e ∈ o.after, Region.binds .any e = true → e.on < i
variable (R : RF P cf lim pr ops nt n0 F0 H0 es f)
include R
theorem RF.xs_step {i : Nat} (hi : i < ops.size) : (stAt es f (i + 1)).xs = (stAt es f i).xs ∧ (∀ v, kdAt es i ≠ .hv v) ∧ (stAt es f (i + 1)).g = (stAt es f i).g ∧ (stAt es f (i + 1)).nn = (stAt es f i).nn ∨ (stAt es f (i + 1)).xs = (stAt es f i).xs ++ [i] ∧ (∃ v, kdAt es i = .hv v) ∧ (stAt es f i).nn ≤ (stAt es f (i + 1)).nn := by
  obtain ⟨_, h⟩ := stepD_inv (R.step i _ (Array.getElem?_eq_getElem hi))
  rcases h with ⟨_, h1, h2, h3, h4, _⟩ | ⟨_, ⟨v, h1, h2, h3, h4, _⟩ | ⟨H, v, h1, h2, h3, h4, _⟩ | ⟨v, h1, h2, _, h3, _⟩⟩
  · exact .inl ⟨h4, fun v e => (by rw [h1] at e; cases e), h2, h3⟩
  · exact .inl ⟨h4, fun v e => (by rw [h1] at e; cases e), h2, h3⟩
  · exact .inl ⟨h4, fun v e => (by rw [h1] at e; cases e), h2, h3⟩
  · exact .inr ⟨h2, ⟨v, h1⟩, h3⟩
theorem RF.prefix_le : ∀ i j, i ≤ j → j ≤ ops.size → (stAt es f i).xs <+: (stAt es f j).xs := by
  intro i j hij
  induction hij with
  | refl => intro _; exact List.prefix_refl _
  | @step j h ih =>
    intro hj
    refine (ih (by omega)).trans ?_
    rcases R.xs_step (i := j) (by omega) with ⟨h1, _⟩ | ⟨h1, _⟩
    · rw [h1]; exact List.prefix_refl _
    · rw [h1]; exact List.prefix_append _ _
theorem RF.pfx {i : Nat} (hi : i ≤ ops.size) : (stAt es f i).xs <+: f.xs := by
  have := R.prefix_le i ops.size hi (Nat.le_refl _)
  rwa [R.fin] at this
theorem RF.mem : ∀ i, i ≤ ops.size → ∀ x, x ∈ (stAt es f i).xs ↔ x < i ∧ ∃ v, kdAt es x = .hv v := by
  intro i
  induction i with
  | zero => intro _ x; rw [R.zero]; simp
  | succ i ih =>
    intro hi x
    rcases R.xs_step (i := i) (by omega) with ⟨h1, h2, _⟩ | ⟨h1, h2, _⟩
    · rw [h1, ih (by omega)]
      constructor
      · rintro ⟨a, b⟩; exact ⟨by omega, b⟩
      · rintro ⟨a, v, b⟩
        refine ⟨?_, v, b⟩
        rcases Nat.lt_or_ge x i with h | h
        · exact h
        · have : x = i := by omega
          subst this
          exact absurd b (h2 v)
    · rw [h1, List.mem_append, ih (by omega)]
      simp only [List.mem_singleton]
      constructor
      · rintro (⟨a, b⟩ | rfl)
        · exact ⟨by omega, b⟩
        · exact ⟨by omega, h2⟩
      · rintro ⟨a, b⟩
        rcases Nat.lt_or_ge x i with h | h
        · exact .inl ⟨h, b⟩
        · exact .inr (by omega)
theorem RF.nodup : ∀ i, i ≤ ops.size → (stAt es f i).xs.Nodup := by
  intro i
  induction i with
  | zero => intro _; rw [R.zero]; exact List.nodup_nil
  | succ i ih =>
    intro hi
    rcases R.xs_step (i := i) (by omega) with ⟨h1, _⟩ | ⟨h1, _⟩
    · rw [h1]; exact ih (by omega)
    · rw [h1, List.nodup_append]
      refine ⟨ih (by omega), by simp, fun a ha b hb e => ?_⟩
      simp only [List.mem_singleton] at hb
      have := ((R.mem i (by omega) a).1 ha).1
      omega
theorem RF.pos {i : Nat} (hi : i < ops.size) {v : V} (hv : kdAt es i = .hv v) : (stAt es f i).xs.length < f.xs.length ∧ xAt f.xs ((stAt es f i).xs.length + 1) = i := by
  have h1 : (stAt es f (i + 1)).xs = (stAt es f i).xs ++ [i] := by
    rcases R.xs_step hi with ⟨_, h2, _⟩ | ⟨h1, _⟩
    · exact absurd hv (h2 v)
    · exact h1
  obtain ⟨t, ht⟩ := R.pfx (i := i + 1) (by omega)
  rw [h1] at ht
  refine ⟨by rw [← ht]; simp, ?_⟩
  unfold xAt
  rw [← ht]
  simp
theorem RF.x {k : Nat} (h1 : 1 ≤ k) (h2 : k ≤ f.xs.length) : xAt f.xs k < ops.size ∧ (∃ v, kdAt es (xAt f.xs k) = .hv v) ∧ (stAt es f (xAt f.xs k)).xs.length = k - 1 := by
  have hmem : xAt f.xs k ∈ f.xs := by
    unfold xAt
    rw [List.getD_eq_getElem?_getD, List.getElem?_eq_getElem (by omega)]
    exact List.getElem_mem _
  have := R.mem ops.size (Nat.le_refl _) (xAt f.xs k)
  rw [R.fin] at this
  obtain ⟨a, v, b⟩ := this.1 hmem
  refine ⟨a, ⟨v, b⟩, ?_⟩
  obtain ⟨c, d⟩ := R.pos a b
  have hnd := R.nodup ops.size (Nat.le_refl _)
  rw [R.fin] at hnd
  have hk : k - 1 < f.xs.length := by omega
  have e1 : f.xs[(stAt es f (xAt f.xs k)).xs.length] = f.xs[k - 1] := by
    have := d
    unfold xAt at this ⊢
    rw [Nat.add_sub_cancel, List.getD_eq_getElem?_getD, List.getElem?_eq_getElem (by unfold xAt at c; exact c)] at this
    simp only [Option.getD_some] at this
    rw [this, List.getD_eq_getElem?_getD, List.getElem?_eq_getElem hk]
    rfl
  unfold List.Nodup at hnd
  rw [List.pairwise_iff_getElem] at hnd
  rcases Nat.lt_trichotomy (stAt es f (xAt f.xs k)).xs.length (k - 1) with h | h | h
  · exact absurd e1 (hnd _ _ c hk h)
  · exact h
  · exact absurd e1.symm (hnd _ _ hk c h)
theorem RF.gs : ∀ i, i ≤ ops.size → (stAt es f i).g = gAt es f (stAt es f i).xs.length ∧ (stAt es f i).nn = nnAt es f (stAt es f i).xs.length := by
  intro i
  induction i with
  | zero => intro _; rw [R.zero]; simp only [List.length_nil, gAt, nnAt, R.zero]; exact ⟨trivial, trivial⟩
  | succ i ih =>
    intro hi
    rcases R.xs_step (i := i) (by omega) with ⟨h1, h2, h3, h4⟩ | ⟨h1, ⟨v, h2⟩, _⟩
    · rw [h1, h3, h4]; exact ih (by omega)
    · obtain ⟨a, b⟩ := R.pos (by omega) h2
      rw [h1]
      simp only [List.length_append, List.length_singleton, gAt, nnAt, b]
      exact ⟨trivial, trivial⟩
theorem RF.al : ∀ i, i ≤ ops.size → ∀ j H, (j, H) ∈ (stAt es f i).al ↔ j < i ∧ ∃ v, kdAt es j = .al H v := by
  intro i
  induction i with
  | zero => intro _ j H; rw [R.zero]; simp
  | succ i ih =>
    intro hi j H
    obtain ⟨_, h⟩ := stepD_inv (R.step i _ (Array.getElem?_eq_getElem (by omega)))
    have key : (∀ H v, kdAt es i ≠ .al H v) → (stAt es f (i + 1)).al = (stAt es f i).al → ((j, H) ∈ (stAt es f (i + 1)).al ↔ j < i + 1 ∧ ∃ v, kdAt es j = .al H v) := by
      intro h1 h2
      rw [h2, ih (by omega)]
      constructor
      · rintro ⟨a, b⟩; exact ⟨by omega, b⟩
      · rintro ⟨a, v, b⟩
        refine ⟨?_, v, b⟩
        rcases Nat.lt_or_ge j i with h | h
        · exact h
        · have : j = i := by omega
          subst this
          exact absurd b (h1 H v)
    rcases h with ⟨_, h1, _, _, _, h5⟩ | ⟨_, ⟨v, h1, _, _, _, h5, _⟩ | ⟨H', v, h1, _, _, _, h5, _⟩ | ⟨v, h1, _, h5, _⟩⟩
    · exact key (fun H v e => by rw [h1] at e; cases e) h5
    · exact key (fun H v e => by rw [h1] at e; cases e) h5
    · rw [h5, List.mem_cons, ih (by omega)]
      constructor
      · rintro (e | ⟨a, b⟩)
        · injection e with e1 e2
          subst e1 e2
          exact ⟨by omega, v, h1⟩
        · exact ⟨by omega, b⟩
      · rintro ⟨a, u, b⟩
        rcases Nat.lt_or_ge j i with h | h
        · exact .inr ⟨h, u, b⟩
        · have : j = i := by omega
          subst this
          rw [h1] at b
          injection b with b1 b2
          subst b1
          exact .inl rfl
    · exact key (fun H v e => by rw [h1] at e; cases e) h5
theorem RF.alf (i : Nat) (hi : i ≤ ops.size) : ∀ j H H', (j, H) ∈ (stAt es f i).al → (j, H') ∈ (stAt es f i).al → H = H' := by
  intro j H H' h1 h2
  obtain ⟨_, v, a⟩ := (R.al i hi j H).1 h1
  obtain ⟨_, u, b⟩ := (R.al i hi j H').1 h2
  rw [a] at b
  injection b
/-- Which blocks have been laid into the heap before stage k. -/
theorem RF.merged_iff {i : Nat} (hi : i ≤ ops.size) (j : Nat) : merged pr (stAt es f i).xs j = true ↔ stOf pr f.xs j ≤ (stAt es f i).xs.length := by
  obtain ⟨t, ht⟩ := R.pfx hi
  have hx : ∀ k, 1 ≤ k → k ≤ (stAt es f i).xs.length → xAt f.xs k = xAt (stAt es f i).xs k := by
    intro k h1 h2
    unfold xAt
    rw [← ht, List.getD_eq_getElem?_getD, List.getD_eq_getElem?_getD, List.getElem?_append_left (by omega)]
  have hle : (stAt es f i).xs.length ≤ f.xs.length := by rw [← ht]; simp
  unfold merged
  rw [List.any_eq_true]
  constructor
  · rintro ⟨x, hx1, hx2⟩
    obtain ⟨k, hk, rfl⟩ := List.getElem_of_mem hx1
    refine Nat.le_trans (stOf_le (k := k + 1) (by omega) (by omega) ?_) (by omega)
    rw [hx (k + 1) (by omega) (by omega)]
    unfold xAt
    rw [Nat.add_sub_cancel, List.getD_eq_getElem?_getD, List.getElem?_eq_getElem hk]
    exact hx2
  · intro h
    have h1 := stOf_pr (pr := pr) (xs := f.xs) (j := j) (by omega)
    have h0 : 1 ≤ stOf pr f.xs j := by unfold stOf; omega
    refine ⟨_, ?_, h1⟩
    rw [hx _ h0 h]
    unfold xAt
    rw [List.getD_eq_getElem?_getD, List.getElem?_eq_getElem (by omega)]
    exact List.getElem_mem _
/-- The facts that a region of a drawn order is taken by. -/
noncomputable def RF.df (hlook : ∀ i o j oj t, ops[i]? = some o → ops[j]? = some oj → oj.dst = some t → t ∈ looks ops o → preB ops ops.size i j = true ∨ preB ops ops.size j i = true ∨ j = i)
    (hdst : ∀ (i : Nat) (o : Oper) (j : Nat) (oj : Oper) (t : Tmp), ops[i]? = some o → ops[j]? = some oj → o.dst = some t → oj.dst = some t → i = j)
    (hdyn : dynOk P lim pr ops n0 es f = true) : DF P cf lim ops nt F0 H0 n0 where
  kd := kdAt es
  Fi i := (stAt es f i).F
  K := f.xs.length
  x := xAt f.xs
  g := gAt es f
  kt k := ktOf pr n0 (xAt f.xs k) (stAt es f (xAt f.xs k))
  nn := nnAt es f
  st := stOf pr f.xs
  pf := ops.size
  hed := R.hed
  hx k h1 h2 := ⟨(R.x h1 h2).1, (R.x h1 h2).2.1⟩
  hxi i v hi hv := by
    obtain ⟨a, b⟩ := R.pos hi hv
    exact ⟨_, by omega, by omega, b⟩
  hord j k h1 h2 h3 := by
    rw [← R.pre]
    have : ordOk pr f.xs = true := by
      unfold dynOk at hdyn
      split at hdyn
      · rename_i e
        rw [e] at h3
        simp at h3
        omega
      · simp only [Bool.and_eq_true] at hdyn
        exact hdyn.2.1
    exact ordOk_ok this (j - 1) (k - 1) (by omega) (by omega)
  hst i H v hi hk := by
    refine ⟨by unfold stOf; omega, fun h => by rw [← R.pre]; exact stOf_pr h, fun k h1 h2 h => by rw [← R.pre] at h; exact stOf_le h1 h2 h, fun s h1 h2 => ?_⟩
    have hal : alOk pr n0 es f = true := by
      unfold dynOk at hdyn
      simp only [Bool.and_eq_true] at hdyn
      exact hdyn.1.2
    have hm : (i, H) ∈ f.al := by
      have := (R.al ops.size (Nat.le_refl _) i H).2 ⟨hi, v, hk⟩
      rwa [R.fin] at this
    have := List.all_eq_true.1 (List.all_eq_true.1 hal _ hm) s (by simp; omega)
    simp only [Bool.or_eq_true] at this
    rcases this with this | this
    · have := Nat.le_of_ble_eq_true this
      omega
    · simpa using this
  hg0 := by simp only [gAt, R.zero]
  hn0 := by simp only [nnAt, R.zero]
  hnm k hk := by
    obtain ⟨a, ⟨v, b⟩, c⟩ := R.x (k := k + 1) (by omega) (by omega)
    rcases R.xs_step a with ⟨_, h, _⟩ | ⟨_, _, h⟩
    · exact absurd b (h v)
    · rw [(R.gs _ (by omega)).2, c] at h
      exact h
  hnl := by
    have := (R.gs ops.size (Nat.le_refl _)).2
    rw [R.fin] at this
    rw [← this]
    unfold dynOk at hdyn
    simp only [Bool.and_eq_true] at hdyn
    exact blt_lt hdyn.1.1
  hF0 := by rw [R.zero]
  hFi i o ho := (stepD_inv (R.step i o ho)).1
  hlook := hlook
  hdst := hdst
  hw i o ho := by
    rcases (stepD_inv (R.step i o ho)).2 with ⟨a, b, _⟩ | ⟨a, _⟩
    · exact .inr ⟨a, b⟩
    · exact .inl a
  hlt i o v s ho hw hk hs hs1 hs2 := by
    have hi : i < ops.size := (Array.getElem?_eq_some_iff.1 ho).1
    have hev : evalOp P (stAt es f i).g (lim - 1) (stAt es f i).F o = some (.lt v) := by
      rcases (stepD_inv (R.step i o ho)).2 with ⟨a, _⟩ | ⟨a, ⟨v', b, _, _, _, _, c⟩ | ⟨H, v', b, _⟩ | ⟨v', b, _⟩⟩
      · rw [a] at hw; cases hw
      · rw [hk] at b; injection b with b; subst b; exact c
      · rw [hk] at b; cases b
      · rw [hk] at b; cases b
    by_cases hpos : s = (stAt es f i).xs.length
    · subst hpos
      rw [← (R.gs i (by omega)).1]
      exact hev
    · have hwin : winOne P lim pr ops es f i o = true := by
        unfold dynOk at hdyn
        split at hdyn
        · rename_i e
          have h1 := (R.pfx (i := i) (by omega)).length_le
          rw [e] at h1 hs
          simp at h1 hs
          rw [h1] at hpos
          exact absurd hs (by simpa using hpos)
        · simp only [Bool.and_eq_true] at hdyn
          have := winOk_ok hdyn.2.2 i o (by simpa using ho)
          rwa [Nat.zero_add] at this
      unfold winOne at hwin
      simp only [Bool.or_eq_true] at hwin
      rcases hwin with hwin | hwin
      · rw [noHeap_ok hwin (H' := (stAt es f i).g)]
        exact hev
      · simp only [hk, hw] at hwin
        have := List.all_eq_true.1 hwin s (by simp; omega)
        simp only [Bool.or_eq_true] at this
        rcases this with (this | this) | this
        · exact absurd (Nat.eq_of_beq_eq_true this) hpos
        · exfalso
          have hall : allowed pr f.xs i s = true := by
            unfold allowed
            refine List.all_eq_true.2 fun k hk => ?_
            simp only [List.mem_range] at hk
            simp only [Bool.and_eq_true, Bool.or_eq_true]
            constructor
            · cases hp : pr i (xAt f.xs (k + 1)) with
              | false => exact .inl rfl
              | true => exact .inr (Nat.ble_eq_true_of_le (hs1 (k + 1) (by omega) (by omega) (by rw [← R.pre]; exact hp)))
            · cases hp : pr (xAt f.xs (k + 1)) i with
              | false => exact .inl rfl
              | true => exact .inr (Nat.ble_eq_true_of_le (hs2 (k + 1) (by omega) (by omega) (by rw [← R.pre]; exact hp)))
          rw [hall] at this
          cases this
        · split at this
          · rename_i v' he
            rw [he, vEq_ok this]
          · cases this
  hal i o H v ho hk := by
    rcases (stepD_inv (R.step i o ho)).2 with ⟨_, b, _⟩ | ⟨a, ⟨v', b, _⟩ | ⟨H', v', b, _, _, _, _, c⟩ | ⟨v', b, _⟩⟩
    · rw [hk] at b; cases b
    · rw [hk] at b; cases b
    · rw [hk] at b; injection b with b1 b2; subst b1 b2; exact c
    · rw [hk] at b; cases b
  hkt k b h1 h2 := by
    obtain ⟨hx1, ⟨v, hx2⟩, hx3⟩ := R.x h1 h2
    have hg := (R.gs (xAt f.xs k) (by omega)).1
    rw [hx3] at hg
    obtain ⟨m1, m2⟩ := mergeK_at n0 (fun j => pr (xAt f.xs k) j && !merged pr (stAt es f (xAt f.xs k)).xs j) _ (stAt es f (xAt f.xs k)).g (R.alf (xAt f.xs k) (by omega)) b
    have hp : ∀ j, (pr (xAt f.xs k) j && !merged pr (stAt es f (xAt f.xs k)).xs j) = true ↔ stOf pr f.xs j = k := by
      intro j
      have hmi := R.merged_iff (i := xAt f.xs k) (by omega) j
      rw [hx3] at hmi
      simp only [Bool.and_eq_true, Bool.not_eq_true']
      constructor
      · rintro ⟨a, c⟩
        have := stOf_le h1 h2 a
        have hno : ¬ (stOf pr f.xs j ≤ k - 1) := fun h => by rw [hmi.2 h] at c; cases c
        omega
      · intro e
        have a := stOf_pr (pr := pr) (xs := f.xs) (j := j) (by omega)
        rw [e] at a
        refine ⟨a, ?_⟩
        cases hc : merged pr (stAt es f (xAt f.xs k)).xs j with
        | false => rfl
        | true => have := hmi.1 hc; omega
    have hno : (∀ j H, (j, H) ∈ (stAt es f (xAt f.xs k)).al → stOf pr f.xs j = k → b ≠ n0 + j) → (ktOf pr n0 (xAt f.xs k) (stAt es f (xAt f.xs k))).at b = (gAt es f (k - 1)).at b := fun h => by
      rw [← hg]
      exact m2 fun j H hm hj => h j H hm ((hp j).1 hj)
    split
    · rename_i hr
      split
      · rename_i H u hk
        split
        · rename_i hst
          have hlt : b - n0 < xAt f.xs k := by
            have a := stOf_pr (pr := pr) (xs := f.xs) (j := b - n0) (by omega)
            rw [hst, R.pre] at a
            exact preB_lt R.hed _ _ _ a
          exact m1 (b - n0) H ((R.al _ (by omega) _ _).2 ⟨hlt, u, hk⟩) ((hp _).2 hst) (by omega)
        · rename_i hst
          exact hno fun j H' hm hj e => hst (by rw [show b - n0 = j by omega]; exact hj)
      · rename_i hk
        exact hno fun j H' hm hj e => by
          obtain ⟨_, u, a⟩ := (R.al _ (by omega) _ _).1 hm
          exact hk H' u (by rw [show b - n0 = j by omega]; exact a)
    · rename_i hr
      refine hno fun j H' hm hj e => hr ?_
      have := ((R.al _ (by omega) _ _).1 hm).1
      omega
  hhv k o v h1 h2 ho hk := by
    obtain ⟨hx1, _, hx3⟩ := R.x h1 h2
    obtain ⟨hg1, hg2⟩ := R.gs (xAt f.xs k) (by omega)
    rw [hx3] at hg2
    rw [← hg2]
    obtain ⟨k, rfl⟩ : ∃ k', k = k' + 1 := ⟨k - 1, by omega⟩
    rcases (stepD_inv (R.step _ o ho)).2 with ⟨_, b, _⟩ | ⟨a, ⟨v', b, _⟩ | ⟨H', v', b, _⟩ | ⟨v', b, _, _, _, _, c⟩⟩
    · rw [hk] at b; cases b
    · rw [hk] at b; cases b
    · rw [hk] at b; cases b
    · rw [hk] at b; injection b with b; subst b; exact c
end
noncomputable section
/-- A region that draws its order. -/
def drawA (P : Program) (cf : Callee') (lim : Nat) : Draws := fun _ _ ops nt F H n =>
  match statOk ops with
  | false => none
  | true => match runD P cf lim (pre (preTab ops)) ops nt n ops.toList 0 ⟨F, H, n + ops.size, [], []⟩ with
    | none => none
    | some (es, f) => match dynOk P lim (pre (preTab ops)) ops n es f with
      | false => none
      | true => some (f.F, mergeK n (fun j => !merged (pre (preTab ops)) f.xs j) f.al f.g, f.nn)
def cfOf (P : Program) (sm : Sums) (lim fuel : Nat) (dw : Draws) : Callee' := fun f args H n =>
  match sm f with
  | some g => match g args H n with
    | some (v, H', n') => match Nat.ble n' lim with | true => some (v, H', n') | false => none
    | none => none
  | none => callA P sm dw lim fuel f args H n
end
theorem drawA_ok {P : Program} (hm : P.follows .mixedOrders = true) {cf : Callee'} {lim : Nat} (hcf : CalleeOk P lim cf) : DrawsOk P 1024 lim (drawA P cf lim) := by
  intro fn id ops nt F H n F' H' n' h S μ w fr k h1 h2 h3 h4 h5 h6 cs
  unfold drawA at h
  split at h
  · cases h
  · rename_i hstat
    split at h
    · cases h
    · rename_i es f hrun
      split at h
      · cases h
      · rename_i hdyn
        injection h with h
        injection h with e1 h
        injection h with e2 e3
        subst e1 e2 e3
        obtain ⟨a, b, c⟩ := statOk_ok hstat
        obtain ⟨r1, r2, r3⟩ := runD_spec hrun
        have hpre : ∀ i j, pre (preTab ops) i j = preB ops ops.size i j := by
          intro i j
          rcases Nat.lt_or_ge i ops.size with h | h
          · exact pre_eq a i j ops.size h
          · rw [pre_eq a i j (i + 1) (by omega)]
            have hn : ops[i]? = none := by simpa using h
            cases hs : ops.size with
            | zero => simp [preB, hn]
            | succ s => simp [preB, hn]
        have R : RF P cf lim (pre (preTab ops)) ops nt n F H es f := ⟨by simpa using r1, r2, by unfold stAt; rw [List.getElem?_eq_none (by simp at r1; omega)], fun i o ho => by
          have := r3 i o (by simpa using ho)
          rwa [Nat.zero_add] at this, hpre, a⟩
        obtain ⟨tm', w', S', μ', q1, q2, q3, q4⟩ := (R.df b c hdyn).region hm hcf (Hf := mergeK n (fun j => !merged (pre (preTab ops)) f.xs j) f.al f.g) (fun b => by
          have hfin := R.fin
          have hal := R.al ops.size (Nat.le_refl _)
          have half := R.alf ops.size (Nat.le_refl _)
          have hgs := (R.gs ops.size (Nat.le_refl _)).1
          have hmi := fun j => R.merged_iff (i := ops.size) (Nat.le_refl _) j
          rw [hfin] at hal half hgs
          simp only [hfin] at hmi
          obtain ⟨m1, m2⟩ := mergeK_at n (fun j => !merged (pre (preTab ops)) f.xs j) f.al f.g half b
          have hp : ∀ j, (!merged (pre (preTab ops)) f.xs j) = true ↔ f.xs.length < stOf (pre (preTab ops)) f.xs j := by
            intro j
            have := hmi j
            cases hc : merged (pre (preTab ops)) f.xs j with
            | true => rw [hc] at this; simp; exact this.1 rfl
            | false => rw [hc] at this; simp; simpa using this
          show _ = if n ≤ b ∧ b < n + ops.size then (match kdAt es (b - n) with | .al H _ => if f.xs.length < stOf (pre (preTab ops)) f.xs (b - n) then H.at b else (gAt es f f.xs.length).at b | _ => (gAt es f f.xs.length).at b) else (gAt es f f.xs.length).at b
          rw [← hgs]
          split
          · rename_i hr
            split
            · rename_i Ha u hk
              split
              · rename_i hst
                exact m1 (b - n) Ha ((hal _ _).2 ⟨by omega, u, hk⟩) ((hp _).2 hst) (by omega)
              · rename_i hst
                exact m2 fun j H' hm hj e => hst (by rw [show b - n = j by omega]; exact (hp j).1 hj)
            · rename_i hk
              exact m2 fun j H' hm hj e => by
                obtain ⟨_, u, a⟩ := (hal _ _).1 hm
                exact hk H' u (by rw [show b - n = j by omega]; exact a)
          · rename_i hr
            refine m2 fun j H' hm hj e => hr ?_
            have := ((hal _ _).1 hm).1
            omega) h2 h3 h4 h5 h6 cs
        have e1 : (R.df b c hdyn).Fi ops.size = f.F := by show (stAt es f ops.size).F = f.F; rw [R.fin]
        have e2 : (R.df b c hdyn).nn (R.df b c hdyn).K = f.nn := by
          show nnAt es f f.xs.length = f.nn
          have := (R.gs ops.size (Nat.le_refl _)).2
          rw [R.fin] at this
          exact this.symm
        rw [e1] at q2
        rw [e2] at q4
        exact ⟨tm', w', S', μ', q1, q2, q3, q4⟩
theorem cfOf_ok {P : Program} {sm : Sums} (hsm : SumsOk P 1024 sm) {lim fuel : Nat} {dw : Draws} (hdw : DrawsOk P 1024 lim dw) : CalleeOk P lim (cfOf P sm lim fuel dw) := by
  intro f args H n v H' n' h S μ w xs h1 h2 h3
  unfold cfOf at h
  split at h
  · rename_i g hg
    split at h
    · rename_i v2 H2 n2 he
      split at h
      · rename_i hb
        injection h with h
        injection h with e1 h
        injection h with e2 e3
        subst e1 e2 e3
        have := Nat.le_of_ble_eq_true hb
        exact hsm f g args H n _ _ _ hg he S μ w xs h1 h2 fun b hb1 hb2 => h3 b hb1 (by omega)
      · cases h
    · cases h
  · exact callA_ok hsm hdw h (by simpa using h1) h2 h3
end Ev
end Go.Proofs.YtmlhijlcefogmaaGreatDoor
