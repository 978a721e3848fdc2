/-
  Evaluation of closed runs, part P: a region that draws its order: any order comes to one end. No conditions; no program.
-/
import Derived.Test.YtmlhijlcefogmaaGreatDoorEvO
import Derived.Orders
set_option linter.unusedVariables false
set_option linter.unusedSimpArgs false
namespace Go.Proofs.YtmlhijlcefogmaaGreatDoor
namespace Ev

/-- Any schedule, step by step. -/
theorem sched_run {P : Program} {ops : Array Oper} {fn' : FuncId} {df' : List Deferred} {kd' : CallKind} {rnd' : Option Nat} {k : List Item} (cs : List Frame) (I : Array Bool → Array Value → World → Prop)
    (hstep : ∀ listed tm w i, I listed tm w → i ∈ Region.ready .any ops listed → ∀ rest, ∃ tm' w', Steps P (lone ⟨fn', tm, .inRegion ops (i :: rest) :: k, df', .run, kd', rnd'⟩ cs w) (lone ⟨fn', tm', .inRegion ops rest :: k, df', .run, kd', rnd'⟩ cs w') ∧ I (listed.setIfInBounds i true) tm' w') :
    ∀ (fuel t : Nat) (listed : Array Bool) (tm : Array Value) (w : World), I listed tm w →
      ∃ listed' tm' w', Steps P (lone ⟨fn', tm, .inRegion ops (Region.linearise.go .any ops fuel t listed []) :: k, df', .run, kd', rnd'⟩ cs w) (lone ⟨fn', tm', .inRegion ops [] :: k, df', .run, kd', rnd'⟩ cs w') ∧ I listed' tm' w' ∧
        listed'.size = listed.size ∧ (Region.ready .any ops listed' = [] ∨ listed.toList.count true + fuel ≤ listed'.toList.count true) := by
  intro fuel
  induction fuel with
  | zero => intro t listed tm w h; exact ⟨listed, tm, w, by simp only [Region.linearise.go, List.reverse_nil]; exact .refl _ _, h, rfl, .inr (Nat.le_refl _)⟩
  | succ fuel ih =>
    intro t listed tm w h
    have hgo : Region.linearise.go .any ops (fuel + 1) t listed [] = (match (Region.ready .any ops listed)[t % (Region.ready .any ops listed).length]? with
      | some i => Region.linearise.go .any ops fuel (t / (Region.ready .any ops listed).length) (listed.setIfInBounds i true) [i]
      | none => [].reverse) := by simp only [Region.linearise.go]; rfl
    rw [hgo]
    cases hi : (Region.ready .any ops listed)[t % (Region.ready .any ops listed).length]? with
    | none =>
      have hnil : Region.ready .any ops listed = [] := by
        cases hr : Region.ready .any ops listed with
        | nil => rfl
        | cons x xs =>
          rw [hr] at hi
          have hlt : t % (x :: xs).length < (x :: xs).length := Nat.mod_lt _ (by simp)
          simp at hi
          simp at hlt
          omega
      exact ⟨listed, tm, w, by simp only [List.reverse_nil]; exact .refl _ _, h, rfl, .inl hnil⟩
    | some i =>
      simp only
      rw [linearise_go_acc, List.reverse_singleton, List.singleton_append]
      have hmem := List.mem_of_getElem? hi
      obtain ⟨tm1, w1, h1, h2⟩ := hstep listed tm w i h hmem (Region.linearise.go .any ops fuel (t / (Region.ready .any ops listed).length) (listed.setIfInBounds i true) [])
      obtain ⟨l2, tm2, w2, k1, k2, k3, k4⟩ := ih _ _ _ _ h2
      refine ⟨l2, tm2, w2, h1.trans k1, k2, by rw [k3]; simp, ?_⟩
      rcases k4 with k4 | k4
      · exact .inl k4
      · refine .inr ?_
        have hun := (mem_ready.1 hmem).1
        have hlt : i < listed.size := by
          rcases Nat.lt_or_ge i listed.size with h | h
          · exact h
          · simp [Array.getD_eq_getD_getElem?, Array.getElem?_eq_none h] at hun
        have hset : (listed.setIfInBounds i true).toList.count true = listed.toList.count true + 1 := by
          have hf : listed[i] = false := by simpa [Array.getD_eq_getD_getElem?, hlt] using hun
          simp only [Array.toList_setIfInBounds]
          have : ∀ (l : List Bool) (i : Nat) (h : i < l.length), l[i] = false → (l.set i true).count true = l.count true + 1 := by
            intro l
            induction l with
            | nil => intro i h; simp at h
            | cons a l ih2 =>
              intro i h hf
              cases i with
              | zero => simp at hf; subst hf; simp
              | succ i => simp at hf h; simp only [List.set_cons_succ, List.count_cons, ih2 i h hf]; omega
          exact this listed.toList i (by simpa using hlt) (by simpa using hf)
        omega
/-- At the end all are done. -/
theorem all_listed {ops : Array Oper} (hed : ∀ i o, ops[i]? = some o → ∀ e ∈ o.after, Region.binds .any e = true → e.on < i) {listed : Array Bool} (hsz : listed.size = ops.size) (h : Region.ready .any ops listed = [] ∨ ops.size ≤ listed.toList.count true) :
    ∀ i, i < ops.size → listed.getD i false = true := by
  rcases h with h | h
  · intro i
    induction i using Nat.strongRecOn with
    | _ i ih =>
      intro hi
      cases hl : listed.getD i false with
      | true => rfl
      | false =>
        have : i ∈ Region.ready .any ops listed := by
          rw [mem_ready]
          refine ⟨?_, ops[i], by simp [hi], fun e he hb => ?_⟩
          · simp only [Array.getD_eq_getD_getElem?, hsz ▸ hi, Array.getElem?_eq_getElem, Option.getD_some] at hl ⊢
            exact hl
          · have hlt := hed i _ (Array.getElem?_eq_getElem hi) e he hb
            exact ih _ hlt (by omega)
        rw [h] at this
        cases this
  · intro i hi
    have hall : ∀ x ∈ listed.toList, x = true := by
      have hle : listed.toList.count true ≤ listed.toList.length := List.count_le_length
      have : listed.toList.count true = listed.toList.length := by simp only [Array.length_toList] at *; omega
      intro x hx
      exact (List.count_eq_length.1 this x hx).symm
    have hi' : i < listed.size := by omega
    rw [Array.getD_eq_getD_getElem?, Array.getElem?_eq_getElem hi']
    exact hall _ (by simp)

/-- What a stretch has turned; N: the new numbers. -/
structure GoN (S : Nat → Prop) (μ : Nat → Loc) (h : Nat → Option O) (w : World) (N : Nat → Prop) (S' : Nat → Prop) (μ' : Nat → Loc) (h' : Nat → Option O) (w' : World) : Prop where
  new : ∀ b, S' b ↔ S b ∨ N b
  same : ∀ b, S b → μ' b = μ b
  os : w'.os = w.os
  tape : w'.tape = w.tape
  output : w'.output = w.output
  size : w.heap.size ≤ w'.heap.size
  still : ∀ r, r < w.heap.size → (∀ b o, h b = some o → (μ b).blk = r → o.ro = true) → w'.heap[r]? = w.heap[r]?
  dom : ∀ b o, h' b = some o → (S b ∧ ∃ o, h b = some o) ∨ N b
  own : ∀ b o, h' b = some o → (o.ro = true ∧ h b = some o) ∨ w.heap.size ≤ (μ' b).blk ∨ ∃ b₀ o₀, h b₀ = some o₀ ∧ o₀.ro = false ∧ (μ b₀).blk = (μ' b).blk
section
variable {S S' S'' : Nat → Prop} {μ μ' μ'' : Nat → Loc} {h h' h'' : Nat → Option O} {w w' w'' : World} {n n' : Nat} {N N' N2 : Nat → Prop} {G : Nat}
theorem Go.toN (a : Go S μ h w n S' μ' h' w' n') : GoN S μ h w (fun b => n ≤ b ∧ b < n') S' μ' h' w' := ⟨a.new, a.same, a.os, a.tape, a.output, a.size, a.still, a.dom, a.own⟩
theorem GoN.up (a : GoN S μ h w N S' μ' h' w') {b : Nat} (hb : S b) : S' b := (a.new b).2 (.inl hb)
theorem GoN.isNew (a : GoN S μ h w N S' μ' h' w') {b : Nat} {o : O} (ho : h' b = some o) : S' b := (a.new b).2 ((a.dom b o ho).imp (·.1) id)
theorem GoN.trans (a : GoN S μ h w N S' μ' h' w') (c : GoN S' μ' h' w' N' S'' μ'' h'' w'') (hN : ∀ b, N2 b ↔ N b ∨ N' b) : GoN S μ h w N2 S'' μ'' h'' w'' where
  new b := by rw [c.new, a.new, hN, or_assoc]
  same b hb := (c.same b (a.up hb)).trans (a.same b hb)
  os := c.os.trans a.os
  tape := c.tape.trans a.tape
  output := c.output.trans a.output
  size := Nat.le_trans a.size c.size
  still r hr hf := by
    rw [c.still r (Nat.lt_of_lt_of_le hr a.size), a.still r hr hf]
    intro b o ho hbr
    rcases a.own b o ho with ⟨h1, _⟩ | h1 | ⟨b₀, o₀, h1, h2, h3⟩
    · exact h1
    · omega
    · have := hf b₀ o₀ h1 (h3.trans hbr)
      rw [h2] at this
      cases this
  dom b o ho := by
    rw [hN]
    rcases c.dom b o ho with ⟨_, o1, h1⟩ | h1
    · rcases a.dom b o1 h1 with h2 | h2
      · exact .inl h2
      · exact .inr (.inl h2)
    · exact .inr (.inr h1)
  own b o ho := by
    rcases c.own b o ho with ⟨h1, h2⟩ | h1 | ⟨b₀, o₀, h1, h2, h3⟩
    · rcases a.own b o h2 with h4 | h4 | ⟨b₁, o₁, h4, h5, h6⟩
      · exact .inl h4
      · exact .inr (.inl (by rw [c.same b (a.isNew h2)]; exact h4))
      · exact .inr (.inr ⟨b₁, o₁, h4, h5, by rw [c.same b (a.isNew h2)]; exact h6⟩)
    · exact .inr (.inl (Nat.le_trans a.size h1))
    · rcases a.own b₀ o₀ h1 with ⟨h4, h5⟩ | h4 | ⟨b₁, o₁, h4, h5, h6⟩
      · rw [h2] at h4; cases h4
      · exact .inr (.inl (h3 ▸ h4))
      · exact .inr (.inr ⟨b₁, o₁, h4, h5, h6.trans h3⟩)
theorem GoN.pad (a : GoN S μ h w N S' μ' h' w') (r : RH G S' μ' h' w') (hle : n ≤ n') (hN : ∀ b, N b → n ≤ b ∧ b < n') :
    RH G (fun b => S b ∨ (n ≤ b ∧ b < n')) μ' h' w' ∧ Go S μ h w n (fun b => S b ∨ (n ≤ b ∧ b < n')) μ' h' w' n' ∧ ∀ b, S' b → S b ∨ (n ≤ b ∧ b < n') := by
  have hup : ∀ b, S' b → S b ∨ (n ≤ b ∧ b < n') := fun b hb => ((a.new b).1 hb).imp id (hN b)
  refine ⟨⟨fun b o ho => ?_, r.inj, fun g hg => ?_⟩, ⟨hle, fun b => Iff.rfl, a.same, a.os, a.tape, a.output, a.size, a.still, fun b o ho => (a.dom b o ho).imp id (hN b), a.own⟩, hup⟩
  · obtain ⟨h1, x, h2, h3⟩ := r.ok b o ho
    exact ⟨hup b h1, x, h2, h3.mono hup (fun _ _ => rfl)⟩
  · obtain ⟨h1, h2⟩ := r.glob g hg
    exact ⟨hup g h1, h2⟩
end

/-- Which operations stand ahead of one. -/
def preB (ops : Array Oper) : Nat → Nat → Nat → Bool
  | 0, _, _ => false
  | f + 1, i, j => match ops[i]? with | none => false | some o => o.after.toList.any fun e => Region.binds .any e && (e.on == j || preB ops f e.on j)
/-- What has been listed has all ahead of it listed. -/
def Down (ops : Array Oper) (L : Array Bool) : Prop := ∀ i o, ops[i]? = some o → L.getD i false = true → ∀ e ∈ o.after, Region.binds .any e = true → L.getD e.on false = true
theorem preB_listed {ops : Array Oper} {L : Array Bool} (hd : Down ops L) : ∀ (f i j : Nat), (∀ o, ops[i]? = some o → ∀ e ∈ o.after, Region.binds .any e = true → L.getD e.on false = true) → preB ops f i j = true → L.getD j false = true := by
  intro f
  induction f with
  | zero => intro i j _ h; cases h
  | succ f ih =>
    intro i j hi h
    simp only [preB] at h
    split at h
    · cases h
    · rename_i o ho
      simp only [List.any_eq_true, Bool.and_eq_true, Bool.or_eq_true, beq_iff_eq] at h
      obtain ⟨e, he, hb, hj⟩ := h
      have hl := hi o ho e (by simpa using he) hb
      rcases hj with rfl | hj
      · exact hl
      · exact ih e.on j (fun o' ho' => hd e.on o' ho' hl) hj
theorem preB_lt {ops : Array Oper} (hed : ∀ i o, ops[i]? = some o → ∀ e ∈ o.after, Region.binds .any e = true → e.on < i) : ∀ (f i j : Nat), preB ops f i j = true → j < i := by
  intro f
  induction f with
  | zero => intro i j h; cases h
  | succ f ih =>
    intro i j h
    simp only [preB] at h
    split at h
    · cases h
    · rename_i o ho
      simp only [List.any_eq_true, Bool.and_eq_true, Bool.or_eq_true, beq_iff_eq] at h
      obtain ⟨e, he, hb, hj⟩ := h
      have hl := hed i o ho e (by simpa using he) hb
      rcases hj with rfl | hj
      · exact hl
      · have := ih e.on j hj; omega
theorem down_put {ops : Array Oper} {L : Array Bool} (hd : Down ops L) {i : Nat} (hr : i ∈ Region.ready .any ops L) : Down ops (L.setIfInBounds i true) := by
  intro j o ho hj e he hb
  obtain ⟨_, o', ho', hall⟩ := mem_ready.1 hr
  by_cases hij : i = j
  · subst hij
    rw [ho] at ho'
    injection ho' with ho'
    subst ho'
    exact getD_set_true (hall e he hb)
  · rw [getD_set_ne false hij] at hj
    exact getD_set_true (hd j o ho hj e he hb)

/-- What an operation of the region has come to: a value, the world standing; a new block by itself; a stretch. -/
inductive RR where
  | lt (v : V)
  | al (H : T O) (v : V)
  | hv (v : V)
def RR.val : RR → V
  | .lt v => v
  | .al _ v => v
  | .hv v => v
def Callee' := FuncId → List V → T O → Nat → Option (V × T O × Nat)
def CalleeOk (P : Program) (lim : Nat) (cf : Callee') : Prop := ∀ f args H n v H' n', cf f args H n = some (v, H', n') →
  ∀ S μ w xs, VRs S μ args xs → RH 1024 S μ H.at w → (∀ b, n ≤ b → b < lim → ¬ S b) → Calls P f xs.toArray w fun e w' => ∃ x, e = .returned x ∧ ∃ S' μ', VR S' μ' v x ∧ RH 1024 S' μ' H'.at w' ∧ Go S μ H.at w n S' μ' H'.at w' n'
/-- The temporaries that an operation looks at. -/
def looks (ops : Array Oper) (o : Oper) : List Tmp :=
  (o.op.operands.toList.filterMap fun | .tmp t => some t | _ => none) ++ (match o.guard with | some (j, _) => ((ops[j]?).bind (·.dst)).toList | none => [])
/-- The facts of a region whose order is drawn. -/
structure DF (P : Program) (cf : Callee') (lim : Nat) (ops : Array Oper) (nt : Nat) (F0 : T V) (H0 : T O) (n0 : Nat) where
  kd : Nat → RR
  Fi : Nat → T V
  K : Nat
  x : Nat → Nat
  g : Nat → T O
  kt : Nat → T O
  nn : Nat → Nat
  st : Nat → Nat
  pf : Nat
  hed : ∀ i o, ops[i]? = some o → ∀ e ∈ o.after, Region.binds .any e = true → e.on < i
  hx : ∀ k, 1 ≤ k → k ≤ K → x k < ops.size ∧ ∃ v, kd (x k) = .hv v
  hxi : ∀ i v, i < ops.size → kd i = .hv v → ∃ k, 1 ≤ k ∧ k ≤ K ∧ x k = i
  hord : ∀ j k, 1 ≤ j → j < k → k ≤ K → preB ops pf (x k) (x j) = true
  hst : ∀ i H v, i < ops.size → kd i = .al H v → 1 ≤ st i ∧ (st i ≤ K → preB ops pf (x (st i)) i = true) ∧ (∀ k, 1 ≤ k → k ≤ K → preB ops pf (x k) i = true → st i ≤ k) ∧ ∀ s, s < st i → s ≤ K → (g s).at (n0 + i) = none
  hg0 : (g 0).at = H0.at
  hn0 : nn 0 = n0 + ops.size
  hnm : ∀ k, k < K → nn k ≤ nn (k + 1)
  hnl : nn K < lim
  hF0 : Fi 0 = F0
  hFi : ∀ i o, ops[i]? = some o → putT nt (Fi i) o.dst (kd i).val = some (Fi (i + 1))
  hlook : ∀ i o j oj t, ops[i]? = some o → ops[j]? = some oj → oj.dst = some t → t ∈ looks ops o → preB ops pf i j = true ∨ preB ops pf j i = true ∨ j = i
  hdst : ∀ (i : Nat) (o : Oper) (j : Nat) (oj : Oper) (t : Tmp), ops[i]? = some o → ops[j]? = some oj → o.dst = some t → oj.dst = some t → i = j
  hw : ∀ i o, ops[i]? = some o → wantedA ops (Fi i) o = some true ∨ (wantedA ops (Fi i) o = some false ∧ kd i = .lt undefV)
  hlt : ∀ i o v s, ops[i]? = some o → wantedA ops (Fi i) o = some true → kd i = .lt v → s ≤ K → (∀ k, 1 ≤ k → k ≤ K → preB ops pf i (x k) = true → k ≤ s) → (∀ k, 1 ≤ k → k ≤ K → preB ops pf (x k) i = true → s < k) → evalOp P (g s) (lim - 1) (Fi i) o = some (.lt v)
  hal : ∀ i o H v, ops[i]? = some o → kd i = .al H v → evalOp P .nil (n0 + i) (Fi i) o = some (.val v H (n0 + i + 1))
  hkt : ∀ k b, 1 ≤ k → k ≤ K → (kt k).at b = if n0 ≤ b ∧ b < n0 + ops.size then (match kd (b - n0) with | .al H _ => if st (b - n0) = k then H.at b else (g (k - 1)).at b | _ => (g (k - 1)).at b) else (g (k - 1)).at b
  hhv : ∀ k o v, 1 ≤ k → k ≤ K → ops[x k]? = some o → kd (x k) = .hv v → evalOp P (kt k) (nn (k - 1)) (Fi (x k)) o = some (.val v (g k) (nn k)) ∨ ∃ f args, evalOp P (kt k) (nn (k - 1)) (Fi (x k)) o = some (.call f args) ∧ cf f args (kt k) (nn (k - 1)) = some (v, g k, nn k)
end Ev
end Go.Proofs.YtmlhijlcefogmaaGreatDoor
