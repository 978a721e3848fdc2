/-
  Evaluation of closed runs, part D: rows; loads, stores, new blocks, literals. No conditions; no program.
-/
import Derived.Test.YtmlhijlcefogmaaGreatDoorMerged18
import Derived.Great.BuildSlice
set_option linter.unusedVariables false
namespace Go.Proofs.YtmlhijlcefogmaaGreatDoor
namespace Ev

noncomputable section
variable {R : Type}
/-- z cells from o on. -/
def dropR {α : Type} (p : Nat) : List α → List α := Nat.rec (motive := fun _ => List α → List α) (fun l => l) (fun _ ih l => List.rec (motive := fun _ => List α) [] (fun _ r _ => ih r) l) p
/-- Of a short row: z cells at most, m places being left in it; behind it, k. -/
def colL (l : List (Option V)) : Nat → Nat → (Nat → Option (List V)) → Option (List V) :=
  List.rec (motive := fun _ => Nat → Nat → (Nat → Option (List V)) → Option (List V))
    (fun m z k => Nat.rec (motive := fun _ => Option (List V)) (some []) (fun z' _ => Nat.rec (motive := fun _ => Option (List V)) (k (Nat.succ z')) (fun _ _ => none) m) z)
    (fun x _ ih m z k => Nat.rec (motive := fun _ => Option (List V)) (some []) (fun z' _ => Nat.rec (motive := fun _ => Option (List V)) (k (Nat.succ z'))
      (fun m' _ => match x with | none => none | some v => match ih m' z' k with | none => none | some r => some (v :: r)) m) z) l
def getB (cs : T V) (f : Nat) : Nat → Nat → Option (List V) :=
  Nat.rec (motive := fun _ => Nat → Nat → Option (List V)) (fun _ _ => none)
    (fun _ ih o z => colL (dropR (Nat.mod o 4) (cs.chunk (pth (Nat.div o 4)))) (Nat.sub 4 (Nat.mod o 4)) z fun z => fN (Nat.mul 4 (Nat.succ (Nat.div o 4))) fun o => ih o z) f
def getN (cs : T V) (o z : Nat) : Option (List V) := getB cs (Nat.add (Nat.div z 4) 2) o z
/-- Cells laid from o on. -/
def ovrK (p : Nat) : List (Option V) → (List (Option V) → (List (Option V) → R) → R) → (List (Option V) → R) → R :=
  Nat.rec (motive := fun _ => List (Option V) → (List (Option V) → (List (Option V) → R) → R) → (List (Option V) → R) → R) (fun l f K => f l K)
    (fun _ ih l f K => List.rec (motive := fun _ => R) (ih [] f fun r => K (none :: r)) (fun x l _ => ih l f fun r => K (x :: r)) l) p
def filK (vs : List V) : Nat → List (Option V) → (List (Option V) → R) → R :=
  List.rec (motive := fun _ => Nat → List (Option V) → (List (Option V) → R) → R) (fun _ l K => K l)
    (fun v _ ih m l K => Nat.rec (motive := fun _ => R) (K l) (fun m' _ => List.rec (motive := fun _ => R) (ih m' [] fun r => K (some v :: r)) (fun _ l _ => ih m' l fun r => K (some v :: r)) l) m) vs
def putF (fu : List V) : List V → Nat → T V → (T V → R) → R :=
  List.rec (motive := fun _ => List V → Nat → T V → (T V → R) → R) (fun _ _ cs k => k cs)
    (fun _ _ ih vs o cs k => List.rec (motive := fun _ => R) (k cs) (fun _ _ _ => ovrK (Nat.mod o 4) (cs.chunk (pth (Nat.div o 4))) (fun l K => filK vs (Nat.sub 4 (Nat.mod o 4)) l K) fun l =>
      T0.setK (some l) (pth (Nat.div o 4)) cs fun cs => fN (Nat.mul 4 (Nat.succ (Nat.div o 4))) fun o' => ih (dropR (Nat.sub 4 (Nat.mod o 4)) vs) o' cs k) vs) fu
def putNK (vs : List V) (o : Nat) (cs : T V) (k : T V → R) : R := putF vs vs o cs k
def ovrL (g : List (Option V) → List (Option V)) : Nat → List (Option V) → List (Option V)
  | 0, l => g l
  | p + 1, [] => none :: ovrL g p []
  | p + 1, x :: l => x :: ovrL g p l
def filL : List V → Nat → List (Option V) → List (Option V)
  | [], _, l => l
  | _ :: _, 0, l => l
  | v :: vs, m + 1, [] => some v :: filL vs m []
  | v :: vs, m + 1, _ :: l => some v :: filL vs m l
def putP : List V → List V → Nat → T V → T V
  | [], _, _, cs => cs
  | _ :: _, [], _, cs => cs
  | _ :: fu, v :: vs, o, cs => putP fu (dropR (4 - o % 4) (v :: vs)) (4 * (o / 4 + 1)) (T0.set (some (ovrL (filL (v :: vs) (4 - o % 4)) (o % 4) (cs.chunk (pth (o / 4))))) (pth (o / 4)) cs)
def putN (vs : List V) (o : Nat) (cs : T V) : T V := putP vs vs o cs
def allOne (vs : List V) : Bool := List.rec (motive := fun _ => Bool) true (fun v _ ih => match v.one with | true => ih | false => false) vs
end

def HasN (cs : T V) (o z : Nat) (l : List V) : Prop := l.length = z ∧ ∀ j v, l[j]? = some v → cs.at (o + j) = some v
theorem colL_ok {cs : T V} : ∀ (l : List (Option V)) (m z b : Nat) (k : Nat → Option (List V)) (r : List V), (∀ j, j < m → nthO l j = cs.at (b + j)) → (∀ z r, k z = some r → HasN cs (b + m) z r) → colL l m z k = some r → HasN cs b z r := by
  intro l
  induction l with
  | nil =>
    intro m z b k r h1 h2 h
    cases z with
    | zero =>
      have h : some [] = some r := h
      injection h with h
      subst h
      exact ⟨rfl, fun j v hv => by simp at hv⟩
    | succ z =>
      cases m with
      | zero => exact h2 _ _ h
      | succ m => cases h
  | cons x l ih =>
    intro m z b k r h1 h2 h
    cases z with
    | zero =>
      have h : some [] = some r := h
      injection h with h
      subst h
      exact ⟨rfl, fun j v hv => by simp at hv⟩
    | succ z =>
      cases m with
      | zero => exact h2 _ _ h
      | succ m =>
        have h : (match (generalizing := false) x with | none => none | some v => match colL l m z k with | none => none | some r => some (v :: r)) = some r := h
        cases hx : x with
        | none => rw [hx] at h; cases h
        | some v =>
          rw [hx] at h
          simp only at h
          cases hc : colL l m z k with
          | none => rw [hc] at h; cases h
          | some r' =>
            rw [hc] at h
            injection h with h
            subst h
            obtain ⟨e1, e2⟩ := ih m z (b + 1) k r' (fun j hj => by
              have := h1 (j + 1) (by omega)
              rw [nthO_succ] at this
              rw [this, show b + 1 + j = b + (j + 1) by omega]) (fun z r hk => by
              have := h2 z r hk
              rwa [show b + 1 + m = b + (m + 1) by omega]) hc
            refine ⟨by simp [e1], fun j u hu => ?_⟩
            cases j with
            | zero =>
              simp at hu
              subst hu
              have := h1 0 (by omega)
              rw [nthO_zero, hx] at this
              exact this.symm
            | succ j =>
              simp at hu
              have := e2 j u hu
              rwa [show b + 1 + j = b + (j + 1) by omega] at this
theorem nthO_drop {α : Type} : ∀ (p : Nat) (l : List (Option α)) (j : Nat), nthO (dropR p l) j = nthO l (p + j) := by
  intro p
  induction p with
  | zero => intro l j; rw [Nat.zero_add]; rfl
  | succ p ih =>
    intro l j
    cases l with
    | nil => rfl
    | cons x r =>
      rw [show p + 1 + j = (p + j) + 1 by omega, nthO_succ]
      exact ih r j
theorem getB_ok {cs : T V} : ∀ (f o z : Nat) (l : List V), getB cs f o z = some l → HasN cs o z l := by
  intro f
  induction f with
  | zero => intro o z l h; cases h
  | succ f ih =>
    intro o z l h
    have h : colL (dropR (Nat.mod o 4) (cs.chunk (pth (Nat.div o 4)))) (Nat.sub 4 (Nat.mod o 4)) z (fun z => fN (Nat.mul 4 (Nat.succ (Nat.div o 4))) fun o => getB cs f o z) = some l := h
    refine colL_ok _ _ _ o _ _ (fun j hj => ?_) (fun z r hk => ?_) h
    · rw [nthO_drop]
      have hj : j < 4 - o % 4 := hj
      unfold T.at
      have e1 : Nat.div (o + j) 4 = Nat.div o 4 := by show (o + j) / 4 = o / 4; omega
      have e2 : Nat.mod (o + j) 4 = Nat.mod o 4 + j := by show (o + j) % 4 = o % 4 + j; omega
      rw [e1, e2]
    · rw [fN_eq] at hk
      have e : Nat.mul 4 (Nat.succ (Nat.div o 4)) = o + Nat.sub 4 (Nat.mod o 4) := by show 4 * (o / 4 + 1) = o + (4 - o % 4); omega
      rw [e] at hk
      exact ih _ _ _ hk
theorem getN_spec (cs : T V) (z o : Nat) (l : List V) (h : getN cs o z = some l) : l.length = z ∧ ∀ j v, l[j]? = some v → cs.at (o + j) = some v := getB_ok _ _ _ _ h
theorem filK_eq {R : Type} : ∀ (vs : List V) (m : Nat) (l : List (Option V)) (K : List (Option V) → R), filK vs m l K = K (filL vs m l) := by
  intro vs
  induction vs with
  | nil => intro m l K; rfl
  | cons v vs ih =>
    intro m l K
    cases m with
    | zero => rfl
    | succ m =>
      cases l with
      | nil => show filK vs m [] _ = _; rw [ih]; rfl
      | cons x l => show filK vs m l _ = _; rw [ih]; rfl
theorem ovrK_eq {R : Type} (f : List (Option V) → (List (Option V) → R) → R) (g : List (Option V) → List (Option V)) (hf : ∀ l K, f l K = K (g l)) : ∀ (p : Nat) (l : List (Option V)) (K : List (Option V) → R), ovrK p l f K = K (ovrL g p l) := by
  intro p
  induction p with
  | zero => intro l K; exact hf l K
  | succ p ih =>
    intro l K
    cases l with
    | nil => show ovrK p [] f _ = _; rw [ih]; rfl
    | cons x l => show ovrK p l f _ = _; rw [ih]; rfl
theorem putF_eq {R : Type} : ∀ (fu vs : List V) (o : Nat) (cs : T V) (k : T V → R), putF fu vs o cs k = k (putP fu vs o cs) := by
  intro fu
  induction fu with
  | nil => intro vs o cs k; rfl
  | cons x fu ih =>
    intro vs o cs k
    cases vs with
    | nil => rfl
    | cons v vs =>
      show ovrK (Nat.mod o 4) (cs.chunk (pth (Nat.div o 4))) (fun l K => filK (v :: vs) (Nat.sub 4 (Nat.mod o 4)) l K) _ = _
      rw [ovrK_eq _ (filL (v :: vs) (Nat.sub 4 (Nat.mod o 4))) (fun l K => filK_eq _ _ _ _), T0.setK_eq, fN_eq]
      exact ih _ _ _ _
theorem putNK_eq {R : Type} (vs : List V) (o : Nat) (cs : T V) (k : T V → R) : putNK vs o cs k = k (putN vs o cs) := putF_eq vs vs o cs k
theorem nthO_fil : ∀ (vs : List V) (m : Nat) (l : List (Option V)) (i : Nat), nthO (filL vs m l) i = if i < m ∧ i < vs.length then vs[i]? else nthO l i := by
  intro vs
  induction vs with
  | nil => intro m l i; simp [filL]
  | cons v vs ih =>
    intro m l i
    cases m with
    | zero => simp [filL]
    | succ m => cases l <;> cases i <;> simp [filL, nthO_zero, nthO_succ, nthO_nil, ih]
theorem nthO_ovr (g : List (Option V) → List (Option V)) : ∀ (p : Nat) (l : List (Option V)) (i : Nat), nthO (ovrL g p l) i = if i < p then nthO l i else nthO (g (dropR p l)) (i - p) := by
  intro p
  induction p with
  | zero => intro l i; simp only [ovrL, Nat.not_lt_zero, if_false, Nat.sub_zero]; rfl
  | succ p ih =>
    intro l i
    cases l with
    | nil =>
      cases i with
      | zero => simp [ovrL, nthO_zero, nthO_nil]
      | succ i =>
        have hd : ∀ p, dropR p ([] : List (Option V)) = [] := fun p => by cases p <;> rfl
        simp only [ovrL, nthO_succ, ih, nthO_nil, hd]
        by_cases h : i < p <;> simp [h]
    | cons x l =>
      cases i with
      | zero => simp [ovrL, nthO_zero]
      | succ i =>
        have hd : dropR (p + 1) (x :: l) = dropR p l := rfl
        simp only [ovrL, nthO_succ, ih, hd]
        by_cases h : i < p <;> simp [h]
theorem dropR_eq {α : Type} : ∀ (p : Nat) (l : List α), dropR p l = l.drop p := by
  intro p
  induction p with
  | zero => intro l; rfl
  | succ p ih => intro l; cases l with | nil => rfl | cons x r => exact ih r
theorem putP_at : ∀ (fu vs : List V) (o : Nat) (cs : T V) (i : Nat), vs.length ≤ fu.length → (putP fu vs o cs).at i = if o ≤ i ∧ i < o + vs.length then vs[i - o]? else cs.at i := by
  intro fu
  induction fu with
  | nil =>
    intro vs o cs i h
    have : vs = [] := by cases vs with | nil => rfl | cons _ _ => simp at h
    subst this
    rw [if_neg (fun h => by simp at h; omega)]
    rfl
  | cons x fu ih =>
    intro vs o cs i h
    cases vs with
    | nil => rw [if_neg (fun h => by simp at h; omega)]; rfl
    | cons v vs =>
      have hone : ∀ i, T.at (T0.set (some (ovrL (filL (v :: vs) (4 - o % 4)) (o % 4) (cs.chunk (pth (o / 4))))) (pth (o / 4)) cs) i = if o ≤ i ∧ i < o + (v :: vs).length ∧ i / 4 = o / 4 then (v :: vs)[i - o]? else cs.at i := by
        intro i
        unfold T.at
        rw [T.chunk_set]
        by_cases hd : i / 4 = o / 4
        · have hp : pth (Nat.div i 4) = pth (o / 4) := by show pth (i / 4) = _; rw [hd]
          rw [if_pos hp, nthO_ovr]
          have hm : Nat.mod i 4 = i % 4 := rfl
          rw [hm, hp]
          by_cases h1 : i % 4 < o % 4
          · rw [if_pos h1, if_neg (by omega)]
          · rw [if_neg h1, nthO_fil, nthO_drop]
            have e1 : o % 4 + (i % 4 - o % 4) = i % 4 := by omega
            have e2 : i % 4 - o % 4 = i - o := by omega
            rw [e1, e2]
            by_cases h2 : i - o < (v :: vs).length
            · rw [if_pos ⟨by omega, h2⟩, if_pos ⟨by omega, by omega, hd⟩]
            · rw [if_neg (fun h => h2 h.2), if_neg (fun h => h2 (by omega))]
        · have hp : pth (Nat.div i 4) ≠ pth (o / 4) := fun e => hd (pth_inj e)
          rw [if_neg hp, if_neg (fun h => hd h.2.2)]
      show T.at (putP fu (dropR (4 - o % 4) (v :: vs)) (4 * (o / 4 + 1)) _) i = _
      rw [dropR_eq, ih _ _ _ _ (by simp only [List.length_drop, List.length_cons] at h ⊢; omega), hone]
      simp only [List.length_drop, List.getElem?_drop]
      by_cases h1 : 4 * (o / 4 + 1) ≤ i
      · by_cases h2 : i < o + (v :: vs).length
        · rw [if_pos ⟨h1, by omega⟩, if_pos ⟨by omega, h2⟩, show 4 - o % 4 + (i - 4 * (o / 4 + 1)) = i - o by omega]
        · rw [if_neg (fun h => h2 (by omega)), if_neg (fun h => h2 h.2.1), if_neg (fun h => h2 h.2)]
      · rw [if_neg (fun h => h1 h.1)]
        by_cases h2 : o ≤ i ∧ i < o + (v :: vs).length
        · rw [if_pos ⟨h2.1, h2.2, by omega⟩, if_pos h2]
        · rw [if_neg (fun h => h2 ⟨h.1, h.2.1⟩), if_neg h2]
theorem putN_at (vs : List V) (o : Nat) (cs : T V) (i : Nat) : (putN vs o cs).at i = if o ≤ i ∧ i < o + vs.length then vs[i - o]? else cs.at i := putP_at vs vs o cs i (Nat.le_refl _)
theorem allOne_spec : ∀ {vs : List V}, allOne vs = true → ∀ v ∈ vs, v.one = true := by
  intro vs
  induction vs with
  | nil => intro _ v hv; cases hv
  | cons a vs ih =>
    intro h v hv
    have h' : (match a.one with | true => allOne vs | false => false) = true := h
    cases ha : a.one with
    | false => simp [ha] at h'
    | true =>
      simp [ha] at h'
      cases hv with
      | head => exact ha
      | tail _ hv => exact ih h' v hv

section
variable {P : Program} {G : Nat} {S : Nat → Prop} {μ : Nat → Loc} {h : Nat → Option O} {w : World} {n : Nat}

/-- The real block of a row. -/
theorem RH.row (r : RH G S μ h w) {b : Nat} {cs : T V} {len : Nat} {el : TypeId} {fz : Fz} {ro : Bool} (hb : h b = some (.row cs len el fz ro)) :
    S b ∧ ∃ c fr, w.heap[(μ b).blk]? = some (.cells c el fr) ∧ c.size = (μ b).sz ∧ (μ b).sh + len ≤ (μ b).sz ∧ frOk fr (μ b) len fz ∧
      ∀ i v, cs.at i = some v → i < len ∧ ∃ y, c[(μ b).sh + i]? = some y ∧ v.one = true ∧ VR S μ v y := by
  obtain ⟨hS, x, hx, c, fr, rfl, h1, h2, h3, h4⟩ := r.ok b _ hb
  exact ⟨hS, c, fr, hx, h1, h2, h3, h4⟩
theorem cell_of {w : World} {blk o : Nat} {c : Array Value} {el : TypeId} {fr : Nat × Nat} (hx : w.heap[blk]? = some (.cells c el fr)) : w.cell? ⟨blk, o, none⟩ = c[o]? := by
  simp [World.cell?, hx]
theorem RH.cell (r : RH G S μ h w) {b : Nat} {cs : T V} {len : Nat} {el : TypeId} {fz : Fz} {ro : Bool} (hb : h b = some (.row cs len el fz ro)) {i : Nat} {v : V} (hv : cs.at i = some v) :
    ∃ y, w.cell? ⟨(μ b).blk, (μ b).sh + i, none⟩ = some y ∧ v.one = true ∧ VR S μ v y := by
  obtain ⟨_, c, fr, hx, _, _, _, h4⟩ := r.row hb
  obtain ⟨_, y, h1, h2, h3⟩ := h4 i v hv
  exact ⟨y, by rw [cell_of hx]; exact h1, h2, h3⟩
/-- A stretch of a row. -/
theorem RH.range (r : RH G S μ h w) {b : Nat} {cs : T V} {len : Nat} {el : TypeId} {fz : Fz} {ro : Bool} (hb : h b = some (.row cs len el fz ro)) {o z : Nat} {l : List V} (hl : getN cs o z = some l) :
    ∃ xs : List Value, xs.length = z ∧ VRs S μ l xs ∧ w.rangeAt (μ b).blk ((μ b).sh + o) xs ∧ (∀ v ∈ l, v.one = true) := by
  obtain ⟨hlen, hat⟩ := getN_spec cs z o l hl
  have hc : ∀ j (hj : j < l.length), ∃ y, w.cell? ⟨(μ b).blk, (μ b).sh + (o + j), none⟩ = some y ∧ l[j].one = true ∧ VR S μ l[j] y := fun j hj =>
    r.cell hb (hat j l[j] (by simp [hj]))
  refine ⟨(List.range z).map fun j => (w.cell? ⟨(μ b).blk, (μ b).sh + (o + j), none⟩).getD undef, by simp, VRs.of (by simp [hlen]) fun i v hv => ?_, fun j v hv => ?_, fun v hv => ?_⟩
  · have hi : i < l.length := (List.getElem?_eq_some_iff.1 hv).1
    obtain ⟨y, h1, _, h2⟩ := hc i hi
    have e : l[i] = v := (List.getElem?_eq_some_iff.1 hv).2
    refine ⟨y, ?_, e ▸ h2⟩
    rw [List.getElem?_map, List.getElem?_range (by omega)]
    simp [h1]
  · have hj : j < z := by
      rcases Nat.lt_or_ge j z with a | a
      · exact a
      · rw [List.getElem?_eq_none (by simp; omega)] at hv; cases hv
    obtain ⟨y, h1, _, _⟩ := hc j (by omega)
    rw [List.getElem?_map, List.getElem?_range hj] at hv
    simp [h1] at hv
    rw [Nat.add_assoc, h1, hv]
  · obtain ⟨j, hj, rfl⟩ := List.getElem_of_mem hv
    exact (hc j hj).choose_spec.2.1
end

/-! ### Loads -/
noncomputable section
def szOf (P : Program) (t : TypeId) : Option Nat := (P.info? t).map (·.size)
def rowT (P : Program) (t : TypeId) : Option Bool := (P.underlying t).map (·.isRow)
def eLoad (P : Program) (H : T O) (t : TypeId) (v : V) : Option V :=
  match v with
  | .p b o => match H.at b with
    | some (.row cs _ _ _ _) => match rowT P t with
      | some true => match szOf P t with
        | some z => match getN cs o z with | some l => some (.a l) | none => none
        | none => none
      | some false => cs.at o
      | none => none
    | _ => none
  | _ => none
end
theorem loadVar_atom {P : Program} {w : World} {t : TypeId} {d : TypeDesc} (hu : P.underlying t = some d) (hd : d.isRow = false) (a : Addr) (y : Value) (hc : w.cell? a = some y) : (loadVar t a).run P w = .ok y w := by
  have : (isAgg t).run P w = .ok false w := by
    unfold isAgg
    rw [Sem.run_bind, run_underlying hu w]
    cases d <;> simp_all
  simp [loadVar, this, hc]
section
variable {P : Program} {G : Nat} {S : Nat → Prop} {μ : Nat → Loc} {w : World} {n : Nat}
theorem eLoad_ok {H : T O} {t : TypeId} {v u : V} {x : Value} (he : eLoad P H t v = some u) (r : RH G S μ H.at w) (hv : VR S μ v x) : ∃ y, (Instr.loadAt t x).run P w = .ok y w ∧ VR S μ u y := by
  cases hv <;> try (simp [eLoad] at he; done)
  rename_i b o hS
  simp only [eLoad] at he
  split at he
  · rename_i cs len el fz ro hb
    split at he
    · rename_i hrow
      split at he
      · rename_i z hz
        split at he
        · rename_i l hl
          injection he with he
          subst he
          obtain ⟨xs, h1, h2, h3, _⟩ := RH.range r hb hl
          simp only [rowT, Option.map_eq_some_iff] at hrow
          obtain ⟨d, hu, hd⟩ := hrow
          exact ⟨_, run_loadAt_mid w _ _ t xs d h3 hu hd (by rw [h1]; exact hz), .a _ _ h2⟩
        · cases he
      · cases he
    · rename_i hrow
      simp only [rowT, Option.map_eq_some_iff] at hrow
      obtain ⟨d, hu, hd⟩ := hrow
      obtain ⟨y, h1, _, h2⟩ := RH.cell r hb he
      exact ⟨y, by simp [Instr.loadAt, Instr.sureAddr, loadVar_atom hu hd _ y h1], h2⟩
    · cases he
  · cases he
end

/-! ### Stores -/
noncomputable section
/-- Cells stored into a row, from o on. -/
def putRow (H : T O) (b o : Nat) (vs : List V) : Option (T O) :=
  match H.at b with
  | some (.row cs len el fz false) =>
    match Nat.ble (o + vs.length) len && Nat.ble fz.n o && allOne vs with
    | true => putNK vs o cs fun cs => H.putK b (some (.row cs len el fz false)) some
    | false => none
  | _ => none
def eStore (P : Program) (H : T O) (t : TypeId) (p v : V) : Option (T O) :=
  match p with
  | .p b o => match szOf P t with
    | some z => match Nat.beq v.cells.length z with
      | true => putRow H b o v.cells
      | false => none
    | none => none
  | _ => none
end
theorem putRow_spec {H H' : T O} {b o : Nat} {vs : List V} (h : putRow H b o vs = some H') :
    ∃ cs len el fz, H.at b = some (.row cs len el fz false) ∧ o + vs.length ≤ len ∧ fz.n ≤ o ∧ (∀ v ∈ vs, v.one = true) ∧ H' = H.put b (some (.row (putN vs o cs) len el fz false)) := by
  unfold putRow at h
  split at h
  · rename_i cs len el fz hb
    split at h
    · rename_i hc
      simp only [Bool.and_eq_true, Nat.ble_eq] at hc
      rw [putNK_eq, T.putK_eq] at h
      injection h with h
      exact ⟨cs, len, el, fz, hb, hc.1.1, hc.1.2, allOne_spec hc.2, h.symm⟩
    · cases h
  · cases h
theorem frOk.free {fr : Nat × Nat} {l : Loc} {len : Nat} {fz : Fz} {o : Nat} (h : frOk fr l len fz) (ho : fz.n ≤ o) (hl : l.sh + o < l.sz) : (decide (fr.1 ≤ l.sh + o) && decide (l.sh + o < fr.2)) = false := by
  have := h.2.2 (l.sh + o) (by omega) hl
  simp
  omega

section
variable {P : Program} {G : Nat} {S : Nat → Prop} {μ : Nat → Loc} {w : World} {n : Nat}
/-- The cells of a row may be written. -/
theorem RH.there {h : Nat → Option O} (r : RH G S μ h w) {b : Nat} {cs : T V} {len : Nat} {el : TypeId} {fz : Fz} {ro : Bool} (hb : h b = some (.row cs len el fz ro)) {o k : Nat} (ho : (μ b).sh + o + k ≤ (μ b).sz) (hf : fz.n ≤ o) :
    w.there (μ b).blk ((μ b).sh + o) k := by
  obtain ⟨_, c, fr, hx, h1, _, h3, _⟩ := r.row hb
  intro j hj
  constructor
  · rw [cell_of hx, Array.getElem?_eq_getElem (by omega)]
    rfl
  · unfold World.frozen?
    rw [hx]
    have := h3.free (o := o + j) (by omega) (by omega)
    rw [← Nat.add_assoc] at this
    exact this
/-- A row whose cells have been stored into. -/
theorem OR.put {b : Nat} {cs : T V} {len : Nat} {el : TypeId} {fz : Fz} {c c' : Array Value} {fr : Nat × Nat} (h1 : c.size = (μ b).sz) (h2 : (μ b).sh + len ≤ (μ b).sz) (h3 : frOk fr (μ b) len fz)
    (h4 : ∀ i v, cs.at i = some v → i < len ∧ ∃ y, c[(μ b).sh + i]? = some y ∧ v.one = true ∧ VR S μ v y) {vs : List V} {xs : List Value} {o : Nat} (hvs : VRs S μ vs xs) (hone : ∀ v ∈ vs, v.one = true) (ho : o + vs.length ≤ len)
    (hsz : c'.size = c.size) (hc' : ∀ i, c'[i]? = if (μ b).sh + o ≤ i ∧ i < (μ b).sh + o + xs.length then xs[i - ((μ b).sh + o)]? else c[i]?) : OR S μ (μ b) (.cells c' el fr) (.row (putN vs o cs) len el fz false) := by
  refine ⟨c', fr, rfl, by omega, h2, h3, fun i v hv => ?_⟩
  rw [putN_at] at hv
  have hl := hvs.length
  split at hv
  · rename_i hi
    obtain ⟨y, hy, hr⟩ := hvs.at _ _ hv
    refine ⟨by omega, y, ?_, hone v (List.mem_of_getElem? hv), hr⟩
    rw [hc', if_pos (by omega), show (μ b).sh + i - ((μ b).sh + o) = i - o by omega]
    exact hy
  · rename_i hi
    obtain ⟨hlt, y, hy, hr⟩ := h4 i v hv
    refine ⟨hlt, y, ?_, hr⟩
    rw [hc', if_neg (by omega)]
    exact hy
theorem VRs.oneCell {vs : List V} {xs : List Value} (h : VRs S μ vs xs) (hone : ∀ v ∈ vs, v.one = true) : ∀ x ∈ xs, x.oneCell' = true := by
  induction vs generalizing xs with
  | nil => cases h; intro x hx; cases hx
  | cons v vs ih =>
    cases h with
    | cons h hs =>
      intro x hx
      cases hx with
      | head => rw [h.one]; exact hone v (by simp)
      | tail _ hx => exact ih hs (fun u hu => hone u (by simp [hu])) x hx
theorem putRow_ok {H H' : T O} {b o : Nat} {vs : List V} {xs : List Value} (he : putRow H b o vs = some H') (r : RH G S μ H.at w) (hv : VRs S μ vs xs) :
    w.there (μ b).blk ((μ b).sh + o) xs.length ∧ (∀ x ∈ xs, x.oneCell' = true) ∧ RH G S μ H'.at (w.setCells (μ b).blk ((μ b).sh + o) xs) ∧ Go S μ H.at w n S μ H'.at (w.setCells (μ b).blk ((μ b).sh + o) xs) n := by
  obtain ⟨cs, len, el, fz, hb, h1, h2, h3, rfl⟩ := putRow_spec he
  obtain ⟨hS, c, fr, hx, g1, g2, g3, g4⟩ := r.row hb
  have hl := hv.length
  refine ⟨r.there hb (by omega) h2, hv.oneCell h3, ?_⟩
  obtain ⟨c', k1, k2, k3⟩ := setCells_block (μ b).blk el fr xs ((μ b).sh + o) w c hx (by omega)
  rw [at_put1]
  exact r.upd hb rfl _ _ (OR.put g1 g2 g3 g4 hv h3 h1 k2 k3) (World.os_setCells _ _ _ _) (setCells_tape _ _ _ _) (World.output_setCells _ _ _ _) (setCells_size _ _ _ _) k1
    (fun k hk hne => World.heap_setCells_other _ _ _ _ hk hne)
theorem VR.cells {v : V} {x : Value} (h : VR S μ v x) : VRs S μ v.cells x.cells.toList ∨ (∃ y, v = .g y) := by
  cases h with
  | g => exact .inr ⟨_, rfl⟩
  | a vs cs h => exact .inl h
  | i => exact .inl (.cons (.i _ _) .nil)
  | b => exact .inl (.cons (.b _) .nil)
  | str l h => exact .inl (.cons (.str _ h) .nil)
  | p b o h => exact .inl (.cons (.p b o h) .nil)
  | s b o len cap z op cap' h hl hc he hs => exact .inl (.cons (.s b o len cap z op cap' h hl hc he hs) .nil)
  | m b h => exact .inl (.cons (.m b h) .nil)
  | f fn caps cs h => exact .inl (.cons (.f fn caps cs h) .nil)
  | t vs cs h => exact .inl (.cons (.t vs cs h) .nil)
  | it t v x h => exact .inl (.cons (.it t v x h) .nil)
  | y l h => exact .inl (.cons (.y l h) .nil)
  | e A c => exact .inl (.cons (.e A c) .nil)
  | n x h => exact .inl (.cons (.n x h) .nil)
theorem VR.cells' {v : V} {x : Value} (h : VR S μ v x) (hone : ∀ u ∈ v.cells, u.one = true) : VRs S μ v.cells x.cells.toList := by
  rcases h.cells with h1 | ⟨y, rfl⟩
  · exact h1
  · have hyx : x = y := by cases h; rfl
    subst hyx
    have := hone (.g x) (by simp [V.cells])
    simp [V.one] at this
    have e : x.cells = #[x] := by cases x <;> simp_all [Value.cells, Value.oneCell']
    rw [e]
    exact .cons (.g _) .nil
theorem eStore_ok {H H' : T O} {t : TypeId} {p v : V} {x y : Value} (he : eStore P H t p v = some H') (r : RH G S μ H.at w) (hp : VR S μ p x) (hv : VR S μ v y) :
    ∃ w', (Instr.storeAt t x y).run P w = .ok () w' ∧ RH G S μ H'.at w' ∧ Go S μ H.at w n S μ H'.at w' n := by
  cases hp <;> try (simp [eStore] at he; done)
  rename_i b o hS
  simp only [eStore] at he
  split at he
  · rename_i z hz
    split at he
    · rename_i hc
      have hz' := Nat.eq_of_beq_eq_true hc
      obtain ⟨cs, len, el, fz, hb, h1, h2, h3, _⟩ := putRow_spec he
      have hvs := hv.cells' h3
      obtain ⟨k1, k2, k3, k4⟩ := putRow_ok (n := n) he r hvs
      have hl := hvs.length
      refine ⟨_, ?_, k3, k4⟩
      have := run_storeCells_cells (P := P) (μ b).blk ((μ b).sh + o) y.cells.toList 0 w (fun j hj => by simpa using (k1 j (by simpa using hj)).1) (fun j hj => by simpa using (k1 j (by simpa using hj)).2) k2
      simp only [Nat.add_zero] at this
      cases hq : P.info? t with
      | none => simp [szOf, hq] at hz
      | some i =>
        have hs : y.cells.size = i.size := by simp [szOf, hq] at hz; simp at hl; omega
        simp [Instr.storeAt, Instr.sureAddr, storeVar, sizeOf, typeInfo, hq, hs, this]
    · cases he
  · cases he
end
end Ev
end Go.Proofs.YtmlhijlcefogmaaGreatDoor
