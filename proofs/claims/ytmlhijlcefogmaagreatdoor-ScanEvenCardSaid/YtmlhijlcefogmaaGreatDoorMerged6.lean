/-
  Ids and keys as cells: what a value of such a type holds, read as data; loads and stores of several cells at once. Over any program; conditions as each says.
  Lists of ids: their cells, whether they are a set, where an id stands in one. No conditions; no program.
  Lists of data as a slice's cells, each element some cells wide; such a slice read from what came in. Over any program; conditions as each says.
  A script as edits: what is kept. No conditions; no program.
-/
import Derived.Test.YtmlhijlcefogmaaGreatDoorKeySpec
import Derived.Test.YtmlhijlcefogmaaGreatDoorMerged2
import Derived.OpenShut
import Derived.Deep.Slices
import Derived.Deep.Fields
import Derived.StillTailTactics
import Derived.Test.YtmlhijlcefogmaaGreatDoorMerged5
set_option linter.unusedVariables false
namespace Go.Proofs.YtmlhijlcefogmaaGreatDoor
open Go.RowKit

/-- An id's cells; a key's. -/
def idV (l : List UInt8) : List Value := l.map fun b => Value.int .u8 (b.toNat : Int)
def IdOk (l : List UInt8) : Prop := l.length = 32
theorem idV_length (l : List UInt8) : (idV l).length = l.length := by simp [idV]
theorem idV_one (l : List UInt8) : ∀ u ∈ idV l, u.oneCell' = true := by
  intro u hu
  obtain ⟨b, _, rfl⟩ := List.mem_map.1 hu
  rfl
section
variable {H : Type} {enc : TypeId × Value → H} {P : Program} {w : World} {base : Nat} {spare : Nat → Bool} {held : Bool} {fuel : Nat} {cs : List Value} {x : DataW H × List MemPlace}

end

/-- A load of several cells at once. -/
theorem run_loadN {P : Program} (w : World) (b off : Nat) (ty : TypeId) (cs : List Value) (d : TypeDesc) (hc : ∀ j u, cs[j]? = some u → w.cell? ⟨b, off + j, none⟩ = some u)
    (hu : P.underlying ty = some d) (hd : (match d with | .struct _ | .array _ _ => true | _ => false) = true) (hi : (P.info? ty).map (·.size) = some cs.length) :
    (loadVar ty ⟨b, off, none⟩).run P w = .ok (.agg cs.toArray) w := by
  have hl : (loadCells ⟨b, off, none⟩ cs.length).run P w = .ok cs.toArray w :=
    run_loadCells_list (P := P) w ⟨b, off, none⟩ cs (fun j v hv => by
      have hadd : (⟨b, off, none⟩ : Addr).add j = ⟨b, off + j, none⟩ := by unfold Addr.add; split <;> simp_all
      rw [hadd]
      exact hc j v hv)
  cases hq : P.info? ty with
  | none => simp [hq] at hi
  | some i =>
    have hs : i.size = cs.length := by simpa [hq] using hi
    have hagg : (isAgg ty).run P w = .ok true w := by
      unfold isAgg
      rw [Sem.run_bind, run_underlying hu w]
      cases d <;> simp_all
    simp [loadVar, Sem.run_bind, hagg, sizeOf, typeInfo, hq, hs, hl]
theorem wp_loadN {P : Program} {ops : Array Oper} {rest : List Oper} {o : Oper} {a : Act} {w : World} {Q : Exit → Act → World → Prop} (hgd : o.guard = none) (ty : TypeId) (x : Operand) (ho : o.op = .load ty x)
    (b off : Nat) (hx : a.eval x = .pointer (some ⟨b, off, none⟩)) (cs : List Value) (d : TypeDesc) (hc : ∀ j u, cs[j]? = some u → w.cell? ⟨b, off + j, none⟩ = some u)
    (hu : P.underlying ty = some d) (hd : (match d with | .struct _ | .array _ _ => true | _ => false) = true) (hi : (P.info? ty).map (·.size) = some cs.length)
    (h : wpList P ops Q rest (a.put o.dst (.agg cs.toArray)) w) : wpList P ops Q (o :: rest) a w :=
  wpList_plain hgd fun K hK => by
    have := hK _ _ h
    unfold Oper.wp execOp
    simp only [ho, hx, Instr.loadAt, Instr.sureAddr, Sem.run_bind, Sem.run_pure, Result.andThen_ok, run_loadN w b off ty cs d hc hu hd hi]
    exact this
end Go.Proofs.YtmlhijlcefogmaaGreatDoor
namespace Go.Proofs.YtmlhijlcefogmaaGreatDoor
open Go.RowKit

def idsV (l : List (List UInt8)) : List Value := l.flatMap idV
def IdsOk (l : List (List UInt8)) : Prop := ∀ i ∈ l, IdOk i
theorem IdsOk.tail {a : List UInt8} {l : List (List UInt8)} (h : IdsOk (a :: l)) : IdsOk l := fun i hi => h i (by simp [hi])
theorem IdsOk.sub {a b : List (List UInt8)} (h : IdsOk b) (hs : ∀ i ∈ a, i ∈ b) : IdsOk a := fun i hi => h i (hs i hi)
theorem IdsOk.app {a b : List (List UInt8)} (ha : IdsOk a) (hb : IdsOk b) : IdsOk (a ++ b) := fun i hi => (List.mem_append.1 hi).elim (ha i) (hb i)
theorem idsV_get : ∀ {l : List (List UInt8)}, IdsOk l → ∀ (i : Nat) (h : i < l.length) (j : Nat) (u : Value), (idV l[i])[j]? = some u → (idsV l)[i * 32 + j]? = some u
  | [], _, _, h, _, _, _ => by cases h
  | a :: l, ho, 0, _, j, u, hj => by
    have h1 : (idV a).length = 32 := by rw [idV_length]; exact ho a (by simp)
    have hlt := (List.getElem?_eq_some_iff.1 hj).1
    simp only [idsV, List.flatMap_cons, Nat.zero_mul, Nat.zero_add]
    rw [List.getElem?_append_left (by simpa using hlt)]
    exact hj
  | a :: l, ho, i + 1, h, j, u, hj => by
    have h1 : (idV a).length = 32 := by rw [idV_length]; exact ho a (by simp)
    have := idsV_get ho.tail i (by simpa using h) j u (by simpa using hj)
    simp only [idsV, List.flatMap_cons] at this ⊢
    rw [List.getElem?_append_right (by omega), h1, show (i + 1) * 32 + j - 32 = i * 32 + j by omega]
    exact this

theorem Sl.id {w : World} {B b off : Nat} {l : List (List UInt8)} (ho : IdsOk l) (h : ∀ j u, (idsV l)[j]? = some u → w.cell? ⟨b, off + j, none⟩ = some u) {i : Nat} (hi : i < l.length) : ∀ j u, (idV l[i])[j]? = some u → w.cell? ⟨b, off + i * 32 + j, none⟩ = some u := by
  intro j u hj
  rw [Nat.add_assoc]
  exact h _ _ (idsV_get ho i hi j u hj)

/-- Do ids rise strictly? -/
def isSetB : List (List UInt8) → Bool
  | a :: b :: r => decide (cmpB a b < 0) && isSetB (b :: r)
  | _ => true
theorem isSetB_iff : ∀ {l : List (List UInt8)}, isSetB l = true ↔ ∀ i (h : i + 1 < l.length), cmpB (l[i]'(by omega)) l[i + 1] < 0
  | [] => by simp [isSetB]
  | [a] => by simp [isSetB]
  | a :: b :: r => by
    rw [isSetB, Bool.and_eq_true, decide_eq_true_eq, isSetB_iff (l := b :: r)]
    constructor
    · rintro ⟨h1, h2⟩ i hi
      cases i with
      | zero => exact h1
      | succ i => exact h2 i (by simpa using hi)
    · intro h
      exact ⟨h 0 (by simp), fun i hi => h (i + 1) (by simpa using hi)⟩
theorem isSetB_pair {l : List (List UInt8)} (h : isSetB l = true) : l.Pairwise fun a b => cmpB a b < 0 := by
  induction l with
  | nil => exact List.Pairwise.nil
  | cons a l ih =>
    rw [List.pairwise_cons]
    have ht : isSetB l = true := by
      cases l with
      | nil => rfl
      | cons b r => rw [isSetB, Bool.and_eq_true] at h; exact h.2
    refine ⟨?_, ih ht⟩
    intro x hx
    cases l with
    | nil => cases hx
    | cons b r =>
      rw [isSetB, Bool.and_eq_true, decide_eq_true_eq] at h
      rcases List.mem_cons.1 hx with rfl | hx
      · exact h.1
      · exact cmpB_trans h.1 ((List.pairwise_cons.1 (ih ht)).1 x hx)
theorem isSetB_of_pair {l : List (List UInt8)} (h : l.Pairwise fun a b => cmpB a b < 0) : isSetB l = true := by
  rw [isSetB_iff]
  intro i hi
  exact (List.pairwise_iff_getElem.1 h) i (i + 1) (by omega) hi (by omega)

end Go.Proofs.YtmlhijlcefogmaaGreatDoor
namespace Go.Proofs.YtmlhijlcefogmaaGreatDoor
open Go.RowKit Go.ChangeShapes Go.WideShapes Go.ChangeAt

section
variable {α : Type} {enc : α → List Value} {sz : Nat}
def rowsV (enc : α → List Value) (l : List α) : List Value := l.flatMap enc
theorem rowsV_length : ∀ {l : List α}, (∀ x ∈ l, (enc x).length = sz) → (rowsV enc l).length = l.length * sz
  | [], _ => by simp [rowsV]
  | a :: l, h => by
    have h1 := h a (by simp)
    have h2 := rowsV_length (l := l) fun x hx => h x (by simp [hx])
    simp only [rowsV, List.flatMap_cons, List.length_append, List.length_cons] at h2 ⊢
    rw [h1, h2, Nat.add_mul]; omega
theorem rowsV_get : ∀ {l : List α}, (∀ x ∈ l, (enc x).length = sz) → ∀ (i : Nat) (h : i < l.length) (j : Nat) (u : Value), (enc l[i])[j]? = some u → (rowsV enc l)[i * sz + j]? = some u
  | [], _, _, h, _, _, _ => by cases h
  | a :: l, ho, 0, _, j, u, hj => by
    have h1 : (enc a).length = sz := ho a (by simp)
    have hlt := (List.getElem?_eq_some_iff.1 hj).1
    simp only [rowsV, List.flatMap_cons, Nat.zero_mul, Nat.zero_add]
    rw [List.getElem?_append_left (by simpa using hlt)]
    exact hj
  | a :: l, ho, i + 1, h, j, u, hj => by
    have h1 : (enc a).length = sz := ho a (by simp)
    have := rowsV_get (l := l) (fun x hx => ho x (by simp [hx])) i (by simpa using h) j u (by simpa using hj)
    simp only [rowsV, List.flatMap_cons] at this ⊢
    rw [List.getElem?_append_right (by rw [h1, Nat.add_mul]; omega), h1, show (i + 1) * sz + j - sz = i * sz + j by rw [Nat.add_mul]; omega]
    exact this
theorem Sl.row {w : World} {b off : Nat} {l : List α} (ho : ∀ x ∈ l, (enc x).length = sz) (h : ∀ j u, (rowsV enc l)[j]? = some u → w.cell? ⟨b, off + j, none⟩ = some u) {i : Nat} (hi : i < l.length) : ∀ j u, (enc l[i])[j]? = some u → w.cell? ⟨b, off + i * sz + j, none⟩ = some u := by
  intro j u hj
  rw [Nat.add_assoc]
  exact h _ _ (rowsV_get ho i hi j u hj)
end

end Go.Proofs.YtmlhijlcefogmaaGreatDoor
namespace Go.Proofs.YtmlhijlcefogmaaGreatDoor

abbrev EdD := Nat × Nat × ByteArray
def edV (x : EdD) : List Value := [.int .i64 (x.1 : Int), .int .i64 (x.2.1 : Int), .string x.2.2]
theorem edV_length (x : EdD) : (edV x).length = 3 := rfl
theorem edV_one (x : EdD) : ∀ u ∈ edV x, u.oneCell' = true := by
  intro u hu
  simp only [edV, List.mem_cons, List.not_mem_nil, or_false] at hu
  rcases hu with rfl | rfl | rfl <;> rfl
def noneE : ByteArray := ⟨#[]⟩
def edZ : EdD := (0, 0, noneE)
/-- How much edits keep. -/
def keepE (l : List EdD) : Nat := (l.map (·.1)).sum
/-- How many moves keep. -/
def onesN (l : List Nat) : Nat := (l.map fun m => if m = 1 then 1 else 0).sum
theorem onesN_next {l : List Nat} {i : Nat} (h : i < l.length) : onesN (l.take (i + 1)) = onesN (l.take i) + if l[i] = 1 then 1 else 0 := by
  unfold onesN
  rw [List.take_succ_eq_append_getElem h, List.map_append, List.sum_append]
  simp
theorem onesN_le (l : List Nat) : onesN l ≤ l.length := by
  unfold onesN
  induction l with
  | nil => simp
  | cons x l ih => simp only [List.map_cons, List.sum_cons, List.length_cons]; split <;> omega
/-- What edits hold behind some moves. -/
def EdOk (M : List Nat) (i : Nat) (l : List EdD) : Prop := (0 < i → l ≠ []) ∧ (∀ x ∈ l, x.1 ≤ i ∧ x.2.1 ≤ i ∧ x.2.2.size ≤ 4 * i) ∧ keepE l = onesN (M.take i) ∧ l.length ≤ i
theorem EdOk.start (M : List Nat) : EdOk M 0 [] := ⟨fun h => by omega, by simp, rfl, Nat.le_refl _⟩
theorem keepE_snoc (l : List EdD) (x : EdD) : keepE (l ++ [x]) = keepE l + x.1 := by simp [keepE]
/-- Edits that are there, the last one by itself. -/
theorem EdOk.last {M : List Nat} {i : Nat} {l : List EdD} (h : EdOk M i l) (hi : 0 < i) : ∃ p x, l = p ++ [x] := by
  rcases List.eq_nil_or_concat l with e | ⟨p, x, e⟩
  · exact absurd e (h.1 hi)
  · exact ⟨p, x, by simpa using e⟩
/-- A move, behind the edits p and the last one, which may be new. -/
theorem EdOk.next {M : List Nat} {i : Nat} {p : List EdD} {x y : EdD} (hi : i < M.length) (h : (∀ z ∈ p ++ [x], z.1 ≤ i ∧ z.2.1 ≤ i ∧ z.2.2.size ≤ 4 * i) ∧ keepE (p ++ [x]) = onesN (M.take i) ∧ p.length ≤ i) (hk : y.1 = x.1 + if M[i] = 1 then 1 else 0) (hd : y.2.1 ≤ x.2.1 + 1) (hs : y.2.2.size ≤ x.2.2.size + 4) :
    EdOk M (i + 1) (p ++ [y]) := by
  obtain ⟨h1, h2, h3⟩ := h
  refine ⟨fun _ => by simp, fun z hz => ?_, ?_, by simp; omega⟩
  · rcases List.mem_append.1 hz with hz | hz
    · have := h1 z (List.mem_append_left _ hz); omega
    · rw [List.mem_singleton] at hz
      subst hz
      have := h1 x (by simp)
      have : (if M[i] = 1 then 1 else 0) ≤ 1 := by split <;> omega
      omega
  · rw [keepE_snoc] at h2 ⊢
    rw [onesN_next hi, ← h2, hk]
    omega
theorem EdOk.fresh {M : List Nat} {i : Nat} {l : List EdD} (h : EdOk M i l) : (∀ z ∈ l ++ [edZ], z.1 ≤ i ∧ z.2.1 ≤ i ∧ z.2.2.size ≤ 4 * i) ∧ keepE (l ++ [edZ]) = onesN (M.take i) ∧ l.length ≤ i := by
  refine ⟨fun z hz => ?_, by rw [keepE_snoc]; exact h.2.2.1, h.2.2.2⟩
  rcases List.mem_append.1 hz with hz | hz
  · exact h.2.1 z hz
  · rw [List.mem_singleton] at hz
    subst hz
    exact ⟨Nat.zero_le _, Nat.zero_le _, Nat.zero_le _⟩
theorem EdOk.same {M : List Nat} {i : Nat} {p : List EdD} {x : EdD} (h : EdOk M i (p ++ [x])) : (∀ z ∈ p ++ [x], z.1 ≤ i ∧ z.2.1 ≤ i ∧ z.2.2.size ≤ 4 * i) ∧ keepE (p ++ [x]) = onesN (M.take i) ∧ p.length ≤ i :=
  ⟨h.2.1, h.2.2.1, by have := h.2.2.2; simp at this; omega⟩
/-- The next move of a script. -/
theorem diff_step {a b : List Int} {i : Nat} (hi : i < (movesS a b).length) : (placeS (movesS a b) i).2 ≤ b.length ∧
    (((movesS a b)[i] = 1 ∧ (placeS (movesS a b) (i + 1)).2 = (placeS (movesS a b) i).2 + 1) ∨ ((movesS a b)[i] = 2 ∧ (placeS (movesS a b) (i + 1)).2 = (placeS (movesS a b) i).2) ∨
    ((movesS a b)[i] = 3 ∧ (placeS (movesS a b) i).2 < b.length ∧ (placeS (movesS a b) (i + 1)).2 = (placeS (movesS a b) i).2 + 1)) := by
  obtain ⟨h1, h2, h3⟩ := place_at (a := a) (b := b) i (by omega)
  have hp : placeS (movesS a b) (i + 1) = nextAtM ((movesS a b).getD i 0) (placeS (movesS a b) i) := rfl
  have hg : (movesS a b).getD i 0 = (movesS a b)[i] := by rw [List.getD_eq_getElem?_getD, List.getElem?_eq_getElem hi]; rfl
  rw [hp]
  rw [List.drop_eq_getElem_cons hi] at h3
  rw [hg]
  generalize placeS (movesS a b) i = p at *
  generalize (movesS a b)[i] = m at *
  refine ⟨h2, ?_⟩
  rcases mv_case p.1 p.2 h1 h2 with ⟨_, _, e⟩ | ⟨r, e, _, q1, q2, _⟩ | ⟨r, e, _, q1⟩ | ⟨r, e, _, q1⟩
  · rw [e] at h3; cases h3
  · rw [e] at h3; injection h3 with h3 _; subst h3; exact .inl ⟨rfl, rfl⟩
  · rw [e] at h3; injection h3 with h3 _; subst h3; exact .inr (.inl ⟨rfl, rfl⟩)
  · rw [e] at h3; injection h3 with h3 _; subst h3; exact .inr (.inr ⟨rfl, q1, rfl⟩)
/-- What is kept the other way round is as much. -/
theorem ones_cost : ∀ (s : Nat) (a b : List Int), a.length + b.length ≤ s → 2 * onesN (movesS a b) + costL a b = a.length + b.length
  | s, [], b, _ => by
    rw [movesS, cost_nil]
    have h : onesN (List.replicate b.length 3) = 0 := by simp [onesN]
    rw [h]; simp
  | s, c :: a, [], h => by
    rw [moves_nil', cost_nil']
    have h : onesN (List.replicate (c :: a).length 2) = 0 := by simp [onesN]
    rw [h]; simp
  | s, c :: a, e :: b, h => by
    simp at h
    rw [movesS]
    by_cases hce : c = e
    · subst hce
      have ih := ones_cost (s - 2) a b (by omega)
      rw [if_pos rfl, cost_eq]
      simp only [onesN, List.map_cons, List.sum_cons, List.length_cons] at ih ⊢
      rw [if_pos trivial]; omega
    · have ih1 := ones_cost (s - 1) a (e :: b) (by simp; omega)
      have ih2 := ones_cost (s - 1) (c :: a) b (by simp; omega)
      rw [if_neg hce, cost_ne hce]
      split
      · simp only [onesN, List.map_cons, List.sum_cons, List.length_cons] at ih1 ⊢
        rw [if_neg (by decide)]; omega
      · simp only [onesN, List.map_cons, List.sum_cons, List.length_cons] at ih2 ⊢
        rw [if_neg (by decide)]; omega
theorem cost_symm : ∀ (s : Nat) (a b : List Int), a.length + b.length ≤ s → costL a b = costL b a
  | s, [], b, _ => by rw [cost_nil, cost_nil']
  | s, c :: a, [], _ => by rw [cost_nil, cost_nil']
  | s, c :: a, e :: b, h => by
    simp at h
    by_cases hce : c = e
    · subst hce
      rw [cost_eq, cost_eq]
      exact cost_symm (s - 2) a b (by omega)
    · rw [cost_ne hce, cost_ne (fun q => hce q.symm), cost_symm (s - 1) a (e :: b) (by simp; omega), cost_symm (s - 1) (c :: a) b (by simp; omega), Nat.min_comm]
theorem ones_symm (a b : List Int) : onesN (movesS a b) = onesN (movesS b a) := by
  have h1 := ones_cost _ a b (Nat.le_refl _)
  have h2 := ones_cost _ b a (Nat.le_refl _)
  have h3 := cost_symm _ a b (Nat.le_refl _)
  omega
theorem ones_half (a b : List Int) : 2 * onesN (movesS a b) ≤ a.length + b.length := by
  have h1 := ones_cost _ a b (Nat.le_refl _)
  omega
theorem ones_same (a : List Int) : onesN (movesS a a) = a.length := by
  rw [moves_same]
  simp [onesN]
end Go.Proofs.YtmlhijlcefogmaaGreatDoor
