/-
  How much two rows differ: the least number of elements to drop and to add. No conditions; no program.
-/
import Derived.Lib.SplitLaws
namespace Go.Proofs.YthjaepmfkgejkaaDoor
set_option linter.unusedVariables false

def costL : List Int → List Int → Nat
  | [], y => y.length
  | a :: x, [] => x.length + 1
  | a :: x, b :: y => if a = b then costL x y else 1 + min (costL x (b :: y)) (costL (a :: x) y)
termination_by x y => x.length + y.length
theorem cost_nil (y : List Int) : costL [] y = y.length := by unfold costL; rfl
theorem cost_nil' (x : List Int) : costL x [] = x.length := by cases x <;> (unfold costL; rfl)
theorem cost_eq (a : Int) (x y : List Int) : costL (a :: x) (a :: y) = costL x y := by rw [costL, if_pos rfl]
theorem cost_ne {a b : Int} (h : a ≠ b) (x y : List Int) : costL (a :: x) (b :: y) = 1 + min (costL x (b :: y)) (costL (a :: x) y) := by rw [costL, if_neg h]
theorem cost_lip : ∀ (s : Nat) (x y : List Int), x.length + y.length ≤ s → (∀ a, costL x y ≤ costL (a :: x) y + 1 ∧ costL (a :: x) y ≤ costL x y + 1) ∧ (∀ b, costL x y ≤ costL x (b :: y) + 1 ∧ costL x (b :: y) ≤ costL x y + 1)
  | s, [], y, hs => by
    refine ⟨fun a => ?_, fun b => by rw [cost_nil, cost_nil, List.length_cons]; omega⟩
    cases y with
    | nil => rw [cost_nil, cost_nil']; simp
    | cons b y =>
      rw [cost_nil, List.length_cons]
      by_cases h : a = b
      · subst h; rw [cost_eq, cost_nil]; omega
      · rw [cost_ne h, cost_nil, List.length_cons]
        have ih := cost_lip (s - 1) [] y (by simp at hs ⊢; omega)
        have := (ih.1 a)
        rw [cost_nil] at this
        omega
  | s, c :: x, [], hs => by
    refine ⟨fun a => by rw [cost_nil', cost_nil']; simp, fun b => ?_⟩
    rw [cost_nil', List.length_cons]
    by_cases h : c = b
    · subst h; rw [cost_eq, cost_nil']; omega
    · rw [cost_ne h, cost_nil', List.length_cons]
      have ih := cost_lip (s - 1) x [] (by simp at hs ⊢; omega)
      have := (ih.2 b)
      rw [cost_nil'] at this
      omega
  | s, c :: x, e :: y, hs => by
    simp at hs
    have ih0 := cost_lip (s - 2) x y (by omega)
    have ih1 := cost_lip (s - 1) x (e :: y) (by simp; omega)
    have ih2 := cost_lip (s - 1) (c :: x) y (by simp; omega)
    constructor
    · intro a
      have h1 := (ih1.1 c)
      have h2 := (ih0.2 e)
      have h3 := (ih0.1 c)
      have h5 := (ih2.1 a)
      have h6 := (ih2.2 e)
      by_cases hae : a = e
      · subst hae
        rw [cost_eq a (c :: x) y]
        exact ⟨h6.2, h6.1⟩
      · rw [cost_ne hae]
        have h7 := (ih2.1 a).1
        have h8 := (ih2.2 e)
        omega
    · intro b
      have h1 := (ih2.2 e)
      have h2 := (ih0.1 c)
      have h5 := (ih1.2 b)
      have h6 := (ih1.1 c)
      by_cases hcb : c = b
      · subst hcb
        rw [cost_eq c x (e :: y)]
        exact ⟨h6.2, h6.1⟩
      · rw [cost_ne hcb]
        have h7 := (ih1.2 b).1
        omega
theorem cost_left (a : Int) (x y : List Int) : costL x y ≤ costL (a :: x) y + 1 ∧ costL (a :: x) y ≤ costL x y + 1 := (cost_lip _ x y (Nat.le_refl _)).1 a
theorem cost_right (b : Int) (x y : List Int) : costL x y ≤ costL x (b :: y) + 1 ∧ costL x (b :: y) ≤ costL x y + 1 := (cost_lip _ x y (Nat.le_refl _)).2 b
/-- Without the first ones it costs no more. -/
theorem cost_up (a b : Int) (x y : List Int) : costL x y ≤ costL (a :: x) (b :: y) := by
  by_cases h : a = b
  · subst h; rw [cost_eq]; exact Nat.le_refl _
  · rw [cost_ne h]
    have h1 := (cost_right b x y).1
    have h2 := (cost_left a x y).1
    omega
theorem cost_par : ∀ (s : Nat) (x y : List Int), x.length + y.length ≤ s → costL x y % 2 = (x.length + y.length) % 2 ∧ x.length ≤ y.length + costL x y ∧ y.length ≤ x.length + costL x y
  | s, [], y, hs => by rw [cost_nil]; simp
  | s, c :: x, [], hs => by rw [cost_nil']; simp
  | s, c :: x, e :: y, hs => by
    simp at hs
    by_cases h : c = e
    · subst h
      rw [cost_eq]
      have ih := cost_par (s - 2) x y (by omega)
      simp only [List.length_cons]
      omega
    · rw [cost_ne h]
      have ih1 := cost_par (s - 1) x (e :: y) (by simp; omega)
      have ih2 := cost_par (s - 1) (c :: x) y (by simp; omega)
      simp only [List.length_cons] at *
      omega
/-- The script: 1 keeps, 2 drops, 3 adds. -/
def movesS : List Int → List Int → List Nat
  | [], y => List.replicate y.length 3
  | a :: x, [] => 2 :: movesS x []
  | a :: x, b :: y => if a = b then 1 :: movesS x y else if costL x (b :: y) ≤ costL (a :: x) y then 2 :: movesS x (b :: y) else 3 :: movesS (a :: x) y
termination_by x y => x.length + y.length
/-- What the rest costs from i and j on. -/
def C (a b : List Int) (i j : Nat) : Nat := costL (a.drop i) (b.drop j)
section
variable {a b : List Int} {i j : Nat}
theorem C_match (hi : i < a.length) (hj : j < b.length) (h : a[i] = b[j]) : C a b i j = C a b (i + 1) (j + 1) := by
  unfold C
  rw [List.drop_eq_getElem_cons hi, List.drop_eq_getElem_cons hj, h, cost_eq]
theorem C_ne (hi : i < a.length) (hj : j < b.length) (h : a[i] ≠ b[j]) : C a b i j = 1 + min (C a b (i + 1) j) (C a b i (j + 1)) := by
  unfold C
  rw [List.drop_eq_getElem_cons hi, List.drop_eq_getElem_cons hj, cost_ne h]
theorem C_up (hi : i < a.length) (hj : j < b.length) : C a b (i + 1) (j + 1) ≤ C a b i j := by
  unfold C
  rw [List.drop_eq_getElem_cons hi, List.drop_eq_getElem_cons hj]
  exact cost_up _ _ _ _
theorem C_drop (hi : i < a.length) : C a b i j ≤ C a b (i + 1) j + 1 := by
  unfold C
  rw [List.drop_eq_getElem_cons hi]
  exact (cost_left _ _ _).2
theorem C_add (hj : j < b.length) : C a b i j ≤ C a b i (j + 1) + 1 := by
  unfold C
  rw [List.drop_eq_getElem_cons hj]
  exact (cost_right _ _ _).2
theorem C_end (hi : i = a.length) : C a b i j = b.length - j := by
  unfold C
  rw [List.drop_eq_nil_of_le (by omega), cost_nil, List.length_drop]
theorem C_end' (hj : j = b.length) : C a b i j = a.length - i := by
  unfold C
  rw [List.drop_eq_nil_of_le (i := j) (by omega), cost_nil', List.length_drop]
theorem C_far (hi : i ≤ a.length) (hj : j ≤ b.length) : C a b i j % 2 = (a.length - i + (b.length - j)) % 2 ∧ a.length - i ≤ b.length - j + C a b i j ∧ b.length - j ≤ a.length - i + C a b i j := by
  have h := cost_par _ (a.drop i) (b.drop j) (Nat.le_refl _)
  rw [List.length_drop, List.length_drop] at h
  exact h
theorem C_zero_j : ∀ j, j ≤ b.length → C a b 0 0 ≤ C a b 0 j + j
  | 0, _ => by omega
  | j + 1, h => by
    have h1 := C_zero_j j (by omega)
    have h2 := C_add (a := a) (b := b) (i := 0) (j := j) (by omega)
    omega
theorem C_zero_i : ∀ i, i ≤ a.length → C a b 0 0 ≤ C a b i 0 + i
  | 0, _ => by omega
  | i + 1, h => by
    have h1 := C_zero_i i (by omega)
    have h2 := C_drop (a := a) (b := b) (i := i) (j := 0) (by omega)
    omega
end
end Go.Proofs.YthjaepmfkgejkaaDoor
