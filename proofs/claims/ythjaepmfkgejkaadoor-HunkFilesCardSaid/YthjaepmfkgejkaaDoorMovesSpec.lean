/-
  The script of least cost, move by move. No conditions; no program.
-/
import Derived.Test.YthjaepmfkgejkaaDoorMyersTest
namespace Go.Proofs.YthjaepmfkgejkaaDoor
set_option linter.unusedVariables false

/-- The moves from i and j on. -/
def mv (a b : List Int) (i j : Nat) : List Nat := movesS (a.drop i) (b.drop j)
theorem moves_nil' : ∀ x : List Int, movesS x [] = List.replicate x.length 2
  | [] => by unfold movesS; rfl
  | a :: x => by rw [movesS, moves_nil' x]; rfl
section
variable {a b : List Int} {i j : Nat}
theorem mv_keep (hi : i < a.length) (hj : j < b.length) (h : a[i] = b[j]) : mv a b i j = 1 :: mv a b (i + 1) (j + 1) ∧ C a b i j = C a b (i + 1) (j + 1) := by
  refine ⟨?_, C_match hi hj h⟩
  unfold mv
  rw [List.drop_eq_getElem_cons hi, List.drop_eq_getElem_cons hj, movesS, if_pos h]
theorem mv_drop (hi : i < a.length) (hj : j ≤ b.length) (hne : a[i]? ≠ b[j]?) (h : j = b.length ∨ C a b (i + 1) j ≤ C a b i (j + 1)) : mv a b i j = 2 :: mv a b (i + 1) j ∧ C a b i j = 1 + C a b (i + 1) j := by
  by_cases hjm : j = b.length
  · constructor
    · unfold mv
      rw [List.drop_eq_nil_of_le (i := j) (by omega), List.drop_eq_getElem_cons hi, movesS]
    · rw [C_end' hjm, C_end' hjm]; omega
  · have hjl : j < b.length := by omega
    have hab : a[i] ≠ b[j] := fun e => hne (by rw [List.getElem?_eq_getElem hi, List.getElem?_eq_getElem hjl, e])
    have hle : C a b (i + 1) j ≤ C a b i (j + 1) := h.resolve_left hjm
    refine ⟨?_, by rw [C_ne hi hjl hab]; omega⟩
    unfold C at hle
    rw [List.drop_eq_getElem_cons hi, List.drop_eq_getElem_cons hjl] at hle
    unfold mv
    rw [List.drop_eq_getElem_cons hi, List.drop_eq_getElem_cons hjl, movesS, if_neg hab, if_pos hle]
theorem mv_add (hi : i ≤ a.length) (hj : j < b.length) (hne : a[i]? ≠ b[j]?) (h : i = a.length ∨ ¬ C a b (i + 1) j ≤ C a b i (j + 1)) : mv a b i j = 3 :: mv a b i (j + 1) ∧ C a b i j = 1 + C a b i (j + 1) := by
  by_cases hin : i = a.length
  · constructor
    · unfold mv
      rw [List.drop_eq_nil_of_le (i := i) (by omega), movesS, movesS, List.length_drop, List.length_drop, show b.length - j = (b.length - (j + 1)) + 1 by omega]
      rfl
    · rw [C_end hin, C_end hin]; omega
  · have hil : i < a.length := by omega
    have hab : a[i] ≠ b[j] := fun e => hne (by rw [List.getElem?_eq_getElem hil, List.getElem?_eq_getElem hj, e])
    have hle : ¬ C a b (i + 1) j ≤ C a b i (j + 1) := h.resolve_left hin
    refine ⟨?_, by rw [C_ne hil hj hab]; omega⟩
    unfold C at hle
    rw [List.drop_eq_getElem_cons hil, List.drop_eq_getElem_cons hj] at hle
    unfold mv
    rw [List.drop_eq_getElem_cons hil, List.drop_eq_getElem_cons hj, movesS, if_neg hab, if_neg hle]
theorem mv_end (hi : i = a.length) (hj : j = b.length) : mv a b i j = [] ∧ C a b i j = 0 := by
  refine ⟨?_, by rw [C_end hi]; omega⟩
  unfold mv
  rw [List.drop_eq_nil_of_le (by omega), List.drop_eq_nil_of_le (by omega), movesS]
  rfl
end
theorem moves_same : ∀ x : List Int, movesS x x = List.replicate x.length 1
  | [] => by unfold movesS; rfl
  | a :: x => by rw [movesS, if_pos rfl, moves_same x]; rfl
end Go.Proofs.YthjaepmfkgejkaaDoor
