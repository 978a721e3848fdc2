/-
  How the document's answer cuts a text into lines, and which moves it tells. No conditions; no program.
-/
import Derived.Test.YthjaepmfkgejkaaDoorHunks23Spec
namespace Go.Proofs.YthjaepmfkgejkaaDoor
set_option linter.unusedVariables false

theorem linesS_line : ∀ (p r : List UInt8), (10 : UInt8) ∉ p → linesS (p ++ 10 :: r) = (p ++ [10]) :: linesS r
  | [], r, _ => linesS_ten r
  | b :: p, r, h => by
    simp only [List.mem_cons, not_or] at h
    rw [List.cons_append, linesS_ne (fun e => h.1 e.symm), linesS_line p r h.2]
    rfl
theorem linesS_last : ∀ (p : List UInt8), (10 : UInt8) ∉ p → p ≠ [] → linesS p = [p]
  | [], _, h => absurd rfl h
  | [b], h, _ => by
    rw [linesS_ne (fun e => h (by simp [e]))]
    rfl
  | b :: c :: p, h, _ => by
    simp only [List.mem_cons, not_or] at h
    rw [linesS_ne (fun e => h.1 e.symm), linesS_last (c :: p) (by simp only [List.mem_cons, not_or]; exact ⟨h.2.1, h.2.2⟩) (by simp)]
/-- The first lines, ahead of byte i; the line that is open begins at f. -/
def LinesAt (s : List UInt8) (i f : Nat) (out : List (List UInt8)) : Prop := f ≤ i ∧ i ≤ s.length ∧ (∀ k, f ≤ k → k < i → s[k]? ≠ some 10) ∧ linesS s = out ++ linesS (s.drop f)
section
variable {s : List UInt8} {i f : Nat} {out : List (List UInt8)}
theorem LinesAt.none_in (h : LinesAt s i f out) : (10 : UInt8) ∉ (s.drop f).take (i - f) := by
  intro hm
  obtain ⟨k, hk, e⟩ := List.getElem_of_mem hm
  rw [List.length_take, List.length_drop] at hk
  refine h.2.2.1 (f + k) (by omega) (by omega) ?_
  rw [List.getElem_take, List.getElem_drop] at e
  rw [List.getElem?_eq_getElem (by omega), e]
theorem LinesAt.start (s : List UInt8) : LinesAt s 0 0 [] := ⟨Nat.le_refl _, Nat.zero_le _, fun k h1 h2 => by omega, by simp⟩
theorem LinesAt.on (h : LinesAt s i f out) (hi : i < s.length) (hc : s[i]? ≠ some 10) : LinesAt s (i + 1) f out := by
  refine ⟨by have := h.1; omega, by omega, fun k h1 h2 => ?_, h.2.2.2⟩
  rcases (by omega : k < i ∨ k = i) with q | rfl
  · exact h.2.2.1 k h1 q
  · exact hc
theorem LinesAt.cut (h : LinesAt s i f out) (hc : s[i]? = some 10) : LinesAt s (i + 1) (i + 1) (out ++ [(s.drop f).take (i + 1 - f)]) := by
  obtain ⟨hi, hg⟩ := List.getElem?_eq_some_iff.1 hc
  have hn := h.none_in
  have hf := h.1
  refine ⟨Nat.le_refl _, by omega, fun k h1 h2 => by omega, ?_⟩
  have e1 : s.drop f = (s.drop f).take (i - f) ++ 10 :: s.drop (i + 1) := by
    conv => lhs; rw [← List.take_append_drop (i - f) (s.drop f)]
    rw [List.drop_drop, show f + (i - f) = i by omega, List.drop_eq_getElem_cons hi, hg]
  have e2 : (s.drop f).take (i + 1 - f) = (s.drop f).take (i - f) ++ [10] := by
    rw [show i + 1 - f = (i - f) + 1 by omega, List.take_add_one]
    congr 1
    rw [List.getElem?_drop, show f + (i - f) = i by omega, hc]
    rfl
  rw [h.2.2.2, e2, List.append_assoc]
  congr 1
  conv => lhs; rw [e1]
  rw [linesS_line _ _ hn]
  rfl
theorem LinesAt.last (h : LinesAt s s.length f out) (hf : f < s.length) : linesS s = out ++ [s.drop f] := by
  rw [h.2.2.2]
  congr 1
  have hn := h.none_in
  rw [List.take_of_length_le (by rw [List.length_drop]; omega)] at hn
  exact linesS_last _ hn (by rw [Ne, List.drop_eq_nil_iff]; omega)
theorem LinesAt.done (h : LinesAt s s.length f out) (hf : ¬ f < s.length) : linesS s = out := by
  rw [h.2.2.2, List.drop_eq_nil_of_le (by omega)]
  simp [linesS]
end
/-- Does a move from a to k, less than k, differ? -/
def nearUp (l : List Nat) (a k : Int) : Bool := (List.range l.length).any fun j => decide (l.getD j 1 ≠ 1) && decide (a ≤ (j : Int)) && decide ((j : Int) < k)
theorem nearUp_start (l : List Nat) (a : Int) : nearUp l a a = false := by
  unfold nearUp
  rw [List.any_eq_false]
  intro j _
  simp only [Bool.and_eq_true, decide_eq_true_eq, not_and]
  omega
theorem nearUp_succ (l : List Nat) (a k : Int) (hk : a ≤ k) : nearUp l a (k + 1) = (nearUp l a k || (decide (0 ≤ k) && decide (k < (l.length : Int)) && decide (l.getD k.toNat 1 ≠ 1))) := by
  rw [Bool.eq_iff_iff]
  unfold nearUp
  simp only [Bool.or_eq_true, List.any_eq_true, Bool.and_eq_true, decide_eq_true_eq, List.mem_range]
  constructor
  · rintro ⟨j, hj, ⟨h1, h2⟩, h3⟩
    rcases (by omega : (j : Int) < k ∨ (j : Int) = k) with q | q
    · exact .inl ⟨j, hj, ⟨h1, h2⟩, q⟩
    · refine .inr ⟨⟨by omega, by omega⟩, ?_⟩
      rw [← q, Int.toNat_natCast]
      exact h1
  · rintro (⟨j, hj, ⟨h1, h2⟩, h3⟩ | ⟨⟨h1, h2⟩, h3⟩)
    · exact ⟨j, hj, ⟨h1, h2⟩, by omega⟩
    · exact ⟨k.toNat, by omega, ⟨h3, by omega⟩, by omega⟩
theorem nearUp_near (l : List Nat) (n : Nat) : nearUp l ((n : Int) - 3) ((n : Int) + 4) = nearS l n := by
  rw [Bool.eq_iff_iff]
  unfold nearUp nearS nearTo
  simp only [List.any_eq_true, Bool.and_eq_true, decide_eq_true_eq, List.mem_range]
  constructor
  · rintro ⟨j, hj, ⟨h1, h2⟩, h3⟩
    exact ⟨j, hj, ⟨h1, by omega⟩, by omega⟩
  · rintro ⟨j, hj, ⟨h1, h2⟩, h3⟩
    exact ⟨j, hj, ⟨h1, by omega⟩, by omega⟩
end Go.Proofs.YthjaepmfkgejkaaDoor
