/-
  What Clash and Fresh give. Conditions: texts of at most 2^47 bytes; at most 97 taken paths (Fresh).
-/
import Derived.Test.YthjaepmfkgejkaaDoorPathNames
import Derived.Test.YthjaepmfkgejkaaDoorFreshSpec
namespace Go.Proofs.YthjaepmfkgejkaaDoor
open Go.RowKit
set_option linter.unusedVariables false

theorem L_app (a b : ByteArray) : L (a ++ b) = L a ++ L b := Go.Joins.data_append a b

/-- A list of texts, as a slice's cells. -/
def strs (l : List ByteArray) : List Value := l.map Value.string
def Ls (l : List ByteArray) : List (List UInt8) := l.map L
def smallL (l : List ByteArray) : Prop := ∀ t ∈ l, t.size ≤ 140737488355328

theorem indexByte_first (l : List UInt8) : Lib.indexByte l 47 = if (47 : UInt8) ∈ l then ((firstc l).length : Int) else -1 := by
  induction l with
  | nil => rfl
  | cons c l ih =>
    unfold Lib.indexByte
    by_cases hc : c = 47
    · subst hc; simp [firstc]
    · have h1 : ¬ (c == 47) = true := by simpa using hc
      have h2 : (c != 47) = true := by simp [hc]
      rw [if_neg h1, ih]
      by_cases hm : (47 : UInt8) ∈ l
      · have hm' : (47 : UInt8) ∈ c :: l := List.mem_cons_of_mem _ hm
        have h3 : ¬ (((firstc l).length : Int) == -1) = true := by simp
        rw [if_pos hm, if_pos hm', if_neg h3]
        unfold firstc
        rw [List.takeWhile_cons, if_pos h2]
        simp
      · have hm' : (47 : UInt8) ∉ c :: l := by
          intro h
          rcases List.mem_cons.1 h with e | e
          · exact hc e.symm
          · exact hm e
        rw [if_neg hm, if_neg hm']
        rfl

theorem firstc_take (l : List UInt8) : l.take (firstc l).length = firstc l := by
  conv => lhs; arg 2; rw [← first_rest l]
  exact List.take_left
theorem firstc_drop (l : List UInt8) : l.drop (firstc l).length = restc l := by
  conv => lhs; arg 2; rw [← first_rest l]
  exact List.drop_left
theorem firstc_le (l : List UInt8) : (firstc l).length ≤ l.length := by
  have := congrArg List.length (first_rest l)
  simp at this; omega
theorem restc_none {l : List UInt8} (h : (47 : UInt8) ∉ l) : restc l = [] := by
  have := first_rest l
  rw [firstc_lone h] at this
  have := congrArg List.length this
  simp at this
  exact this

theorem clashes_no {t : List UInt8} {taken : List (List UInt8)} (h : ∀ j (hj : j < taken.length), clashB t taken[j] = false) : clashesB t taken = false := by
  unfold clashesB
  rw [List.any_eq_false]
  intro x hx
  obtain ⟨j, hj, rfl⟩ := List.getElem_of_mem hx
  simp [h j hj]
theorem clashes_yes {t : List UInt8} {taken : List (List UInt8)} {j : Nat} (hj : j < taken.length) (h : clashB t taken[j] = true) : clashesB t taken = true := by
  unfold clashesB
  rw [List.any_eq_true]
  exact ⟨_, List.getElem_mem hj, h⟩

theorem decDigits_len {k : Nat} (h : k < 100) : (Lib.decDigits k).length ≤ 2 := by
  by_cases h1 : k < 10
  · rw [Lib.decDigits_one h1]; simp
  · rw [Lib.decDigits_two h1 h]; simp

/-- The loop's state: at number k, with f steps left, the text t is tried. -/
structure Trying (s : ByteArray) (taken : List (List UInt8)) (k f : Nat) (t : ByteArray) : Prop where
  one : 1 ≤ k
  sum : k + f = taken.length + 3
  size : t.size ≤ s.size + 4
  is : freshS (L s) taken = freshGo (L s) taken f k (L t)
  cand : 2 ≤ k → L t = candS (L s) (k - 1)
  behind : ∀ j, 1 ≤ j → j + 1 < k → clashesB (candS (L s) j) taken = true

theorem Trying.start (s : ByteArray) (taken : List (List UInt8)) : Trying s taken 1 (taken.length + 2) s :=
  ⟨by omega, by omega, by omega, rfl, fun h => absurd h (by omega), fun j h1 h2 => absurd h2 (by omega)⟩
theorem Trying.left {s t : ByteArray} {taken : List (List UInt8)} {k f : Nat} (h : Trying s taken k f t) : ∃ g, f = g + 1 ∧ k ≤ taken.length + 2 := by
  have := cand_few (l := L s) (taken := taken) (m := k - 2) (fun j h1 h2 => h.behind j h1 (by omega))
  have := h.sum
  exact ⟨f - 1, by omega, by omega⟩
theorem Trying.next {s t t' : ByteArray} {taken : List (List UInt8)} {k f : Nat} (h : Trying s taken k (f + 1) t) (hc : clashesB (L t) taken = true) (ht : L t' = candS (L s) k) (hz : t'.size ≤ s.size + 4) : Trying s taken (k + 1) f t' := by
  have h1 := h.one
  refine ⟨by omega, by have := h.sum; omega, hz, ?_, fun _ => by rw [Nat.add_sub_cancel]; exact ht, fun j hj hk => ?_⟩
  · rw [h.is, freshGo, if_pos hc, ht]
  · rcases (by omega : j + 1 < k ∨ j = k - 1) with a | a
    · exact h.behind j hj a
    · subst a
      rw [← h.cand (by omega)]; exact hc
theorem Trying.done {s t : ByteArray} {taken : List (List UInt8)} {k f : Nat} (h : Trying s taken k (f + 1) t) (hc : clashesB (L t) taken = false) : L t = freshS (L s) taken := by
  rw [h.is, freshGo, if_neg (by rw [hc]; simp)]

theorem size_app (a b : ByteArray) : (a ++ b).size = a.size + b.size := by
  have := L_app a b
  have := congrArg List.length this
  rw [List.length_append, L_length, L_length, L_length] at this
  exact this

end Go.Proofs.YthjaepmfkgejkaaDoor
