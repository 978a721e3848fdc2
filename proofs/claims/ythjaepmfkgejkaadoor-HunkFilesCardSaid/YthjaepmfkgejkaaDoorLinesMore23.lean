/-
  More on the lines between files: which paths; how many lines. No conditions; no program.
-/
import Derived.Test.YthjaepmfkgejkaaDoorLinesSpec23
import Derived.Test.YthjaepmfkgejkaaDoorAppW23
import Derived.Lib.ItoaNum
namespace Go.Proofs.YthjaepmfkgejkaaDoor
open Go.RowKit Go.Maps Go.Shelf Go.Sort
set_option linter.unusedVariables false

theorem compact_mem {zs : List (List UInt8)} {p : List UInt8} (h : p ∈ Lib.compact zs) : p ∈ zs := by
  unfold Lib.compact Lib.compactUpTo at h
  obtain ⟨j, hj, rfl⟩ := List.mem_map.1 h
  have hj2 := List.mem_range.1 (List.mem_filter.1 hj).1
  rw [getElem!_pos zs.toArray j (by simpa using hj2)]
  simp
theorem pathsP_mem {fa fb : List FileD} {p : List UInt8} (h : p ∈ pathsP fa fb) : ∃ f ∈ fa ++ fb, p = L f.1 := by
  have h1 := compact_mem h
  have h2 : p ∈ (fa ++ fb).map fun f => L f.1 := by
    unfold sortS at h1
    exact (List.mergeSort_perm _ _).mem_iff.1 h1
  obtain ⟨f, hf, e⟩ := List.mem_map.1 h2
  exact ⟨f, hf, e.symm⟩
theorem bytesOf_le {l : List FileD} {N : Nat} (h : ∀ f ∈ l, f.2.size ≤ N) (p : ByteArray) : (bytesOf l p).size ≤ N := by
  unfold bytesOf
  cases hf : firstD l p with
  | none => exact Nat.zero_le _
  | some f => exact h f (List.mem_of_find?_eq_some hf)
def cntH (out : List HunkD) : Nat := (out.flatMap hunkLn).length
theorem cntH_app (a b : List HunkD) : cntH (a ++ b) = cntH a + cntH b := by simp [cntH]
theorem cntH_one (f t : Nat) (ls : List (List UInt8)) : cntH [(f, t, ls)] = 1 + ls.length := by simp [cntH, hunkLn]; omega
theorem cntH_add (out : List HunkD) (s : List UInt8) : cntH (addLine out s) ≤ cntH out + 1 := by
  rcases List.eq_nil_or_concat out with rfl | ⟨pre, ⟨f, t, ls⟩, rfl⟩
  · simp [addLine, cntH]
  · rw [List.concat_eq_append, addLine_snoc, cntH_app, cntH_app, cntH_one, cntH_one]
    simp; omega
theorem cntH_to (told : Nat → Bool) (mv : List Nat) (x y : List (List UInt8)) : ∀ n, cntH (hunksTo told mv x y n).2.2 ≤ 2 * n
  | 0 => by simp [hunksTo, cntH]
  | n + 1 => by
    have ih := cntH_to told mv x y n
    obtain ⟨i, j, out, h⟩ : ∃ i j out, hunksTo told mv x y n = (i, j, out) := ⟨_, _, _, rfl⟩
    rw [h] at ih
    simp only at ih
    have ho : cntH (opened told n i j out) ≤ cntH out + 1 := by
      unfold opened
      split
      · rw [cntH_app, cntH_one]; simp
      · omega
    cases ht : told n with
    | false => rw [hunksTo_skip h ht]; simp only; omega
    | true =>
      by_cases m1 : mv.getD n 0 = 1
      · rw [hunksTo_keep h ht m1]; have := cntH_add (opened told n i j out) (32 :: x.getD i []); simp only; omega
      · by_cases m2 : mv.getD n 0 = 2
        · rw [hunksTo_drop h ht m2]; have := cntH_add (opened told n i j out) (45 :: x.getD i []); simp only; omega
        · rw [hunksTo_add h ht m1 m2]; have := cntH_add (opened told n i j out) (43 :: y.getD j []); simp only; omega
theorem cntH_hunks (a b : List UInt8) : cntH (hunksL a b) ≤ 2 * (a.length + b.length) := by
  have h1 := cntH_to (nearS (movesT (linesS a) (linesS b))) (movesT (linesS a) (linesS b)) (linesS a) (linesS b) (movesT (linesS a) (linesS b)).length
  have h2 := moves_length _ (nosG (linesS a ++ linesS b) (linesS a)) (nosG (linesS a ++ linesS b) (linesS b)) (Nat.le_refl _)
  simp only [nosG, List.length_map] at h2
  have h3 := linesS_count a
  have h4 := linesS_count b
  have h5 : (movesT (linesS a) (linesS b)).length ≤ (linesS a).length + (linesS b).length := h2
  show cntH (hunksX _ _) ≤ _
  unfold hunksX
  omega
theorem cntH_take (out : List HunkD) (k : Nat) : ((out.take k).flatMap hunkLn).length ≤ cntH out := by
  conv => rhs; rw [← List.take_append_drop k out, cntH_app]
  exact Nat.le_add_right _ _
/-- From and To of hunks are places in the rows of lines. -/
theorem hunks_places (told : Nat → Bool) (mv : List Nat) (x y : List (List UInt8)) (hT : ToldIs told mv) (hw : Way mv x y) : ∀ n i j out, n ≤ mv.length → hunksTo told mv x y n = (i, j, out) → ∀ h ∈ out, h.1 ≤ x.length ∧ h.2.1 ≤ y.length
  | 0, i, j, out, _, h => by
    simp only [hunksTo, Prod.mk.injEq] at h
    obtain ⟨rfl, rfl, rfl⟩ := h
    exact fun h hh => absurd hh (by simp)
  | n + 1, i', j', out', hn, h => by
    obtain ⟨i, j, out, h0⟩ : ∃ i j out, hunksTo told mv x y n = (i, j, out) := ⟨_, _, _, rfl⟩
    have ih := hunks_places told mv x y hT hw n i j out (by omega) h0
    obtain ⟨_, hi, hj, _⟩ := hunks_back hT hw n i j out (by omega) h0
    have hop : ∀ h ∈ opened told n i j out, h.1 ≤ x.length ∧ h.2.1 ≤ y.length := by
      intro h hh
      unfold opened at hh
      split at hh
      · rcases List.mem_append.1 hh with q | q
        · exact ih h q
        · rw [List.mem_singleton.1 q]; exact ⟨hi, hj⟩
      · exact ih h hh
    have hadd : ∀ s, ∀ h ∈ addLine (opened told n i j out) s, h.1 ≤ x.length ∧ h.2.1 ≤ y.length := by
      intro s h hh
      rcases List.eq_nil_or_concat (opened told n i j out) with e | ⟨pre, ⟨f, t, ls⟩, e⟩
      · rw [e] at hh; simp [addLine] at hh
      · rw [List.concat_eq_append] at e
        rw [e, addLine_snoc] at hh
        rw [e] at hop
        rcases List.mem_append.1 hh with q | q
        · exact hop h (List.mem_append_left _ q)
        · rw [List.mem_singleton.1 q]; exact hop (f, t, ls) (by simp)
    cases ht : told n with
    | false =>
      rw [hunksTo_skip h0 ht] at h
      simp only [Prod.mk.injEq] at h
      obtain ⟨_, _, rfl⟩ := h
      exact ih
    | true =>
      by_cases m1 : mv.getD n 0 = 1
      · rw [hunksTo_keep h0 ht m1] at h
        simp only [Prod.mk.injEq] at h
        obtain ⟨_, _, rfl⟩ := h
        exact hadd _
      · by_cases m2 : mv.getD n 0 = 2
        · rw [hunksTo_drop h0 ht m2] at h
          simp only [Prod.mk.injEq] at h
          obtain ⟨_, _, rfl⟩ := h
          exact hadd _
        · rw [hunksTo_add h0 ht m1 m2] at h
          simp only [Prod.mk.injEq] at h
          obtain ⟨_, _, rfl⟩ := h
          exact hadd _
theorem hunksL_places (a b : List UInt8) : ∀ h ∈ hunksL a b, h.1 ≤ a.length ∧ h.2.1 ≤ b.length := by
  intro h hh
  have := hunks_places _ _ _ _ (told_near _) (way_T (linesS a) (linesS b)) _ _ _ _ (Nat.le_refl _) rfl h hh
  have h3 := linesS_count a
  have h4 := linesS_count b
  omega
theorem decDigits_le (k : Nat) : (Lib.decDigits k).length ≤ k + 1 := by
  induction k using Nat.strongRecOn with
  | _ k ih =>
    by_cases h : k < 10
    · rw [Lib.decDigits_one h]; simp
    · rw [Lib.decDigits, dif_neg h]
      have := ih (k / 10) (by omega)
      simp only [List.length_append, List.length_cons, List.length_nil]
      omega
/-- A hunk's lines are lines with a sign ahead. -/
theorem hunks_sizes (told : Nat → Bool) (mv : List Nat) (x y : List (List UInt8)) (M : Nat) (hx : ∀ l ∈ x, l.length ≤ M) (hy : ∀ l ∈ y, l.length ≤ M) : ∀ n, ∀ h ∈ (hunksTo told mv x y n).2.2, ∀ s ∈ h.2.2, s.length ≤ M + 1
  | 0 => by simp [hunksTo]
  | n + 1 => by
    have ih := hunks_sizes told mv x y M hx hy n
    obtain ⟨i, j, out, h0⟩ : ∃ i j out, hunksTo told mv x y n = (i, j, out) := ⟨_, _, _, rfl⟩
    rw [h0] at ih
    simp only at ih
    have hop : ∀ h ∈ opened told n i j out, ∀ s ∈ h.2.2, s.length ≤ M + 1 := by
      intro h hh
      unfold opened at hh
      split at hh
      · rcases List.mem_append.1 hh with q | q
        · exact ih h q
        · rw [List.mem_singleton.1 q]; exact fun s hs => absurd hs (by simp)
      · exact ih h hh
    have hadd : ∀ l : List UInt8, l.length ≤ M + 1 → ∀ h ∈ addLine (opened told n i j out) l, ∀ s ∈ h.2.2, s.length ≤ M + 1 := by
      intro l hl h hh
      rcases List.eq_nil_or_concat (opened told n i j out) with e | ⟨pre, ⟨f, t, ls⟩, e⟩
      · rw [e] at hh; simp [addLine] at hh
      · rw [List.concat_eq_append] at e
        rw [e, addLine_snoc] at hh
        rw [e] at hop
        rcases List.mem_append.1 hh with q | q
        · exact hop h (List.mem_append_left _ q)
        · rw [List.mem_singleton.1 q]
          intro s hs
          rcases List.mem_append.1 hs with q2 | q2
          · exact hop (f, t, ls) (by simp) s q2
          · rw [List.mem_singleton.1 q2]; exact hl
    have get : ∀ (z : List (List UInt8)) (i : Nat), (∀ l ∈ z, l.length ≤ M) → (z.getD i []).length ≤ M := by
      intro z i hz
      rw [List.getD_eq_getElem?_getD]
      cases hq : z[i]? with
      | none => simp
      | some l => exact hz l (List.mem_of_getElem? hq)
    cases ht : told n with
    | false => rw [hunksTo_skip h0 ht]; exact ih
    | true =>
      by_cases m1 : mv.getD n 0 = 1
      · rw [hunksTo_keep h0 ht m1]; exact hadd _ (by have := get x i hx; simp only [List.length_cons]; omega)
      · by_cases m2 : mv.getD n 0 = 2
        · rw [hunksTo_drop h0 ht m2]; exact hadd _ (by have := get x i hx; simp only [List.length_cons]; omega)
        · rw [hunksTo_add h0 ht m1 m2]; exact hadd _ (by have := get y j hy; simp only [List.length_cons]; omega)
theorem hunksL_sizes (a b : List UInt8) (M : Nat) (ha : a.length ≤ M) (hb : b.length ≤ M) : ∀ h ∈ hunksL a b, ∀ s ∈ h.2.2, s.length ≤ M + 1 :=
  hunks_sizes _ _ _ _ M (fun l hl => Nat.le_trans (linesS_size hl) ha) (fun l hl => Nat.le_trans (linesS_size hl) hb) _
end Go.Proofs.YthjaepmfkgejkaaDoor
