/-
  The paths of files in order: they rise strictly; the least one behind the last that is told is the next. No conditions; no program.
-/
import Derived.Test.YthjaepmfkgejkaaDoorLinesMore23
import Derived.Test.YthjaepmfkgejkaaDoorKeySpec
namespace Go.Proofs.YthjaepmfkgejkaaDoor
open Go.RowKit Go.Maps Go.Shelf Go.Sort
set_option linter.unusedVariables false

theorem less_cmp : ∀ x y : List UInt8, Op.bytesLess x y = decide (cmpB x y < 0)
  | [], [] => by rw [cmpB_nil]; rfl
  | [], b :: y => by rw [cmpB_nil_cons]; rfl
  | a :: x, [] => by rw [cmpB_cons_nil]; rfl
  | a :: x, b :: y => by
    rw [cmpB_cons, Op.bytesLess, less_cmp x y]
    rcases u8_cases a b with h | h | h
    · rw [if_pos h]; simp [h]
    · rw [if_neg (u8_asymm h), if_pos h]
      have hne : ¬ a = b := fun e => by subst e; exact u8_irr a h
      simp [u8_asymm h, hne]
    · subst h
      rw [if_neg (u8_irr a), if_neg (u8_irr a)]
      simp [u8_irr a]
theorem lt_cmp (x y : List UInt8) : x < y ↔ cmpB x y < 0 := by
  have h := less_cmp x y
  rw [Proofs.bytesLess_eq] at h
  rw [← decide_eq_true_iff (p := x < y), h, decide_eq_true_iff]
theorem le_cmp (x y : List UInt8) : x ≤ y ↔ cmpB x y ≤ 0 := by
  have h1 : x ≤ y ↔ ¬ y < x := Iff.rfl
  rw [h1, lt_cmp, cmpB_swap x y]
  omega
theorem cmpB_le_trans {a b c : List UInt8} (h : cmpB a b ≤ 0) (k : cmpB b c ≤ 0) : cmpB a c ≤ 0 := by
  rcases (by omega : cmpB a b < 0 ∨ cmpB a b = 0) with q | q
  · rcases (by omega : cmpB b c < 0 ∨ cmpB b c = 0) with r | r
    · have := cmpB_trans q r; omega
    · rw [← cmpB_zero.1 r]; omega
  · rw [cmpB_zero.1 q]; exact k
theorem cmpB_lt_le {a b c : List UInt8} (h : cmpB a b ≤ 0) (k : cmpB b c < 0) : cmpB a c < 0 := by
  rcases (by omega : cmpB a b < 0 ∨ cmpB a b = 0) with q | q
  · exact cmpB_trans q k
  · rw [cmpB_zero.1 q]; exact k
theorem sortS_pair (l : List (List UInt8)) : (sortS l).Pairwise fun x y => cmpB x y ≤ 0 := by
  unfold sortS
  have h := List.pairwise_mergeSort (le := fun x y : List UInt8 => decide (x ≤ y)) (fun a b c h1 h2 => by
      simp only [decide_eq_true_eq, le_cmp] at h1 h2 ⊢
      exact cmpB_le_trans h1 h2) (fun a b => by
      simp only [Bool.or_eq_true, decide_eq_true_eq, le_cmp]
      have := cmpB_swap a b
      omega) l
  exact h.imp fun h => by rw [decide_eq_true_eq, le_cmp] at h; exact h
theorem compact_steps (zs : List (List UInt8)) (hp : zs.Pairwise fun x y => cmpB x y ≤ 0) : ∀ m, m ≤ zs.length → (Lib.compactUpTo zs.toArray m).Pairwise (fun x y => cmpB x y < 0) ∧ (∀ x ∈ Lib.compactUpTo zs.toArray m, ∃ j, ∃ h : j < zs.length, j < m ∧ x = zs[j]) ∧ ∀ j (h : j < zs.length), j < m → zs[j] ∈ Lib.compactUpTo zs.toArray m
  | 0, _ => by
    refine ⟨?_, fun x hx => ?_, fun j h hj => by omega⟩
    · show (([] : List (List UInt8))).Pairwise _
      exact List.Pairwise.nil
    · cases (show x ∈ ([] : List (List UInt8)) from hx)
  | m + 1, hm => by
    obtain ⟨h1, h2, h3⟩ := compact_steps zs hp m (by omega)
    have hmz : m < zs.length := by omega
    have hz : zs.toArray[m]! = zs[m] := by rw [getElem!_pos zs.toArray m (by simpa using hmz)]; simp
    have hle : ∀ j (h : j < zs.length), j < m → cmpB zs[j] zs[m] ≤ 0 := fun j h hj => (List.pairwise_iff_getElem.1 hp) j m h hmz hj
    rw [Lib.compactUpTo_succ]
    by_cases hk : Lib.keeps zs.toArray m = true
    · rw [if_pos hk, hz]
      have hlt : ∀ x ∈ Lib.compactUpTo zs.toArray m, cmpB x zs[m] < 0 := fun x hx => by
        obtain ⟨j, hj, hjm, rfl⟩ := h2 x hx
        have hm0 : m ≠ 0 := by omega
        have hne : zs[m] ≠ zs[m - 1]'(by omega) := by
          unfold Lib.keeps at hk
          rw [decide_eq_true_eq] at hk
          have h := hk.resolve_left hm0
          rw [hz, getElem!_pos zs.toArray (m - 1) (by simp; omega)] at h
          simpa using h
        have a1 := hle (m - 1) (by omega) (by omega)
        have a2 : cmpB (zs[m - 1]'(by omega)) zs[m] < 0 := by
          rcases (by omega : cmpB (zs[m - 1]'(by omega)) zs[m] < 0 ∨ cmpB (zs[m - 1]'(by omega)) zs[m] = 0) with q | q
          · exact q
          · exact absurd (cmpB_zero.1 q).symm hne
        have a3 : cmpB zs[j] (zs[m - 1]'(by omega)) ≤ 0 := by
          rcases (by omega : j < m - 1 ∨ j = m - 1) with q | q
          · exact (List.pairwise_iff_getElem.1 hp) j (m - 1) hj (by omega) q
          · subst q; rw [cmpB_self]; omega
        exact cmpB_lt_le a3 a2
      refine ⟨?_, fun x hx => ?_, fun j h hj => ?_⟩
      · rw [List.pairwise_append]
        refine ⟨h1, List.pairwise_singleton _ _, fun x hx y hy => ?_⟩
        rw [List.mem_singleton.1 hy]
        exact hlt x hx
      · rcases List.mem_append.1 hx with q | q
        · obtain ⟨j, hj, hjm, e⟩ := h2 x q
          exact ⟨j, hj, by omega, e⟩
        · exact ⟨m, hmz, by omega, List.mem_singleton.1 q⟩
      · rcases (by omega : j < m ∨ j = m) with q | q
        · exact List.mem_append_left _ (h3 j h q)
        · subst q; simp
    · rw [if_neg hk, List.append_nil]
      refine ⟨h1, fun x hx => ?_, fun j h hj => ?_⟩
      · obtain ⟨j, hj, hjm, e⟩ := h2 x hx
        exact ⟨j, hj, by omega, e⟩
      · rcases (by omega : j < m ∨ j = m) with q | q
        · exact h3 j h q
        · subst q
          unfold Lib.keeps at hk
          rw [decide_eq_true_eq, not_or, Classical.not_not] at hk
          have h0 := hk.2
          rw [hz, getElem!_pos zs.toArray (j - 1) (by simp; omega)] at h0
          have e : zs[j] = zs[j - 1]'(by omega) := by simpa using h0
          rw [e]
          exact h3 (j - 1) (by omega) (by omega)
/-- The paths rise strictly. -/
theorem pathsP_rise (fa fb : List FileD) : (pathsP fa fb).Pairwise fun x y => cmpB x y < 0 := (compact_steps _ (sortS_pair _) _ (Nat.le_refl _)).1
/-- Each file's path is one of them. -/
theorem mem_pathsP {fa fb : List FileD} {f : FileD} (h : f ∈ fa ++ fb) : L f.1 ∈ pathsP fa fb := by
  have h1 : L f.1 ∈ sortS ((fa ++ fb).map fun f => L f.1) := by
    unfold sortS
    exact (List.mergeSort_perm _ _).mem_iff.2 (List.mem_map_of_mem (f := fun f : FileD => L f.1) h)
  obtain ⟨j, hj, e⟩ := List.getElem_of_mem h1
  have := (compact_steps _ (sortS_pair ((fa ++ fb).map fun f => L f.1)) _ (Nat.le_refl _)).2.2 j hj hj
  rw [e] at this
  exact this
/-- Is a path behind the first k? -/
def candB (P : List (List UInt8)) (k : Nat) (p : List UInt8) : Bool := decide (k = 0) || decide (cmpB (P.getD (k - 1) []) p < 0)
/-- What has been found among the first i files: none, or the place of the least. -/
def BestAt (fs : List FileD) (P : List (List UInt8)) (k i : Nat) (at' : Int) : Prop :=
  (at' = -1 ∧ ∀ j (h : j < fs.length), j < i → candB P k (L fs[j].1) = false) ∨
  ∃ a, ∃ h : a < fs.length, at' = (a : Int) ∧ a < i ∧ candB P k (L fs[a].1) = true ∧ ∀ j (hj : j < fs.length), j < i → candB P k (L fs[j].1) = true → ¬ cmpB (L fs[j].1) (L fs[a].1) < 0
section
variable {fs : List FileD} {P : List (List UInt8)} {k i : Nat} {at' : Int}
theorem BestAt.start : BestAt fs P k 0 (-1) := .inl ⟨rfl, fun j _ h => by omega⟩
theorem BestAt.skip (h : BestAt fs P k i at') (hi : i < fs.length) (hc : candB P k (L fs[i].1) = false) : BestAt fs P k (i + 1) at' := by
  rcases h with ⟨h1, h2⟩ | ⟨a, ha, h1, h2, h3, h4⟩
  · refine .inl ⟨h1, fun j hj hji => ?_⟩
    rcases (by omega : j < i ∨ j = i) with q | rfl
    · exact h2 j hj q
    · exact hc
  · refine .inr ⟨a, ha, h1, by omega, h3, fun j hj hji hcj => ?_⟩
    rcases (by omega : j < i ∨ j = i) with q | rfl
    · exact h4 j hj q hcj
    · rw [hc] at hcj; cases hcj
theorem BestAt.first (h : BestAt fs P k i (-1)) (hi : i < fs.length) (hc : candB P k (L fs[i].1) = true) : BestAt fs P k (i + 1) (i : Int) := by
  rcases h with ⟨_, h2⟩ | ⟨a, ha, h1, _⟩
  · refine .inr ⟨i, hi, rfl, by omega, hc, fun j hj hji hcj => ?_⟩
    rcases (by omega : j < i ∨ j = i) with q | rfl
    · rw [h2 j hj q] at hcj; cases hcj
    · rw [cmpB_self]; omega
  · omega
theorem BestAt.keep {a : Nat} (h : BestAt fs P k i (a : Int)) (hi : i < fs.length) (ha : a < fs.length) (hc : ¬ cmpB (L fs[i].1) (L fs[a].1) < 0) : BestAt fs P k (i + 1) (a : Int) := by
  rcases h with ⟨h1, _⟩ | ⟨a', ha', h1, h2, h3, h4⟩
  · omega
  · obtain rfl : a = a' := by omega
    refine .inr ⟨a, ha, rfl, by omega, h3, fun j hj hji hcj => ?_⟩
    rcases (by omega : j < i ∨ j = i) with q | rfl
    · exact h4 j hj q hcj
    · exact hc
theorem BestAt.less {a : Nat} (h : BestAt fs P k i (a : Int)) (hi : i < fs.length) (ha : a < fs.length) (hcd : candB P k (L fs[i].1) = true) (hc : cmpB (L fs[i].1) (L fs[a].1) < 0) : BestAt fs P k (i + 1) (i : Int) := by
  rcases h with ⟨h1, _⟩ | ⟨a', ha', h1, h2, h3, h4⟩
  · omega
  · obtain rfl : a = a' := by omega
    refine .inr ⟨i, hi, rfl, by omega, hcd, fun j hj hji hcj => ?_⟩
    rcases (by omega : j < i ∨ j = i) with q | rfl
    · intro hlt
      exact h4 j hj q hcj (cmpB_trans hlt hc)
    · rw [cmpB_self]; omega
theorem BestAt.place {a : Nat} (h : BestAt fs P k i (a : Int)) : a < i ∧ a < fs.length := by
  rcases h with ⟨h1, _⟩ | ⟨a', ha', h1, h2, _⟩
  · omega
  · exact ⟨by omega, by omega⟩
theorem cand_at (hr : P.Pairwise fun x y => cmpB x y < 0) {q : Nat} (hq : q < P.length) (hk : k ≤ P.length) : candB P k P[q] = true ↔ k ≤ q := by
  unfold candB
  rw [Bool.or_eq_true, decide_eq_true_eq, decide_eq_true_eq]
  rcases Nat.eq_zero_or_pos k with h0 | h0
  · subst h0; simp
  · have hg : P.getD (k - 1) [] = P[k - 1]'(by omega) := by rw [List.getD_eq_getElem?_getD, List.getElem?_eq_getElem (by omega)]; rfl
    rw [hg]
    constructor
    · rintro (h | h)
      · omega
      · rcases (by omega : k ≤ q ∨ q < k - 1 ∨ q = k - 1) with r | r | r
        · exact r
        · have := (List.pairwise_iff_getElem.1 hr) q (k - 1) hq (by omega) r
          have h2 := cmpB_trans h this
          rw [cmpB_self] at h2
          omega
        · subst r; rw [cmpB_self] at h; omega
    · intro h
      exact .inr ((List.pairwise_iff_getElem.1 hr) (k - 1) q (by omega) hq (by omega))
end
/-- None is found: all are told. -/
theorem best_none {fa fb : List FileD} {k : Nat} (hk : k ≤ (pathsP fa fb).length) (h : BestAt (fa ++ fb) (pathsP fa fb) k (fa ++ fb).length (-1)) : k = (pathsP fa fb).length := by
  apply Classical.byContradiction
  intro hne
  have hlt : k < (pathsP fa fb).length := by omega
  obtain ⟨f, hf, e⟩ := pathsP_mem (List.getElem_mem hlt)
  obtain ⟨j, hj, e2⟩ := List.getElem_of_mem hf
  rcases h with ⟨_, h2⟩ | ⟨a, ha, h1, _⟩
  · have h3 := h2 j hj hj
    rw [e2, ← e] at h3
    have := (cand_at (pathsP_rise fa fb) hlt hk).2 (Nat.le_refl _)
    rw [this] at h3
    cases h3
  · omega
/-- The least is the next. -/
theorem best_next {fa fb : List FileD} {k a : Nat} (hk : k ≤ (pathsP fa fb).length) (h : BestAt (fa ++ fb) (pathsP fa fb) k (fa ++ fb).length (a : Int)) (ha : a < (fa ++ fb).length) : ∃ hlt : k < (pathsP fa fb).length, (pathsP fa fb)[k] = L (fa ++ fb)[a].1 := by
  rcases h with ⟨h1, _⟩ | ⟨a', ha', h1, h2, h3, h4⟩
  · omega
  · obtain rfl : a = a' := by omega
    obtain ⟨q, hq, e⟩ := List.getElem_of_mem (mem_pathsP (List.getElem_mem ha'))
    rw [← e] at h3
    have hkq := (cand_at (pathsP_rise fa fb) hq hk).1 h3
    have hlt : k < (pathsP fa fb).length := by omega
    refine ⟨hlt, ?_⟩
    rcases (by omega : k = q ∨ k < q) with r | r
    · subst r; exact e
    · exfalso
      obtain ⟨f, hf, e3⟩ := pathsP_mem (List.getElem_mem hlt)
      obtain ⟨j, hj, e4⟩ := List.getElem_of_mem hf
      have h5 := h4 j hj hj (by rw [e4, ← e3]; exact (cand_at (pathsP_rise fa fb) hlt hk).2 (Nat.le_refl _))
      rw [e4, ← e3, ← e] at h5
      exact h5 ((List.pairwise_iff_getElem.1 (pathsP_rise fa fb)) k q hlt hq r)
end Go.Proofs.YthjaepmfkgejkaaDoor
