/-
  What applying hunks gives, place by place: each hunk and each line is met as it must be, and no text on the way is longer than the last one. No conditions; no program.
-/
import Derived.Test.YtfjmbcljohobeaaDoorHunks23Spec
import Derived.Lib.Join
namespace Go.Proofs.YtfjmbcljohobeaaDoor
set_option linter.unusedVariables false

theorem lnStep_len (st : Nat × List UInt8) (s : List UInt8) : st.2.length ≤ (lnStep st s).2.length := by
  unfold lnStep
  simp only
  split
  · exact Nat.le_refl _
  · rw [List.length_append]; omega
theorem lnsStep_len : ∀ (ls : List (List UInt8)) (st : Nat × List UInt8), st.2.length ≤ (ls.foldl lnStep st).2.length
  | [], _ => Nat.le_refl _
  | s :: ls, st => Nat.le_trans (lnStep_len st s) (lnsStep_len ls _)
theorem hkStart_len (x : List (List UInt8)) (st : Nat × List UInt8) (h : HunkD) : st.2.length ≤ (hkStart x st h).2.length := by
  unfold hkStart
  simp only
  rw [List.length_append]; omega
theorem hkStep_len (x : List (List UInt8)) (st : Nat × List UInt8) (h : HunkD) : st.2.length ≤ (hkStep x st h).2.length := Nat.le_trans (hkStart_len x st h) (lnsStep_len _ _)
theorem hksStep_len (x : List (List UInt8)) : ∀ (H : List HunkD) (st : Nat × List UInt8), st.2.length ≤ (H.foldl (hkStep x) st).2.length
  | [], _ => Nat.le_refl _
  | h :: H, st => Nat.le_trans (hkStep_len x st h) (hksStep_len x H _)
theorem lnsOk_app (x : List (List UInt8)) (b : List (List UInt8)) : ∀ (a : List (List UInt8)) (st : Nat × List UInt8), lnsOk x st (a ++ b) → lnsOk x (a.foldl lnStep st) b
  | [], _, h => h
  | _ :: a, _, h => lnsOk_app x b a _ h.2
theorem hksOk_app (x : List (List UInt8)) (b : List HunkD) : ∀ (a : List HunkD) (st : Nat × List UInt8), hksOk x st (a ++ b) → hksOk x (a.foldl (hkStep x) st) b
  | [], _, h => h
  | _ :: a, _, h => hksOk_app x b a _ h.2
theorem lnStep_at {x : List (List UInt8)} {st : Nat × List UInt8} {s : List UInt8} (h : lnOk x st.1 s) (h0 : st.1 ≤ x.length) : (lnStep st s).1 ≤ x.length := by
  unfold lnStep
  simp only
  split
  · exact h0
  · rename_i h1
    rcases h.2 with h2 | ⟨_, h2⟩
    · exact absurd h2 h1
    · have := (List.getElem?_eq_some_iff.1 h2).1
      omega
theorem lnsStep_at {x : List (List UInt8)} : ∀ (ls : List (List UInt8)) (st : Nat × List UInt8), lnsOk x st ls → st.1 ≤ x.length → (ls.foldl lnStep st).1 ≤ x.length
  | [], _, _, h => h
  | _ :: ls, _, h, h0 => lnsStep_at ls _ h.2 (lnStep_at h.1 h0)
theorem hksStep_at {x : List (List UInt8)} : ∀ (H : List HunkD) (st : Nat × List UInt8), hksOk x st H → st.1 ≤ x.length → (H.foldl (hkStep x) st).1 ≤ x.length
  | [], _, _, h => h
  | h :: H, st, hk, h0 => hksStep_at H _ hk.2 (lnsStep_at h.2.2 _ hk.1.2.2 hk.1.2.1)
/-- The hunk at k is met as it must be. -/
theorem hks_at {x : List (List UInt8)} {H : List HunkD} (h : hksOk x (0, []) H) (k : Nat) (hk : k < H.length) : hkOk x ((H.take k).foldl (hkStep x) (0, [])) H[k] ∧ (H.take (k + 1)).foldl (hkStep x) (0, []) = hkStep x ((H.take k).foldl (hkStep x) (0, [])) H[k] := by
  have h1 := h
  rw [← List.take_append_drop k H] at h1
  have h2 := hksOk_app _ _ _ _ h1
  rw [List.drop_eq_getElem_cons hk] at h2
  refine ⟨h2.1, ?_⟩
  rw [List.take_succ_eq_append_getElem hk, List.foldl_append]
  rfl
theorem lns_at {x : List (List UInt8)} {ls : List (List UInt8)} {st : Nat × List UInt8} (h : lnsOk x st ls) (k : Nat) (hk : k < ls.length) : lnOk x ((ls.take k).foldl lnStep st).1 ls[k] ∧ (ls.take (k + 1)).foldl lnStep st = lnStep ((ls.take k).foldl lnStep st) ls[k] := by
  have h1 := h
  rw [← List.take_append_drop k ls] at h1
  have h2 := lnsOk_app _ _ _ _ h1
  rw [List.drop_eq_getElem_cons hk] at h2
  refine ⟨h2.1, ?_⟩
  rw [List.take_succ_eq_append_getElem hk, List.foldl_append]
  rfl
theorem hks_len {x : List (List UInt8)} {H : List HunkD} (k : Nat) : ((H.take k).foldl (hkStep x) (0, [])).2.length ≤ (hksTo x H).2.length := by
  unfold hksTo
  conv => rhs; rw [← List.take_append_drop k H, List.foldl_append]
  exact hksStep_len _ _ _
theorem lns_len {ls : List (List UInt8)} {st : Nat × List UInt8} (k : Nat) : ((ls.take k).foldl lnStep st).2.length ≤ (ls.foldl lnStep st).2.length := by
  conv => rhs; rw [← List.take_append_drop k ls, List.foldl_append]
  exact lnsStep_len _ _
theorem join_none (xs : List (List UInt8)) : Lib.join xs [] = xs.flatten := by
  cases xs with
  | nil => rfl
  | cons x r =>
    rw [Lib.join_cons]
    unfold Lib.joinTail
    have : (([] : List UInt8) ++ ·) = (id : List UInt8 → List UInt8) := by funext l; rfl
    rw [this, List.map_id]
    rfl
end Go.Proofs.YtfjmbcljohobeaaDoor
