/-
  Hunks stand apart, with at most three lines around: what the law counts. No conditions; no program.
-/
import Derived.Test.YthjaepmfkgejkaaDoorHunkSpec
namespace Go.Proofs.YthjaepmfkgejkaaDoor
set_option linter.unusedVariables false

/-- What the law counts in a hunk's lines: those of the first row, the kept ones ahead, the kept ones behind, the unlike ones. -/
def tstep (t : Nat × Nat × Nat × Nat) (s : List UInt8) : Nat × Nat × Nat × Nat :=
  (if s.headD 0 = 43 then t.1 else t.1 + 1, if s.headD 0 = 32 ∧ t.2.2.2 = 0 then t.2.1 + 1 else t.2.1, if s.headD 0 = 32 then t.2.2.1 + 1 else 0, if s.headD 0 = 32 then t.2.2.2 else t.2.2.2 + 1)
def tally (ls : List (List UInt8)) : Nat × Nat × Nat × Nat := ls.foldl tstep (0, 0, 0, 0)
theorem tally_snoc (ls : List (List UInt8)) (s : List UInt8) : tally (ls ++ [s]) = tstep (tally ls) s := by simp [tally]
theorem tstep32 (t : Nat × Nat × Nat × Nat) (s : List UInt8) : tstep t (32 :: s) = (t.1 + 1, (if t.2.2.2 = 0 then t.2.1 + 1 else t.2.1), t.2.2.1 + 1, t.2.2.2) := by simp [tstep]
theorem tstep45 (t : Nat × Nat × Nat × Nat) (s : List UInt8) : tstep t (45 :: s) = (t.1 + 1, t.2.1, 0, t.2.2.2 + 1) := by simp [tstep]
theorem tstep43 (t : Nat × Nat × Nat × Nat) (s : List UInt8) : tstep t (43 :: s) = (t.1, t.2.1, 0, t.2.2.2 + 1) := by simp [tstep]
def endH (h : HunkD) : Int := h.1 + (tally h.2.2).1
def apart : Int → List HunkD → Prop
  | _, [] => True
  | e, h :: t => e < h.1 ∧ apart (endH h) t
def lastEnd : Int → List HunkD → Int
  | e, [] => e
  | _, h :: t => lastEnd (endH h) t
theorem apart_app : ∀ (e : Int) (a b : List HunkD), apart e (a ++ b) ↔ apart e a ∧ apart (lastEnd e a) b
  | e, [], b => by simp [apart, lastEnd]
  | e, h :: a, b => by
    show (e < h.1 ∧ apart (endH h) (a ++ b)) ↔ (e < h.1 ∧ apart (endH h) a) ∧ apart (lastEnd (endH h) a) b
    rw [apart_app, and_assoc]
theorem lastEnd_app : ∀ (e : Int) (a b : List HunkD), lastEnd e (a ++ b) = lastEnd (lastEnd e a) b
  | e, [], b => rfl
  | e, h :: a, b => lastEnd_app (endH h) a b
theorem apart_snoc (e : Int) (a : List HunkD) (h : HunkD) : apart e (a ++ [h]) ↔ apart e a ∧ lastEnd e a < h.1 := by
  rw [apart_app]
  simp [apart]
theorem lastEnd_snoc (e : Int) (a : List HunkD) (h : HunkD) : lastEnd e (a ++ [h]) = endH h := lastEnd_app e a [h]
/-- A hunk as the law wants it. -/
def Gd (h : HunkD) : Prop := h.2.2 ≠ [] ∧ (∀ s ∈ h.2.2, s ≠ []) ∧ (tally h.2.2).2.1 ≤ 3 ∧ (tally h.2.2).2.2.1 ≤ 3 ∧ (tally h.2.2).2.2.2 ≠ 0
def Clo (i : Nat) (out : List HunkD) : Prop := apart (-1) out ∧ (∀ h ∈ out, Gd h) ∧ lastEnd (-1) out < i
def Cnt (mv : List Nat) (s n : Nat) (t : Nat × Nat × Nat × Nat) : Prop :=
  (t.2.2.2 = 0 ∧ t.2.1 = n - s ∧ ∀ k, s ≤ k → k < n → mv.getD k 0 = 1) ∨
  (t.2.2.2 ≠ 0 ∧ t.2.1 ≤ 3 ∧ ∃ m, s ≤ m ∧ m < n ∧ mv.getD m 0 ≠ 1 ∧ t.2.2.1 + m + 1 = n ∧ ∀ k, m < k → k < n → mv.getD k 0 = 1)
/-- A hunk that is not ended yet. -/
def Opn (told : Nat → Bool) (mv : List Nat) (n i : Nat) (out : List HunkD) : Prop :=
  ∃ (pre : List HunkD) (f t : Nat) (ls : List (List UInt8)) (s : Nat), out = pre ++ [(f, t, ls)] ∧ apart (-1) pre ∧ lastEnd (-1) pre < f ∧ (∀ h ∈ pre, Gd h) ∧ (f : Int) + (tally ls).1 = i ∧ s ≤ n ∧ (∀ k, s ≤ k → k < n → told k = true) ∧ (s = 0 ∨ told (s - 1) = false) ∧ (∀ l ∈ ls, l ≠ []) ∧ Cnt mv s n (tally ls)
section
variable {told : Nat → Bool} {mv : List Nat} {x y : List (List UInt8)} {n i j : Nat} {out : List HunkD}
/-- Which moves are told. -/
def ToldIs (told : Nat → Bool) (mv : List Nat) : Prop := ∀ k, k < mv.length → (told k = true ↔ ∃ j, j < mv.length ∧ mv.getD j 0 ≠ 1 ∧ j ≤ k + 3 ∧ k ≤ j + 3)
theorem opn_first (hT : ToldIs told mv) (hn : n < mv.length) {s : Nat} (hsn : s ≤ n) (htn : told n = true) (hs : ∀ k, s ≤ k → k < n → told k = true) (h0 : s = 0 ∨ told (s - 1) = false) (hk : ∀ k, s ≤ k → k < n → mv.getD k 0 = 1) : n - s ≤ 3 := by
  have hts : told s = true := by
    rcases Nat.lt_or_eq_of_le hsn with h | h
    · exact hs s (Nat.le_refl _) h
    · rw [h]; exact htn
  obtain ⟨j, hj, hne, h1, h2⟩ := (hT s (by omega)).1 hts
  by_cases hjn : n ≤ j
  · omega
  · by_cases hjs : s ≤ j
    · exact absurd (hk j hjs (by omega)) hne
    · rcases h0 with h0 | h0
      · omega
      · have : told (s - 1) = true := (hT (s - 1) (by omega)).2 ⟨j, hj, hne, by omega, by omega⟩
        rw [this] at h0; cases h0
theorem opn_add (h : Opn told mv n i out) (htn : told n = true) (hT : ToldIs told mv) (hn : n < mv.length) (s : List UInt8) {i' : Nat}
    (hc : (mv.getD n 0 = 1 ∧ (∃ r, s = 32 :: r) ∧ i' = i + 1) ∨ (mv.getD n 0 ≠ 1 ∧ (∃ r, s = 45 :: r) ∧ i' = i + 1) ∨ (mv.getD n 0 ≠ 1 ∧ (∃ r, s = 43 :: r) ∧ i' = i)) : Opn told mv (n + 1) i' (addLine out s) := by
  obtain ⟨pre, f, t, ls, a, rfl, h1, h2, h3, h4, h5, h6, h7, h8, h9⟩ := h
  have hfirst : (∀ k, a ≤ k → k < n → mv.getD k 0 = 1) → n - a ≤ 3 := opn_first hT hn h5 htn h6 h7
  refine ⟨pre, f, t, ls ++ [s], a, addLine_snoc _ _ _ _ _, h1, h2, h3, ?_, by omega, fun k hk1 hk2 => ?_, h7, fun l hl => ?_, ?_⟩
  · rw [tally_snoc]
    rcases hc with ⟨_, ⟨r, rfl⟩, rfl⟩ | ⟨_, ⟨r, rfl⟩, rfl⟩ | ⟨_, ⟨r, rfl⟩, rfl⟩
    · rw [tstep32]; simp only []; omega
    · rw [tstep45]; simp only []; omega
    · rw [tstep43]; exact h4
  · rcases (by omega : k < n ∨ k = n) with q | rfl
    · exact h6 k hk1 q
    · exact htn
  · rcases List.mem_append.1 hl with q | q
    · exact h8 l q
    · rw [List.mem_singleton.1 q]
      rcases hc with ⟨_, ⟨r, rfl⟩, _⟩ | ⟨_, ⟨r, rfl⟩, _⟩ | ⟨_, ⟨r, rfl⟩, _⟩ <;> simp
  · rw [tally_snoc]
    have hall : mv.getD n 0 = 1 → (∀ k, a ≤ k → k < n → mv.getD k 0 = 1) → ∀ k, a ≤ k → k < n + 1 → mv.getD k 0 = 1 := by
      intro hm hk k hk1 hk2
      rcases (by omega : k < n ∨ k = n) with q | rfl
      · exact hk k hk1 q
      · exact hm
    rcases hc with ⟨hm, ⟨r, rfl⟩, _⟩ | ⟨hm, ⟨r, rfl⟩, _⟩ | ⟨hm, ⟨r, rfl⟩, _⟩
    · rw [tstep32]
      rcases h9 with ⟨c1, c2, c3⟩ | ⟨c1, c2, m, m1, m2, m3, m4, m5⟩
      · exact .inl ⟨c1, by simp only [c1, if_true]; omega, hall hm c3⟩
      · refine .inr ⟨c1, by simp only [if_neg c1]; exact c2, m, m1, by omega, m3, by simp only []; omega, fun k hk1 hk2 => ?_⟩
        rcases (by omega : k < n ∨ k = n) with q | rfl
        · exact m5 k hk1 q
        · exact hm
    · rw [tstep45]
      refine .inr ⟨by simp, ?_, n, h5, by omega, hm, by simp only []; omega, fun k hk1 hk2 => by omega⟩
      rcases h9 with ⟨c1, c2, c3⟩ | ⟨c1, c2, _⟩
      · have := hfirst c3; simp only []; omega
      · exact c2
    · rw [tstep43]
      refine .inr ⟨by simp, ?_, n, h5, by omega, hm, by simp only []; omega, fun k hk1 hk2 => by omega⟩
      rcases h9 with ⟨c1, c2, c3⟩ | ⟨c1, c2, _⟩
      · have := hfirst c3; simp only []; omega
      · exact c2
/-- A hunk that ends is as the law wants it. -/
theorem opn_end (h : Opn told mv n i out) (hT : ToldIs told mv) (hn : n ≤ mv.length) (hn0 : 0 < n) (ht1 : told (n - 1) = true) (ht : n = mv.length ∨ told n = false) : apart (-1) out ∧ (∀ h ∈ out, Gd h) ∧ lastEnd (-1) out = i := by
  obtain ⟨pre, f, t, ls, a, rfl, h1, h2, h3, h4, h5, h6, h7, h8, h9⟩ := h
  obtain ⟨j, hj, hne, j1, j2⟩ := (hT (n - 1) (by omega)).1 ht1
  have hjn : j < n := by
    rcases ht with h | h
    · omega
    · rcases Nat.lt_or_ge j n with q | q
      · exact q
      · rcases Nat.lt_or_ge n mv.length with q2 | q2
        · have : told n = true := (hT n q2).2 ⟨j, hj, hne, by omega, by omega⟩
          rw [this] at h; cases h
        · omega
  have hja : a ≤ j := by
    rcases Nat.lt_or_ge j a with q | q
    · exfalso
      rcases h7 with h | h
      · omega
      · have : told (a - 1) = true := (hT (a - 1) (by omega)).2 ⟨j, hj, hne, by omega, by omega⟩
        rw [this] at h; cases h
    · exact q
  refine ⟨(apart_snoc _ _ _).2 ⟨h1, h2⟩, fun h hh => ?_, by rw [lastEnd_snoc]; exact h4⟩
  rcases List.mem_append.1 hh with q | q
  · exact h3 h q
  · rw [List.mem_singleton.1 q]
    rcases h9 with ⟨c1, c2, c3⟩ | ⟨c1, c2, m, m1, m2, m3, m4, m5⟩
    · exact absurd (c3 j hja hjn) hne
    · have hjm : j ≤ m := by
        rcases Nat.lt_or_ge m j with q2 | q2
        · exact absurd (m5 j q2 hjn) hne
        · exact q2
      refine ⟨?_, h8, c2, ?_, c1⟩
      · rintro rfl; exact c1 rfl
      · show (tally ls).2.2.1 ≤ 3; omega
theorem hunks_inv (hT : ToldIs told mv) : ∀ (n i j : Nat) (out : List HunkD), n ≤ mv.length → hunksTo told mv x y n = (i, j, out) →
    ((n = 0 ∨ told (n - 1) = false) → Clo i out) ∧ (0 < n → told (n - 1) = true → Opn told mv n i out)
  | 0, i, j, out, hn, h => by
    simp only [hunksTo, Prod.mk.injEq] at h
    obtain ⟨rfl, rfl, rfl⟩ := h
    exact ⟨fun _ => ⟨trivial, fun h hh => (by cases hh), by decide⟩, fun h => absurd h (by omega)⟩
  | n + 1, i', j', out', hn, h => by
    obtain ⟨i, j, out, h0⟩ : ∃ i j out, hunksTo told mv x y n = (i, j, out) := ⟨_, _, _, rfl⟩
    obtain ⟨ih1, ih2⟩ := hunks_inv hT n i j out (by omega) h0
    rw [Nat.add_sub_cancel]
    cases ht : told n with
    | false =>
      rw [hunksTo_skip h0 ht] at h
      simp only [Prod.mk.injEq] at h
      obtain ⟨rfl, rfl, rfl⟩ := h
      refine ⟨fun _ => ?_, fun _ q => by cases q⟩
      by_cases hc : n = 0 ∨ told (n - 1) = false
      · obtain ⟨a1, a2, a3⟩ := ih1 hc
        exact ⟨a1, a2, by omega⟩
      · have hn0 : 0 < n := by omega
        have ht1 : told (n - 1) = true := by cases q : told (n - 1) with | true => rfl | false => exact absurd (.inr q) hc
        obtain ⟨a1, a2, a3⟩ := opn_end (ih2 hn0 ht1) hT (by omega) hn0 ht1 (.inr ht)
        exact ⟨a1, a2, by omega⟩
    | true =>
      refine ⟨fun q => ?_, fun _ _ => ?_⟩
      · rcases q with q | q
        · omega
        · cases q
      have hop : Opn told mv n i (opened told n i j out) := by
        unfold opened
        by_cases hc : n = 0 ∨ told (n - 1) = false
        · rw [if_pos hc]
          obtain ⟨a1, a2, a3⟩ := ih1 hc
          refine ⟨out, i, j, [], n, rfl, a1, a3, a2, ?_, Nat.le_refl _, fun k h1 h2 => by omega, hc, fun l hl => (by cases hl), .inl ⟨rfl, by simp [tally], fun k h1 h2 => by omega⟩⟩
          show (i : Int) + (0 : Nat) = i; omega
        · rw [if_neg hc]
          have hn0 : 0 < n := by omega
          exact ih2 hn0 (by cases q : told (n - 1) with | true => rfl | false => exact absurd (.inr q) hc)
      by_cases m1 : mv.getD n 0 = 1
      · rw [hunksTo_keep h0 ht m1] at h
        simp only [Prod.mk.injEq] at h
        obtain ⟨rfl, rfl, rfl⟩ := h
        exact opn_add hop ht hT (by omega) _ (.inl ⟨m1, ⟨_, rfl⟩, rfl⟩)
      · by_cases m2 : mv.getD n 0 = 2
        · rw [hunksTo_drop h0 ht m2] at h
          simp only [Prod.mk.injEq] at h
          obtain ⟨rfl, rfl, rfl⟩ := h
          exact opn_add hop ht hT (by omega) _ (.inr (.inl ⟨m1, ⟨_, rfl⟩, rfl⟩))
        · rw [hunksTo_add h0 ht m1 m2] at h
          simp only [Prod.mk.injEq] at h
          obtain ⟨rfl, rfl, rfl⟩ := h
          exact opn_add hop ht hT (by omega) _ (.inr (.inr ⟨m1, ⟨_, rfl⟩, rfl⟩))
/-- Hunks stand apart, and each is as the law wants it. -/
theorem hunks_apart (hT : ToldIs told mv) (h : hunksTo told mv x y mv.length = (i, j, out)) : apart (-1) out ∧ ∀ h ∈ out, Gd h := by
  obtain ⟨h1, h2⟩ := hunks_inv hT mv.length i j out (Nat.le_refl _) h
  by_cases hc : mv.length = 0 ∨ told (mv.length - 1) = false
  · exact ⟨(h1 hc).1, (h1 hc).2.1⟩
  · have hn0 : 0 < mv.length := by omega
    have ht1 : told (mv.length - 1) = true := by cases q : told (mv.length - 1) with | true => rfl | false => exact absurd (.inr q) hc
    have := opn_end (h2 hn0 ht1) hT (Nat.le_refl _) hn0 ht1 (.inl rfl)
    exact ⟨this.1, this.2.1⟩
end
end Go.Proofs.YthjaepmfkgejkaaDoor
