/-
  A text's lines. No conditions; no program.
  How much two rows differ: the least number of elements to drop and to add. No conditions; no program.
  The search from the ends back: each list holds, for each diagonal, the least place from which the rest costs so much at most. No conditions; no program.
-/
import Derived.Lib.SplitLaws
set_option linter.unusedVariables false
namespace Go.Proofs.YtmlhijlcefogmaaGreatDoor

def linesS : List UInt8 → List (List UInt8)
  | [] => []
  | b :: r => if b = 10 then [10] :: linesS r else match linesS r with
    | [] => [[b]]
    | l :: ls => (b :: l) :: ls
theorem linesS_ten (r : List UInt8) : linesS (10 :: r) = [10] :: linesS r := by simp [linesS]
theorem linesS_ne {b : UInt8} (h : b ≠ 10) (r : List UInt8) : linesS (b :: r) = match linesS r with | [] => [[b]] | l :: ls => (b :: l) :: ls := by simp [linesS, h]
end Go.Proofs.YtmlhijlcefogmaaGreatDoor
namespace Go.Proofs.YtmlhijlcefogmaaGreatDoor

def costL : List Int → List Int → Nat
  | [], y => y.length
  | a :: x, [] => x.length + 1
  | a :: x, b :: y => if a = b then costL x y else 1 + min (costL x (b :: y)) (costL (a :: x) y)
  termination_by x y => x.length + y.length
theorem cost_nil (y : List Int) : costL [] y = y.length := by unfold costL; rfl
theorem cost_nil' (x : List Int) : costL x [] = x.length := by cases x <;> (unfold costL; rfl)
theorem cost_eq (a : Int) (x y : List Int) : costL (a :: x) (a :: y) = costL x y := by rw [costL, if_pos rfl]
theorem cost_ne {a b : Int} (h : a ≠ b) (x y : List Int) : costL (a :: x) (b :: y) = 1 + min (costL x (b :: y)) (costL (a :: x) y) := by rw [costL, if_neg h]
theorem cost_lip : ∀ (s : Nat) (x y : List Int), x.length + y.length ≤ s → (∀ a, costL x y ≤ costL (a :: x) y + 1 ∧ costL (a :: x) y ≤ costL x y + 1) ∧ (∀ b, costL x y ≤ costL x (b :: y) + 1 ∧ costL x (b :: y) ≤ costL x y + 1)
  | s, [], y, hs => by
    refine ⟨fun a => ?_, fun b => by rw [cost_nil, cost_nil, List.length_cons]; omega⟩
    cases y with
    | nil => rw [cost_nil, cost_nil']; simp
    | cons b y =>
      rw [cost_nil, List.length_cons]
      by_cases h : a = b
      · subst h; rw [cost_eq, cost_nil]; omega
      · rw [cost_ne h, cost_nil, List.length_cons]
        have ih := cost_lip (s - 1) [] y (by simp at hs ⊢; omega)
        have := (ih.1 a)
        rw [cost_nil] at this
        omega
  | s, c :: x, [], hs => by
    refine ⟨fun a => by rw [cost_nil', cost_nil']; simp, fun b => ?_⟩
    rw [cost_nil', List.length_cons]
    by_cases h : c = b
    · subst h; rw [cost_eq, cost_nil']; omega
    · rw [cost_ne h, cost_nil', List.length_cons]
      have ih := cost_lip (s - 1) x [] (by simp at hs ⊢; omega)
      have := (ih.2 b)
      rw [cost_nil'] at this
      omega
  | s, c :: x, e :: y, hs => by
    simp at hs
    have ih0 := cost_lip (s - 2) x y (by omega)
    have ih1 := cost_lip (s - 1) x (e :: y) (by simp; omega)
    have ih2 := cost_lip (s - 1) (c :: x) y (by simp; omega)
    constructor
    · intro a
      have h1 := (ih1.1 c)
      have h2 := (ih0.2 e)
      have h3 := (ih0.1 c)
      have h5 := (ih2.1 a)
      have h6 := (ih2.2 e)
      by_cases hae : a = e
      · subst hae
        rw [cost_eq a (c :: x) y]
        exact ⟨h6.2, h6.1⟩
      · rw [cost_ne hae]
        have h7 := (ih2.1 a).1
        have h8 := (ih2.2 e)
        omega
    · intro b
      have h1 := (ih2.2 e)
      have h2 := (ih0.1 c)
      have h5 := (ih1.2 b)
      have h6 := (ih1.1 c)
      by_cases hcb : c = b
      · subst hcb
        rw [cost_eq c x (e :: y)]
        exact ⟨h6.2, h6.1⟩
      · rw [cost_ne hcb]
        have h7 := (ih1.2 b).1
        omega
theorem cost_left (a : Int) (x y : List Int) : costL x y ≤ costL (a :: x) y + 1 ∧ costL (a :: x) y ≤ costL x y + 1 := (cost_lip _ x y (Nat.le_refl _)).1 a
theorem cost_right (b : Int) (x y : List Int) : costL x y ≤ costL x (b :: y) + 1 ∧ costL x (b :: y) ≤ costL x y + 1 := (cost_lip _ x y (Nat.le_refl _)).2 b
/-- Without the first ones it costs no more. -/
theorem cost_up (a b : Int) (x y : List Int) : costL x y ≤ costL (a :: x) (b :: y) := by
  by_cases h : a = b
  · subst h; rw [cost_eq]; exact Nat.le_refl _
  · rw [cost_ne h]
    have h1 := (cost_right b x y).1
    have h2 := (cost_left a x y).1
    omega
theorem cost_par : ∀ (s : Nat) (x y : List Int), x.length + y.length ≤ s → costL x y % 2 = (x.length + y.length) % 2 ∧ x.length ≤ y.length + costL x y ∧ y.length ≤ x.length + costL x y
  | s, [], y, hs => by rw [cost_nil]; simp
  | s, c :: x, [], hs => by rw [cost_nil']; simp
  | s, c :: x, e :: y, hs => by
    simp at hs
    by_cases h : c = e
    · subst h
      rw [cost_eq]
      have ih := cost_par (s - 2) x y (by omega)
      simp only [List.length_cons]
      omega
    · rw [cost_ne h]
      have ih1 := cost_par (s - 1) x (e :: y) (by simp; omega)
      have ih2 := cost_par (s - 1) (c :: x) y (by simp; omega)
      simp only [List.length_cons] at *
      omega
/-- The script: 1 keeps, 2 drops, 3 adds. -/
def movesS : List Int → List Int → List Nat
  | [], y => List.replicate y.length 3
  | a :: x, [] => 2 :: movesS x []
  | a :: x, b :: y => if a = b then 1 :: movesS x y else if costL x (b :: y) ≤ costL (a :: x) y then 2 :: movesS x (b :: y) else 3 :: movesS (a :: x) y
  termination_by x y => x.length + y.length
/-- What the rest costs from i and j on. -/
def C (a b : List Int) (i j : Nat) : Nat := costL (a.drop i) (b.drop j)
section
variable {a b : List Int} {i j : Nat}
theorem C_match (hi : i < a.length) (hj : j < b.length) (h : a[i] = b[j]) : C a b i j = C a b (i + 1) (j + 1) := by
  unfold C
  rw [List.drop_eq_getElem_cons hi, List.drop_eq_getElem_cons hj, h, cost_eq]
theorem C_ne (hi : i < a.length) (hj : j < b.length) (h : a[i] ≠ b[j]) : C a b i j = 1 + min (C a b (i + 1) j) (C a b i (j + 1)) := by
  unfold C
  rw [List.drop_eq_getElem_cons hi, List.drop_eq_getElem_cons hj, cost_ne h]
theorem C_up (hi : i < a.length) (hj : j < b.length) : C a b (i + 1) (j + 1) ≤ C a b i j := by
  unfold C
  rw [List.drop_eq_getElem_cons hi, List.drop_eq_getElem_cons hj]
  exact cost_up _ _ _ _
theorem C_drop (hi : i < a.length) : C a b i j ≤ C a b (i + 1) j + 1 := by
  unfold C
  rw [List.drop_eq_getElem_cons hi]
  exact (cost_left _ _ _).2
theorem C_add (hj : j < b.length) : C a b i j ≤ C a b i (j + 1) + 1 := by
  unfold C
  rw [List.drop_eq_getElem_cons hj]
  exact (cost_right _ _ _).2
theorem C_end (hi : i = a.length) : C a b i j = b.length - j := by
  unfold C
  rw [List.drop_eq_nil_of_le (by omega), cost_nil, List.length_drop]
theorem C_end' (hj : j = b.length) : C a b i j = a.length - i := by
  unfold C
  rw [List.drop_eq_nil_of_le (i := j) (by omega), cost_nil', List.length_drop]
theorem C_far (hi : i ≤ a.length) (hj : j ≤ b.length) : C a b i j % 2 = (a.length - i + (b.length - j)) % 2 ∧ a.length - i ≤ b.length - j + C a b i j ∧ b.length - j ≤ a.length - i + C a b i j := by
  have h := cost_par _ (a.drop i) (b.drop j) (Nat.le_refl _)
  rw [List.length_drop, List.length_drop] at h
  exact h
theorem C_zero_j : ∀ j, j ≤ b.length → C a b 0 0 ≤ C a b 0 j + j
  | 0, _ => by omega
  | j + 1, h => by
    have h1 := C_zero_j j (by omega)
    have h2 := C_add (a := a) (b := b) (i := 0) (j := j) (by omega)
    omega
theorem C_zero_i : ∀ i, i ≤ a.length → C a b 0 0 ≤ C a b i 0 + i
  | 0, _ => by omega
  | i + 1, h => by
    have h1 := C_zero_i i (by omega)
    have h2 := C_drop (a := a) (b := b) (i := i) (j := 0) (by omega)
    omega
end
end Go.Proofs.YtmlhijlcefogmaaGreatDoor
namespace Go.Proofs.YtmlhijlcefogmaaGreatDoor

def never : Nat := 2147483647
def slideS (a b : List Int) : Nat → Int → Nat
  | 0, _ => 0
  | i + 1, k => if 0 < (i : Int) + 1 - k ∧ a[i]? = b[((i : Int) - k).toNat]? then slideS a b i k else i + 1
def On (a b : List Int) (k : Int) (i : Nat) : Prop := 0 ≤ (i : Int) - k ∧ i ≤ a.length ∧ (i : Int) - k ≤ b.length
def R (a b : List Int) (d : Nat) (k : Int) (i : Nat) : Prop := On a b k i ∧ C a b i ((i : Int) - k).toNat ≤ d
def dg (a b : List Int) (d t : Nat) : Int := (a.length : Int) - b.length - d + 2 * t
def tryS (best : Nat) (i k : Int) : Nat := if 0 ≤ i ∧ 0 ≤ i - k then min best i.toNat else best
def best1 (a b : List Int) (d : Nat) (ahead : List Nat) (t : Nat) : Nat := if t < d ∧ ahead.getD t never ≠ never then tryS never ((ahead.getD t never : Int) - 1) (dg a b d t) else never
def best2 (a b : List Int) (d : Nat) (ahead : List Nat) (t : Nat) : Nat := if 0 < t ∧ ahead.getD (t - 1) never ≠ never then tryS (best1 a b d ahead t) (ahead.getD (t - 1) never : Int) (dg a b d t) else best1 a b d ahead t
def nextAt (a b : List Int) (d : Nat) (ahead : List Nat) (t : Nat) : Nat := if best2 a b d ahead t ≠ never then slideS a b (best2 a b d ahead t) (dg a b d t) else never
def nextS (a b : List Int) (d : Nat) (ahead : List Nat) : List Nat := (List.range (d + 1)).map (nextAt a b d ahead)
def lst (a b : List Int) : Nat → List Nat
  | 0 => [slideS a b a.length ((a.length : Int) - b.length)]
  | d + 1 => nextS a b (d + 1) (lst a b d)
theorem lst_length (a b : List Int) (d : Nat) : (lst a b d).length = d + 1 := by cases d <;> simp [lst, nextS]
theorem lst_at (a b : List Int) (d t : Nat) (h : t ≤ d + 1) : (lst a b (d + 1)).getD t never = nextAt a b (d + 1) (lst a b d) t := by
  rw [List.getD_eq_getElem?_getD]
  show ((List.map _ _)[t]?).getD never = _
  rw [List.getElem?_map, List.getElem?_range (by omega)]
  rfl

section
variable {a b : List Int} {d : Nat} {k : Int} {x y i : Nat}
theorem slide_spec : ∀ (i : Nat), 0 ≤ (i : Int) - k → i ≤ a.length → (i : Int) - k ≤ b.length →
    slideS a b i k ≤ i ∧ 0 ≤ (slideS a b i k : Int) - k ∧ C a b (slideS a b i k) ((slideS a b i k : Int) - k).toNat = C a b i ((i : Int) - k).toNat ∧
      (slideS a b i k = 0 ∨ (slideS a b i k : Int) - k = 0 ∨ a[slideS a b i k - 1]? ≠ b[((slideS a b i k : Int) - 1 - k).toNat]?)
  | 0, h0, h1, h2 => ⟨Nat.le_refl _, h0, rfl, .inl rfl⟩
  | i + 1, h0, h1, h2 => by
    by_cases h : 0 < (i : Int) + 1 - k ∧ a[i]? = b[((i : Int) - k).toNat]?
    · have e : slideS a b (i + 1) k = slideS a b i k := by rw [slideS, if_pos h]
      rw [e]
      obtain ⟨g1, g2, g3, g4⟩ := slide_spec i (by omega) (by omega) (by omega)
      refine ⟨by omega, g2, ?_, g4⟩
      rw [g3]
      have hj : ((i : Int) - k).toNat < b.length := by omega
      have hm := h.2
      rw [List.getElem?_eq_getElem (by omega), List.getElem?_eq_getElem hj] at hm
      rw [C_match (by omega) hj (Option.some.inj hm)]
      congr 1
      omega
    · have e : slideS a b (i + 1) k = i + 1 := by rw [slideS, if_neg h]
      rw [e]
      refine ⟨Nat.le_refl _, h0, rfl, ?_⟩
      by_cases hp : 0 < (i : Int) + 1 - k
      · refine .inr (.inr fun q => h ⟨hp, ?_⟩)
        simp only [Nat.add_sub_cancel] at q
        rw [q]
        congr 1
        omega
      · exact .inr (.inl (by omega))
theorem R.up1 (h : R a b d k x) (hi : x < a.length) (hj : (x : Int) - k < b.length) : R a b d k (x + 1) := by
  obtain ⟨⟨h0, h1, h2⟩, hc⟩ := h
  have e : (((x + 1 : Nat) : Int) - k).toNat = ((x : Int) - k).toNat + 1 := by omega
  refine ⟨⟨by omega, by omega, by omega⟩, ?_⟩
  rw [e]
  exact Nat.le_trans (C_up hi (by omega)) hc
theorem R.up (h : R a b d k x) : ∀ y, x ≤ y → y ≤ a.length → (y : Int) - k ≤ b.length → R a b d k y := by
  intro y
  induction y with
  | zero => intro hy _ _; rwa [show x = 0 by omega] at h
  | succ y ih =>
    intro hy h1 h2
    by_cases he : x = y + 1
    · rwa [he] at h
    · exact (ih (by omega) (by omega) (by omega)).up1 (by omega) (by omega)
theorem R.far (h : R a b d k x) : (a.length : Int) - b.length - k ≤ d ∧ k - ((a.length : Int) - b.length) ≤ d := by
  obtain ⟨⟨h0, h1, h2⟩, hc⟩ := h
  have := C_far (a := a) (b := b) (i := x) (j := ((x : Int) - k).toNat) h1 (by omega)
  omega
/-- Within the whole's cost no place at a beginning is in the way. -/
theorem R.first (h : R a b d (k + 1) x) (hD : d + 1 + k.natAbs ≤ C a b 0 0) : 1 ≤ x := by
  obtain ⟨⟨h0, h1, h2⟩, hc⟩ := h
  rcases Nat.eq_zero_or_pos x with rfl | hp
  · have := C_zero_j (a := a) (b := b) (((0 : Nat) : Int) - (k + 1)).toNat (by omega)
    omega
  · exact hp
theorem R.second (h : R a b d (k - 1) x) (hD : d + 1 + k.natAbs ≤ C a b 0 0) : 0 ≤ (x : Int) - k := by
  obtain ⟨⟨h0, h1, h2⟩, hc⟩ := h
  by_cases hx : 0 ≤ (x : Int) - k
  · exact hx
  · have e : ((x : Int) - (k - 1)).toNat = 0 := by omega
    rw [e] at hc
    have := C_zero_i (a := a) (b := b) x h1
    omega
theorem dg_succ (t : Nat) : dg a b d t = dg a b (d + 1) t + 1 := by unfold dg; omega
theorem dg_pred (t : Nat) (h : 0 < t) : dg a b d (t - 1) = dg a b (d + 1) t - 1 := by unfold dg; omega

theorem R.drop1 (h : R a b d (k + 1) x) (hx : 1 ≤ x) : R a b (d + 1) k (x - 1) := by
  obtain ⟨⟨h0, h1, h2⟩, hc⟩ := h
  refine ⟨⟨by omega, by omega, by omega⟩, ?_⟩
  have h3 := C_drop (a := a) (b := b) (i := x - 1) (j := (((x - 1 : Nat) : Int) - k).toNat) (by omega)
  rw [show x - 1 + 1 = x by omega, show (((x - 1 : Nat) : Int) - k).toNat = ((x : Int) - (k + 1)).toNat by omega] at h3
  rw [show (((x - 1 : Nat) : Int) - k).toNat = ((x : Int) - (k + 1)).toNat by omega]
  omega
theorem R.add1 (h : R a b d (k - 1) x) (hx : 0 ≤ (x : Int) - k) : R a b (d + 1) k x := by
  obtain ⟨⟨h0, h1, h2⟩, hc⟩ := h
  refine ⟨⟨hx, h1, by omega⟩, ?_⟩
  have h3 := C_add (a := a) (b := b) (i := x) (j := ((x : Int) - k).toNat) (by omega)
  rw [show ((x : Int) - k).toNat + 1 = ((x : Int) - (k - 1)).toNat by omega] at h3
  omega
theorem R.slide (h : R a b d k x) : R a b d k (slideS a b x k) := by
  obtain ⟨⟨h0, h1, h2⟩, hc⟩ := h
  obtain ⟨g1, g2, g3, _⟩ := slide_spec (a := a) (b := b) (k := k) x h0 h1 h2
  exact ⟨⟨g2, by omega, by omega⟩, by rw [g3]; exact hc⟩
theorem try_le (best : Nat) (i k : Int) : tryS best i k ≤ best := by unfold tryS; split <;> omega
theorem best2_le1 (l : List Nat) (t : Nat) : best2 a b d l t ≤ best1 a b d l t := by
  unfold best2
  split
  · exact try_le _ _ _
  · exact Nat.le_refl _
/-- What the next list's place comes of. -/
theorem best2_R {t : Nat} (ht : t ≤ d + 1) (hs : ∀ u, u ≤ d → (lst a b d).getD u never ≠ never → R a b d (dg a b d u) ((lst a b d).getD u never)) :
    best2 a b (d + 1) (lst a b d) t ≠ never → R a b (d + 1) (dg a b (d + 1) t) (best2 a b (d + 1) (lst a b d) t) := by
  have h1 : best1 a b (d + 1) (lst a b d) t ≠ never → R a b (d + 1) (dg a b (d + 1) t) (best1 a b (d + 1) (lst a b d) t) := by
    unfold best1
    split
    · rename_i hc
      have hr := hs t (by omega) hc.2
      rw [dg_succ] at hr
      unfold tryS
      split
      · rename_i hv
        intro hne
        have hx1 : 1 ≤ (lst a b d).getD t never := by omega
        have hlt : ((lst a b d).getD t never : Int) - 1 < never := by
          by_cases hlt : (((lst a b d).getD t never : Int) - 1).toNat < never
          · omega
          · exact absurd (Nat.min_eq_left (by omega)) hne
        rw [Nat.min_eq_right (by omega), show (((lst a b d).getD t never : Int) - 1).toNat = (lst a b d).getD t never - 1 by omega]
        exact hr.drop1 hx1
      · exact fun h => absurd rfl h
    · exact fun h => absurd rfl h
  unfold best2
  split
  · rename_i hc
    have hr := hs (t - 1) (by omega) hc.2
    rw [dg_pred t hc.1] at hr
    unfold tryS
    split
    · rename_i hv
      intro hne
      rw [Int.toNat_natCast]
      rw [Int.toNat_natCast] at hne
      rcases Nat.le_total (best1 a b (d + 1) (lst a b d) t) ((lst a b d).getD (t - 1) never) with q | q
      · rw [Nat.min_eq_left q] at hne ⊢
        exact h1 hne
      · rw [Nat.min_eq_right q]
        exact hr.add1 hv.2
    · exact h1
  · exact h1
/-- What a list tells is so. -/
theorem lst_sound : ∀ (d t : Nat), t ≤ d → (lst a b d).getD t never ≠ never → R a b d (dg a b d t) ((lst a b d).getD t never)
  | 0, t, ht, hx => by
    obtain rfl : t = 0 := by omega
    have e : dg a b 0 0 = (a.length : Int) - b.length := by unfold dg; omega
    have e2 : (lst a b 0).getD 0 never = slideS a b a.length ((a.length : Int) - b.length) := rfl
    rw [e2, e]
    refine R.slide ⟨⟨by omega, Nat.le_refl _, by omega⟩, ?_⟩
    rw [C_end rfl]
    omega
  | d + 1, t, ht, hx => by
    rw [lst_at a b d t ht] at hx ⊢
    unfold nextAt at hx ⊢
    split at hx
    · rename_i hb
      rw [if_pos hb]
      exact R.slide (best2_R ht (lst_sound d) hb)
    · exact absurd rfl hx
/-- And there is none before, within the whole's cost. -/
theorem lst_least (hn : a.length < never) : ∀ (d t : Nat), t ≤ d → d + (dg a b d t).natAbs ≤ C a b 0 0 → ∀ x, R a b d (dg a b d t) x → (lst a b d).getD t never ≤ x
  | 0, t, ht, hD, x, hx => by
    obtain rfl : t = 0 := by omega
    have e : dg a b 0 0 = (a.length : Int) - b.length := by unfold dg; omega
    have e2 : (lst a b 0).getD 0 never = slideS a b a.length ((a.length : Int) - b.length) := rfl
    rw [e2]
    rw [e] at hx hD
    obtain ⟨g1, g2, g3, g4⟩ := slide_spec (a := a) (b := b) (k := (a.length : Int) - b.length) a.length (by omega) (Nat.le_refl _) (by omega)
    generalize slideS a b a.length ((a.length : Int) - b.length) = s at *
    by_cases hlt : s ≤ x
    · exact hlt
    · exfalso
      obtain ⟨⟨h0, h1, h2⟩, hc⟩ := id hx
      have hr := hx.up (s - 1) (by omega) (by omega) (by omega)
      obtain ⟨⟨r0, r1, r2⟩, rc⟩ := hr
      rcases g4 with g | g | g
      · omega
      · omega
      · have hj : (((s - 1 : Nat) : Int) - ((a.length : Int) - b.length)).toNat < b.length := by omega
        have hne : a[s - 1]'(by omega) ≠ b[(((s - 1 : Nat) : Int) - ((a.length : Int) - b.length)).toNat] := by
          intro q
          apply g
          rw [List.getElem?_eq_getElem (by omega), q, show ((s : Int) - 1 - ((a.length : Int) - b.length)).toNat = (((s - 1 : Nat) : Int) - ((a.length : Int) - b.length)).toNat by omega, List.getElem?_eq_getElem hj]
        have := C_ne (by omega) hj hne
        omega
  | d + 1, t, ht, hD, x, hx => by
    rw [lst_at a b d t ht]
    obtain ⟨k, hk⟩ : ∃ k, dg a b (d + 1) t = k := ⟨_, rfl⟩
    have hkd : k = (a.length : Int) - b.length - (d + 1) + 2 * t := by rw [← hk]; unfold dg; omega
    rw [hk] at hD hx
    have F1 : ∀ y, R a b d (k + 1) y → best2 a b (d + 1) (lst a b d) t ≤ y - 1 ∧ 1 ≤ y := by
      intro y hy
      have hy1 := hy.first (by omega)
      refine ⟨?_, hy1⟩
      have hfar := hy.far
      have htd : t ≤ d := by omega
      have e1 : dg a b d t = k + 1 := by rw [← hk]; exact dg_succ t
      have hle := lst_least hn d t htd (by rw [e1]; omega) y (by rw [e1]; exact hy)
      have hyn := hy.1.2.1
      have hne : (lst a b d).getD t never ≠ never := by omega
      have hs := lst_sound d t htd hne
      rw [e1] at hs
      have hl1 := hs.first (by omega)
      have hl2 := hs.1.1
      refine Nat.le_trans (best2_le1 _ _) ?_
      unfold best1
      rw [if_pos ⟨by omega, hne⟩, hk]
      unfold tryS
      rw [if_pos ⟨by omega, by omega⟩]
      omega
    have F2 : ∀ y, R a b d (k - 1) y → best2 a b (d + 1) (lst a b d) t ≤ y := by
      intro y hy
      have hy1 := hy.second (by omega)
      have hfar := hy.far
      have ht0 : 0 < t := by omega
      have e1 : dg a b d (t - 1) = k - 1 := by rw [← hk]; exact dg_pred t ht0
      have hle := lst_least hn d (t - 1) (by omega) (by rw [e1]; omega) y (by rw [e1]; exact hy)
      have hyn := hy.1.2.1
      have hne : (lst a b d).getD (t - 1) never ≠ never := by omega
      have hs := lst_sound d (t - 1) (by omega) hne
      rw [e1] at hs
      have hl2 := hs.second (by omega)
      unfold best2
      rw [if_pos ⟨ht0, hne⟩, hk]
      unfold tryS
      rw [if_pos ⟨by omega, hl2⟩]
      omega
    obtain ⟨⟨h0, h1, h2⟩, hc⟩ := id hx
    have hbn : best2 a b (d + 1) (lst a b d) t ≠ never := by
      suffices h : best2 a b (d + 1) (lst a b d) t ≤ a.length by omega
      by_cases c1 : (a.length : Int) - k < b.length
      · have hr := hx.up a.length h1 (Nat.le_refl _) (by omega)
        obtain ⟨⟨r0, r1, r2⟩, rc⟩ := hr
        rw [C_end rfl] at rc
        refine F2 a.length ⟨⟨by omega, Nat.le_refl _, by omega⟩, ?_⟩
        rw [C_end rfl]
        omega
      · by_cases c2 : (a.length : Int) - k = b.length
        · by_cases c3 : 1 ≤ b.length
          · have := (F1 a.length ⟨⟨by omega, Nat.le_refl _, by omega⟩, by rw [C_end rfl]; omega⟩).1
            omega
          · by_cases c4 : 1 ≤ a.length
            · have hb0 : b.length = 0 := by omega
              have := F2 (a.length - 1) ⟨⟨by omega, by omega, by omega⟩, by
                rw [show (((a.length - 1 : Nat) : Int) - (k - 1)).toNat = b.length by omega, C_end' rfl]
                omega⟩
              omega
            · exfalso
              have := C_end (a := a) (b := b) (i := 0) (j := 0) (by omega)
              omega
        · have htop : ((b.length : Int) + k).toNat ≤ a.length := by omega
          have hr := hx.up ((b.length : Int) + k).toNat (by omega) htop (by omega)
          obtain ⟨⟨r0, r1, r2⟩, rc⟩ := hr
          rw [C_end' (by omega)] at rc
          have := (F1 (((b.length : Int) + k).toNat + 1) ⟨⟨by omega, by omega, by omega⟩, by rw [C_end' (by omega)]; omega⟩).1
          omega
    unfold nextAt
    rw [if_pos hbn, hk]
    have hbx : On a b k (best2 a b (d + 1) (lst a b d) t) := by
      have h := (best2_R ht (lst_sound d) hbn).1
      rwa [hk] at h
    obtain ⟨g1, g2, g3, g4⟩ := slide_spec (a := a) (b := b) (k := k) (best2 a b (d + 1) (lst a b d) t) hbx.1 hbx.2.1 hbx.2.2
    generalize slideS a b (best2 a b (d + 1) (lst a b d) t) k = s at *
    generalize best2 a b (d + 1) (lst a b d) t = best at *
    by_cases hlt : s ≤ x
    · exact hlt
    · exfalso
      obtain ⟨o1, o2, o3⟩ := hbx
      have hr := hx.up (s - 1) (by omega) (by omega) (by omega)
      obtain ⟨⟨r0, r1, r2⟩, rc⟩ := hr
      rcases g4 with g | g | g
      · omega
      · omega
      · have hj : (((s - 1 : Nat) : Int) - k).toNat < b.length := by omega
        have hne : a[s - 1]'(by omega) ≠ b[(((s - 1 : Nat) : Int) - k).toNat] := by
          intro q
          apply g
          rw [List.getElem?_eq_getElem (by omega), q, show ((s : Int) - 1 - k).toNat = (((s - 1 : Nat) : Int) - k).toNat by omega, List.getElem?_eq_getElem hj]
        have hcn := C_ne (by omega) hj hne
        rw [hcn] at rc
        rcases (by omega : C a b (s - 1 + 1) (((s - 1 : Nat) : Int) - k).toNat ≤ d ∨ C a b (s - 1) ((((s - 1 : Nat) : Int) - k).toNat + 1) ≤ d) with q | q
        · have := (F1 s ⟨⟨by omega, by omega, by omega⟩, by rw [show s - 1 + 1 = s by omega] at q; rw [show ((s : Int) - (k + 1)).toNat = (((s - 1 : Nat) : Int) - k).toNat by omega]; exact q⟩).1
          omega
        · have := F2 (s - 1) ⟨⟨by omega, by omega, by omega⟩, by rw [show (((s - 1 : Nat) : Int) - (k - 1)).toNat = (((s - 1 : Nat) : Int) - k).toNat + 1 by omega]; exact q⟩
          omega
end
end Go.Proofs.YtmlhijlcefogmaaGreatDoor
