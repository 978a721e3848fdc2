/-
  The hunks between two texts make the one of the other: what applying them gives. No conditions; no program.
-/
import Derived.Test.YthjaepmfkgejkaaDoorApartSpec23
namespace Go.Proofs.YthjaepmfkgejkaaDoor
set_option linter.unusedVariables false

/-- What a hunk's line does: how far the first row is read, what is told. -/
def lnStep (st : Nat × List UInt8) (s : List UInt8) : Nat × List UInt8 := (if s.headD 0 = 43 then st.1 else st.1 + 1, if s.headD 0 = 45 then st.2 else st.2 ++ s.tail)
def lnOk (x : List (List UInt8)) (a : Nat) (s : List UInt8) : Prop := s ≠ [] ∧ (s.headD 0 = 43 ∨ ((s.headD 0 = 32 ∨ s.headD 0 = 45) ∧ x[a]? = some s.tail))
def lnsOk (x : List (List UInt8)) : Nat × List UInt8 → List (List UInt8) → Prop
  | _, [] => True
  | st, s :: l => lnOk x st.1 s ∧ lnsOk x (lnStep st s) l
def hkStart (x : List (List UInt8)) (st : Nat × List UInt8) (h : HunkD) : Nat × List UInt8 := (h.1, st.2 ++ ((x.take h.1).drop st.1).flatten)
def hkStep (x : List (List UInt8)) (st : Nat × List UInt8) (h : HunkD) : Nat × List UInt8 := h.2.2.foldl lnStep (hkStart x st h)
def hkOk (x : List (List UInt8)) (st : Nat × List UInt8) (h : HunkD) : Prop := st.1 ≤ h.1 ∧ h.1 ≤ x.length ∧ lnsOk x (hkStart x st h) h.2.2
def hksOk (x : List (List UInt8)) : Nat × List UInt8 → List HunkD → Prop
  | _, [] => True
  | st, h :: t => hkOk x st h ∧ hksOk x (hkStep x st h) t
def hksTo (x : List (List UInt8)) (out : List HunkD) : Nat × List UInt8 := out.foldl (hkStep x) (0, [])
theorem lnsOk_snoc (x : List (List UInt8)) (s : List UInt8) : ∀ (ls : List (List UInt8)) (st : Nat × List UInt8), lnsOk x st (ls ++ [s]) ↔ lnsOk x st ls ∧ lnOk x (ls.foldl lnStep st).1 s
  | [], st => by simp [lnsOk]
  | l :: ls, st => by
    show (lnOk x st.1 l ∧ lnsOk x (lnStep st l) (ls ++ [s])) ↔ (lnOk x st.1 l ∧ lnsOk x (lnStep st l) ls) ∧ _
    rw [lnsOk_snoc x s ls, and_assoc]
    rfl
theorem hksOk_snoc (x : List (List UInt8)) (h : HunkD) : ∀ (out : List HunkD) (st : Nat × List UInt8), hksOk x st (out ++ [h]) ↔ hksOk x st out ∧ hkOk x (out.foldl (hkStep x) st) h
  | [], st => by simp [hksOk]
  | l :: ls, st => by
    show (hkOk x st l ∧ hksOk x (hkStep x st l) (ls ++ [h])) ↔ (hkOk x st l ∧ hksOk x (hkStep x st l) ls) ∧ _
    rw [hksOk_snoc x h ls, and_assoc]
    rfl
theorem hksTo_snoc (x : List (List UInt8)) (out : List HunkD) (h : HunkD) : hksTo x (out ++ [h]) = hkStep x (hksTo x out) h := by simp [hksTo]
theorem hkStep_snoc (x : List (List UInt8)) (st : Nat × List UInt8) (f t : Nat) (ls : List (List UInt8)) (s : List UInt8) : hkStep x st (f, t, ls ++ [s]) = lnStep (hkStep x st (f, t, ls)) s := by simp [hkStep, hkStart]
/-- A hunk is open, all that is told so far is the second row's beginning. -/
def Opn2 (x y : List (List UInt8)) (i j : Nat) (out : List HunkD) : Prop := ∃ (pre : List HunkD) (f t : Nat) (ls : List (List UInt8)), out = pre ++ [(f, t, ls)] ∧ hksOk x (0, []) out ∧ hksTo x out = (i, (y.take j).flatten)
def Clo2 (x y : List (List UInt8)) (i j : Nat) (out : List HunkD) : Prop := hksOk x (0, []) out ∧ (hksTo x out).1 ≤ i ∧ (hksTo x out).2 ++ ((x.take i).drop (hksTo x out).1).flatten = (y.take j).flatten
section
variable {told : Nat → Bool} {mv : List Nat} {x y : List (List UInt8)} {n i j : Nat} {out : List HunkD}
theorem opn2_clo (h : Opn2 x y i j out) : Clo2 x y i j out := by
  obtain ⟨pre, f, t, ls, _, h2, h3⟩ := h
  refine ⟨h2, by rw [h3]; exact Nat.le_refl _, ?_⟩
  rw [h3]
  simp
theorem clo2_open (h : Clo2 x y i j out) (hi : i ≤ x.length) (t : Nat) : Opn2 x y i j (out ++ [(i, t, [])]) := by
  obtain ⟨h1, h2, h3⟩ := h
  refine ⟨out, i, t, [], rfl, (hksOk_snoc _ _ _ _).2 ⟨h1, h2, hi, trivial⟩, ?_⟩
  rw [hksTo_snoc]
  show (i, (hksTo x out).2 ++ ((x.take i).drop (hksTo x out).1).flatten) = _
  rw [h3]
theorem opn2_add (h : Opn2 x y i j out) (s : List UInt8) (hs : lnOk x i s) {i' j' : Nat} (he : lnStep (i, (y.take j).flatten) s = (i', (y.take j').flatten)) : Opn2 x y i' j' (addLine out s) := by
  obtain ⟨pre, f, t, ls, rfl, h2, h3⟩ := h
  rw [addLine_snoc]
  have h4 := (hksOk_snoc _ _ _ _).1 h2
  rw [hksTo_snoc] at h3
  refine ⟨pre, f, t, ls ++ [s], rfl, (hksOk_snoc _ _ _ _).2 ⟨h4.1, h4.2.1, h4.2.2.1, ?_⟩, ?_⟩
  · refine (lnsOk_snoc _ _ _ _).2 ⟨h4.2.2.2, ?_⟩
    have h5 : (ls.foldl lnStep (hkStart x (pre.foldl (hkStep x) (0, [])) (f, t, ls ++ [s]))).1 = i := by
      have : hkStep x (hksTo x pre) (f, t, ls) = ls.foldl lnStep (hkStart x (pre.foldl (hkStep x) (0, [])) (f, t, ls ++ [s])) := rfl
      rw [← this, h3]
    rw [h5]
    exact hs
  · rw [hksTo_snoc, hkStep_snoc, h3, he]
theorem clo2_skip (h : Clo2 x y i j out) {l : List UInt8} (hx : x[i]? = some l) (hy : y[j]? = some l) : Clo2 x y (i + 1) (j + 1) out := by
  obtain ⟨h1, h2, h3⟩ := h
  have hi := (List.getElem?_eq_some_iff.1 hx).1
  refine ⟨h1, by omega, ?_⟩
  rw [List.take_add_one (l := x), List.take_add_one (l := y), hx, hy, List.drop_append_of_le_length (by rw [List.length_take]; omega)]
  simp only [Option.toList_some, List.flatten_append, List.flatten_cons, List.flatten_nil, List.append_nil]
  rw [← List.append_assoc, h3]
/-- A way from the one row to the other: what each move meets. -/
def WayAt (mv : List Nat) (x y : List (List UInt8)) (n i j : Nat) : Prop :=
  (mv.getD n 0 = 1 ∧ ∃ l, x[i]? = some l ∧ y[j]? = some l) ∨ (mv.getD n 0 = 2 ∧ ∃ l, x[i]? = some l) ∨ (mv.getD n 0 = 3 ∧ ∃ l, y[j]? = some l)
def nextAtM (m : Nat) (p : Nat × Nat) : Nat × Nat := if m = 1 then (p.1 + 1, p.2 + 1) else if m = 2 then (p.1 + 1, p.2) else (p.1, p.2 + 1)
/-- The places in both rows before move n. -/
def placeS (mv : List Nat) : Nat → Nat × Nat
  | 0 => (0, 0)
  | n + 1 => nextAtM (mv.getD n 0) (placeS mv n)
def Way (mv : List Nat) (x y : List (List UInt8)) : Prop := (∀ n, n < mv.length → WayAt mv x y n (placeS mv n).1 (placeS mv n).2) ∧ placeS mv mv.length = (x.length, y.length)
theorem hunks_back (hT : ToldIs told mv) (hw : Way mv x y) : ∀ (n i j : Nat) (out : List HunkD), n ≤ mv.length → hunksTo told mv x y n = (i, j, out) →
    (i, j) = placeS mv n ∧ i ≤ x.length ∧ j ≤ y.length ∧ Clo2 x y i j out ∧ (0 < n → told (n - 1) = true → Opn2 x y i j out)
  | 0, i, j, out, hn, h => by
    simp only [hunksTo, Prod.mk.injEq] at h
    obtain ⟨rfl, rfl, rfl⟩ := h
    exact ⟨rfl, Nat.zero_le _, Nat.zero_le _, ⟨trivial, Nat.le_refl _, rfl⟩, fun h => absurd h (by omega)⟩
  | n + 1, i', j', out', hn, h => by
    obtain ⟨i, j, out, h0⟩ : ∃ i j out, hunksTo told mv x y n = (i, j, out) := ⟨_, _, _, rfl⟩
    obtain ⟨ip, il, jl, ic, io⟩ := hunks_back hT hw n i j out (by omega) h0
    have hwn := hw.1 n (by omega)
    rw [← ip] at hwn
    have hp : placeS mv (n + 1) = nextAtM (mv.getD n 0) (i, j) := by rw [ip]; rfl
    rw [Nat.add_sub_cancel]
    cases ht : told n with
    | false =>
      rw [hunksTo_skip h0 ht] at h
      simp only [Prod.mk.injEq] at h
      obtain ⟨rfl, rfl, rfl⟩ := h
      have hm : mv.getD n 0 = 1 := by
        by_cases hm : mv.getD n 0 = 1
        · exact hm
        · have := (hT n (by omega)).2 ⟨n, by omega, hm, by omega, by omega⟩
          rw [this] at ht; cases ht
      rcases hwn with ⟨_, l, h1, h2⟩ | ⟨h1, _⟩ | ⟨h1, _⟩
      · have a1 := (List.getElem?_eq_some_iff.1 h1).1
        have a2 := (List.getElem?_eq_some_iff.1 h2).1
        exact ⟨by rw [hp, hm]; rfl, by omega, by omega, clo2_skip ic h1 h2, fun _ q => by cases q⟩
      · omega
      · omega
    | true =>
      have hop : Opn2 x y i j (opened told n i j out) := by
        unfold opened
        by_cases hc : n = 0 ∨ told (n - 1) = false
        · rw [if_pos hc]
          exact clo2_open ic il j
        · rw [if_neg hc]
          exact io (by omega) (by cases q : told (n - 1) with | true => rfl | false => exact absurd (.inr q) hc)
      rcases hwn with ⟨hm, l, h1, h2⟩ | ⟨hm, l, h1⟩ | ⟨hm, l, h2⟩
      · rw [hunksTo_keep h0 ht hm] at h
        simp only [Prod.mk.injEq] at h
        obtain ⟨rfl, rfl, rfl⟩ := h
        have a1 := (List.getElem?_eq_some_iff.1 h1).1
        have a2 := (List.getElem?_eq_some_iff.1 h2).1
        have e1 : x.getD i [] = l := by rw [List.getD_eq_getElem?_getD, h1]; rfl
        rw [e1]
        have := opn2_add hop (32 :: l) ⟨by simp, .inr ⟨.inl rfl, h1⟩⟩ (i' := i + 1) (j' := j + 1) (by
          rw [List.take_add_one (l := y), h2]
          simp [lnStep])
        exact ⟨by rw [hp, hm]; rfl, by omega, by omega, opn2_clo this, fun _ _ => this⟩
      · rw [hunksTo_drop h0 ht hm] at h
        simp only [Prod.mk.injEq] at h
        obtain ⟨rfl, rfl, rfl⟩ := h
        have a1 := (List.getElem?_eq_some_iff.1 h1).1
        have e1 : x.getD i [] = l := by rw [List.getD_eq_getElem?_getD, h1]; rfl
        rw [e1]
        have := opn2_add hop (45 :: l) ⟨by simp, .inr ⟨.inr rfl, h1⟩⟩ (i' := i + 1) (j' := j) (by simp [lnStep])
        exact ⟨by rw [hp, hm]; rfl, by omega, by omega, opn2_clo this, fun _ _ => this⟩
      · rw [hunksTo_add h0 ht (by omega) (by omega)] at h
        simp only [Prod.mk.injEq] at h
        obtain ⟨rfl, rfl, rfl⟩ := h
        have a2 := (List.getElem?_eq_some_iff.1 h2).1
        have e1 : y.getD j [] = l := by rw [List.getD_eq_getElem?_getD, h2]; rfl
        rw [e1]
        have := opn2_add hop (43 :: l) ⟨by simp, .inl rfl⟩ (i' := i) (j' := j + 1) (by
          rw [List.take_add_one (l := y), h2]
          simp [lnStep])
        exact ⟨by rw [hp, hm]; rfl, by omega, by omega, opn2_clo this, fun _ _ => this⟩
/-- Applied to the one row the hunks give the other. -/
theorem hunks_apply (hT : ToldIs told mv) (hw : Way mv x y) (h : hunksTo told mv x y mv.length = (i, j, out)) : hksOk x (0, []) out ∧ (hksTo x out).2 ++ (x.drop (hksTo x out).1).flatten = y.flatten := by
  obtain ⟨h1, h2, h3, ⟨h4, h5, h6⟩, _⟩ := hunks_back hT hw mv.length i j out (Nat.le_refl _) h
  rw [hw.2] at h1
  simp only [Prod.mk.injEq] at h1
  obtain ⟨rfl, rfl⟩ := h1
  rw [List.take_length, List.take_length] at h6
  exact ⟨h4, h6⟩
theorem hunks_none (hT : ∀ k, k < mv.length → told k = false) : ∀ n, n ≤ mv.length → ∃ i j, hunksTo told mv x y n = (i, j, [])
  | 0, _ => ⟨0, 0, rfl⟩
  | n + 1, hn => by
    obtain ⟨i, j, h⟩ := hunks_none hT n (by omega)
    exact ⟨_, _, hunksTo_skip h (hT n (by omega))⟩
end
end Go.Proofs.YthjaepmfkgejkaaDoor
