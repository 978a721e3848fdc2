/-
  The script of least cost is a way from the one row to the other; the same rows give the same script whatever the numbers. No conditions; no program.
-/
import Derived.Test.YthjaepmfkgejkaaDoorBackSpec23
namespace Go.Proofs.YthjaepmfkgejkaaDoor
set_option linter.unusedVariables false

section
variable {a b : List Int} {x y : List (List UInt8)}
theorem drop_head {l : List Nat} {n m : Nat} {r : List Nat} (h : l.drop n = m :: r) : l.getD n 0 = m ∧ l.drop (n + 1) = r ∧ n < l.length := by
  have hn : n < l.length := by
    rcases Nat.lt_or_ge n l.length with q | q
    · exact q
    · rw [List.drop_eq_nil_of_le q] at h; cases h
  rw [List.drop_eq_getElem_cons hn] at h
  injection h with h1 h2
  refine ⟨?_, h2, hn⟩
  rw [List.getD_eq_getElem?_getD, List.getElem?_eq_getElem hn, h1]
  rfl
/-- What stands at a place of the script. -/
theorem mv_case (i j : Nat) (hi : i ≤ a.length) (hj : j ≤ b.length) :
    (i = a.length ∧ j = b.length ∧ mv a b i j = []) ∨ (∃ r, mv a b i j = 1 :: r ∧ r = mv a b (i + 1) (j + 1) ∧ i < a.length ∧ j < b.length ∧ a[i]? = b[j]?) ∨
    (∃ r, mv a b i j = 2 :: r ∧ r = mv a b (i + 1) j ∧ i < a.length) ∨ (∃ r, mv a b i j = 3 :: r ∧ r = mv a b i (j + 1) ∧ j < b.length) := by
  by_cases hie : i = a.length
  · by_cases hje : j = b.length
    · exact .inl ⟨hie, hje, (mv_end hie hje).1⟩
    · have hjl : j < b.length := by omega
      have hne : a[i]? ≠ b[j]? := by rw [List.getElem?_eq_none (by omega), List.getElem?_eq_getElem hjl]; exact fun h => by cases h
      exact .inr (.inr (.inr ⟨_, (mv_add hi hjl hne (.inl hie)).1, rfl, hjl⟩))
  · have hil : i < a.length := by omega
    by_cases hje : j = b.length
    · have hne : a[i]? ≠ b[j]? := by rw [List.getElem?_eq_none (l := b) (by omega), List.getElem?_eq_getElem hil]; exact fun h => by cases h
      exact .inr (.inr (.inl ⟨_, (mv_drop hil hj hne (.inl hje)).1, rfl, hil⟩))
    · have hjl : j < b.length := by omega
      by_cases he : a[i] = b[j]
      · exact .inr (.inl ⟨_, (mv_keep hil hjl he).1, rfl, hil, hjl, by rw [List.getElem?_eq_getElem hil, List.getElem?_eq_getElem hjl, he]⟩)
      · have hne : a[i]? ≠ b[j]? := by
          rw [List.getElem?_eq_getElem hil, List.getElem?_eq_getElem hjl]
          exact fun h => he (Option.some.inj h)
        by_cases hc : j = b.length ∨ C a b (i + 1) j ≤ C a b i (j + 1)
        · exact .inr (.inr (.inl ⟨_, (mv_drop hil hj hne hc).1, rfl, hil⟩))
        · exact .inr (.inr (.inr ⟨_, (mv_add hi hjl hne (.inr (fun q => hc (.inr q)))).1, rfl, hjl⟩))
theorem place_at : ∀ n, n ≤ (movesS a b).length → (placeS (movesS a b) n).1 ≤ a.length ∧ (placeS (movesS a b) n).2 ≤ b.length ∧ (movesS a b).drop n = mv a b (placeS (movesS a b) n).1 (placeS (movesS a b) n).2
  | 0, _ => ⟨Nat.zero_le _, Nat.zero_le _, by simp [mv, placeS]⟩
  | n + 1, hn => by
    obtain ⟨h1, h2, h3⟩ := place_at n (by omega)
    have hp : placeS (movesS a b) (n + 1) = nextAtM ((movesS a b).getD n 0) (placeS (movesS a b) n) := rfl
    generalize placeS (movesS a b) n = p at *
    rw [hp]
    rcases mv_case p.1 p.2 h1 h2 with ⟨_, _, e⟩ | ⟨r, e, rfl, q1, q2, _⟩ | ⟨r, e, rfl, q1⟩ | ⟨r, e, rfl, q1⟩
    · rw [e] at h3
      rw [List.drop_eq_nil_iff] at h3
      omega
    all_goals
      rw [e] at h3
      obtain ⟨g1, g2, _⟩ := drop_head h3
      rw [g1]
    · exact ⟨q1, q2, g2⟩
    · exact ⟨q1, h2, g2⟩
    · exact ⟨h1, q1, g2⟩
theorem way_moves (hx : x.length = a.length) (hy : y.length = b.length) (hinj : ∀ i j, i < a.length → j < b.length → a[i]? = b[j]? → x[i]? = y[j]?) : Way (movesS a b) x y := by
  refine ⟨fun n hn => ?_, ?_⟩
  · obtain ⟨h1, h2, h3⟩ := place_at (a := a) (b := b) n (by omega)
    generalize placeS (movesS a b) n = p at *
    unfold WayAt
    rcases mv_case p.1 p.2 h1 h2 with ⟨_, _, e⟩ | ⟨r, e, rfl, q1, q2, q3⟩ | ⟨r, e, rfl, q1⟩ | ⟨r, e, rfl, q1⟩
    · rw [e] at h3
      rw [List.drop_eq_nil_iff] at h3
      omega
    all_goals
      rw [e] at h3
      have g1 := (drop_head h3).1
      rw [g1]
    · have hxl : p.1 < x.length := by omega
      exact .inl ⟨rfl, x[p.1], List.getElem?_eq_getElem hxl, by rw [← hinj _ _ q1 q2 q3]; exact List.getElem?_eq_getElem hxl⟩
    · exact .inr (.inl ⟨rfl, x[p.1]'(by omega), List.getElem?_eq_getElem _⟩)
    · exact .inr (.inr ⟨rfl, y[p.2]'(by omega), List.getElem?_eq_getElem _⟩)
  · obtain ⟨h1, h2, h3⟩ := place_at (a := a) (b := b) _ (Nat.le_refl _)
    rw [List.drop_eq_nil_of_le (Nat.le_refl _)] at h3
    rcases mv_case _ _ h1 h2 with ⟨e1, e2, _⟩ | ⟨r, e, _⟩ | ⟨r, e, _⟩ | ⟨r, e, _⟩
    · rw [hx, hy]
      exact Prod.ext e1 e2
    all_goals
      rw [e] at h3
      cases h3
/-- Moves are 1, 2 or 3. -/
theorem moves_are : ∀ (s : Nat) (a b : List Int), a.length + b.length ≤ s → ∀ m ∈ movesS a b, m = 1 ∨ m = 2 ∨ m = 3
  | s, [], b, _ => by
    intro m hm
    unfold movesS at hm
    exact .inr (.inr (List.eq_of_mem_replicate hm))
  | s, c :: a, [], h => by
    intro m hm
    rw [moves_nil'] at hm
    exact .inr (.inl (List.eq_of_mem_replicate hm))
  | s, c :: a, e :: b, h => by
    intro m hm
    simp at h
    rw [movesS] at hm
    split at hm
    · rcases List.mem_cons.1 hm with q | q
      · exact .inl q
      · exact moves_are (s - 2) a b (by omega) m q
    · split at hm
      · rcases List.mem_cons.1 hm with q | q
        · exact .inr (.inl q)
        · exact moves_are (s - 1) a (e :: b) (by simp; omega) m q
      · rcases List.mem_cons.1 hm with q | q
        · exact .inr (.inr q)
        · exact moves_are (s - 1) (c :: a) b (by simp; omega) m q
theorem moves_length : ∀ (s : Nat) (a b : List Int), a.length + b.length ≤ s → (movesS a b).length ≤ a.length + b.length
  | s, [], b, _ => by unfold movesS; simp
  | s, c :: a, [], h => by rw [moves_nil']; simp
  | s, c :: a, e :: b, h => by
    simp at h
    rw [movesS]
    split
    · have := moves_length (s - 2) a b (by omega); simp; omega
    · split
      · have := moves_length (s - 1) a (e :: b) (by simp; omega); simp at this ⊢; omega
      · have := moves_length (s - 1) (c :: a) b (by simp; omega); simp at this ⊢; omega
end
/-- The same rows under other numbers: the same cost, the same script. -/
theorem cost_map {α : Type} (f g : α → Int) : ∀ (s : Nat) (x y : List α), x.length + y.length ≤ s → (∀ u v, u ∈ x ++ y → v ∈ x ++ y → (f u = f v ↔ g u = g v)) → costL (x.map f) (y.map f) = costL (x.map g) (y.map g) ∧ movesS (x.map f) (y.map f) = movesS (x.map g) (y.map g)
  | s, [], y, h, hfg => by
    rw [List.map_nil, List.map_nil, cost_nil, cost_nil]
    unfold movesS
    simp
  | s, c :: x, [], h, hfg => by
    rw [List.map_nil, List.map_nil, cost_nil', cost_nil', moves_nil', moves_nil']
    simp
  | s, c :: x, e :: y, h, hfg => by
    simp at h
    have i0 := cost_map f g (s - 2) x y (by omega) fun u v hu hv => hfg u v (by simp at hu ⊢; rcases hu with q | q <;> simp [q]) (by simp at hv ⊢; rcases hv with q | q <;> simp [q])
    have i1 := cost_map f g (s - 1) x (e :: y) (by simp; omega) fun u v hu hv => hfg u v (by simp at hu ⊢; rcases hu with q | q | q <;> simp [q]) (by simp at hv ⊢; rcases hv with q | q | q <;> simp [q])
    have i2 := cost_map f g (s - 1) (c :: x) y (by simp; omega) fun u v hu hv => hfg u v (by simp at hu ⊢; rcases hu with q | q | q <;> simp [q]) (by simp at hv ⊢; rcases hv with q | q | q <;> simp [q])
    simp only [List.map_cons] at *
    have hce := hfg c e (by simp) (by simp)
    by_cases he : f c = f e
    · have hg : g c = g e := hce.1 he
      rw [movesS, movesS, if_pos he, if_pos hg, i0.2, he, hg, cost_eq, cost_eq, i0.1]
      exact ⟨rfl, rfl⟩
    · have hg : g c ≠ g e := fun q => he (hce.2 q)
      rw [movesS, movesS, if_neg he, if_neg hg, cost_ne he, cost_ne hg, i1.1, i2.1, i1.2, i2.2]
      exact ⟨rfl, rfl⟩
end Go.Proofs.YthjaepmfkgejkaaDoor
