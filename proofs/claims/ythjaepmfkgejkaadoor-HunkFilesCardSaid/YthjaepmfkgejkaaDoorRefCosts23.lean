/-
  What the document's Costs gives: a table, its rows a block each. Conditions: rows of at most 4096 numbers.
-/
import Derived.Test.YthjaepmfkgejkaaDoorRefSplit23
import Derived.Test.YthjaepmfkgejkaaDoorMoves23A
namespace Go.Proofs.YthjaepmfkgejkaaDoor
open Go.RowKit Go.Maps Go.Shelf
set_option linter.unusedVariables false
set_option linter.unusedSimpArgs false

/-- The table's row k; a row as a slice. -/
def rowC (a b : List Int) (k : Nat) : List Value := (List.range (b.length + 1)).map fun j => .int .i64 (C a b k j : Int)
def slI (g m : Nat) : Value := .slice (some ⟨g, 0, none⟩) (m + 1) (m + 1)
theorem rowC_get (a b : List Int) (k j : Nat) (hj : j ≤ b.length) : (rowC a b k)[j]? = some (.int .i64 (C a b k j : Int)) := by simp [rowC, Nat.lt_succ_of_le hj]
theorem cost_le : ∀ (x y : List Int), costL x y ≤ x.length + y.length
  | [], y => by rw [cost_nil]; omega
  | a :: x, y => by
    have h1 := (cost_left a x y).2
    have h2 := cost_le x y
    rw [List.length_cons]
    omega
theorem C_le (a b : List Int) (i j : Nat) : C a b i j ≤ a.length + b.length := by
  have h := cost_le (a.drop i) (b.drop j)
  rw [List.length_drop, List.length_drop] at h
  unfold C
  omega
/-- The rows from r on are done. -/
def Tab (w : World) (base O : Nat) (a b : List Int) (r : Nat) : Prop :=
  base ≤ O ∧ ∃ (outs : List Value) (G : Nat → Nat), outs.length = a.length + 1 ∧ w.heap[O]? = some (.cells outs.toArray 191 (0, 0)) ∧
    ∀ k, r ≤ k → k ≤ a.length → outs[k]? = some (slI (G k) b.length) ∧ base ≤ G k ∧ G k ≠ O ∧ w.heap[G k]? = some (.cells (rowC a b k).toArray 3 (0, 0))
/-- Row i is under way, done from s on; those behind it are done. -/
def Row (w : World) (base O : Nat) (a b : List Int) (i s : Nat) : Prop :=
  base ≤ O ∧ ∃ (outs : List Value) (G : Nat → Nat) (cur : List Value), outs.length = a.length + 1 ∧ w.heap[O]? = some (.cells outs.toArray 191 (0, 0)) ∧
    (∀ k, i < k → k ≤ a.length → outs[k]? = some (slI (G k) b.length) ∧ base ≤ G k ∧ G k ≠ O ∧ G k ≠ G i ∧ w.heap[G k]? = some (.cells (rowC a b k).toArray 3 (0, 0))) ∧
    outs[i]? = some (slI (G i) b.length) ∧ base ≤ G i ∧ G i ≠ O ∧ w.heap[G i]? = some (.cells cur.toArray 3 (0, 0)) ∧ cur.length = b.length + 1 ∧ ∀ j, s ≤ j → j ≤ b.length → cur[j]? = some (.int .i64 (C a b i j : Int))
section
variable {w w' : World} {base O i s : Nat} {a b : List Int}
theorem Row.done (h : Row w base O a b i 0) : Tab w base O a b i := by
  obtain ⟨h0, outs, G, cur, h1, h2, h3, h4, h5, h6, h7, h8, h9⟩ := h
  refine ⟨h0, outs, G, h1, h2, fun k hk1 hk2 => ?_⟩
  rcases (by omega : i < k ∨ i = k) with q | rfl
  · obtain ⟨g1, g2, g3, _, g5⟩ := h3 k q hk2
    exact ⟨g1, g2, g3, g5⟩
  · refine ⟨h4, h5, h6, ?_⟩
    have e : cur = rowC a b i := by
      apply List.ext_getElem?
      intro j
      by_cases hj : j ≤ b.length
      · rw [h9 j (Nat.zero_le _) hj, rowC_get a b i j hj]
      · rw [List.getElem?_eq_none (by omega), List.getElem?_eq_none (by simp [rowC]; omega)]
    rw [← e]
    exact h7
theorem Row.kept (h : Row w base O a b i s) (hb : Below w.heap.size w w') : Row w' base O a b i s := by
  obtain ⟨h0, outs, G, cur, h1, h2, h3, h4, h5, h6, h7, h8, h9⟩ := h
  have kp : ∀ {g : Nat} {x : Obj}, w.heap[g]? = some x → w'.heap[g]? = some x := fun hx => (hb.block _ (Array.getElem?_eq_some_iff.1 hx).1).trans hx
  refine ⟨h0, outs, G, cur, h1, kp h2, fun k hk1 hk2 => ?_, h4, h5, h6, kp h7, h8, h9⟩
  obtain ⟨g1, g2, g3, g4, g5⟩ := h3 k hk1 hk2
  exact ⟨g1, g2, g3, g4, kp g5⟩
theorem Tab.kept (h : Tab w base O a b i) (hb : Below w.heap.size w w') : Tab w' base O a b i := by
  obtain ⟨h0, outs, G, h1, h2, h3⟩ := h
  have kp : ∀ {g : Nat} {x : Obj}, w.heap[g]? = some x → w'.heap[g]? = some x := fun hx => (hb.block _ (Array.getElem?_eq_some_iff.1 hx).1).trans hx
  refine ⟨h0, outs, G, h1, kp h2, fun k hk1 hk2 => ?_⟩
  obtain ⟨g1, g2, g3, g4⟩ := h3 k hk1 hk2
  exact ⟨g1, g2, g3, kp g4⟩
/-- What the walk reads of row i: its place in the table, its block, its cells; what a store at j makes of it. -/
theorem Row.here (h : Row w base O a b i s) (hi : i ≤ a.length) : ∃ R, w.cell? ⟨O, i, none⟩ = some (slI R b.length) ∧ base ≤ R ∧ R < w.heap.size ∧ O < w.heap.size ∧
    (∀ j, s ≤ j → j ≤ b.length → w.cell? ⟨R, j, none⟩ = some (.int .i64 (C a b i j : Int))) ∧
    (∀ w', Below w.heap.size w w' → ∀ j, j ≤ b.length → (∃ u, w'.cell? ⟨R, j, none⟩ = some u) ∧ w'.frozen? ⟨R, j, none⟩ = false ∧
      (j + 1 = s → ∀ v : Int, v = (C a b i j : Int) → Row (w'.setCell ⟨R, j, none⟩ (.int .i64 v)) base O a b i j)) := by
  obtain ⟨h0, outs, G, cur, h1, h2, h3, h4, h5, h6, h7, h8, h9⟩ := h
  refine ⟨G i, (cells_box h2 i).trans h4, h5, (Array.getElem?_eq_some_iff.1 h7).1, (Array.getElem?_eq_some_iff.1 h2).1, fun j hj1 hj2 => (cells_box h7 j).trans (h9 j hj1 hj2), fun w' hb j hj => ?_⟩
  have kp : ∀ {g : Nat} {x : Obj}, w.heap[g]? = some x → w'.heap[g]? = some x := fun hx => (hb.block _ (Array.getElem?_eq_some_iff.1 hx).1).trans hx
  have h2' := kp h2
  have h7' := kp h7
  refine ⟨?_, frozen_of_row _ _ _ _ _ h7', fun hjs v hv => ?_⟩
  · rw [cells_box h7' j]
    exact ⟨_, List.getElem?_eq_getElem (by omega)⟩
  · subst hv
    have hoth : ∀ k, k ≠ G i → (w'.setCell ⟨G i, j, none⟩ (.int .i64 (C a b i j : Int))).heap[k]? = w'.heap[k]? := fun k hk => Below.heap_setCell _ _ _ _ hk
    refine ⟨h0, outs, G, cur.set j (.int .i64 (C a b i j : Int)), h1, (hoth O (fun e => h6 e.symm)).trans h2', fun k hk1 hk2 => ?_, h4, h5, h6, ?_, by rw [List.length_set]; exact h8, fun q hq1 hq2 => ?_⟩
    · obtain ⟨g1, g2, g3, g4, g5⟩ := h3 k hk1 hk2
      exact ⟨g1, g2, g3, g4, (hoth _ g4).trans (kp g5)⟩
    · have := set_block (j := j) h7' (.int .i64 (C a b i j : Int))
      rw [this]
      simp
    · rw [List.getElem?_set]
      split
      · rename_i e; subst e; rw [if_pos (by omega)]
      · exact h9 q (by omega) hq2
/-- What the walk reads of row i + 1. -/
theorem Row.next (h : Row w base O a b i s) (hi : i + 1 ≤ a.length) : ∃ R, w.cell? ⟨O, i + 1, none⟩ = some (slI R b.length) ∧ R < w.heap.size ∧ ∀ j, j ≤ b.length → w.cell? ⟨R, j, none⟩ = some (.int .i64 (C a b (i + 1) j : Int)) := by
  obtain ⟨h0, outs, G, cur, h1, h2, h3, _⟩ := h
  obtain ⟨g1, g2, g3, g4, g5⟩ := h3 (i + 1) (by omega) hi
  exact ⟨G (i + 1), (cells_box h2 _).trans g1, (Array.getElem?_eq_some_iff.1 g5).1, fun j hj => (cells_box g5 j).trans (rowC_get a b _ j hj)⟩
theorem own_full {w : World} {bs g n : Nat} {e : TypeId} {xs : List Value} (h : w.ownsRow bs e 1 (.slice (some ⟨g, 0, none⟩) n n) n xs) : w.heap[g]? = some (.cells xs.toArray e (0, 0)) := by
  rcases h.2 with ⟨h1, _⟩ | ⟨g', cap, cur, h1, _, h3, _, _, h6, h7⟩
  · cases h1
  · injection h1 with e1 _ e3
    injection e1 with e1
    injection e1 with e1
    subst e1 e3
    rw [h3, ← h7, List.take_of_length_le (by rw [Array.length_toList]; omega)]
theorem Tab.start {w : World} {O : Nat} {xs : List Value} {base : Nat} (hb : base ≤ O) (hl : xs.length = a.length + 1) (h : w.heap[O]? = some (.cells xs.toArray 191 (0, 0))) : Tab w base O a b (a.length + 1) :=
  ⟨hb, xs, fun _ => 0, hl, h, fun k h1 h2 => by omega⟩
/-- A new row has been made, and put into the table. -/
theorem Tab.opened {w w1 w2 : World} {z : Nat} {xs : List Value} (h : Tab w base O a b (i + 1)) (hi : i ≤ a.length) (hb : Below w.heap.size w w1) (hz : z = w.heap.size) (hzb : base ≤ z) (hx : xs.length = b.length + 1) (h1 : w1.heap[z]? = some (.cells xs.toArray 3 (0, 0))) (h2 : w2.heap = (w1.setCell ⟨O, i, none⟩ (slI z b.length)).heap) :
    Row w2 base O a b i (b.length + 1) := by
  obtain ⟨h0, outs, G, g1, g2, g3⟩ := h
  have hO : O < w.heap.size := (Array.getElem?_eq_some_iff.1 g2).1
  have hoth : ∀ k, k ≠ O → w2.heap[k]? = w1.heap[k]? := fun k hk => by rw [h2]; exact Below.heap_setCell _ _ _ _ hk
  have hO1 := (hb.block O hO).trans g2
  refine ⟨h0, outs.set i (slI z b.length), fun k => if k = i then z else G k, xs, by rw [List.length_set]; exact g1, ?_, fun k hk1 hk2 => ?_, ?_, ?_, ?_, ?_, hx, fun j hj1 hj2 => by omega⟩
  · rw [h2, set_block (j := i) hO1]
    simp
  · obtain ⟨q1, q2, q3, q4⟩ := g3 k (by omega) hk2
    have hk : G k < w.heap.size := (Array.getElem?_eq_some_iff.1 q4).1
    simp only [if_neg (show ¬ k = i by omega), if_pos]
    refine ⟨?_, q2, q3, by omega, ((hoth _ q3).trans (hb.block _ hk)).trans q4⟩
    rw [List.getElem?_set, if_neg (by omega)]
    exact q1
  · simp only [if_pos]
    rw [List.getElem?_set, if_pos rfl, if_pos (by omega)]
  · simp only [if_pos]; exact hzb
  · simp only [if_pos]; omega
  · simp only [if_pos]
    rw [hoth z (by omega)]
    exact h1
end
theorem intInfo23 : (Tryd.prog.info? 3).map (fun i => (i.zero, i.size, i.bytes)) = some (some (.int .i64 0), 1, 8) := by kernel_rfl
theorem intsInfo23 : (Tryd.prog.info? 191).map (fun i => (i.zero, i.size, i.bytes)) = some (some (.slice none 0 0), 1, 24) := by kernel_rfl
end Go.Proofs.YthjaepmfkgejkaaDoor
