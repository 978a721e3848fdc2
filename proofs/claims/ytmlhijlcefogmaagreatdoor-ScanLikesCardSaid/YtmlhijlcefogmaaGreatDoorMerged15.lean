/-
  How the document's answer cuts a text into lines, and which moves it tells. No conditions; no program.
  What the document's Split and number give. Conditions: a text of at most 4000 bytes; a row of at most 100000 lines.
  What the document's Costs gives: a table, its rows a block each. Conditions: rows of at most 4096 numbers.
  What the document's Costs gives. Conditions: rows of at most 4096 numbers.
-/
import Derived.Test.YtmlhijlcefogmaaGreatDoorMerged14
import Derived.Test.YtmlhijlcefogmaaGreatDoorMerged13
import Derived.Test.YtmlhijlcefogmaaGreatDoorMerged9
set_option linter.unusedVariables false
set_option linter.unusedSimpArgs false
set_option maxHeartbeats 4000000
set_option maxRecDepth 100000
namespace Go.Proofs.YtmlhijlcefogmaaGreatDoor

theorem linesS_line : ∀ (p r : List UInt8), (10 : UInt8) ∉ p → linesS (p ++ 10 :: r) = (p ++ [10]) :: linesS r
  | [], r, _ => linesS_ten r
  | b :: p, r, h => by
    simp only [List.mem_cons, not_or] at h
    rw [List.cons_append, linesS_ne (fun e => h.1 e.symm), linesS_line p r h.2]
    rfl
theorem linesS_last : ∀ (p : List UInt8), (10 : UInt8) ∉ p → p ≠ [] → linesS p = [p]
  | [], _, h => absurd rfl h
  | [b], h, _ => by
    rw [linesS_ne (fun e => h (by simp [e]))]
    rfl
  | b :: c :: p, h, _ => by
    simp only [List.mem_cons, not_or] at h
    rw [linesS_ne (fun e => h.1 e.symm), linesS_last (c :: p) (by simp only [List.mem_cons, not_or]; exact ⟨h.2.1, h.2.2⟩) (by simp)]
/-- The first lines, ahead of byte i; the line that is open begins at f. -/
def LinesAt (s : List UInt8) (i f : Nat) (out : List (List UInt8)) : Prop := f ≤ i ∧ i ≤ s.length ∧ (∀ k, f ≤ k → k < i → s[k]? ≠ some 10) ∧ linesS s = out ++ linesS (s.drop f)
section
variable {s : List UInt8} {i f : Nat} {out : List (List UInt8)}
theorem LinesAt.none_in (h : LinesAt s i f out) : (10 : UInt8) ∉ (s.drop f).take (i - f) := by
  intro hm
  obtain ⟨k, hk, e⟩ := List.getElem_of_mem hm
  rw [List.length_take, List.length_drop] at hk
  refine h.2.2.1 (f + k) (by omega) (by omega) ?_
  rw [List.getElem_take, List.getElem_drop] at e
  rw [List.getElem?_eq_getElem (by omega), e]
theorem LinesAt.start (s : List UInt8) : LinesAt s 0 0 [] := ⟨Nat.le_refl _, Nat.zero_le _, fun k h1 h2 => by omega, by simp⟩
theorem LinesAt.on (h : LinesAt s i f out) (hi : i < s.length) (hc : s[i]? ≠ some 10) : LinesAt s (i + 1) f out := by
  refine ⟨by have := h.1; omega, by omega, fun k h1 h2 => ?_, h.2.2.2⟩
  rcases (by omega : k < i ∨ k = i) with q | rfl
  · exact h.2.2.1 k h1 q
  · exact hc
theorem LinesAt.cut (h : LinesAt s i f out) (hc : s[i]? = some 10) : LinesAt s (i + 1) (i + 1) (out ++ [(s.drop f).take (i + 1 - f)]) := by
  obtain ⟨hi, hg⟩ := List.getElem?_eq_some_iff.1 hc
  have hn := h.none_in
  have hf := h.1
  refine ⟨Nat.le_refl _, by omega, fun k h1 h2 => by omega, ?_⟩
  have e1 : s.drop f = (s.drop f).take (i - f) ++ 10 :: s.drop (i + 1) := by
    conv => lhs; rw [← List.take_append_drop (i - f) (s.drop f)]
    rw [List.drop_drop, show f + (i - f) = i by omega, List.drop_eq_getElem_cons hi, hg]
  have e2 : (s.drop f).take (i + 1 - f) = (s.drop f).take (i - f) ++ [10] := by
    rw [show i + 1 - f = (i - f) + 1 by omega, List.take_add_one]
    congr 1
    rw [List.getElem?_drop, show f + (i - f) = i by omega, hc]
    rfl
  rw [h.2.2.2, e2, List.append_assoc]
  congr 1
  conv => lhs; rw [e1]
  rw [linesS_line _ _ hn]
  rfl
theorem LinesAt.last (h : LinesAt s s.length f out) (hf : f < s.length) : linesS s = out ++ [s.drop f] := by
  rw [h.2.2.2]
  congr 1
  have hn := h.none_in
  rw [List.take_of_length_le (by rw [List.length_drop]; omega)] at hn
  exact linesS_last _ hn (by rw [Ne, List.drop_eq_nil_iff]; omega)
theorem LinesAt.done (h : LinesAt s s.length f out) (hf : ¬ f < s.length) : linesS s = out := by
  rw [h.2.2.2, List.drop_eq_nil_of_le (by omega)]
  simp [linesS]
end
end Go.Proofs.YtmlhijlcefogmaaGreatDoor
namespace Go.Proofs.YtmlhijlcefogmaaGreatDoor
open Go.RowKit Go.Maps Go.Shelf

end Go.Proofs.YtmlhijlcefogmaaGreatDoor
namespace Go.Proofs.YtmlhijlcefogmaaGreatDoor
open Go.RowKit Go.Maps Go.Shelf

/-- The table's row k; a row as a slice. -/
def rowC (a b : List Int) (k : Nat) : List Value := (List.range (b.length + 1)).map fun j => .int .i64 (C a b k j : Int)
def slI (g m : Nat) : Value := .slice (some ⟨g, 0, none⟩) (m + 1) (m + 1)
theorem rowC_get (a b : List Int) (k j : Nat) (hj : j ≤ b.length) : (rowC a b k)[j]? = some (.int .i64 (C a b k j : Int)) := by simp [rowC, Nat.lt_succ_of_le hj]
theorem cost_le : ∀ (x y : List Int), costL x y ≤ x.length + y.length
  | [], y => by rw [cost_nil]; omega
  | a :: x, y => by
    have h1 := (cost_left a x y).2
    have h2 := cost_le x y
    rw [List.length_cons]
    omega
theorem C_le (a b : List Int) (i j : Nat) : C a b i j ≤ a.length + b.length := by
  have h := cost_le (a.drop i) (b.drop j)
  rw [List.length_drop, List.length_drop] at h
  unfold C
  omega
/-- The rows from r on are done. -/
def Tab (w : World) (base O : Nat) (a b : List Int) (r : Nat) : Prop :=
  base ≤ O ∧ ∃ (outs : List Value) (G : Nat → Nat), outs.length = a.length + 1 ∧ w.heap[O]? = some (.cells outs.toArray 114 (0, 0)) ∧
    ∀ k, r ≤ k → k ≤ a.length → outs[k]? = some (slI (G k) b.length) ∧ base ≤ G k ∧ G k ≠ O ∧ w.heap[G k]? = some (.cells (rowC a b k).toArray 3 (0, 0))
/-- Row i is under way, done from s on; those behind it are done. -/
def Row (w : World) (base O : Nat) (a b : List Int) (i s : Nat) : Prop :=
  base ≤ O ∧ ∃ (outs : List Value) (G : Nat → Nat) (cur : List Value), outs.length = a.length + 1 ∧ w.heap[O]? = some (.cells outs.toArray 114 (0, 0)) ∧
    (∀ k, i < k → k ≤ a.length → outs[k]? = some (slI (G k) b.length) ∧ base ≤ G k ∧ G k ≠ O ∧ G k ≠ G i ∧ w.heap[G k]? = some (.cells (rowC a b k).toArray 3 (0, 0))) ∧
    outs[i]? = some (slI (G i) b.length) ∧ base ≤ G i ∧ G i ≠ O ∧ w.heap[G i]? = some (.cells cur.toArray 3 (0, 0)) ∧ cur.length = b.length + 1 ∧ ∀ j, s ≤ j → j ≤ b.length → cur[j]? = some (.int .i64 (C a b i j : Int))
section
variable {w w' : World} {base O i s : Nat} {a b : List Int}
theorem Row.done (h : Row w base O a b i 0) : Tab w base O a b i := by
  obtain ⟨h0, outs, G, cur, h1, h2, h3, h4, h5, h6, h7, h8, h9⟩ := h
  refine ⟨h0, outs, G, h1, h2, fun k hk1 hk2 => ?_⟩
  rcases (by omega : i < k ∨ i = k) with q | rfl
  · obtain ⟨g1, g2, g3, _, g5⟩ := h3 k q hk2
    exact ⟨g1, g2, g3, g5⟩
  · refine ⟨h4, h5, h6, ?_⟩
    have e : cur = rowC a b i := by
      apply List.ext_getElem?
      intro j
      by_cases hj : j ≤ b.length
      · rw [h9 j (Nat.zero_le _) hj, rowC_get a b i j hj]
      · rw [List.getElem?_eq_none (by omega), List.getElem?_eq_none (by simp [rowC]; omega)]
    rw [← e]
    exact h7
theorem Row.kept (h : Row w base O a b i s) (hb : Below w.heap.size w w') : Row w' base O a b i s := by
  obtain ⟨h0, outs, G, cur, h1, h2, h3, h4, h5, h6, h7, h8, h9⟩ := h
  have kp : ∀ {g : Nat} {x : Obj}, w.heap[g]? = some x → w'.heap[g]? = some x := fun hx => (hb.block _ (Array.getElem?_eq_some_iff.1 hx).1).trans hx
  refine ⟨h0, outs, G, cur, h1, kp h2, fun k hk1 hk2 => ?_, h4, h5, h6, kp h7, h8, h9⟩
  obtain ⟨g1, g2, g3, g4, g5⟩ := h3 k hk1 hk2
  exact ⟨g1, g2, g3, g4, kp g5⟩
theorem Tab.kept (h : Tab w base O a b i) (hb : Below w.heap.size w w') : Tab w' base O a b i := by
  obtain ⟨h0, outs, G, h1, h2, h3⟩ := h
  have kp : ∀ {g : Nat} {x : Obj}, w.heap[g]? = some x → w'.heap[g]? = some x := fun hx => (hb.block _ (Array.getElem?_eq_some_iff.1 hx).1).trans hx
  refine ⟨h0, outs, G, h1, kp h2, fun k hk1 hk2 => ?_⟩
  obtain ⟨g1, g2, g3, g4⟩ := h3 k hk1 hk2
  exact ⟨g1, g2, g3, kp g4⟩
/-- What the walk reads of row i: its place in the table, its block, its cells; what a store at j makes of it. -/
theorem Row.here (h : Row w base O a b i s) (hi : i ≤ a.length) : ∃ R, w.cell? ⟨O, i, none⟩ = some (slI R b.length) ∧ base ≤ R ∧ R < w.heap.size ∧ O < w.heap.size ∧
    (∀ j, s ≤ j → j ≤ b.length → w.cell? ⟨R, j, none⟩ = some (.int .i64 (C a b i j : Int))) ∧
    (∀ w', Below w.heap.size w w' → ∀ j, j ≤ b.length → (∃ u, w'.cell? ⟨R, j, none⟩ = some u) ∧ w'.frozen? ⟨R, j, none⟩ = false ∧
      (j + 1 = s → ∀ v : Int, v = (C a b i j : Int) → Row (w'.setCell ⟨R, j, none⟩ (.int .i64 v)) base O a b i j)) := by
  obtain ⟨h0, outs, G, cur, h1, h2, h3, h4, h5, h6, h7, h8, h9⟩ := h
  refine ⟨G i, (cells_box h2 i).trans h4, h5, (Array.getElem?_eq_some_iff.1 h7).1, (Array.getElem?_eq_some_iff.1 h2).1, fun j hj1 hj2 => (cells_box h7 j).trans (h9 j hj1 hj2), fun w' hb j hj => ?_⟩
  have kp : ∀ {g : Nat} {x : Obj}, w.heap[g]? = some x → w'.heap[g]? = some x := fun hx => (hb.block _ (Array.getElem?_eq_some_iff.1 hx).1).trans hx
  have h2' := kp h2
  have h7' := kp h7
  refine ⟨?_, frozen_of_row _ _ _ _ _ h7', fun hjs v hv => ?_⟩
  · rw [cells_box h7' j]
    exact ⟨_, List.getElem?_eq_getElem (by omega)⟩
  · subst hv
    have hoth : ∀ k, k ≠ G i → (w'.setCell ⟨G i, j, none⟩ (.int .i64 (C a b i j : Int))).heap[k]? = w'.heap[k]? := fun k hk => Below.heap_setCell _ _ _ _ hk
    refine ⟨h0, outs, G, cur.set j (.int .i64 (C a b i j : Int)), h1, (hoth O (fun e => h6 e.symm)).trans h2', fun k hk1 hk2 => ?_, h4, h5, h6, ?_, by rw [List.length_set]; exact h8, fun q hq1 hq2 => ?_⟩
    · obtain ⟨g1, g2, g3, g4, g5⟩ := h3 k hk1 hk2
      exact ⟨g1, g2, g3, g4, (hoth _ g4).trans (kp g5)⟩
    · have := set_block (j := j) h7' (.int .i64 (C a b i j : Int))
      rw [this]
      simp
    · rw [List.getElem?_set]
      split
      · rename_i e; subst e; rw [if_pos (by omega)]
      · exact h9 q (by omega) hq2
/-- What the walk reads of row i + 1. -/
theorem Row.next (h : Row w base O a b i s) (hi : i + 1 ≤ a.length) : ∃ R, w.cell? ⟨O, i + 1, none⟩ = some (slI R b.length) ∧ R < w.heap.size ∧ ∀ j, j ≤ b.length → w.cell? ⟨R, j, none⟩ = some (.int .i64 (C a b (i + 1) j : Int)) := by
  obtain ⟨h0, outs, G, cur, h1, h2, h3, _⟩ := h
  obtain ⟨g1, g2, g3, g4, g5⟩ := h3 (i + 1) (by omega) hi
  exact ⟨G (i + 1), (cells_box h2 _).trans g1, (Array.getElem?_eq_some_iff.1 g5).1, fun j hj => (cells_box g5 j).trans (rowC_get a b _ j hj)⟩
theorem own_full {w : World} {bs g n : Nat} {e : TypeId} {xs : List Value} (h : w.ownsRow bs e 1 (.slice (some ⟨g, 0, none⟩) n n) n xs) : w.heap[g]? = some (.cells xs.toArray e (0, 0)) := by
  rcases h.2 with ⟨h1, _⟩ | ⟨g', cap, cur, h1, _, h3, _, _, h6, h7⟩
  · cases h1
  · injection h1 with e1 _ e3
    injection e1 with e1
    injection e1 with e1
    subst e1 e3
    rw [h3, ← h7, List.take_of_length_le (by rw [Array.length_toList]; omega)]
theorem Tab.start {w : World} {O : Nat} {xs : List Value} {base : Nat} (hb : base ≤ O) (hl : xs.length = a.length + 1) (h : w.heap[O]? = some (.cells xs.toArray 114 (0, 0))) : Tab w base O a b (a.length + 1) :=
  ⟨hb, xs, fun _ => 0, hl, h, fun k h1 h2 => by omega⟩
/-- A new row has been made, and put into the table. -/
theorem Tab.opened {w w1 w2 : World} {z : Nat} {xs : List Value} (h : Tab w base O a b (i + 1)) (hi : i ≤ a.length) (hb : Below w.heap.size w w1) (hz : z = w.heap.size) (hzb : base ≤ z) (hx : xs.length = b.length + 1) (h1 : w1.heap[z]? = some (.cells xs.toArray 3 (0, 0))) (h2 : w2.heap = (w1.setCell ⟨O, i, none⟩ (slI z b.length)).heap) :
    Row w2 base O a b i (b.length + 1) := by
  obtain ⟨h0, outs, G, g1, g2, g3⟩ := h
  have hO : O < w.heap.size := (Array.getElem?_eq_some_iff.1 g2).1
  have hoth : ∀ k, k ≠ O → w2.heap[k]? = w1.heap[k]? := fun k hk => by rw [h2]; exact Below.heap_setCell _ _ _ _ hk
  have hO1 := (hb.block O hO).trans g2
  refine ⟨h0, outs.set i (slI z b.length), fun k => if k = i then z else G k, xs, by rw [List.length_set]; exact g1, ?_, fun k hk1 hk2 => ?_, ?_, ?_, ?_, ?_, hx, fun j hj1 hj2 => by omega⟩
  · rw [h2, set_block (j := i) hO1]
    simp
  · obtain ⟨q1, q2, q3, q4⟩ := g3 k (by omega) hk2
    have hk : G k < w.heap.size := (Array.getElem?_eq_some_iff.1 q4).1
    simp only [if_neg (show ¬ k = i by omega), if_pos]
    refine ⟨?_, q2, q3, by omega, ((hoth _ q3).trans (hb.block _ hk)).trans q4⟩
    rw [List.getElem?_set, if_neg (by omega)]
    exact q1
  · simp only [if_pos]
    rw [List.getElem?_set, if_pos rfl, if_pos (by omega)]
  · simp only [if_pos]; exact hzb
  · simp only [if_pos]; omega
  · simp only [if_pos]
    rw [hoth z (by omega)]
    exact h1
end
theorem intInfo23 : (Tryz.prog.info? 3).map (fun i => (i.zero, i.size, i.bytes)) = some (some (.int .i64 0), 1, 8) := by kernel_rfl
theorem intsInfo23 : (Tryz.prog.info? 114).map (fun i => (i.zero, i.size, i.bytes)) = some (some (.slice none 0 0), 1, 24) := by kernel_rfl
end Go.Proofs.YtmlhijlcefogmaaGreatDoor
namespace Go.Proofs.YtmlhijlcefogmaaGreatDoor
open Go.RowKit Go.Maps Go.Shelf

theorem refCosts_any (a b : List Int) (A A' : Option Addr) (ca cb : Nat) (w : World) (hsa : Sl w w.heap.size A a.length 1 (i32V a)) (hsb : Sl w w.heap.size A' b.length 1 (i32V b)) (hn : a.length ≤ 4096) (hm : b.length ≤ 4096) :
    Calls Tryz.prog 54 #[.slice A a.length ca, .slice A' b.length cb] w fun e w' => Below w.heap.size w w' ∧ ∃ O, e = .returned (.slice (some ⟨O, 0, none⟩) (a.length + 1) (a.length + 1)) ∧ Tab w' w.heap.size O a b 0 := by
  obtain ⟨ip, hpi, hp0, hp1, hp2⟩ := info_parts intsInfo23
  obtain ⟨iq, hqi, hq0, hq1, hq2⟩ := info_parts intInfo23
  have HSA := Lib.hid hsa; have HSB := Lib.hid hsb
  clear hsa hsb
  go_enter Tryz.func54, Tryz.ntmps54
  go_upto_region 3 with (refine wpList_make_full _ rfl _ _ 112 rfl w.heap.size 114 ip (.slice none 0 0) 1 Tryz.underlying112 hpi hp0 hp1 .i64 .i64 _ _ (a.length + 1) rfl rfl (by omega) (by omega) (by rw [hp2]; omega) (by unfold maxLen; omega) (Nat.le_refl _) ?_; intro w1 hown1 hg1)
  have HB1 := Lib.hid (show Below w.heap.size w w1 from (Below.refl _ _).grown hg1 (Nat.le_refl _) (fun k e => by cases e))
  have HT1 := Lib.hid (Tab.start (a := a) (b := b) (Nat.le_refl w.heap.size) (by simpa using hown1.1) (own_full hown1))
  clear hown1 hg1
  go_wp2_with fail
  go_loopw [8] (fun t8 wr => ∃ (r : Nat) (ti : Int), r ≤ a.length + 1 ∧ t8 = .int .i64 ti ∧ ti + 1 = (r : Int) ∧ Hid (Tab wr w.heap.size w.heap.size a b r) ∧ Hid (Below w.heap.size w wr)) (fun t8 _ => (intOf t8 + 1).toNat)
  case atStart => exact ⟨a.length + 1, (a.length : Int), Nat.le_refl _, rfl, by omega, HT1, HB1⟩
  case round =>
    obtain ⟨r, ti, hr, rfl, hti, HT, HBW⟩ := hrel
    by_cases hneg : ti < 0
    · obtain rfl : r = 0 := by omega
      have n0 : ¬ (0 : Int) ≤ ti := by omega
      go_wp2_with fail
      go_ret
      exact ⟨HBW.out, _, rfl, HT.out⟩
    · obtain ⟨i, rfl⟩ : ∃ i : Nat, ti = (i : Int) := ⟨ti.toNat, by omega⟩
      obtain rfl : r = i + 1 := by omega
      have hia : i ≤ a.length := by omega
      have i0 : (0 : Int) ≤ (i : Int) := by omega
      have i1 : (i : Int) < (a.length : Int) + 1 := by omega
      have i2 : i < a.length + 1 := by omega
      have hbz : w.heap.size ≤ wr.heap.size := HBW.out.size
      obtain ⟨cO, fO, hOz⟩ : (∃ u, wr.cell? ⟨w.heap.size, i, none⟩ = some u) ∧ wr.frozen? ⟨w.heap.size, i, none⟩ = false ∧ w.heap.size < wr.heap.size := by
        obtain ⟨_, outs, G, g1, g2, _⟩ := HT.out
        exact ⟨⟨_, (cells_box g2 i).trans (List.getElem?_eq_getElem (by omega))⟩, frozen_of_row _ _ _ _ _ g2, (Array.getElem?_eq_some_iff.1 g2).1⟩
      obtain ⟨uO, cO⟩ := cO
      obtain ⟨outs, hobx⟩ : ∃ cs : Array Value, wr.heap[w.heap.size]? = some (.cells cs 114 (0, 0)) := by
        obtain ⟨_, outs, G, g1, g2, _⟩ := HT.out
        exact ⟨_, g2⟩
      have HOB := Lib.hid hobx
      clear hneg hti hobx fO
      go_upto_region 7 with (refine wpList_make_full _ rfl _ _ 114 rfl wr.heap.size 3 iq (.int .i64 0) 1 Tryz.underlying114 hqi hq0 hq1 .i64 .i64 _ _ (b.length + 1) rfl rfl (by omega) (by omega) (by rw [hq2]; omega) (by unfold maxLen; omega) (Nat.le_refl _) ?_; intro w2 hown2 hg2
                             have hb2 : Below wr.heap.size wr w2 := (Below.refl _ _).grown hg2 (Nat.le_refl _) (fun k e => by cases e)
                             have hob2 := (hb2.block _ hOz).trans HOB.out
                             have cO2 : w2.cell? ⟨w.heap.size, i, none⟩ = some uO := (hb2.cell (p := ⟨w.heap.size, i, none⟩) hOz).trans cO
                             have fO2 : w2.frozen? ⟨w.heap.size, i, none⟩ = false := frozen_of_row _ _ _ _ _ hob2
                             have HB2 := Lib.hid hb2
                             have HN2 := Lib.hid (own_full hown2)
                             have HL2 := Lib.hid hown2.1
                             clear hown2 hg2 hb2 hob2 cO)
      have hopn := Tab.opened (w2 := w2.setCell ⟨w.heap.size, i, none⟩ (slI wr.heap.size b.length)) HT.out hia HB2.out rfl hbz (by simpa using HL2.out) HN2.out rfl
      have hbel2 : Below w.heap.size w (w2.setCell ⟨w.heap.size, i, none⟩ (slI wr.heap.size b.length)) := (HBW.out.trans (HB2.out.mono hbz)).setCell (Nat.le_refl _) _
      have HRW := Lib.hid hopn; have HBR0 := Lib.hid hbel2
      obtain ⟨W, hW⟩ : ∃ W, w2.setCell ⟨w.heap.size, i, none⟩ (.slice (some ⟨wr.heap.size, 0, none⟩) (b.length + 1) (b.length + 1)) = W := ⟨_, rfl⟩
      rw [show w2.setCell ⟨w.heap.size, i, none⟩ (slI wr.heap.size b.length) = W from hW] at HRW HBR0
      rw [hW]
      clear hopn hbel2 hW cO2 fO2 HT HBW HB2 HN2 HL2 HOB
      go_wp2_with fail
      go_loopw [9] (fun t9 wr => ∃ (s : Nat) (tj : Int), s ≤ b.length + 1 ∧ t9 = .int .i64 tj ∧ tj + 1 = (s : Int) ∧ Hid (Row wr w.heap.size w.heap.size a b i s) ∧ Hid (Below w.heap.size w wr)) (fun t9 _ => (intOf t9 + 1).toNat)
      case atStart => exact ⟨b.length + 1, (b.length : Int), Nat.le_refl _, rfl, by omega, HRW, HBR0⟩
      case round =>
        obtain ⟨s, tj, hs, rfl, htj, HR, HBR⟩ := hrel
        by_cases hneg : tj < 0
        · obtain rfl : s = 0 := by omega
          have n0 : ¬ (0 : Int) ≤ tj := by omega
          have HD := Lib.hid HR.out.done
          clear hneg htj
          go_wp2_with fail
          go_roundw
          case rel => exact ⟨i, (i : Int) - 1, by omega, by first | rfl | go_num, by omega, HD, HBR⟩
          case measure => (simp [intOf]) <;> omega
        · obtain ⟨j, rfl⟩ : ∃ j : Nat, tj = (j : Int) := ⟨tj.toNat, by omega⟩
          obtain rfl : s = j + 1 := by omega
          have hjm : j ≤ b.length := by omega
          have j0 : (0 : Int) ≤ (j : Int) := by omega
          have j1 : (j : Int) < (b.length : Int) + 1 := by omega
          have j2 : j < b.length + 1 := by omega
          obtain ⟨R, cR, hRb, hRz, hOz2, hRc, hst⟩ := HR.out.here hia
          have HRB := Lib.hid hRb; have HST := Lib.hid hst; have HRC := Lib.hid hRc
          unfold slI at cR
          clear hneg htj hRb hst hRc
          by_cases hin : i = a.length
          · have k1 : ((i : Int) == (a.length : Int)) = true := by rw [hin]; exact beq_self_eq_true _
            have HV : Hid ((b.length : Int) - (j : Int) = (C a b i j : Int)) := Lib.hid (by rw [C_end hin]; omega)
            clear hin
            obtain ⟨⟨u8, cu8⟩, fu8, hst8⟩ := HST.out _ (Below.refl _ _) j hjm
            have HS8 := Lib.hid (hst8 rfl)
            clear hst8
            go_wp2_with fail
            go_roundw
            case rel => exact ⟨j, (j : Int) - 1, by omega, by first | rfl | go_num, by omega, Lib.hid (HS8.out _ HV.out), Lib.hid (HBR.out.setCell HRB.out _)⟩
            case measure => (simp [intOf]) <;> omega
          have il : i < a.length := by omega
          have k1 : ((i : Int) == (a.length : Int)) = false := by rw [beq_eq_false_iff_ne]; omega
          obtain ⟨N, cN, hNz, hNc⟩ := HR.out.next (by omega)
          unfold slI at cN
          by_cases hjb : j = b.length
          · have k2 : ((j : Int) == (b.length : Int)) = true := by rw [hjb]; exact beq_self_eq_true _
            have HV : Hid ((a.length : Int) - (i : Int) = (C a b i j : Int)) := Lib.hid (by rw [C_end' hjb]; omega)
            clear hjb hin cN hNc
            obtain ⟨⟨u8, cu8⟩, fu8, hst8⟩ := HST.out _ (Below.refl _ _) j hjm
            have HS8 := Lib.hid (hst8 rfl)
            clear hst8
            go_wp2_with fail
            go_roundw
            case rel => exact ⟨j, (j : Int) - 1, by omega, by first | rfl | go_num, by omega, Lib.hid (HS8.out _ HV.out), Lib.hid (HBR.out.setCell HRB.out _)⟩
            case measure => (simp [intOf]) <;> omega
          have jl : j < b.length := by omega
          have k2 : ((j : Int) == (b.length : Int)) = false := by rw [beq_eq_false_iff_ne]; omega
          have i3 : (i : Int) < (a.length : Int) := by omega
          have j3 : (j : Int) < (b.length : Int) := by omega
          have i4 : (i : Int) + 1 < (a.length : Int) + 1 := by omega
          have j4 : (j : Int) + 1 < (b.length : Int) + 1 := by omega
          have i5 : (0 : Int) ≤ (i : Int) + 1 := by omega
          have j5 : (0 : Int) ≤ (j : Int) + 1 := by omega
          obtain ⟨ba, oa, rfl, hba, hca⟩ := (HSA.out.keep HBR.out).2 (by omega)
          obtain ⟨bb, ob, rfl, hbb, hcb⟩ := (HSB.out.keep HBR.out).2 (by omega)
          have ca1 := hca i (.int .i32 a[i]) (by simp [i32V, il])
          have cb1 := hcb j (.int .i32 b[j]) (by simp [i32V, jl])
          have CA := Wg.cell ca1 (Nat.lt_of_lt_of_le hba HBR.out.size)
          have CB := Wg.cell cb1 (Nat.lt_of_lt_of_le hbb HBR.out.size)
          have HME : Hid (a[i] = b[j] → (C a b (i + 1) (j + 1) : Int) = (C a b i j : Int)) := Lib.hid fun h => by rw [C_match il jl h]
          have HNE : Hid (a[i] ≠ b[j] → (C a b i j : Int) = 1 + min (C a b (i + 1) j : Int) (C a b i (j + 1) : Int)) := Lib.hid fun h => by rw [C_ne il jl h]; omega
          have c3 := hNc (j + 1) (by omega)
          have c1 := hNc j (by omega)
          have c2 := HRC.out (j + 1) (by omega) (by omega)
          generalize a[i] = va at *
          generalize b[j] = vb at *
          clear hca hcb ca1 cb1 hNc hin hjb
          go_upto_region 14 with fail
          by_cases hab : va = vb
          · subst hab
            have kv : (va == va) = true := beq_self_eq_true _
            refine wp_region_wr (by kernel_rfl) (by kernel_rfl) ?_
            repeat (first
              | go_big_quiet_skip
              | (go_big_quiet_want
                 first
                   | (go_big_quiet_op
                      first
                        | go_big_quiet_on
                        | go_big_quiet_call (first | (fail)))))
            refine wpQuiet_nil ?_
            rintro w' ⟨kk, rfl⟩
            have hk10 := kk.2
            generalize kk.val = w10 at *
            clear kk
            have cR10 := (hk10.below.cell (p := ⟨w.heap.size, i, none⟩) hOz2).trans cR
            have cN10 := (hk10.below.cell (p := ⟨w.heap.size, i + 1, none⟩) hOz2).trans cN
            have c310 := (hk10.below.cell (p := ⟨N, j + 1, none⟩) hNz).trans c3
            have hz10 := hk10.below.size
            have FR := Wg.cell cR10 (by omega)
            have FN := Wg.cell cN10 (by omega)
            have F3 := Wg.cell c310 (by omega)
            have HK10 := Lib.hid hk10
            have HV := Lib.hid (HME.out rfl)
            clear CA CB cR10 cN10 c310 hk10 kv c1 c2 c3 cR cN
            go_upto_region 15 with fail
            refine wp_region_tail_wg 15 (by kernel_rfl) (by kernel_rfl) (by kernel_rfl) (by kernel_rfl) (by kernel_rfl) ?_
            simp only [List.take_succ_cons, List.take_zero, List.drop_succ_cons, List.drop_zero]
            repeat (first
              | go_big_quiet_skip
              | (go_big_quiet_want
                 first
                   | (go_big_quiet_op
                      first
                        | go_big_quiet_on
                        | go_big_quiet_call (first | (fail)))))
            refine wpQuiet_nil ?_
            rintro w' ⟨kk, rfl⟩
            have hk8 := kk.2
            generalize kk.val = w8 at *
            clear kk
            clear FR FN F3
            obtain ⟨⟨u8, cu8⟩, fu8, hst8⟩ := HST.out _ (HK10.out.trans hk8).below j hjm
            have HS8 := Lib.hid (hst8 rfl)
            have HBX := Lib.hid (HBR.out.trans (((HK10.out.trans hk8).below).mono HBR.out.size))
            clear hst8
            go_wp2_with fail
            go_roundw
            case rel => exact ⟨j, (j : Int) - 1, by omega, by first | rfl | go_num, by omega, Lib.hid (HS8.out _ HV.out), Lib.hid (HBX.out.setCell HRB.out _)⟩
            case measure => (simp [intOf]) <;> omega
          · have kv : (va == vb) = false := by rw [beq_eq_false_iff_ne]; exact hab
            have hne := HNE.out hab
            have b1 := C_le a b (i + 1) j
            have b2 := C_le a b i (j + 1)
            generalize (C a b (i + 1) j : Nat) = p1 at *
            generalize (C a b i (j + 1) : Nat) = p2 at *
            refine wp_region_wr (by kernel_rfl) (by kernel_rfl) ?_
            repeat (first
              | go_big_quiet_skip
              | (go_big_quiet_want
                 first
                   | (go_big_quiet_op
                      first
                        | go_big_quiet_on
                        | go_big_quiet_call (first | (fail)))))
            refine wpQuiet_nil ?_
            rintro w' ⟨kk, rfl⟩
            have hk10 := kk.2
            generalize kk.val = w10 at *
            clear kk
            have cR10 := (hk10.below.cell (p := ⟨w.heap.size, i, none⟩) hOz2).trans cR
            have cN10 := (hk10.below.cell (p := ⟨w.heap.size, i + 1, none⟩) hOz2).trans cN
            have c110 := (hk10.below.cell (p := ⟨N, j, none⟩) hNz).trans c1
            have c210 := (hk10.below.cell (p := ⟨R, j + 1, none⟩) hRz).trans c2
            have hz10 := hk10.below.size
            have FR := Wg.cell cR10 (by omega)
            have FN := Wg.cell cN10 (by omega)
            have F1 := Wg.cell c110 (by omega)
            have F2 := Wg.cell c210 (by omega)
            have HNE2 := Lib.hid hne
            clear CA CB kv c1 c2 c3 cR cN hab hne
            go_upto_region 16 with fail
            rcases Nat.lt_or_ge p1 p2 with hlt | hge
            · have q1 : (p1 : Int) < (p2 : Int) := by omega
              have q2 : decide ((p1 : Int) < (p2 : Int)) = true := decide_eq_true q1
              have q3 : decide (p1 < p2) = true := decide_eq_true hlt
              have HV : Hid (1 + (p1 : Int) = (C a b i j : Int)) := Lib.hid (by have := HNE2.out; omega)
              refine wp_region_wr (by kernel_rfl) (by kernel_rfl) ?_
              repeat (first
                | go_big_quiet_skip
                | (go_big_quiet_want
                   first
                     | (go_big_quiet_op
                        first
                          | go_big_quiet_on
                          | go_big_quiet_call (first | (fail)))))
              refine wpQuiet_nil ?_
              rintro w' ⟨kk, rfl⟩
              have hk11 := kk.2
              generalize kk.val = w11 at *
              clear kk
              have hk1011 := hk10.trans hk11
              have hz11 := hk11.below.size
              have GR := Wg.cell ((hk11.below.cell (p := ⟨w.heap.size, i, none⟩) (show w.heap.size < w10.heap.size by omega)).trans cR10) (by omega)
              have GN := Wg.cell ((hk11.below.cell (p := ⟨w.heap.size, i + 1, none⟩) (show w.heap.size < w10.heap.size by omega)).trans cN10) (by omega)
              have G1 := Wg.cell ((hk11.below.cell (p := ⟨N, j, none⟩) (show N < w10.heap.size by omega)).trans c110) (by omega)
              clear FR FN F1 F2 cR10 cN10 c110 c210 q1 q2 q3 hlt
              go_upto_region 17 with fail
              refine wp_region_tail_wg 15 (by kernel_rfl) (by kernel_rfl) (by kernel_rfl) (by kernel_rfl) (by kernel_rfl) ?_
              simp only [List.take_succ_cons, List.take_zero, List.drop_succ_cons, List.drop_zero]
              repeat (first
                | go_big_quiet_skip
                | (go_big_quiet_want
                   first
                     | (go_big_quiet_op
                        first
                          | go_big_quiet_on
                          | go_big_quiet_call (first | (fail)))))
              refine wpQuiet_nil ?_
              rintro w' ⟨kk, rfl⟩
              have hk8 := kk.2
              generalize kk.val = w8 at *
              clear kk
              clear GR GN G1
              obtain ⟨⟨u8, cu8⟩, fu8, hst8⟩ := HST.out _ (hk1011.trans hk8).below j hjm
              have HS8 := Lib.hid (hst8 rfl)
              have HBX := Lib.hid (HBR.out.trans (((hk1011.trans hk8).below).mono HBR.out.size))
              clear hst8
              go_wp2_with fail
              go_roundw
              case rel => exact ⟨j, (j : Int) - 1, by omega, by first | rfl | go_num, by omega, Lib.hid (HS8.out _ HV.out), Lib.hid (HBX.out.setCell HRB.out _)⟩
              case measure => (simp [intOf]) <;> omega
            · have q1 : ¬ (p1 : Int) < (p2 : Int) := by omega
              have q2 : decide ((p1 : Int) < (p2 : Int)) = false := decide_eq_false q1
              have q3 : decide (p1 < p2) = false := decide_eq_false (by omega)
              have HV : Hid (1 + (p2 : Int) = (C a b i j : Int)) := Lib.hid (by have := HNE2.out; omega)
              refine wp_region_wr (by kernel_rfl) (by kernel_rfl) ?_
              repeat (first
                | go_big_quiet_skip
                | (go_big_quiet_want
                   first
                     | (go_big_quiet_op
                        first
                          | go_big_quiet_on
                          | go_big_quiet_call (first | (fail)))))
              refine wpQuiet_nil ?_
              rintro w' ⟨kk, rfl⟩
              have hk11 := kk.2
              generalize kk.val = w11 at *
              clear kk
              have hk1011 := hk10.trans hk11
              have hz11 := hk11.below.size
              have GR := Wg.cell ((hk11.below.cell (p := ⟨w.heap.size, i, none⟩) (show w.heap.size < w10.heap.size by omega)).trans cR10) (by omega)
              have G2 := Wg.cell ((hk11.below.cell (p := ⟨R, j + 1, none⟩) (show R < w10.heap.size by omega)).trans c210) (by omega)
              clear FR FN F1 F2 cR10 cN10 c110 c210 q1 q2 q3 hge
              go_upto_region 18 with fail
              refine wp_region_tail_wg 15 (by kernel_rfl) (by kernel_rfl) (by kernel_rfl) (by kernel_rfl) (by kernel_rfl) ?_
              simp only [List.take_succ_cons, List.take_zero, List.drop_succ_cons, List.drop_zero]
              repeat (first
                | go_big_quiet_skip
                | (go_big_quiet_want
                   first
                     | (go_big_quiet_op
                        first
                          | go_big_quiet_on
                          | go_big_quiet_call (first | (fail)))))
              refine wpQuiet_nil ?_
              rintro w' ⟨kk, rfl⟩
              have hk8 := kk.2
              generalize kk.val = w8 at *
              clear kk
              clear GR G2
              obtain ⟨⟨u8, cu8⟩, fu8, hst8⟩ := HST.out _ (hk1011.trans hk8).below j hjm
              have HS8 := Lib.hid (hst8 rfl)
              have HBX := Lib.hid (HBR.out.trans (((hk1011.trans hk8).below).mono HBR.out.size))
              clear hst8
              go_wp2_with fail
              go_roundw
              case rel => exact ⟨j, (j : Int) - 1, by omega, by first | rfl | go_num, by omega, Lib.hid (HS8.out _ HV.out), Lib.hid (HBX.out.setCell HRB.out _)⟩
              case measure => (simp [intOf]) <;> omega
end Go.Proofs.YtmlhijlcefogmaaGreatDoor
