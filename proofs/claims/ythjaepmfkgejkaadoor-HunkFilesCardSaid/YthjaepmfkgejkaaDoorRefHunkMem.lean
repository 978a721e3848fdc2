/-
  The document's hunks in memory: a row of structs in a variable, each with its lines in a row of its own; a line put behind the last one's. Conditions: as each says.
-/
import Derived.Test.YthjaepmfkgejkaaDoorHunkMem23
import Derived.Test.YthjaepmfkgejkaaDoorAppW23
namespace Go.Proofs.YthjaepmfkgejkaaDoor
open Go.RowKit Go.Maps Go.Shelf
set_option linter.unusedVariables false
set_option linter.unusedSimpArgs false

theorem rhkInfo : (Tryd.prog.info? 101).map (fun i => (i.zero, i.size, i.bytes)) = some (some (.agg #[.int .i64 0, .int .i64 0, .slice none 0 0]), 3, 40) := by kernel_rfl
/-- Closed hunks. -/
def HsC (w : World) (base : Nat) (v : Value) (hs : List HkD) : Prop := w.ownsRow base 101 3 v hs.length (rowsV hkV hs) ∧ ∀ h ∈ hs, w.ownsRow base 9 1 h.2.2.1 h.2.2.2.length (strs h.2.2.2)
/-- The last hunk is open: its lines lie behind all others'. -/
def HsO (w : World) (base : Nat) (v : Value) (pre : List HkD) (h : HkD) : Prop := ∃ X c bo, v = .slice (some ⟨X, 0, none⟩) (pre.length + 1) c ∧ base ≤ bo ∧ bo ≤ w.heap.size ∧
  w.ownsRow base 101 3 (.slice (some ⟨X, 0, none⟩) (pre.length + 1) c) (pre.length + 1) (rowsV hkV (pre ++ [h])) ∧
  (∀ k ∈ pre, w.ownsRow base 9 1 k.2.2.1 k.2.2.2.length (strs k.2.2.2) ∧ ∀ g, k.2.2.1.ownBlock = some g → g < bo) ∧ w.ownsRow bo 9 1 h.2.2.1 h.2.2.2.length (strs h.2.2.2)
theorem HsC.nil (w : World) (base : Nat) : HsC w base (.slice none 0 0) [] := ⟨World.ownsRow_nil _ _ _ _, fun h hh => by cases hh⟩
theorem HsO.closed {w : World} {base : Nat} {v : Value} {pre : List HkD} {h : HkD} (hh : HsO w base v pre h) : HsC w base v (pre ++ [h]) := by
  obtain ⟨X, c, bo, rfl, h2, h3, h4, h5, h6⟩ := hh
  refine ⟨by rw [List.length_append, List.length_singleton]; exact h4, fun k hk => ?_⟩
  rcases List.mem_append.1 hk with q | q
  · exact (h5 k q).1
  · rw [List.mem_singleton.1 q]; exact own_base h6 h2
theorem HsC.below {w w' : World} {base : Nat} {v : Value} {hs : List HkD} (h : HsC w base v hs) (hb : Below w.heap.size w w') : HsC w' base v hs := ⟨own_kept h.1 hb, fun k hk => own_kept (h.2 k hk) hb⟩
theorem HsO.below {w w' : World} {base : Nat} {v : Value} {pre : List HkD} {h : HkD} (hh : HsO w base v pre h) (hb : Below w.heap.size w w') : HsO w' base v pre h := by
  obtain ⟨X, c, bo, h1, h2, h3, h4, h5, h6⟩ := hh
  exact ⟨X, c, bo, h1, h2, Nat.le_trans h3 hb.size, own_kept h4 hb, fun k hk => ⟨own_kept (h5 k hk).1 hb, (h5 k hk).2⟩, own_kept h6 hb⟩
/-- What a line that is put behind the last one's reads and leaves. -/
theorem HsO.put {w : World} {base : Nat} {v : Value} {pre : List HkD} {f t : Nat} {lv : Value} {ls : List ByteArray} (hh : HsO w base v pre (f, t, lv, ls)) :
    ∃ X c bo, v = .slice (some ⟨X, 0, none⟩) (pre.length + 1) c ∧ w.cell? ⟨X, pre.length * 3 + 2, none⟩ = some lv ∧ X < w.heap.size ∧ base ≤ bo ∧ bo ≤ w.heap.size ∧ w.ownsRow bo 9 1 lv ls.length (strs ls) ∧
      ∀ (w8 : World) (lv' : Value) (s : ByteArray), w8.ownsRow bo 9 1 lv' (ls.length + 1) (strs ls ++ [.string s]) → (∀ B a, B ≤ bo → Below B a w → Below B a w8) → (∀ k, k < w.heap.size → lv.ownBlock ≠ some k → w8.heap[k]? = w.heap[k]?) →
        (∃ u, w8.cell? ⟨X, pre.length * 3 + 2, none⟩ = some u) ∧ w8.frozen? ⟨X, pre.length * 3 + 2, none⟩ = false ∧ HsO (w8.setCell ⟨X, pre.length * 3 + 2, none⟩ lv') base v pre (f, t, lv', ls ++ [s]) ∧ Below base w (w8.setCell ⟨X, pre.length * 3 + 2, none⟩ lv') := by
  obtain ⟨X, c, bo, rfl, hbo, hbz, hX, hpre, hlast⟩ := hh
  obtain ⟨q, hq⟩ : ∃ q, pre.length = q := ⟨_, rfl⟩
  have hlen := hkRows_len (pre ++ [(f, t, lv, ls)])
  rw [List.length_append, List.length_singleton] at hlen
  have cL : w.cell? ⟨X, pre.length * 3 + 2, none⟩ = some lv := by
    rw [hX.cellAt (pre.length * 3 + 2) (by omega)]
    exact rowsV_get (hkV_len (pre ++ [(f, t, lv, ls)])) pre.length (by simp) 2 lv (by simp [hkV])
  obtain ⟨cur, hXb⟩ := own_block hX
  have hXz := (Array.getElem?_eq_some_iff.1 hXb).1
  have hLX : lv.ownBlock ≠ some X := by
    rcases hlast.2 with ⟨h, _⟩ | ⟨g, cap, c2, h, _, hh, _⟩
    · simp only at h; rw [h]; simp [Value.ownBlock]
    · simp only at h
      rw [h]
      intro e
      have : g = X := by simpa [Value.ownBlock] using e
      subst this
      rw [hXb] at hh
      injection hh with hh
      injection hh with _ hh _
      revert hh
      decide
  have hLb : ∀ g, lv.ownBlock = some g → bo ≤ g := fun g hg => (hlast.lt g hg).1
  have hXbs : base ≤ X := (hX.lt X (by simp [Value.ownBlock])).1
  refine ⟨X, c, bo, rfl, cL, hXz, hbo, hbz, hlast, fun w8 lv' s ho8 hb8 hk8 => ?_⟩
  have hX8 : w8.heap[X]? = w.heap[X]? := hk8 X hXz hLX
  have hbel8 : Below base w w8 := hb8 base w hbo (Below.refl _ _)
  have hown8 : w8.ownsRow base 101 3 (.slice (some ⟨X, 0, none⟩) (pre.length + 1) c) (pre.length + 1) (rowsV hkV (pre ++ [(f, t, lv, ls)])) := by
    obtain ⟨h1, h2⟩ := hX
    refine ⟨h1, ?_⟩
    rcases h2 with ⟨h, _⟩ | ⟨g, cap, c2, h, hg, hh, r⟩
    · cases h
    · have hgX : g = X := by injection h with h; injection h with h; injection h with h; exact h.symm
      subst hgX
      exact .inr ⟨g, cap, c2, h, hg, hX8.trans hh, r⟩
  obtain ⟨hst, _⟩ := hown8.stored (pre.length * 3 + 2) lv'
  rw [hkRows_set pre f t lv lv' ls (ls ++ [s])] at hst
  have hoth : ∀ k, k ≠ X → (w8.setCell ⟨X, pre.length * 3 + 2, none⟩ lv').heap[k]? = w8.heap[k]? := fun k hk => Below.heap_setCell _ _ _ _ hk
  have hsz : (w8.setCell ⟨X, pre.length * 3 + 2, none⟩ lv').heap.size = w8.heap.size := by simp [World.setCell]
  refine ⟨⟨lv, (World.cell?_of_block (w := w) (a := ⟨X, pre.length * 3 + 2, none⟩) hX8).trans cL⟩, frozen_of_row _ _ _ _ _ (hX8.trans hXb), ⟨X, c, bo, rfl, hbo, ?_, hst, fun k hk => ?_, ?_⟩, hbel8.setCell (by exact hXbs) _⟩
  · have := hbel8.size; omega
  · obtain ⟨h1, h2⟩ := hpre k hk
    have h8 : w8.ownsRow base 9 1 k.2.2.1 k.2.2.2.length (strs k.2.2.2) := by
      refine ⟨h1.1, ?_⟩
      rcases h1.2 with h | ⟨g, cap, c2, h, hg, hh, r⟩
      · exact .inl h
      · refine .inr ⟨g, cap, c2, h, hg, ?_, r⟩
        have hgz := (Array.getElem?_eq_some_iff.1 hh).1
        rw [hk8 g hgz (fun e => by
          have a1 := hLb g e
          have a2 := h2 g (by rw [h]; rfl)
          omega)]
        exact hh
    exact ⟨own_tag h8 (hX8.trans hXb) (by decide) (fun k _ hk => hoth k hk), h2⟩
  · have h9 : strs (ls ++ [s]) = strs ls ++ [.string s] := by simp [strs]
    rw [h9, List.length_append, List.length_singleton]
    exact own_tag ho8 (hX8.trans hXb) (by decide) (fun k _ hk => hoth k hk)
/-- A new hunk behind the closed ones. -/
theorem HsC.opened {w w' : World} {base : Nat} {hs : List HkD} {v v' : Value} (i j : Nat) (hc : HsC w base v hs) (hbs : base ≤ w.heap.size)
    (ho : w'.ownsRow base 101 3 v' (hs.length + 1) (rowsV hkV hs ++ [.int .i64 (i : Int), .int .i64 (j : Int), .slice none 0 0])) (hbel : Below base w w') (hk : ∀ k, k < w.heap.size → v.ownBlock ≠ some k → w'.heap[k]? = w.heap[k]?) :
    HsO w' base v' hs (i, j, .slice none 0 0, []) := by
  obtain ⟨hr, hl⟩ := hc
  rcases id ho.2 with ⟨rfl, h0⟩ | ⟨X, c, cur, rfl, hXb, hh, _⟩
  · omega
  refine ⟨X, c, w'.heap.size, rfl, Nat.le_trans hbs hbel.size, Nat.le_refl _, ?_, fun h hh => ?_, World.ownsRow_nil _ _ _ _⟩
  · rw [rowsV_app]
    exact ho
  · have h1 := hl h hh
    have h2 : w'.ownsRow base 9 1 h.2.2.1 h.2.2.2.length (strs h.2.2.2) := by
      refine ⟨h1.1, ?_⟩
      rcases h1.2 with q | ⟨g, cap, c2, q, hg, hh, r⟩
      · exact .inl q
      · refine .inr ⟨g, cap, c2, q, hg, ?_, r⟩
        rw [hk g (Array.getElem?_eq_some_iff.1 hh).1 (fun e => by
          rcases hr.2 with ⟨hv, _⟩ | ⟨g', cap', c3, hv, _, hh', _⟩
          · rw [hv] at e; simp [Value.ownBlock] at e
          · rw [hv] at e
            have : g' = g := by simpa [Value.ownBlock] using e
            subst this
            rw [hh] at hh'
            injection hh' with hh'
            injection hh' with _ hh' _
            revert hh'
            decide)]
        exact hh
    refine ⟨h2, fun g hg => ?_⟩
    exact (h2.lt g hg).2
/-- An element's place, elements of several cells. -/
theorem ex_indexN {P : Program} {ρ : Operand → Value} {o : Oper} {w : World} (t : TypeId) (x y : Operand) (ho : o.op = .indexAddr t x y) {X n c q size : Nat} (hx : ρ x = .slice (some ⟨X, 0, none⟩) n c) (hy : ρ y = .int .i64 (q : Int)) (hq : q < n) {e : TypeId} (ht : P.underlying t = some (.slice e)) (hi : (P.info? e).map (·.size) = some size) :
    (execOp ρ o).run P w = .ok (.value (.pointer (some ⟨X, q * size, none⟩))) w := by
  cases hp : P.info? e with
  | none => simp [hp] at hi
  | some i =>
    have hs : i.size = size := by simpa [hp] using hi
    have h0 : ¬ ((q : Int) < 0) := by omega
    unfold execOp
    simp [ho, hx, hy, Instr.indexAt, asIntOf, run_underlying ht, sizeOf, typeInfo, hp, hs, Sem.run_bind, Result.andThen, hq, Addr.add]
    try omega
theorem ex_index1o {P : Program} {ρ : Operand → Value} {o : Oper} {w : World} (t : TypeId) (x y : Operand) (ho : o.op = .indexAddr t x y) {X off n c q : Nat} (hx : ρ x = .slice (some ⟨X, off, none⟩) n c) (hy : ρ y = .int .i64 (q : Int)) (hq : q < n) {e : TypeId} (ht : P.underlying t = some (.slice e)) (hi : (P.info? e).map (·.size) = some 1) :
    (execOp ρ o).run P w = .ok (.value (.pointer (some ⟨X, off + q, none⟩))) w := by
  cases hp : P.info? e with
  | none => simp [hp] at hi
  | some i =>
    have hs : i.size = 1 := by simpa [hp] using hi
    have h0 : ¬ ((q : Int) < 0) := by omega
    unfold execOp
    simp [ho, hx, hy, Instr.indexAt, asIntOf, run_underlying ht, sizeOf, typeInfo, hp, hs, Sem.run_bind, Result.andThen, hq, Addr.add_mid]
end Go.Proofs.YthjaepmfkgejkaaDoor
