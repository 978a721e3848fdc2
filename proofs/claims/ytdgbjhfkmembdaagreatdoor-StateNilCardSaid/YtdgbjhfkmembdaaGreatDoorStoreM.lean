/-
  Stores into a part of a block, the block named by its cells; a new variable's block; results that lie in blocks. Over any program; conditions as each says.
-/
import Derived.Test.YtdgbjhfkmembdaaGreatDoorBut
import Derived.Test.YtdgbjhfkmembdaaGreatDoorAtOp
import Derived.Test.YtdgbjhfkmembdaaGreatDoorQStep
import Derived.Test.YtdgbjhfkmembdaaGreatDoorHandL
import Derived.Deep.MidRow
namespace Go.Proofs.YtdgbjhfkmembdaaGreatDoor
open Go.RowKit
set_option linter.unusedVariables false

theorem setCells_heap {T : TypeId} {fr : Nat × Nat} {g : Nat} : ∀ (cs pre mid post : List Value) (w : World), mid.length = cs.length → w.heap[g]? = some (.cells (pre ++ (mid ++ post)).toArray T fr) → (w.setCells g pre.length cs).heap[g]? = some (.cells (pre ++ (cs ++ post)).toArray T fr)
  | [], pre, mid, post, w, hl, hg => by
    obtain rfl : mid = [] := List.eq_nil_of_length_eq_zero hl
    exact hg
  | v :: cs, pre, [], post, w, hl, hg => by cases hl
  | v :: cs, pre, u :: mid, post, w, hl, hg => by
    have h1 : (w.setCell ⟨g, pre.length, none⟩ v).heap[g]? = some (.cells ((pre ++ [v]) ++ (mid ++ post)).toArray T fr) := by
      simp [World.setCell, Array.getElem?_modify, hg]
    have h2 := setCells_heap cs (pre ++ [v]) mid post _ (by simpa using hl) h1
    rw [World.setCells]
    have e : (pre ++ [v]).length = pre.length + 1 := by simp
    rw [e] at h2
    rw [h2]
    simp
theorem setCells_but {X : Nat → Prop} {g : Nat} (hX : X g) : ∀ (cs : List Value) (o : Nat) (w : World), But X w (w.setCells g o cs)
  | [], _, _ => But.refl _ _
  | v :: cs, o, w => (But.setCell (X := X) (But.refl X w) (p := ⟨g, o, none⟩) (fun _ => hX) v).trans (setCells_but hX cs (o + 1) _) fun _ _ h => h
theorem setCells_size {g : Nat} : ∀ (cs : List Value) (o : Nat) (w : World), (w.setCells g o cs).heap.size = w.heap.size
  | [], _, _ => rfl
  | v :: cs, o, w => (setCells_size cs (o + 1) _).trans (by simp [World.setCell])
section
variable {P : Program} {o : Oper} {w : World}
theorem ex_storeM {ρ : Operand → Value} (ty : TypeId) (x y : Operand) (ho : o.op = .store ty x y) (g k : Nat) (pre mid post cs : List Value) (T : TypeId) (V : Value) (hx : ρ x = .pointer (some ⟨g, k, none⟩)) (hk : k = pre.length) (hy : ρ y = V) (hV : V.cells = cs.toArray)
    (hg : w.heap[g]? = some (.cells (pre ++ (mid ++ post)).toArray T (0, 0))) (hl : mid.length = cs.length) (hi : (P.info? ty).map (·.size) = some cs.length) (h1 : ∀ u ∈ cs, u.oneCell' = true) : (execOp ρ o).run P w = .ok .skip (w.setCells g pre.length cs) := by
  subst hk
  have hcell : ∀ j, j < cs.length → (w.cell? ⟨g, pre.length + 0 + j, none⟩).isSome = true := fun j hj => by
    rw [cells_at0 hg]
    have : pre.length + 0 + j < (pre ++ (mid ++ post)).length := by simp; omega
    rw [List.getElem?_eq_getElem this]; rfl
  have hfr : ∀ j, j < cs.length → w.frozen? ⟨g, pre.length + 0 + j, none⟩ = false := fun j _ => by simp [World.frozen?, hg]
  have h := run_storeCells_cells (P := P) g pre.length cs 0 w hcell hfr h1
  unfold execOp
  cases hq : P.info? ty with
  | none => simp [hq] at hi
  | some i =>
    have hs : i.size = cs.length := by simpa [hq] using hi
    simp only [ho, hx, hy, Instr.storeAt, Instr.sureAddr, Sem.run_bind, Sem.run_pure, Result.andThen_ok]
    simp [storeVar, sizeOf, typeInfo, hq, hV, hs, h]
theorem wp_storeM {ops : Array Oper} {rest : List Oper} {a : Act} {Q : Exit → Act → World → Prop} (hw : Region.wanted o (yielded ops a.tmps) = true) (ty : TypeId) (x y : Operand) (ho : o.op = .store ty x y) (g k : Nat) (pre mid post cs : List Value) (T : TypeId) (V : Value) (hx : a.eval x = .pointer (some ⟨g, k, none⟩)) (hk : k = pre.length) (hy : a.eval y = V) (hV : V.cells = cs.toArray)
    (hg : w.heap[g]? = some (.cells (pre ++ (mid ++ post)).toArray T (0, 0))) (hl : mid.length = cs.length) (hi : (P.info? ty).map (·.size) = some cs.length) (h1 : ∀ u ∈ cs, u.oneCell' = true)
    (h : ∀ W : World, But (fun k => k = g) w W → W.heap[g]? = some (.cells (pre ++ (cs ++ post)).toArray T (0, 0)) → W.heap.size = w.heap.size → wpList P ops Q rest (a.put o.dst undef) W) : wpList P ops Q (o :: rest) a w := by
  refine BigFrame.wpList_want hw fun K hK => ?_
  have h2 := ex_storeM (P := P) ty x y ho g k pre mid post cs T V hx hk hy hV hg hl hi h1
  unfold Oper.wp
  rw [h2]
  exact hK _ _ (h _ (setCells_but (X := fun k => k = g) rfl _ _ _) (setCells_heap cs pre mid post w hl hg) (setCells_size _ _ _))
/-- A new variable: its block, named by its cells. -/
theorem wp_allocM {ops : Array Oper} {rest : List Oper} {a : Act} {Q : Exit → Act → World → Prop} (hw : Region.wanted o (yielded ops a.tmps) = true) (t : TypeId) (ho : o.op = .alloc t) (cs : List Value) (hz : (zeroValue t).run P w = .ok (.agg cs.toArray) w)
    (h : ∀ W : World, Below w.heap.size w W → W.heap[w.heap.size]? = some (.cells cs.toArray t (0, 0)) → W.heap.size = w.heap.size + 1 → wpList P ops Q rest (a.put o.dst (.pointer (some ⟨w.heap.size, 0, none⟩))) W) : wpList P ops Q (o :: rest) a w := by
  refine BigFrame.wpList_want hw fun K hK => ?_
  have h2 : (execOp a.eval o).run P w = .ok (.value (.pointer (some ⟨w.heap.size, 0, none⟩))) (w.alloc (.cells cs.toArray t)) := by
    unfold execOp
    simp [ho, Instr.alloc, newVar, newRow, hz, Result.andThen, Sem.run_bind, Value.cells]
  unfold Oper.wp
  rw [h2]
  exact hK _ _ (h _ ((Below.refl _ _).alloc (Nat.le_refl _) _) (heap_alloc_new _ _) (by simp))
/-- A value laid in a new variable. -/
theorem wp_boxM {ops : Array Oper} {rest : List Oper} {a : Act} {Q : Exit → Act → World → Prop} (hw : Region.wanted o (yielded ops a.tmps) = true) (t : TypeId) (x : Operand) (ho : o.op = .box t x) (cs : List Value) (V : Value) (hx : a.eval x = V) (hV : V.cells = cs.toArray) (hi : (P.info? t).map (·.size) = some cs.length)
    (h : ∀ W : World, Below w.heap.size w W → W.heap[w.heap.size]? = some (.cells cs.toArray t (0, 0)) → W.heap.size = w.heap.size + 1 → wpList P ops Q rest (a.put o.dst (.pointer (some ⟨w.heap.size, 0, none⟩))) W) : wpList P ops Q (o :: rest) a w := by
  refine BigFrame.wpList_want hw fun K hK => ?_
  have h2 : (execOp a.eval o).run P w = .ok (.value (.pointer (some ⟨w.heap.size, 0, none⟩))) (w.alloc (.cells cs.toArray t)) := by
    unfold execOp
    cases hq : P.info? t with
    | none => simp [hq] at hi
    | some i =>
      have hs : i.size = cs.length := by simpa [hq] using hi
      simp [ho, hx, Instr.box, newVar, newRow, hV, Result.andThen]
  unfold Oper.wp
  rw [h2]
  exact hK _ _ (h _ ((Below.refl _ _).alloc (Nat.le_refl _) _) (heap_alloc_new _ _) (by simp))
end
/-- The same at a step taken by hand. -/
theorem wpOp_storeM {P : Program} {ops : Array Oper} {Q : Exit → Act → World → Prop} {i : Nat} {K : Act → World → Prop} {a : Act} {w : World} (o : Oper) (hi : opAt ops.toList i = some o) (hw : Region.wanted o (yielded ops a.tmps) = true)
    (ty : TypeId) (x y : Operand) (ho : o.op = .store ty x y) (g k : Nat) (pre mid post cs : List Value) (T : TypeId) (V : Value) (hx : a.eval x = .pointer (some ⟨g, k, none⟩)) (hk : k = pre.length) (hy : a.eval y = V) (hV : V.cells = cs.toArray)
    (hg : w.heap[g]? = some (.cells (pre ++ (mid ++ post)).toArray T (0, 0))) (hl : mid.length = cs.length) (hi2 : (P.info? ty).map (·.size) = some cs.length) (h1 : ∀ u ∈ cs, u.oneCell' = true)
    (h : ∀ W : World, But (fun k => k = g) w W → W.heap[g]? = some (.cells (pre ++ (cs ++ post)).toArray T (0, 0)) → W.heap.size = w.heap.size → K (a.put o.dst undef) W) : wpOp P ops Q i K a w :=
  wpOp_skip o hi hw (ex_storeM ty x y ho g k pre mid post cs T V hx hk hy hV hg hl hi2 h1) (h _ (setCells_but (X := fun k => k = g) rfl _ _ _) (setCells_heap cs pre mid post w hl hg) (setCells_size _ _ _))
theorem wpOp_allocM {P : Program} {ops : Array Oper} {Q : Exit → Act → World → Prop} {i : Nat} {K : Act → World → Prop} {a : Act} {w : World} (o : Oper) (hi : opAt ops.toList i = some o) (hw : Region.wanted o (yielded ops a.tmps) = true)
    (t : TypeId) (ho : o.op = .alloc t) (cs : List Value) (hz : (zeroValue t).run P w = .ok (.agg cs.toArray) w)
    (h : ∀ W : World, Below w.heap.size w W → W.heap[w.heap.size]? = some (.cells cs.toArray t (0, 0)) → W.heap.size = w.heap.size + 1 → K (a.put o.dst (.pointer (some ⟨w.heap.size, 0, none⟩))) W) : wpOp P ops Q i K a w :=
  wpOp_val o hi hw (ex_alloc (cs := cs.toArray) ho hz) (h _ ((Below.refl _ _).alloc (Nat.le_refl _) _) (heap_alloc_new _ _) (by simp))
/-- One result, which lies in a block. -/
theorem results_one {P : Program} {fn : Func} {p : Tmp} {ty : TypeId} (h : fn.results = #[.cell p ty]) (tmps : Array Value) (w : World) {a : Addr} {r : Value} (hp : tmps.getD p undef = .pointer (some a)) (hl : (loadVar ty a).run P w = .ok r w) : (results fn tmps).run P w = .ok r w := by
  have hp' : tmps[p]?.getD undef = .pointer (some a) := by simpa using hp
  simp only [results, h]
  simp [hp', asAddr, hl]
/-- Two. -/
theorem results_two {P : Program} {fn : Func} {p q : Tmp} {ty tz : TypeId} (h : fn.results = #[.cell p ty, .cell q tz]) (tmps : Array Value) (w : World) {a b : Addr} {r s : Value} (hp : tmps.getD p undef = .pointer (some a)) (hq : tmps.getD q undef = .pointer (some b)) (hl : (loadVar ty a).run P w = .ok r w) (hm : (loadVar tz b).run P w = .ok s w) : (results fn tmps).run P w = .ok (.tuple #[r, s]) w := by
  have hp' : tmps[p]?.getD undef = .pointer (some a) := by simpa using hp
  have hq' : tmps[q]?.getD undef = .pointer (some b) := by simpa using hq
  simp only [results, h]
  simp [Result.andThen, hp', hq', asAddr, hl, hm]
end Go.Proofs.YtdgbjhfkmembdaaGreatDoor
