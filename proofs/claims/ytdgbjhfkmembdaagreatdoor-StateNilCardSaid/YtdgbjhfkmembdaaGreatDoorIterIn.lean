/-
  Iterators over a map whose keys are of several cells: the steps of a fenced walk; what keys have come. Over any program; conditions as each says.
-/
import Derived.Test.YtdgbjhfkmembdaaGreatDoorMapView
import Derived.Test.YtdgbjhfkmembdaaGreatDoorQStep
import Derived.Test.YtdgbjhfkmembdaaGreatDoorBuild
import Derived.RangeFuncNested
import Derived.RangeFuncBound
import Derived.RangeFuncCalls
import Derived.RangeFuncLeaves
import Derived.Shelf.RegionOpen
import Derived.Sort.MapsRangeIn
import Derived.WalkKit
import Derived.OwnWalkIn
import Derived.TacticsInMore
import Derived.RegionIn
import Derived.LoopNIn
import Derived.LoopIn
import Derived.Maps.AppendAt
import Derived.Shelf.Abstract
namespace Go.Proofs.YtdgbjhfkmembdaaGreatDoor
open Go.RowKit Go.Maps
set_option linter.unusedVariables false

section
variable {P : Program} {F : Fence} {n : Nat} {ops : Array Oper} {rest : List Oper} {o : Oper} {a : Act} {w w' : World} {Q : Exit → Act → World → Prop} {v : Value}
theorem wpListIn_val (hg : o.guard = none) (hc : ∀ c, o.op ≠ .call c) (hd : ∀ c, o.op ≠ .defer c) (h : (execOp a.eval o).run P w = .ok (.value v) w') (hk : wpListIn F n P ops Q rest (a.put o.dst v) w') : wpListIn F n P ops Q (o :: rest) a w := by
  refine wpListIn_plain hg fun K hK => ?_
  unfold Oper.wpIn
  refine ⟨fun f hf => ?_, ?_⟩
  · unfold Oper.about at hf
    split at hf
    · exact absurd ‹_› (hc _)
    · cases hf
  · rw [Oper.semAt_plain F _ _ hd, h]
    exact hK _ _ hk
theorem wpListIn_none (hg : o.guard = none) (hc : ∀ c, o.op ≠ .call c) (hd : ∀ c, o.op ≠ .defer c) (h : (execOp a.eval o).run P w = .ok .skip w') (hk : wpListIn F n P ops Q rest (a.put o.dst undef) w') : wpListIn F n P ops Q (o :: rest) a w := by
  refine wpListIn_plain hg fun K hK => ?_
  unfold Oper.wpIn
  refine ⟨fun f hf => ?_, ?_⟩
  · unfold Oper.about at hf
    split at hf
    · exact absurd ‹_› (hc _)
    · cases hf
  · rw [Oper.semAt_plain F _ _ hd, h]
    exact hK _ _ hk
theorem ex_storeRow {ρ : Operand → Value} (ty : TypeId) (x y : Operand) (ho : o.op = .store ty x y) (g : Nat) (cells : Array Value) (hx : ρ x = .pointer (some ⟨g, 0, none⟩)) (hy : ρ y = .agg cells)
    (t : TypeId) (old : Array Value) (hg : w.heap[g]? = some (.cells old t (0, 0))) (hi : (P.info? ty).map (·.size) = some cells.size) (hold : old.size = cells.size) (h1 : cells.all (·.oneCell') = true) :
    (execOp ρ o).run P w = .ok .skip (w.setRow g cells) := by
  unfold execOp
  simp only [ho, hx, hy, Instr.storeAt, Instr.sureAddr, Sem.run_bind, Sem.run_pure, Result.andThen_ok, run_storeVar_row w g t ty old cells hg hi hold h1]
theorem ex_buildSlice1 {ρ : Operand → Value} (t : TypeId) (x : Operand) (ho : o.op = .buildSlice t 1 #[(0, x)])
    (e : TypeId) (ht : P.underlying t = some (.slice e)) (z : Value) (size bytes : Nat) (hinf : (P.info? e).map (fun i => (i.zero, i.size, i.bytes)) = some (some z, size, bytes)) (hz1 : z.cells.size = size) (hsz : 0 < size) (hmax : size ≤ 16777216)
    (us : List Value) (hl : us.length = size) (hx : ρ x = .agg us.toArray) : (execOp ρ o).run P w = .ok (.value (.slice (some ⟨w.heap.size, 0, none⟩) 1 1)) (w.alloc (.cells us.toArray e)) := by
  have hrun := run_buildSliceN w t e ht z size bytes hinf hz1 hsz [.agg us.toArray] (fun v hv => by rw [List.mem_singleton.1 hv]; exact hl) (by simp) (by simpa using hmax)
  simp only [List.flatMap_cons, List.flatMap_nil, List.append_nil] at hrun
  unfold execOp
  have h2 : (Instr.buildSlice t 1 #[(0, .agg us.toArray)]).run P w = .ok (.slice (some ⟨w.heap.size, 0, none⟩) 1 1) (w.alloc (.cells us.toArray e)) := hrun
  simp only [ho, List.map_toArray, List.map_cons, List.map_nil, hx, Sem.run_bind, h2, Result.andThen_ok, Sem.run_pure]
/-- A new block of several cells, stored into at once. -/
theorem grown_box (w : World) (old cells : Array Value) (t : TypeId) : w.grownBy ((w.alloc (.cells old t)).setRow w.heap.size cells) none ∧ ((w.alloc (.cells old t)).setRow w.heap.size cells).heap[w.heap.size]? = some (.cells cells t (0, 0)) ∧ ((w.alloc (.cells old t)).setRow w.heap.size cells).heap.size = w.heap.size + 1 := by
  refine ⟨⟨rfl, rfl, rfl, by simp, fun k hk _ => ?_⟩, setRow_heap _ _ old _ _ _ (heap_alloc_new _ _), by simp⟩
  rw [setRow_other _ _ _ _ (by omega)]
  exact heap_alloc_old _ _ hk
end

/-- Which keys have come: none twice; those that the map has and that are no longer to come. -/
def CollK {κ : Type} {ok : κ → Prop} (kl : κ → Lit) (D : DataW Value) (left : Lit → Bool) (ss : List {k : κ // ok k}) : Prop := ss.Nodup ∧ ∀ x : {k : κ // ok k}, x ∈ ss ↔ (has D (kl x.1) = true ∧ left (kl x.1) = false)
/-- All keys of a map, each once. -/
def KeysIs {κ : Type} {ok : κ → Prop} (m : κ → Option Value) (ss : List {k : κ // ok k}) : Prop := ss.Nodup ∧ ∀ x : {k : κ // ok k}, x ∈ ss ↔ (m x.1).isSome = true
section
variable {P : Program} {K : TypeId} {κ : Type} {ok : κ → Prop} {val : κ → Value} {kl : κ → Lit} {D : DataW Value} {left : Lit → Bool} {ss : List {k : κ // ok k}} {m : κ → Option Value}
theorem CollK.start (D : DataW Value) : CollK (ok := ok) kl D (has D) [] := ⟨List.nodup_nil, fun x => by cases has D (kl x.1) <;> simp⟩
theorem CollK.step (E : KeyEnc P K ok val kl) (h : CollK kl D left ss) {x : {k : κ // ok k}} (hlk : left (kl x.1) = true) (hhas : has D (kl x.1) = true) : CollK kl D (fun z => left z && !z.sameKey (kl x.1)) (ss ++ [x]) := by
  have hlit := E.keyed.key (E.of x.1 x.2)
  have hnew : x ∉ ss := fun hx => by have := ((h.2 x).1 hx).2; rw [hlk] at this; cases this
  refine ⟨List.nodup_append.2 ⟨h.1, by simp, fun a ha b hb => by simp at hb; subst hb; exact fun e => hnew (e ▸ ha)⟩, fun y => ?_⟩
  by_cases hy : y = x
  · subst hy
    simp [hhas, WideAt.sameKey_self hlit]
  · have hne : kl y.1 ≠ kl x.1 := fun e => hy (Subtype.ext (E.klInj y.2 x.2 e))
    simp [h.2 y, hy, sameKey_ne hne]
theorem CollK.done (h : CollK kl D left ss) (hl : ∀ l, left l = false) (hD : ∀ k, ok k → has D (kl k) = (m k).isSome) : KeysIs m ss :=
  ⟨h.1, fun x => by rw [h.2 x, hl, hD x.1 x.2]; simp⟩
end
end Go.Proofs.YtdgbjhfkmembdaaGreatDoor
