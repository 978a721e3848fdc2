/-
  Which blocks are a state's own, and what their turning leaves. Conditions: as each says.
-/
import Derived.Test.YtdgbjhfkmembdaaGreatDoorStateMem
namespace Go.Proofs.YtdgbjhfkmembdaaGreatDoor
open Go.RowKit
set_option linter.unusedVariables false

/-- The blocks of a state: itself, its maps, its claims, its documents. -/
def StX (s : Nat) (S : StateD) (q : StateL) (j : Nat) : Prop := j = s ∨ j = q.bd ∨ j = q.bc ∨ q.vc.ownBlock = some j ∨ ∃ k, (docAt S k).isSome = true ∧ DocX (q.ptr k) (q.row k) j
/-- What a turning may come to: its own blocks, or new ones. -/
def NewerX (w : World) (s : Nat) (S S' : StateD) (q q' : StateL) : Prop := ∀ j, StX s S' q' j → StX s S q j ∨ w.heap.size ≤ j
theorem NewerX.refl (w : World) (s : Nat) (S : StateD) (q : StateL) : NewerX w s S S q q := fun _ h => .inl h
theorem NewerX.trans {w w' : World} {s : Nat} {S S' S2 : StateD} {q q' q2 : StateL} (h : NewerX w s S S' q q') (k : NewerX w' s S' S2 q' q2) (hs : w.heap.size ≤ w'.heap.size) : NewerX w s S S2 q q2 := fun j hj => by
  rcases k j hj with g | g
  · exact h j g
  · exact .inr (Nat.le_trans hs g)
def stTag (t : TypeId) : Bool := t == 87 || t == 135 || t == 192 || t == 177
section
variable {w w' : World} {B s : Nat} {S : StateD} {q : StateL}
theorem StateAt.tag (h : StateAt w B s S q) {j : Nat} (hj : StX s S q j) : (∃ cur t, stTag t = true ∧ w.heap[j]? = some (.cells cur t (0, 0))) ∨ ∃ x y, w.heap[j]? = some (.map x y) := by
  rcases hj with rfl | rfl | rfl | hj | ⟨k, hk, hj⟩
  · exact .inl ⟨_, _, by decide, h.box⟩
  · exact .inr h.mapD_obj
  · exact .inr h.mapC_obj
  · obtain ⟨c, hc⟩ := own_tagged h.claims hj
    exact .inl ⟨c, _, by decide, hc⟩
  · obtain ⟨d, hd⟩ := Option.isSome_iff_exists.1 hk
    obtain ⟨c, t, ht, hc⟩ := (h.docs k d hd).2.tagged hj
    exact .inl ⟨c, t, by rcases ht with rfl | rfl <;> decide, hc⟩
/-- Cells of another kind are not the state's. -/
theorem StateAt.notX (h : StateAt w B s S q) {k : Nat} {cur : Array Value} {t : TypeId} {fr : Nat × Nat} (hc : w.heap[k]? = some (.cells cur t fr)) (ht : stTag t = false) : ¬ StX s S q k := fun hx => by
  rcases h.tag hx with ⟨c, t2, h2, h3⟩ | ⟨x, y, h3⟩
  · rw [hc] at h3
    injection h3 with h3
    injection h3 with _ h3
    subst h3
    rw [ht] at h2
    cases h2
  · rw [hc] at h3
    cases h3
theorem StateAt.keepCells (h : StateAt w B s S q) (hb : But (StX s S q) w w') {k : Nat} {cur : Array Value} {t : TypeId} {fr : Nat × Nat} (hc : w.heap[k]? = some (.cells cur t fr)) (ht : stTag t = false) : w'.heap[k]? = some (.cells cur t fr) :=
  (hb.block k (qX hc) (h.notX hc ht)).trans hc
theorem StateAt.keepR (h : StateAt w B s S q) (hb : But (StX s S q) w w') : KeepR w w' := KeepR.but hb fun k hk cur t fr ht hc => h.notX hc (by
  unfold immB at ht
  unfold stTag
  simp only [Bool.or_eq_true, beq_iff_eq] at ht
  rcases ht with ((rfl | rfl) | rfl) | rfl <;> decide) hk
theorem StateAt.own (h : StateAt w B s S q) (hb : But (StX s S q) w w') {base n sz : Nat} {e : TypeId} {v : Value} {xs : List Value} (ho : w.ownsRow base e sz v n xs) (he : stTag e = false) : w'.ownsRow base e sz v n xs := hb.own ho fun g hg hx => by
  obtain ⟨c, hc⟩ := own_tagged ho hg
  exact h.notX hc he hx
theorem StateAt.lowX (h : StateAt w B s S q) {j : Nat} (hj : StX s S q j) : B ≤ j ∧ j < w.heap.size := by
  refine ⟨?_, ?_⟩
  · rcases hj with rfl | rfl | rfl | hj | ⟨k, hk, hj⟩
    · exact h.low.1
    · exact h.low.2.1
    · exact h.low.2.2
    · exact (h.claims.lt j hj).1
    · obtain ⟨d, hd⟩ := Option.isSome_iff_exists.1 hk
      exact (h.docs k d hd).2.low' j hj
  · rcases h.tag hj with ⟨c, t, _, hc⟩ | ⟨x, y, hc⟩ <;> exact qX hc
/-- What is one's own below a bound stays under what turns nothing below it. -/
theorem StateAt.under (h : StateAt w B s S q) {n : Nat} (hb : Below n w w') (hn : w.heap.size ≤ n) : StateAt w' B s S q := h.keep (hb.mono hn)
end
end Go.Proofs.YtdgbjhfkmembdaaGreatDoor
