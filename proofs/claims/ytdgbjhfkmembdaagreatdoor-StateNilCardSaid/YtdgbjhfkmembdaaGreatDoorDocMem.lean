/-
  A document's runs as they lie in memory, and what leaves them as they are. Conditions: as each says.
-/
import Derived.Test.YtdgbjhfkmembdaaGreatDoorBlockSpec
import Derived.Test.YtdgbjhfkmembdaaGreatDoorKeyCells
import Derived.Test.YtdgbjhfkmembdaaGreatDoorCopyN
import Derived.Test.YtdgbjhfkmembdaaGreatDoorBut
import Derived.Test.YtdgbjhfkmembdaaGreatDoorRunes
namespace Go.Proofs.YtdgbjhfkmembdaaGreatDoor
open Go.RowKit
set_option linter.unusedVariables false

/-- A run: its key, its runes' slice, its runes, whether it is dead. -/
abbrev RunM := KeyD × Value × List Nat × Bool
def runV (r : RunM) : List Value := keyV r.1 ++ ([r.2.1] ++ [.bool r.2.2.2])
def runOf (r : RunM) : RunD := (r.1, r.2.2.1, r.2.2.2)
/-- Runes that lie in a block of their kind. -/
def RuneAt (w : World) (v : Value) (l : List Nat) : Prop := ∃ g off cap cur fr, v = .slice (some ⟨g, off, none⟩) l.length cap ∧ l.length ≤ cap ∧ cap ≤ maxLen ∧ w.heap[g]? = some (.cells cur 21 fr) ∧ ∀ j u, (i32s l)[j]? = some u → cur[off + j]? = some u
def RunIn (w : World) (r : RunM) : Prop := KeyOk r.1 ∧ RuneAt w r.2.1 r.2.2.1 ∧ r.2.2.1 ≠ []
/-- The document in block p, whose runs' slice is v. -/
structure DocAt (w : World) (B p : Nat) (v : Value) (d : List RunD) : Prop where
  box : ∃ s t : Int, w.heap[p]? = some (.cells [v, .int .i64 s, .int .i64 t].toArray 192 (0, 0))
  low : B ≤ p
  rows : ∃ rs : List RunM, rs.map runOf = d ∧ (∀ r ∈ rs, RunIn w r) ∧ w.ownsRow B 177 36 v rs.length (rowsV runV rs)
/-- What a document's turning may turn: its block, its runs' block. -/
def DocX (p : Nat) (v : Value) (k : Nat) : Prop := k = p ∨ v.ownBlock = some k
/-- What is written once: runes, ids, operations, what is made. -/
def immB (t : TypeId) : Bool := t == 21 || t == 41 || t == 112 || t == 199
/-- Such blocks stay. -/
def KeepR (w w' : World) : Prop := ∀ (k : Nat) (cur : Array Value) (t : TypeId) (fr : Nat × Nat), immB t = true → w.heap[k]? = some (.cells cur t fr) → w'.heap[k]? = w.heap[k]?

theorem runV_length {w : World} {r : RunM} (h : RunIn w r) : (runV r).length = 36 := by
  simp [runV, keyV_length h.1]
theorem runV_len {w : World} {rs : List RunM} (h : ∀ r ∈ rs, RunIn w r) : ∀ r ∈ rs, (runV r).length = 36 := fun r hr => runV_length (h r hr)
theorem runV_one (r : RunM) (h : r.2.1.oneCell' = true) : ∀ u ∈ runV r, u.oneCell' = true := by
  intro u hu
  simp only [runV, List.mem_append, List.mem_singleton] at hu
  rcases hu with hu | rfl | rfl
  · exact keyV_one _ u hu
  · exact h
  · rfl
section
variable {w w' w2 : World} {B p : Nat} {v : Value} {d : List RunD} {l : List Nat} {r : RunM}
theorem RuneAt.keep (h : RuneAt w v l) (hk : KeepR w w') : RuneAt w' v l := by
  obtain ⟨g, off, cap, cur, fr, h1, h2, h3, h4, h5⟩ := h
  exact ⟨g, off, cap, cur, fr, h1, h2, h3, (hk g cur _ fr (by decide) h4).trans h4, h5⟩
theorem RunIn.keep (h : RunIn w r) (hk : KeepR w w') : RunIn w' r := ⟨h.1, h.2.1.keep hk, h.2.2⟩
theorem KeepR.trans (h : KeepR w w') (k : KeepR w' w2) : KeepR w w2 := fun g cur t fr ht hg => (k g cur t fr ht ((h g cur t fr ht hg).trans hg)).trans (h g cur t fr ht hg)
theorem KeepR.below (h : Below w.heap.size w w') : KeepR w w' := fun g cur t fr ht hg => h.block g (qX hg)
theorem KeepR.but {X : Nat → Prop} (h : But X w w') (hx : ∀ k, X k → ∀ cur t fr, immB t = true → w.heap[k]? ≠ some (.cells cur t fr)) : KeepR w w' := fun g cur t fr ht hg => h.block g (qX hg) fun hX => hx g hX cur t fr ht hg
theorem RuneAt.one (h : RuneAt w v l) : v.oneCell' = true := by
  obtain ⟨g, off, cap, cur, fr, rfl, _⟩ := h; rfl
/-- The first runes, the others. -/
theorem RuneAt.take {g off cap : Nat} (h : RuneAt w (.slice (some ⟨g, off, none⟩) l.length cap) l) {n : Nat} (hn : n ≤ l.length) : RuneAt w (.slice (some ⟨g, off, none⟩) n n) (l.take n) := by
  obtain ⟨g', off', cap', cur, fr, h1, h2, h3, h4, h5⟩ := h
  injection h1 with e1 _ e2
  injection e1 with e1
  injection e1 with e3 e4
  subst e2 e3 e4
  refine ⟨g, off, n, cur, fr, by rw [List.length_take, Nat.min_eq_left hn], by rw [List.length_take]; omega, by omega, h4, fun j u hj => h5 j u ?_⟩
  unfold i32s at hj ⊢
  rw [List.map_take, List.getElem?_take] at hj
  split at hj
  · exact hj
  · cases hj
theorem RuneAt.drop {g off cap : Nat} (h : RuneAt w (.slice (some ⟨g, off, none⟩) l.length cap) l) {n : Nat} (hn : n ≤ l.length) : RuneAt w (.slice (some ⟨g, off + n, none⟩) (l.length - n) (cap - n)) (l.drop n) := by
  obtain ⟨g', off', cap', cur, fr, h1, h2, h3, h4, h5⟩ := h
  injection h1 with e1 _ e2
  injection e1 with e1
  injection e1 with e3 e4
  subst e2 e3 e4
  refine ⟨g, off + n, cap - n, cur, fr, by rw [List.length_drop], by rw [List.length_drop]; omega, by omega, h4, fun j u hj => ?_⟩
  unfold i32s at hj h5
  rw [List.map_drop, List.getElem?_drop] at hj
  rw [Nat.add_assoc]
  exact h5 _ _ hj
theorem DocAt.lt (h : DocAt w B p v d) : p < w.heap.size := by obtain ⟨s, t, hb⟩ := h.box; exact qX hb
/-- A document's blocks are no runes. -/
theorem DocAt.noRunes (h : DocAt w B p v d) : ∀ k, DocX p v k → ∀ cur t fr, immB t = true → w.heap[k]? ≠ some (.cells cur t fr) := by
  intro k hk cur ty fr hty hc
  rcases hk with rfl | hk
  · obtain ⟨s, t, hb⟩ := h.box
    rw [hb] at hc
    injection hc with hc
    injection hc with _ hc
    subst hc
    exact absurd hty (by decide)
  · obtain ⟨rs, _, _, ho⟩ := h.rows
    rcases ho.2 with ⟨rfl, _⟩ | ⟨g, cap, c2, rfl, _, hg, _⟩
    · cases hk
    · have : g = k := by simpa [Value.ownBlock] using hk
      subst this
      rw [hg] at hc
      injection hc with hc
      injection hc with _ hc
      subst hc
      exact absurd hty (by decide)
theorem DocAt.low' (h : DocAt w B p v d) : ∀ k, DocX p v k → B ≤ k := by
  rintro k (rfl | hk)
  · exact h.low
  · obtain ⟨rs, _, _, ho⟩ := h.rows
    exact (ho.lt k hk).1
/-- It stays where its own blocks, and all runes, stay. -/
theorem DocAt.but {X : Nat → Prop} (h : DocAt w B p v d) (hb : But X w w') (hx : ∀ k, DocX p v k → ¬ X k) (hr : KeepR w w') : DocAt w' B p v d := by
  obtain ⟨rs, h1, h2, h3⟩ := h.rows
  obtain ⟨s, t, h0⟩ := h.box
  exact ⟨⟨s, t, (hb.block p h.lt (hx p (.inl rfl))).trans h0⟩, h.low, rs, h1, fun r hr2 => (h2 r hr2).keep hr, hb.own h3 fun g hg => hx g (.inr hg)⟩
theorem DocAt.keep (h : DocAt w B p v d) (hb : Below w.heap.size w w') : DocAt w' B p v d := h.but (X := NoB) (But.of_below hb) (fun _ _ q => q) (KeepR.below hb)
end
end Go.Proofs.YtdgbjhfkmembdaaGreatDoor
