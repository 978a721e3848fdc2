/-
  A document's runs one by one: what an insert among them leaves. Conditions: as each says.
-/
import Derived.Test.YtdgbjhfkmembdaaGreatDoorDocMem
namespace Go.Proofs.YtdgbjhfkmembdaaGreatDoor
open Go.RowKit
set_option linter.unusedVariables false

/-- The document in block p, whose runs are these. -/
structure DocRows (w : World) (B p : Nat) (v : Value) (rs : List RunM) : Prop where
  box : ∃ s t : Int, w.heap[p]? = some (.cells [v, .int .i64 s, .int .i64 t].toArray 192 (0, 0))
  low : B ≤ p
  ins : ∀ r ∈ rs, RunIn w r
  own : w.ownsRow B 177 36 v rs.length (rowsV runV rs)
/-- What a slice becomes: in its block, or in a new one. -/
def Newer (w : World) (v v' : Value) : Prop := ∀ j, v'.ownBlock = some j → v.ownBlock = some j ∨ w.heap.size ≤ j
theorem Newer.refl (w : World) (v : Value) : Newer w v v := fun _ h => .inl h
theorem Newer.trans {w w' : World} {v v' v2 : Value} (h : Newer w v v') (k : Newer w' v' v2) (hs : w.heap.size ≤ w'.heap.size) : Newer w v v2 := fun j hj => by
  rcases k j hj with q | q
  · exact h j q
  · exact .inr (Nat.le_trans hs q)
theorem DocX.of {w : World} {p : Nat} {v v' : Value} (h : Newer w v v') {j : Nat} (hj : j < w.heap.size) (hx : DocX p v' j) : DocX p v j := by
  rcases hx with q | q
  · exact .inl q
  · rcases h j q with q | q
    · exact .inr q
    · omega
theorem DocRows.at {w : World} {B p : Nat} {v : Value} {rs : List RunM} (h : DocRows w B p v rs) : DocAt w B p v (rs.map runOf) := ⟨h.box, h.low, rs, rfl, h.ins, h.own⟩
theorem DocAt.runs {w : World} {B p : Nat} {v : Value} {d : List RunD} (h : DocAt w B p v d) : ∃ rs : List RunM, rs.map runOf = d ∧ DocRows w B p v rs := by
  obtain ⟨rs, h1, h2, h3⟩ := h.rows
  exact ⟨rs, h1, h.box, h.low, h2, h3⟩
section
variable {w w' : World} {B p : Nat} {v : Value} {rs : List RunM}
theorem DocRows.lt (h : DocRows w B p v rs) : p < w.heap.size := h.at.lt
theorem DocRows.keep (h : DocRows w B p v rs) (hb : Below w.heap.size w w') : DocRows w' B p v rs := by
  obtain ⟨s, t, h0⟩ := h.box
  exact ⟨⟨s, t, (hb.block p h.lt).trans h0⟩, h.low, fun r hr => (h.ins r hr).keep (KeepR.below hb), (But.of_below (X := NoB) hb).own h.own fun _ _ q => q⟩
/-- A run's cells. -/
theorem DocRows.row (h : DocRows w B p v rs) {i : Nat} (hi : i < rs.length) : ∃ g c, v = .slice (some ⟨g, 0, none⟩) rs.length c ∧ w.rangeAt g (i * 36) (runV rs[i]) ∧ g < w.heap.size ∧ B ≤ g := by
  obtain ⟨g, c, tail, hv, hB, hg, _⟩ := own_open h.own (by omega)
  refine ⟨g, c, hv, fun j u hj => ?_, qX hg, hB⟩
  have hr := rowsV_get (runV_len h.ins) i hi j u hj
  rw [cells_at0 hg, List.getElem?_append_left (List.getElem?_eq_some_iff.1 hr).1]
  exact hr
/-- One run instead of another. -/
theorem rows_set {sz : Nat} {α : Type} {enc : α → List Value} {l : List α} (ho : ∀ x ∈ l, (enc x).length = sz) {i : Nat} (hi : i < l.length) {r : α} :
    rowsV enc l = rowsV enc (l.take i) ++ (enc l[i] ++ rowsV enc (l.drop (i + 1))) ∧ rowsV enc (l.take i ++ r :: l.drop (i + 1)) = rowsV enc (l.take i) ++ (enc r ++ rowsV enc (l.drop (i + 1))) := by
  refine ⟨?_, by simp [rowsV]⟩
  have : l = l.take i ++ l[i] :: l.drop (i + 1) := by rw [← List.drop_eq_getElem_cons hi, List.take_append_drop]
  have e : rowsV enc l = rowsV enc (l.take i ++ l[i] :: l.drop (i + 1)) := congrArg (rowsV enc) this
  rw [e]
  simp only [rowsV, List.flatMap_append, List.flatMap_cons]
end
section
variable {w : World}
/-- The block of a row, or none. -/
theorem own_tagged {base n sz : Nat} {e : TypeId} {v : Value} {xs : List Value} (h : w.ownsRow base e sz v n xs) {k : Nat} (hk : v.ownBlock = some k) : ∃ cur, w.heap[k]? = some (.cells cur e (0, 0)) := by
  rcases h.2 with ⟨rfl, _⟩ | ⟨g, cap, cur, rfl, hg, hh, r⟩
  · cases hk
  · have : g = k := by simpa [Value.ownBlock] using hk
    subst this
    exact ⟨cur, hh⟩
/-- A block of cells of another kind is not the one. -/
theorem ne_tag {a b : Nat} {ca cb : Array Value} {ta tb : TypeId} {fa fb : Nat × Nat} (ha : w.heap[a]? = some (.cells ca ta fa)) (hb : w.heap[b]? = some (.cells cb tb fb)) (hne : ta ≠ tb) : a ≠ b := by
  rintro rfl
  rw [ha] at hb
  injection hb with hb
  injection hb with _ hb
  exact hne hb
theorem ne_map {a b : Nat} {ca : Array Value} {ta : TypeId} {fa : Nat × Nat} (ha : w.heap[a]? = some (.cells ca ta fa)) (hb : ∃ x y, w.heap[b]? = some (.map x y)) : a ≠ b := by
  rintro rfl
  obtain ⟨x, y, hb⟩ := hb
  rw [ha] at hb
  cases hb
end
theorem putR_map (rs : List RunM) (i : Nat) (r : RunM) : (rs.take i ++ r :: rs.drop i).map runOf = putR (rs.map runOf) i (runOf r) := by
  simp [putR, List.map_take, List.map_drop]
end Go.Proofs.YtdgbjhfkmembdaaGreatDoor
