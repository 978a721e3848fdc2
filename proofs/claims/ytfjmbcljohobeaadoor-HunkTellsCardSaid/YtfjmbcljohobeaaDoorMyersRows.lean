/-
  The lists that the search has made again: what stands while it goes forward. No conditions but those said.
-/
import Derived.Test.YtfjmbcljohobeaaDoorMerged2
namespace Go.Proofs.YtfjmbcljohobeaaDoor
open Go.RowKit Go.Maps Go.Shelf
set_option linter.unusedVariables false
set_option linter.unusedSimpArgs false

theorem set_block {w : World} {b j : Nat} {cs : Array Value} {t : TypeId} {fz : Nat × Nat} (h : w.heap[b]? = some (.cells cs t fz)) (v : Value) : (w.setCell ⟨b, j, none⟩ v).heap[b]? = some (.cells (cs.setIfInBounds j v) t fz) := by
  have hlt := lt_of_block h
  have h' : w.heap[b] = .cells cs t fz := by simpa [Array.getElem?_eq_getElem hlt] using h
  show (w.heap.modify b _)[b]? = _
  rw [Array.getElem?_eq_getElem (by simpa using hlt), Array.getElem_modify_self, h']
  rfl
/-- A list of the search, as a slice at its block's beginning. -/
def LstAt (a b : List Int) (w : World) (v : Value) (d : Nat) : Prop := ∃ g c, v = .slice (some ⟨g, 0, none⟩) (d + 1) c ∧ Sl w w.heap.size (some ⟨g, 0, none⟩) (d + 1) 1 (natV (lst a b d))
section
variable {a b : List Int} {w w' : World} {v : Value} {d X g : Nat}
theorem LstAt.below (h : LstAt a b w v d) (hb : Below w.heap.size w w') : LstAt a b w' v d := by
  obtain ⟨g, c, e, hs⟩ := h
  exact ⟨g, c, e, (hs.keep hb).more hb.size⟩
/-- No place of the block's beginning holds a list's number: it is none of the lists' blocks. -/
theorem sl_but (h : Sl w w.heap.size (some ⟨g, 0, none⟩) (d + 1) 1 (natV (lst a b d))) (hX : ∀ k, w.cell? ⟨X, 0, none⟩ ≠ some (.int .i32 k)) (hz : w.heap.size ≤ w'.heap.size) (hk : ∀ k, k < w.heap.size → k ≠ X → w'.heap[k]? = w.heap[k]?) :
    Sl w' w'.heap.size (some ⟨g, 0, none⟩) (d + 1) 1 (natV (lst a b d)) := by
  refine ⟨h.1, fun hn => ?_⟩
  obtain ⟨b0, off, e, hb, hc⟩ := h.2 hn
  have hl : 0 < (natV (lst a b d)).length := by have := h.1; omega
  obtain ⟨e1, e2⟩ := addr_eq e
  subst e1 e2
  have hgX : b0 ≠ X := by
    rintro rfl
    have h0 := hc 0 _ (List.getElem?_eq_getElem hl)
    obtain ⟨k, hk⟩ : ∃ k, (natV (lst a b d))[0] = .int .i32 k := by
      have hm := List.getElem_mem hl
      obtain ⟨x, _, hx⟩ := List.mem_map.1 hm
      exact ⟨_, hx.symm⟩
    rw [hk] at h0
    exact hX k h0
  refine ⟨b0, 0, rfl, Nat.lt_of_lt_of_le hb hz, fun j u hj => ?_⟩
  have h1 := hc j u hj
  unfold World.cell? at h1 ⊢
  rw [hk b0 hb hgX]
  exact h1
theorem LstAt.but (h : LstAt a b w v d) (hX : ∀ k, w.cell? ⟨X, 0, none⟩ ≠ some (.int .i32 k)) (hz : w.heap.size ≤ w'.heap.size) (hk : ∀ k, k < w.heap.size → k ≠ X → w'.heap[k]? = w.heap[k]?) : LstAt a b w' v d := by
  obtain ⟨g, c, e, hs⟩ := h
  exact ⟨g, c, e, sl_but hs hX hz hk⟩
end
section
variable {a b : List Int} {B M base d ca cb : Nat} {A A' : Option Addr} {v3 v4 : Value} {w wr w' : World}
/-- One block has changed, none of those that the search reads but its box or the row of its lists. -/
theorem CostAt.but (h : CostAt a b B M base A A' ca cb v3 v4 w d wr) (hMb : base ≤ M) {X : Nat} (hXb : base ≤ X) (hXM : X ≠ M) (hX : ∀ k, wr.cell? ⟨X, 0, none⟩ ≠ some (.int .i32 k)) (hz : wr.heap.size ≤ w'.heap.size) (hbel : Below base wr w')
    (hk : ∀ k, k < wr.heap.size → k ≠ X → w'.heap[k]? = wr.heap[k]?) (hsa : Sl w base A a.length 1 (i32V a)) (hsb : Sl w base A' b.length 1 (i32V b)) (hbs : base ≤ w'.heap.size) {v3' v4' : Value}
    (hbox : w'.heap[B]? = some (.cells #[.slice A a.length ca, .slice A' b.length cb, .map (some M), v3', v4'] 142 (0, 0))) : CostAt a b B M base A A' ca cb v3' v4' w d w' := by
  obtain ⟨nn, mm, h1, h2, h3⟩ := h.map
  refine ⟨h.bel.trans hbel, hbox, ⟨nn, mm, h1, ?_, fun j hj h0 => ?_⟩, (hsa.keep (h.bel.trans hbel)).more hbs, (hsb.keep (h.bel.trans hbel)).more hbs⟩
  · obtain ⟨D, ⟨es, clock, hbk, F, hs, hD⟩, h4⟩ := h2
    exact ⟨D, ⟨es, clock, (hk M (Array.getElem?_eq_some_iff.1 hbk).1 (fun e => hXM e.symm)).trans hbk, F, hs, hD⟩, h4⟩
  · obtain ⟨g, c, e, hs⟩ := h3 j hj h0
    exact ⟨g, c, e, sl_but hs hX hz hk⟩
/-- The lists from the last saved one on. -/
structure ListAt (a b : List Int) (B M base : Nat) (A A' : Option Addr) (ca cb : Nat) (w : World) (from' k : Nat) (v3 : Value) (wr : World) : Prop where
  cost : CostAt a b B M base A A' ca cb v3 (.int .i64 (from' : Int)) w (C a b 0 0 + 1) wr
  pos : 0 < k
  row : ∃ vs, wr.ownsRow base 100 1 v3 k vs ∧ ∀ j, j < k → ∃ v, vs[j]? = some v ∧ LstAt a b wr v (from' + j)
theorem ListAt.below {from' k : Nat} (h : ListAt a b B M base A A' ca cb w from' k v3 wr) (hbs : base ≤ wr.heap.size) (hb : Below wr.heap.size wr w') : ListAt a b B M base A A' ca cb w from' k v3 w' := by
  obtain ⟨vs, h1, h2⟩ := h.row
  exact ⟨h.cost.below hbs hb, h.pos, vs, own_kept h1 hb, fun j hj => by obtain ⟨v, e, hl⟩ := h2 j hj; exact ⟨v, e, hl.below hb⟩⟩
/-- What the search's going forward leaves alone: all but its box and the rows of its lists. -/
def ForKept (B : Nat) (w w' : World) : Prop := w.heap.size ≤ w'.heap.size ∧ ∀ k, k < w.heap.size → k ≠ B → (∀ cur fz, w.heap[k]? ≠ some (.cells cur 100 fz)) → w'.heap[k]? = w.heap[k]?
theorem ForKept.refl (B : Nat) (w : World) : ForKept B w w := ⟨Nat.le_refl _, fun _ _ _ _ => rfl⟩
theorem ForKept.trans {B : Nat} {w1 w2 w3 : World} (h : ForKept B w1 w2) (k : ForKept B w2 w3) : ForKept B w1 w3 :=
  ⟨Nat.le_trans h.1 k.1, fun i hi hB ht => by
    have e := h.2 i hi hB ht
    exact (k.2 i (Nat.lt_of_lt_of_le hi h.1) hB (fun cur fz => by rw [e]; exact ht cur fz)).trans e⟩
theorem ForKept.of_below {B : Nat} {w w' : World} (h : Below w.heap.size w w') : ForKept B w w' := ⟨h.size, fun k hk _ _ => h.block k hk⟩
theorem ForKept.setCell {B : Nat} (w : World) (j : Nat) (v : Value) : ForKept B w (w.setCell ⟨B, j, none⟩ v) := ⟨by simp [World.setCell], fun k hk hB _ => Below.heap_setCell _ _ _ _ hB⟩
theorem ForKept.own {B base k : Nat} {v : Value} {vs : List Value} (h : w.ownsRow base 100 1 v k vs) (hg : w.grownBy w' v.ownBlock) : ForKept B w w' := by
  refine ⟨hg.size, fun i hi hB ht => hg.block i hi fun e => ?_⟩
  rcases h.2 with ⟨rfl, _⟩ | ⟨g, cap, cur, rfl, _, hh, _⟩
  · simp [Value.ownBlock] at e
  · have : g = i := by simpa [Value.ownBlock] using e.symm
    subst this
    exact ht cur (0, 0) hh
/-- A row of other elements stays. -/
theorem ForKept.row {B base n size : Nat} {e : TypeId} {v : Value} {xs : List Value} (h : ForKept B w w') (ho : w.ownsRow base e size v n xs) (he : e ≠ 100) (hB : v.ownBlock ≠ some B) : w'.ownsRow base e size v n xs := by
  obtain ⟨h1, h2⟩ := ho
  refine ⟨h1, ?_⟩
  rcases h2 with h2 | ⟨g, cap, cur, rfl, hg, hh, r⟩
  · exact .inl h2
  · refine .inr ⟨g, cap, cur, rfl, hg, ?_, r⟩
    rw [h.2 g (Array.getElem?_eq_some_iff.1 hh).1 (fun e => hB (by simp [Value.ownBlock, e])) (fun c2 fz q => by
      rw [hh] at q
      injection q with q
      injection q with _ q2 _
      exact he q2)]
    exact hh
end
end Go.Proofs.YtfjmbcljohobeaaDoor
