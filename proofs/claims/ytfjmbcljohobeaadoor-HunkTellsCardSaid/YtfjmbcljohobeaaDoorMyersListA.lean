/-
  The rows of lists that the search makes again: how they begin and grow. Conditions: rows of at most 100000 numbers, kept where the search's box says.
-/
import Derived.Test.YtfjmbcljohobeaaDoorMyersRows
import Derived.Test.YtfjmbcljohobeaaDoorHandN
import Derived.WalkSpells
namespace Go.Proofs.YtfjmbcljohobeaaDoor
open Go.RowKit Go.Maps Go.Shelf
set_option linter.unusedVariables false
set_option linter.unusedSimpArgs false

/-- What stands between the calls of list. -/
def BlkAt (a b : List Int) (B M base : Nat) (A A' : Option Addr) (ca cb : Nat) (w0 w : World) : Prop :=
  CostAt a b B M base A A' ca cb (.slice none 0 0) (.int .i64 ((0 : Nat) : Int)) w0 (C a b 0 0 + 1) w ∨ ∃ from' k v3, from' % 64 = 0 ∧ k ≤ 64 ∧ ListAt a b B M base A A' ca cb w0 from' k v3 w
def ListGives (a b : List Int) (B M base : Nat) (A A' : Option Addr) (ca cb : Nat) (w0 w : World) (d : Nat) (e : Ending) (w' : World) : Prop :=
  ∃ g c, e = .returned (.slice (some ⟨g, 0, none⟩) (d + 1) c) ∧ BlkAt a b B M base A A' ca cb w0 w' ∧ Sl w' w'.heap.size (some ⟨g, 0, none⟩) (d + 1) 1 (natV (lst a b d)) ∧ ForKept B w w' ∧ Below base w w'
theorem slsInfo : (Tryd.prog.info? 100).map (fun i => (i.zero, i.size, i.bytes)) = some (some (.slice none 0 0), 1, 24) := by kernel_rfl
theorem zeroSls (w : World) : (zeroValue 100).run Tryd.prog w = .ok (.slice none 0 0) w := by
  obtain ⟨i, h1, h2, _, _⟩ := info_parts slsInfo
  simp [zeroValue, typeInfo, h1, h2]
section
variable {a b : List Int} {B M base ca cb d : Nat} {A A' : Option Addr} {v3 v4 : Value} {w0 w w' : World}
/-- Behind the box's stores: a new row of lists. -/
theorem CostAt.fresh {v : Value} {fr : Nat} (h : CostAt a b B M base A A' ca cb v3 v4 w0 (C a b 0 0 + 1) w) (hbs : base ≤ w.heap.size) (hBb : base ≤ B) (hMb : base ≤ M) (hBM : B ≠ M) (hsa : Sl w0 base A a.length 1 (i32V a)) (hsb : Sl w0 base A' b.length 1 (i32V b)) (hv : LstAt a b w v fr) :
    ListAt a b B M base A A' ca cb w0 fr 1 (.slice (some ⟨w.heap.size, 0, none⟩) 1 1) (((w.setCell ⟨B, 4, none⟩ (.int .i64 (fr : Int))).setCell ⟨B, 3, none⟩ (.slice (some ⟨w.heap.size, 0, none⟩) 1 1)).alloc (.cells #[v] 100)) := by
  have hBz : B < w.heap.size := (Array.getElem?_eq_some_iff.1 h.box).1
  have hbox2 := set_block (j := 3) (set_block (j := 4) h.box (.int .i64 (fr : Int))) (.slice (some ⟨w.heap.size, 0, none⟩) 1 1)
  have hoth : ∀ k, k ≠ B → ((w.setCell ⟨B, 4, none⟩ (.int .i64 (fr : Int))).setCell ⟨B, 3, none⟩ (.slice (some ⟨w.heap.size, 0, none⟩) 1 1)).heap[k]? = w.heap[k]? := fun k hk => (Below.heap_setCell _ _ _ _ hk).trans (Below.heap_setCell _ _ _ _ hk)
  have hbel : Below base w ((w.setCell ⟨B, 4, none⟩ (.int .i64 (fr : Int))).setCell ⟨B, 3, none⟩ (.slice (some ⟨w.heap.size, 0, none⟩) 1 1)) := ((Below.refl _ _).setCell hBb _).setCell hBb _
  have hsz2 : ((w.setCell ⟨B, 4, none⟩ (.int .i64 (fr : Int))).setCell ⟨B, 3, none⟩ (.slice (some ⟨w.heap.size, 0, none⟩) 1 1)).heap.size = w.heap.size := by simp [World.setCell]
  generalize (w.setCell ⟨B, 4, none⟩ (.int .i64 (fr : Int))).setCell ⟨B, 3, none⟩ (.slice (some ⟨w.heap.size, 0, none⟩) 1 1) = w1 at *
  have hX : ∀ k, w.cell? ⟨B, 0, none⟩ ≠ some (.int .i32 k) := fun k e => by rw [cells_box h.box 0] at e; cases e
  have h1 := h.but hMb hBb hBM hX (by omega) hbel (fun k hk hkB => hoth k hkB) hsa hsb (by omega) hbox2
  have hv1 := hv.but hX (by omega) fun k hk hkB => hoth k hkB
  have hal : Below w1.heap.size w1 (w1.alloc (.cells #[v] 100)) := (Below.refl _ _).alloc (Nat.le_refl _) _
  have hnew : (w1.alloc (.cells #[v] 100)).heap[w1.heap.size]? = some (.cells #[v] 100 (0, 0)) := heap_alloc_new _ _
  rw [hsz2] at hnew
  refine ⟨h1.below (by omega) hal, by decide, [v], ⟨by simp, .inr ⟨w.heap.size, 1, #[v], rfl, hbs, hnew, Nat.le_refl _, by decide, by simp, by simp⟩⟩, fun j hj => ?_⟩
  obtain rfl : j = 0 := by omega
  exact ⟨v, rfl, hv1.below hal⟩
theorem row_noI32 {k : Nat} (h : ListAt a b B M base A A' ca cb w0 d k v3 w) : ∃ X c, v3 = .slice (some ⟨X, 0, none⟩) k c ∧ base ≤ X ∧ X ≠ B ∧ X ≠ M ∧ ∀ i, w.cell? ⟨X, 0, none⟩ ≠ some (.int .i32 i) := by
  obtain ⟨vs, ho, hl⟩ := h.row
  have hp := h.pos
  have ho' := ho
  obtain ⟨_, h2⟩ := ho
  rcases h2 with ⟨rfl, h0⟩ | ⟨g, cap, cur, rfl, hg, hh, r⟩
  · omega
  · refine ⟨g, cap, rfl, hg, ?_, ?_, fun i e => ?_⟩
    · rintro rfl
      have hb := h.cost.box
      rw [hh] at hb
      injection hb with hb
      injection hb with _ hb _
      revert hb
      decide
    · rintro rfl
      obtain ⟨nn, mm, _, ⟨D, ⟨es, clock, hbk, _⟩, _⟩, _⟩ := h.cost.map
      rw [hh] at hbk
      cases hbk
    · obtain ⟨v, hv, g2, c2, rfl, _⟩ := hl 0 hp
      have hc := ho'.cellAt 0 (by omega)
      rw [hv] at hc
      rw [hc] at e
      cases e
/-- Behind the append and the box's store: one list more. -/
theorem ListAt.grow {k fr : Nat} {v v3' : Value} {vs : List Value} (h : ListAt a b B M base A A' ca cb w0 fr k v3 w) (hbs : base ≤ w.heap.size) (hBb : base ≤ B) (hMb : base ≤ M) (hBM : B ≠ M) (hsa : Sl w0 base A a.length 1 (i32V a)) (hsb : Sl w0 base A' b.length 1 (i32V b))
    (hl : ∀ j, j < k → ∃ v, vs[j]? = some v ∧ LstAt a b w v (fr + j)) (hlen : vs.length = k) (hv : LstAt a b w v (fr + k)) (ho : w'.ownsRow base 100 1 v3' (k + 1) (vs ++ [v])) (hg : w.grownBy w' v3.ownBlock) (hne : v3'.ownBlock ≠ some B) :
    ListAt a b B M base A A' ca cb w0 fr (k + 1) v3' (w'.setCell ⟨B, 3, none⟩ v3') := by
  obtain ⟨X, c, rfl, hXb, hXB, hXM, hX⟩ := row_noI32 h
  have hk1 : ∀ i, i < w.heap.size → i ≠ X → w'.heap[i]? = w.heap[i]? := fun i hi hiX => hg.block i hi fun e => hiX (by simpa [Value.ownBlock] using e)
  have hbel : Below base w w' := (Below.refl _ _).grown hg hbs (fun i e => by have : i = X := by simpa [Value.ownBlock] using e.symm
                                                                              omega)
  have hBz : B < w.heap.size := (Array.getElem?_eq_some_iff.1 h.cost.box).1
  have hbox1 : w'.heap[B]? = some (.cells #[.slice A a.length ca, .slice A' b.length cb, .map (some M), .slice (some ⟨X, 0, none⟩) k c, .int .i64 (fr : Int)] 142 (0, 0)) := (hk1 B hBz (fun e => hXB e.symm)).trans h.cost.box
  have hc1 := h.cost.but hMb hXb hXM hX hg.size hbel hk1 hsa hsb (Nat.le_trans hbs hg.size) hbox1
  have hX1 : ∀ i, w'.cell? ⟨B, 0, none⟩ ≠ some (.int .i32 i) := fun i e => by rw [cells_box hbox1 0] at e; cases e
  have hsz : (w'.setCell ⟨B, 3, none⟩ v3').heap.size = w'.heap.size := by simp [World.setCell]
  have hoth : ∀ i, i < w'.heap.size → i ≠ B → (w'.setCell ⟨B, 3, none⟩ v3').heap[i]? = w'.heap[i]? := fun i _ hi => Below.heap_setCell _ _ _ _ hi
  have hcost := hc1.but hMb hBb hBM hX1 (by omega) ((Below.refl _ _).setCell hBb _) hoth hsa hsb (by have := hg.size; omega) (set_block (j := 3) hbox1 v3')
  refine ⟨hcost, by omega, vs ++ [v], ownsRow_setCell_other ho hne _, fun j hj => ?_⟩
  have key : ∀ u e, LstAt a b w u e → LstAt a b (w'.setCell ⟨B, 3, none⟩ v3') u e := fun u e hu => (hu.but hX hg.size hk1).but hX1 (by omega) hoth
  rcases (by omega : j < k ∨ j = k) with q | rfl
  · obtain ⟨u, e, hu⟩ := hl j q
    exact ⟨u, by rw [List.getElem?_append_left (by omega)]; exact e, key u _ hu⟩
  · exact ⟨v, by rw [List.getElem?_append_right (by omega), hlen]; simp, key v _ hv⟩
end
end Go.Proofs.YtfjmbcljohobeaaDoor
