/-
  What hunk's near gives: which moves belong to hunks. Conditions: at most 100000 moves.
  What myers.Moves gives: the script of least cost. Conditions: rows of at most 4096 numbers.
  A map that the call made, with how many entries it has. Over any program; conditions as each says.
  What hunk's numbers gives: the same lines the same numbers. Conditions: at most 100000 lines; a map that the caller made.
  What hunk's numbers gives: the same lines the same numbers. Conditions: at most 100000 lines; a map that the caller made.
-/
import Derived.Test.YtmlhijlcefogmaaGreatDoorMyersNext
import Derived.Test.YtmlhijlcefogmaaGreatDoorMyersList
import Derived.Test.YtmlhijlcefogmaaGreatDoorMerged7
import Derived.Test.YtmlhijlcefogmaaGreatDoorMerged2
import Derived.Test.YtmlhijlcefogmaaGreatDoorMerged10
set_option linter.unusedVariables false
set_option linter.unusedSimpArgs false
namespace Go.Proofs.YtmlhijlcefogmaaGreatDoor
open Go.RowKit Go.Maps Go.Shelf

def u8V (l : List Nat) : List Value := l.map fun x : Nat => .int .u8 (x : Int)
end Go.Proofs.YtmlhijlcefogmaaGreatDoor
namespace Go.Proofs.YtmlhijlcefogmaaGreatDoor
open Go.RowKit Go.Maps Go.Shelf

section
variable {a b : List Int} {B M base ca cb n : Nat} {A A' : Option Addr} {v : Value} {w0 w w' : World} {l : List Nat}
theorem BlkAt.box (h : BlkAt a b B M base A A' ca cb w0 w) : ∃ v3 v4, w.heap[B]? = some (.cells #[.slice A a.length ca, .slice A' b.length cb, .map (some M), v3, v4] 176 (0, 0)) := by
  rcases h with h | ⟨_, _, _, _, _, h⟩
  · exact ⟨_, _, h.box⟩
  · exact ⟨_, _, h.cost.box⟩
theorem BlkAt.rows (h : BlkAt a b B M base A A' ca cb w0 w) : Sl w w.heap.size A a.length 1 (i32V a) ∧ Sl w w.heap.size A' b.length 1 (i32V b) := by
  rcases h with h | ⟨_, _, _, _, _, h⟩
  · exact ⟨h.ra, h.rb⟩
  · exact ⟨h.cost.ra, h.cost.rb⟩
theorem BlkAt.below (h : BlkAt a b B M base A A' ca cb w0 w) (hbs : base ≤ w.heap.size) (hb : Below w.heap.size w w') : BlkAt a b B M base A A' ca cb w0 w' := by
  rcases h with h | ⟨fr, k, v3, h1, h2, h⟩
  · exact .inl (h.below hbs hb)
  · exact .inr ⟨fr, k, v3, h1, h2, h.below hbs hb⟩
theorem own_ne_box (h : BlkAt a b B M base A A' ca cb w0 w) {e : TypeId} (he : e ≠ 176) {bs sz : Nat} {xs : List Value} (ho : w.ownsRow bs e sz v n xs) : v.ownBlock ≠ some B := by
  obtain ⟨v3, v4, hb⟩ := h.box
  rcases ho.2 with ⟨rfl, _⟩ | ⟨g, cap, cur, rfl, _, hh, _⟩
  · simp [Value.ownBlock]
  · intro q
    have : g = B := by simpa [Value.ownBlock] using q
    subst this
    rw [hb] at hh
    injection hh with hh
    injection hh with _ q2 _
    exact he q2.symm
/-- The moves' row grows: the search's rows stand. -/
theorem BlkAt.app (h : BlkAt a b B M base A A' ca cb w0 w) (hMb : base ≤ M) (hsa : Sl w0 base A a.length 1 (i32V a)) (hsb : Sl w0 base A' b.length 1 (i32V b)) (ho : w.ownsRow base 5 1 v l.length (u8V l)) (h0 : l = [] → v = .slice none 0 0) (hbs : base ≤ w.heap.size)
    (hbel : Below base w w') (hk : ∀ k, k < w.heap.size → v.ownBlock ≠ some k → w'.heap[k]? = w.heap[k]?) : BlkAt a b B M base A A' ca cb w0 w' := by
  have hneB := own_ne_box h (e := 5) (by decide) ho
  rcases ho.2 with ⟨rfl, _⟩ | ⟨X, cap, cur, hv, hXb, hh, _⟩
  · exact h.below hbs ⟨hbel.os, hbel.tape, hbel.output, hbel.size, fun k hk' => hk k hk' (by simp [Value.ownBlock])⟩
  · have hl : 0 < l.length := by
      rcases Nat.eq_zero_or_pos l.length with q | q
      · rw [h0 (List.length_eq_zero_iff.1 q)] at hv; cases hv
      · exact q
    subst hv
    have hX : ∀ i, w.cell? ⟨X, 0, none⟩ ≠ some (.int .i32 i) := fun i e => by
      have hc := ho.cellAt 0 (by omega)
      have hu : (u8V l)[0]? = some (.int .u8 ((l[0] : Nat) : Int)) := by simp [u8V, hl]
      rw [hu] at hc
      rw [hc] at e
      cases e
    have hk1 : ∀ k, k < w.heap.size → k ≠ X → w'.heap[k]? = w.heap[k]? := fun k hk' hkX => hk k hk' (by simp only [Value.ownBlock]; intro q; injection q with q; exact hkX q.symm)
    have hXB : X ≠ B := fun e => hneB (by rw [e]; rfl)
    have hwb : base ≤ w'.heap.size := Nat.le_trans hbs hbel.size
    have cost : ∀ v3 v4, CostAt a b B M base A A' ca cb v3 v4 w0 (C a b 0 0 + 1) w → CostAt a b B M base A A' ca cb v3 v4 w0 (C a b 0 0 + 1) w' := fun v3 v4 hc => by
      have hXM : X ≠ M := by
        rintro rfl
        obtain ⟨nn, mm, _, ⟨D, ⟨es, clock, hbk, _⟩, _⟩, _⟩ := hc.map
        rw [hh] at hbk
        cases hbk
      exact hc.but hMb hXb hXM hX hbel.size hbel hk1 hsa hsb hwb ((hk1 B (Array.getElem?_eq_some_iff.1 hc.box).1 (fun e => hXB e.symm)).trans hc.box)
    rcases h with h | ⟨fr, k, v3, h1, h2, h⟩
    · exact .inl (cost _ _ h)
    · obtain ⟨vs, hr, hls⟩ := h.row
      refine .inr ⟨fr, k, v3, h1, h2, cost _ _ h.cost, h.pos, vs, ⟨hr.1, ?_⟩, fun j hj => ?_⟩
      · rcases hr.2 with r | ⟨g, cap2, cur2, rfl, r1, r2, r3⟩
        · exact .inl r
        · refine .inr ⟨g, cap2, cur2, rfl, r1, ?_, r3⟩
          rw [hk1 g (Array.getElem?_eq_some_iff.1 r2).1 (by
            rintro rfl
            rw [hh] at r2
            injection r2 with r2
            injection r2 with _ r2 _
            revert r2
            decide)]
          exact r2
      · obtain ⟨u, hu, hl2⟩ := hls j hj
        exact ⟨u, hu, hl2.but hX hbel.size hk1⟩
end
theorem u8Info : (Tryz.prog.info? 5).map (fun i => (i.zero, i.size, i.bytes)) = some (some (.int .u8 0), 1, 1) := by kernel_rfl
theorem u8V_snoc (l : List Nat) (m : Nat) : u8V (l ++ [m]) = u8V l ++ [.int .u8 (m : Int)] := by simp [u8V]
def MovesGive (a b : List Int) (w : World) (e : Ending) (w' : World) : Prop :=
  Below w.heap.size w w' ∧ ∃ A2 c2, e = .returned (.tuple #[.slice A2 (movesS a b).length c2, .int .i64 0]) ∧ Sl w' w'.heap.size A2 (movesS a b).length 1 (u8V (movesS a b))
/-- How far the script has come. -/
def Gone (a b : List Int) (l : List Nat) (i j : Nat) : Prop := l ++ mv a b i j = movesS a b ∧ ∃ s, s + C a b i j = C a b 0 0 ∧ (i : Int) - j ≤ s ∧ (j : Int) - i ≤ s
theorem gone_start (a b : List Int) : Gone a b [] 0 0 := ⟨by simp [mv], 0, by simp, by simp, by simp⟩
section
variable {a b : List Int} {l : List Nat} {i j : Nat}
theorem gone_keep (h : Gone a b l i j) (hi : i < a.length) (hj : j < b.length) (he : a[i] = b[j]) : Gone a b (l ++ [1]) (i + 1) (j + 1) ∧ C a b (i + 1) (j + 1) = C a b i j := by
  obtain ⟨h1, s, h2, h3, h4⟩ := h
  obtain ⟨e1, e2⟩ := mv_keep hi hj he
  exact ⟨⟨by rw [List.append_assoc, List.singleton_append, ← e1]; exact h1, s, by omega, by omega, by omega⟩, e2.symm⟩
theorem gone_drop (h : Gone a b l i j) (hi : i < a.length) (hj : j ≤ b.length) (hne : a[i]? ≠ b[j]?) (hc : j = b.length ∨ C a b (i + 1) j ≤ C a b i (j + 1)) : Gone a b (l ++ [2]) (i + 1) j ∧ C a b (i + 1) j + 1 = C a b i j := by
  obtain ⟨h1, s, h2, h3, h4⟩ := h
  obtain ⟨e1, e2⟩ := mv_drop hi hj hne hc
  exact ⟨⟨by rw [List.append_assoc, List.singleton_append, ← e1]; exact h1, s + 1, by omega, by omega, by omega⟩, by omega⟩
theorem gone_add (h : Gone a b l i j) (hi : i ≤ a.length) (hj : j < b.length) (hne : a[i]? ≠ b[j]?) (hc : i = a.length ∨ ¬ C a b (i + 1) j ≤ C a b i (j + 1)) : Gone a b (l ++ [3]) i (j + 1) ∧ C a b i (j + 1) + 1 = C a b i j := by
  obtain ⟨h1, s, h2, h3, h4⟩ := h
  obtain ⟨e1, e2⟩ := mv_add hi hj hne hc
  exact ⟨⟨by rw [List.append_assoc, List.singleton_append, ← e1]; exact h1, s + 1, by omega, by omega, by omega⟩, by omega⟩
theorem gone_test (h : Gone a b l i j) (hn : a.length < never) (hi : i < a.length) (hj : j ≤ b.length) (hne : a[i]? ≠ b[j]?) :
    leastS a b (C a b i j - 1) (lst a b (C a b i j - 1)) ((i : Int) + 1 - j) ≤ i + 1 ↔ (j = b.length ∨ C a b (i + 1) j ≤ C a b i (j + 1)) := by
  obtain ⟨_, s, h2, h3, h4⟩ := h
  exact least_test hn s hi hj hne h2 h3 h4
end
end Go.Proofs.YtmlhijlcefogmaaGreatDoor
namespace Go.Proofs.YtmlhijlcefogmaaGreatDoor
open Go.RowKit Go.Maps

/-- Block b is a map of c entries that holds just what m says. -/
def MapC (w : World) (P : Program) (K : TypeId) {κ : Type} (ok : κ → Prop) (kl : κ → Lit) (b c : Nat) (m : κ → Option Value) : Prop :=
  ∃ D : DataW Value, w.ownsMap P K Rv b c D ∧ MapK ok kl D ∧ (∀ k, ok k → has D (kl k) = (m k).isSome) ∧ (∀ k v, ok k → m k = some v → ∀ z, D.atKey (kl k) z = .held v) ∧ Tidy D ∧ Maps.size D = c
section
variable {P : Program} {K : TypeId} {κ : Type} {ok : κ → Prop} {val : κ → Value} {kl : κ → Lit} {w : World} {b c : Nat} {m : κ → Option Value}
theorem MapC.made (w : World) (P : Program) (K : TypeId) (ok : κ → Prop) (kl : κ → Lit) : MapC (w.alloc (.map #[] 0)) P K ok kl w.heap.size 0 (fun _ => none) :=
  ⟨.map [], World.ownsMap_made w P K Rv, ⟨isMap_empty, fun l h => by cases h⟩, fun _ _ => rfl, (fun _ _ _ h => by cases h), tidy_empty, rfl⟩
theorem MapC.view (h : MapC w P K ok kl b c m) : MapV w P K ok kl b c m := by
  obtain ⟨D, h1, h2, h3, h4, _⟩ := h
  exact ⟨D, h1, h2, h3, h4⟩
theorem MapC.below {w' : World} (h : MapC w P K ok kl b c m) (hb : Below w.heap.size w w') : MapC w' P K ok kl b c m := by
  have hlt := h.view.lt
  obtain ⟨D, ⟨es, clock, hbk, F, hs, hD⟩, h2⟩ := h
  exact ⟨D, ⟨es, clock, (hb.block b hlt).trans hbk, F, hs, hD⟩, h2⟩
theorem MapC.kept {w' : World} {row : Option Nat} (h : MapC w P K ok kl b c m) (hg : w.grownBy w' row) (hne : some b ≠ row) : MapC w' P K ok kl b c m := by
  obtain ⟨D, h1, h2⟩ := h
  exact ⟨D, h1.kept hg hne, h2⟩
end
end Go.Proofs.YtmlhijlcefogmaaGreatDoor
namespace Go.Proofs.YtmlhijlcefogmaaGreatDoor
open Go.RowKit Go.Maps Go.Shelf

end Go.Proofs.YtmlhijlcefogmaaGreatDoor
namespace Go.Proofs.YtmlhijlcefogmaaGreatDoor
open Go.RowKit Go.Maps Go.Shelf

/-- All that lay stays, but one block. -/
def ButAt (M : Nat) (w w' : World) : Prop := w.heap.size ≤ w'.heap.size ∧ ∀ k, k < w.heap.size → k ≠ M → w'.heap[k]? = w.heap[k]?
theorem Sl.but {w w' : World} {A : Option Addr} {n M : Nat} {xs : List Value} (h : Sl w w.heap.size A n 1 xs) (hM : ∃ es c, w.heap[M]? = some (.map es c)) (hb : ButAt M w w') : Sl w' w.heap.size A n 1 xs := by
  refine ⟨h.1, fun hn => ?_⟩
  obtain ⟨b, off, e, hbl, hc⟩ := h.2 hn
  have hx : 0 < xs.length := by have := h.1; omega
  have hbM : b ≠ M := by
    rintro rfl
    obtain ⟨es, c, hm⟩ := hM
    have h0 := hc 0 xs[0] (by simp [hx])
    simp [World.cell?, hm] at h0
  refine ⟨b, off, e, hbl, fun j u hj => ?_⟩
  have h1 := hc j u hj
  unfold World.cell? at h1 ⊢
  rw [hb.2 b hbl hbM]
  exact h1
theorem MapC.block {w : World} {P : Program} {K : TypeId} {κ : Type} {ok : κ → Prop} {kl : κ → Lit} {b c : Nat} {m : κ → Option Value} (h : MapC w P K ok kl b c m) : ∃ es c, w.heap[b]? = some (.map es c) := by
  obtain ⟨D, ⟨es, clock, hbk, _⟩, _⟩ := h
  exact ⟨es, clock, hbk⟩
theorem own_shape23 {w : World} {base n size : Nat} {e : TypeId} {v : Value} {xs : List Value} (h : w.ownsRow base e size v n xs) : ∃ A c, v = .slice A n c := by
  rcases h.2 with ⟨rfl, rfl⟩ | ⟨g, cap, cur, rfl, _⟩
  · exact ⟨_, _, rfl⟩
  · exact ⟨_, _, rfl⟩
end Go.Proofs.YtmlhijlcefogmaaGreatDoor
