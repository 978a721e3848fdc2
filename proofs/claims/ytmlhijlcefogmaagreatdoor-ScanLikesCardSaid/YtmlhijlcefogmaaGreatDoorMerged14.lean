/-
  copy within rows whose elements are some cells wide. Over any program; conditions as it says.
  Two texts' hunks: they stand apart; they make the one of the other; there are none just if the texts are the same. No conditions; no program.
  Hunks in memory, and what the closure of hunk.Hunks does: a line more in the last hunk. Conditions: as each says.
  Where an appended row lies: where it lay, or in a new block. Over any program; conditions as each says.
  Worlds alike but for some blocks. Over any program; conditions as each says.
-/
import Derived.Test.YtmlhijlcefogmaaGreatDoorMerged7
import Derived.Laws.CopyOwn
import Derived.Test.YtmlhijlcefogmaaGreatDoorMerged2
import Derived.Test.YtmlhijlcefogmaaGreatDoorMerged13
import Derived.BigFrame
import Derived.Test.YtmlhijlcefogmaaGreatDoorMerged8
import Derived.Test.YtmlhijlcefogmaaGreatDoorMerged10
set_option linter.unusedVariables false
set_option linter.unusedSimpArgs false
namespace Go.Proofs.YtmlhijlcefogmaaGreatDoor
open Go.RowKit

/-- A row of the call's own, with its spare cells. -/
theorem own_open {w : World} {B sz n : Nat} {e : TypeId} {v : Value} {xs : List Value} (h : w.ownsRow B e sz v n xs) (hn : 0 < n) :
    ∃ g cap tail, v = .slice (some ⟨g, 0, none⟩) n cap ∧ B ≤ g ∧ w.heap[g]? = some (.cells (xs ++ tail).toArray e (0, 0)) ∧ n ≤ cap ∧ cap ≤ maxLen ∧ tail.length = (cap - n) * sz := by
  obtain ⟨h1, h2⟩ := h
  rcases h2 with ⟨_, h0⟩ | ⟨g, cap, cur, hv, hB, hg, hc, hm, hs, ht⟩
  · omega
  · refine ⟨g, cap, cur.toList.drop (n * sz), hv, hB, ?_, hc, hm, ?_⟩
    · rw [← ht, List.take_append_drop]; simpa using hg
    · rw [List.length_drop, Array.length_toList, hs, Nat.sub_mul]
theorem own_shut {w : World} {B sz n g cap : Nat} {e : TypeId} {xs tail : List Value} (hl : xs.length = n * sz) (hB : B ≤ g) (hg : w.heap[g]? = some (.cells (xs ++ tail).toArray e (0, 0))) (hc : n ≤ cap) (hm : cap ≤ maxLen) (ht : tail.length = (cap - n) * sz) :
    w.ownsRow B e sz (.slice (some ⟨g, 0, none⟩) n cap) n xs := by
  refine ⟨hl, .inr ⟨g, cap, (xs ++ tail).toArray, rfl, hB, hg, hc, hm, ?_, ?_⟩⟩
  · rw [List.size_toArray, List.length_append, hl, ht, ← Nat.add_mul, show n + (cap - n) = cap by omega]
  · show (xs ++ tail).take (n * sz) = xs
    rw [← hl, List.take_left]
section
variable {α : Type} {enc : α → List Value} {sz : Nat}
end
end Go.Proofs.YtmlhijlcefogmaaGreatDoor
namespace Go.Proofs.YtmlhijlcefogmaaGreatDoor
open Go.RowKit

end Go.Proofs.YtmlhijlcefogmaaGreatDoor
namespace Go.Proofs.YtmlhijlcefogmaaGreatDoor
open Go.RowKit Go.Maps Go.Shelf

/-- 'append(out, x)', x of several cells; every other block stands as it stood. -/
theorem wp_appNg {P : Program} {ops : Array Oper} {rest : List Oper} {o : Oper} {a : Act} {Q : Exit → Act → World → Prop} {w : World} (hgd : o.guard = none) (s x : Operand) (t : TypeId)
    (ho : o.op = .call { callee := .builtin .append, args := #[s, x], argTypes := #[t, t] })
    (base : Nat) (e : TypeId) (z : Value) (size bytes : Nat) (ht : P.underlying t = some (.slice e)) (hinf : (P.info? e).map (fun i => (i.zero, i.size, i.bytes)) = some (some z, size, bytes))
    (hz1 : z.cells.size = size) (hsz : 0 < size) (v : Value) (n : Nat) (xs : List Value) (hs : a.eval s = v) (hown : w.ownsRow base e size v n xs)
    (us : List Value) (et : TypeId) (hl : us.length = size) (hx : a.eval x = .slice (some ⟨w.heap.size, 0, none⟩) 1 1) (hu : ∀ u ∈ us, u.oneCell' = true)
    (hn : n + 1 ≤ maxLen) (hb : (n + 1) * bytes ≤ 140737488355328) (hbase : base ≤ w.heap.size)
    (h : ∀ v' w', w'.ownsRow base e size v' (n + 1) (xs ++ us) → (∀ B a, B ≤ base → Below B a w → Below B a w') → (∀ k, k < w.heap.size → v.ownBlock ≠ some k → w'.heap[k]? = w.heap[k]?) → wpList P ops Q rest (a.put o.dst v') w') :
    wpList P ops Q (o :: rest) a (w.alloc (.cells us.toArray et)) := by
  obtain ⟨i0, hi, hz0, hz2, hz3⟩ := info_parts hinf
  refine wpList_append_own _ hgd s x t ho base e i0 z size bytes ht hi hz0 hz2 hz3 hz1 hsz v n xs hs (hown.alloc _) ⟨w.heap.size, 0, none⟩ 1 1 us hx (by simp [hl]) ?_ hu hn hb (by simp; omega) ?_
  · intro j u' hj
    have e : (⟨w.heap.size, 0, none⟩ : Addr).add j = ⟨w.heap.size, j, none⟩ := by unfold Addr.add; split <;> simp_all
    rw [e, World.cell?_alloc_new]
    simpa using hj
  · intro v' w' hown' hgrow _
    refine h v' w' hown' (fun B a hB hba => ?_) (fun k hk hne => ?_)
    · refine (hba.alloc (by omega) _).grown hgrow (by simp; omega) fun k hk => ?_
      have := (hown.lt k hk).1
      omega
    · rw [hgrow.block k (by simp; omega) (fun e => hne e.symm)]
      exact Below.heap_alloc _ _ _ hk
/-- What lies elsewhere stays while the hunks' box and rows change. -/
def ButBo (z Bo : Nat) (w w' : World) : Prop := ∀ k, k < z → k ≠ Bo → w'.heap[k]? = w.heap[k]?
theorem Sl.off {w w' : World} {B Bo n : Nat} {A A0 : Option Addr} {n0 c0 : Nat} {T : TypeId} {fz : Nat × Nat} {xs : List Value} (h : Sl w B A n 1 xs) (hBo : w.heap[Bo]? = some (.cells #[.slice A0 n0 c0] T fz)) (hx : ∀ u ∈ xs, ∀ A n c, u ≠ .slice A n c) (hk : ButBo B Bo w w') : Sl w' B A n 1 xs := by
  refine ⟨h.1, fun hn => ?_⟩
  obtain ⟨b, off, e, hb, hc⟩ := h.2 hn
  have hl : 0 < xs.length := by have := h.1; omega
  have hne : b ≠ Bo := by
    rintro rfl
    have h0 := hc 0 _ (List.getElem?_eq_getElem hl)
    rw [Nat.add_zero] at h0
    have hlt : off < 1 := by
      rcases Nat.lt_or_ge off 1 with q | q
      · exact q
      · simp [World.cell?, hBo, show ¬ off < 1 by omega] at h0
        try omega
    obtain rfl : off = 0 := by omega
    rw [cells_box hBo 0] at h0
    exact hx _ (List.getElem_mem hl) _ _ _ (Option.some.inj h0).symm
  refine ⟨b, off, e, hb, fun j u hj => ?_⟩
  have h1 := hc j u hj
  unfold World.cell? at h1 ⊢
  rw [hk b hb hne]
  exact h1
end Go.Proofs.YtmlhijlcefogmaaGreatDoor
namespace Go.Proofs.YtmlhijlcefogmaaGreatDoor
open Go.RowKit

/-- The row lies where it lay, or in a block from z on. -/
def Where (z : Nat) (v v' : Value) : Prop := v'.ownBlock = v.ownBlock ∨ ∃ g, v'.ownBlock = some g ∧ z ≤ g
section
variable {P : Program} {w w' : World}
end
end Go.Proofs.YtmlhijlcefogmaaGreatDoor
namespace Go.Proofs.YtmlhijlcefogmaaGreatDoor
open Go.RowKit

/-- The blocks that were there, but for those of X, stand as they stood. -/
structure But (X : Nat → Prop) (w w' : World) : Prop where
  os : w'.os = w.os
  tape : w'.tape = w.tape
  output : w'.output = w.output
  size : w.heap.size ≤ w'.heap.size
  block : ∀ k, k < w.heap.size → ¬ X k → w'.heap[k]? = w.heap[k]?
def NoB (_ : Nat) : Prop := False
section
variable {X Y : Nat → Prop} {a b c w w' : World}
theorem But.refl (X : Nat → Prop) (w : World) : But X w w := ⟨rfl, rfl, rfl, qR _, fun _ _ _ => rfl⟩
theorem But.trans (h : But X a b) (k : But Y b c) (hxy : ∀ i, i < a.heap.size → Y i → X i) : But X a c :=
  ⟨k.os.trans h.os, k.tape.trans h.tape, k.output.trans h.output, qT h.size k.size, fun i hi hx => (k.block i (qL hi h.size) (fun hy => hx (hxy i hi hy))).trans (h.block i hi hx)⟩
theorem But.of_below (h : Below a.heap.size a b) : But X a b := ⟨h.os, h.tape, h.output, h.size, fun k hk _ => h.block k hk⟩
theorem But.below {B : Nat} (h : But X a b) (hB : B ≤ a.heap.size) (hx : ∀ k, k < B → ¬ X k) : Below B a b := ⟨h.os, h.tape, h.output, h.size, fun k hk => h.block k (by omega) (hx k hk)⟩
theorem But.andBelow (h : But X a b) (k : Below b.heap.size b c) : But X a c := h.trans (Y := NoB) ⟨k.os, k.tape, k.output, k.size, fun i hi _ => k.block i hi⟩ fun _ _ q => q.elim
theorem But.drew (h : But X a b) : But X a b.drew := ⟨h.os, h.tape, h.output, h.size, h.block⟩
theorem But.alloc (h : But X a b) (o : Obj) : But X a (b.alloc o) := h.andBelow ((qB _ _).alloc (qR _) o)
theorem But.setCell (h : But X a b) {p : Addr} (hp : p.block < a.heap.size → X p.block) (u : Value) : But X a (b.setCell p u) :=
  ⟨h.os, h.tape, h.output, by simpa [World.setCell] using h.size, fun k hk hx => (Below.heap_setCell _ _ _ _ (by rintro rfl; exact hx (hp hk))).trans (h.block k hk hx)⟩
theorem But.grown {row : Option Nat} (h : But X a b) (hg : b.grownBy c row) (hr : ∀ k, row = some k → k < a.heap.size → X k) : But X a c :=
  h.trans (Y := fun k => row = some k) ⟨hg.os, hg.tape, hg.output, hg.size, fun k hk hx => hg.block k hk (fun e => hx e.symm)⟩ fun k hk hx => hr k hx hk
theorem But.cell (h : But X a b) {g j : Nat} (hg : g < a.heap.size) (hx : ¬ X g) : b.cell? ⟨g, j, none⟩ = a.cell? ⟨g, j, none⟩ := by
  unfold World.cell?
  rw [h.block g hg hx]
theorem But.own {base n size : Nat} {e : TypeId} {v : Value} {xs : List Value} (h : But X a b) (ho : a.ownsRow base e size v n xs) (hx : ∀ g, v.ownBlock = some g → ¬ X g) : b.ownsRow base e size v n xs := by
  refine ⟨ho.1, ?_⟩
  rcases ho.2 with h0 | ⟨g, cap, cur, rfl, hg, hh, r⟩
  · exact .inl h0
  · exact .inr ⟨g, cap, cur, rfl, hg, (h.block g (qX hh) (hx g rfl)).trans hh, r⟩
theorem But.sl {B n sz : Nat} {A : Option Addr} {xs : List Value} (h : But X a b) (ho : Sl a B A n sz xs) (hB : B ≤ a.heap.size) (hx : ∀ k, k < B → ¬ X k) : Sl b B A n sz xs := ho.keep (h.below hB hx)
theorem But.map {P : Program} {K : TypeId} {κ : Type} {ok : κ → Prop} {kl : κ → Lit} {g n : Nat} {m : κ → Option Value} (h : But X a b) (hm : MapV a P K ok kl g n m) (hx : ¬ X g) : MapV b P K ok kl g n m := by
  have hlt := hm.lt
  obtain ⟨D, h1, h2⟩ := hm
  obtain ⟨es, clock, hbk, F, hs, hD⟩ := h1
  exact ⟨D, ⟨es, clock, (h.block g hlt hx).trans hbk, F, hs, hD⟩, h2⟩
end
theorem cells_at0 {w : World} {g : Nat} {cs : List Value} {t : TypeId} {fr : Nat × Nat} (h : w.heap[g]? = some (.cells cs.toArray t fr)) (j : Nat) : w.cell? ⟨g, j, none⟩ = cs[j]? := by
  rw [cell_of_row w g j _ t fr h]
  simp
end Go.Proofs.YtmlhijlcefogmaaGreatDoor
