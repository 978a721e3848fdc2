/-
  Worlds alike but for some blocks. Over any program; conditions as each says.
-/
import Derived.Test.YtdgbjhfkmembdaaGreatDoorShort0
import Derived.Test.YtdgbjhfkmembdaaGreatDoorGr
import Derived.Test.YtdgbjhfkmembdaaGreatDoorAppW23
import Derived.Test.YtdgbjhfkmembdaaGreatDoorMapView
namespace Go.Proofs.YtdgbjhfkmembdaaGreatDoor
open Go.RowKit
set_option linter.unusedVariables false

/-- The blocks that were there, but for those of X, stand as they stood. -/
structure But (X : Nat → Prop) (w w' : World) : Prop where
  os : w'.os = w.os
  tape : w'.tape = w.tape
  output : w'.output = w.output
  size : w.heap.size ≤ w'.heap.size
  block : ∀ k, k < w.heap.size → ¬ X k → w'.heap[k]? = w.heap[k]?
def NoB (_ : Nat) : Prop := False
section
variable {X Y : Nat → Prop} {a b c w w' : World}
theorem But.refl (X : Nat → Prop) (w : World) : But X w w := ⟨rfl, rfl, rfl, qR _, fun _ _ _ => rfl⟩
theorem But.trans (h : But X a b) (k : But Y b c) (hxy : ∀ i, i < a.heap.size → Y i → X i) : But X a c :=
  ⟨k.os.trans h.os, k.tape.trans h.tape, k.output.trans h.output, qT h.size k.size, fun i hi hx => (k.block i (qL hi h.size) (fun hy => hx (hxy i hi hy))).trans (h.block i hi hx)⟩
theorem But.weak (h : But X a b) (hxy : ∀ i, i < a.heap.size → X i → Y i) : But Y a b := ⟨h.os, h.tape, h.output, h.size, fun i hi hy => h.block i hi fun hx => hy (hxy i hi hx)⟩
theorem But.of_below (h : Below a.heap.size a b) : But X a b := ⟨h.os, h.tape, h.output, h.size, fun k hk _ => h.block k hk⟩
theorem But.below {B : Nat} (h : But X a b) (hB : B ≤ a.heap.size) (hx : ∀ k, k < B → ¬ X k) : Below B a b := ⟨h.os, h.tape, h.output, h.size, fun k hk => h.block k (by omega) (hx k hk)⟩
theorem But.andBelow (h : But X a b) (k : Below b.heap.size b c) : But X a c := h.trans (Y := NoB) ⟨k.os, k.tape, k.output, k.size, fun i hi _ => k.block i hi⟩ fun _ _ q => q.elim
theorem But.drew (h : But X a b) : But X a b.drew := ⟨h.os, h.tape, h.output, h.size, h.block⟩
theorem But.alloc (h : But X a b) (o : Obj) : But X a (b.alloc o) := h.andBelow ((qB _ _).alloc (qR _) o)
theorem But.setCell (h : But X a b) {p : Addr} (hp : p.block < a.heap.size → X p.block) (u : Value) : But X a (b.setCell p u) :=
  ⟨h.os, h.tape, h.output, by simpa [World.setCell] using h.size, fun k hk hx => (Below.heap_setCell _ _ _ _ (by rintro rfl; exact hx (hp hk))).trans (h.block k hk hx)⟩
theorem But.grown {row : Option Nat} (h : But X a b) (hg : b.grownBy c row) (hr : ∀ k, row = some k → k < a.heap.size → X k) : But X a c :=
  h.trans (Y := fun k => row = some k) ⟨hg.os, hg.tape, hg.output, hg.size, fun k hk hx => hg.block k hk (fun e => hx e.symm)⟩ fun k hk hx => hr k hx hk
theorem But.cell (h : But X a b) {g j : Nat} (hg : g < a.heap.size) (hx : ¬ X g) : b.cell? ⟨g, j, none⟩ = a.cell? ⟨g, j, none⟩ := by
  unfold World.cell?
  rw [h.block g hg hx]
theorem But.own {base n size : Nat} {e : TypeId} {v : Value} {xs : List Value} (h : But X a b) (ho : a.ownsRow base e size v n xs) (hx : ∀ g, v.ownBlock = some g → ¬ X g) : b.ownsRow base e size v n xs := by
  refine ⟨ho.1, ?_⟩
  rcases ho.2 with h0 | ⟨g, cap, cur, rfl, hg, hh, r⟩
  · exact .inl h0
  · exact .inr ⟨g, cap, cur, rfl, hg, (h.block g (qX hh) (hx g rfl)).trans hh, r⟩
theorem But.sl {B n sz : Nat} {A : Option Addr} {xs : List Value} (h : But X a b) (ho : Sl a B A n sz xs) (hB : B ≤ a.heap.size) (hx : ∀ k, k < B → ¬ X k) : Sl b B A n sz xs := ho.keep (h.below hB hx)
theorem But.map {P : Program} {K : TypeId} {κ : Type} {ok : κ → Prop} {kl : κ → Lit} {g n : Nat} {m : κ → Option Value} (h : But X a b) (hm : MapV a P K ok kl g n m) (hx : ¬ X g) : MapV b P K ok kl g n m := by
  have hlt := hm.lt
  obtain ⟨D, h1, h2⟩ := hm
  obtain ⟨es, clock, hbk, F, hs, hD⟩ := h1
  exact ⟨D, ⟨es, clock, (h.block g hlt hx).trans hbk, F, hs, hD⟩, h2⟩
end
theorem cells_at0 {w : World} {g : Nat} {cs : List Value} {t : TypeId} {fr : Nat × Nat} (h : w.heap[g]? = some (.cells cs.toArray t fr)) (j : Nat) : w.cell? ⟨g, j, none⟩ = cs[j]? := by
  rw [cell_of_row w g j _ t fr h]
  simp
/-- 'append(s, l..)' at a row of the call's own, as a step of a walk: what stands as it stood, and where the row lies. -/
theorem wp_appS_w {P : Program} {ops : Array Oper} {rest : List Oper} {o : Oper} {a : Act} {Q : Exit → Act → World → Prop} {w : World} (hw : Region.wanted o (yielded ops a.tmps) = true) (s x : Operand) (t : TypeId)
    (ho : o.op = .call { callee := .builtin .append, args := #[s, x], argTypes := #[t, t] })
    (base : Nat) (e : TypeId) (z : Value) (size bytes : Nat) (ht : P.underlying t = some (.slice e)) (hinf : (P.info? e).map (fun i => (i.zero, i.size, i.bytes)) = some (some z, size, bytes))
    (hz1 : z.cells.size = size) (hsz : 0 < size) (v : Value) (n : Nat) (xs : List Value) (hs : a.eval s = v) (hown : w.ownsRow base e size v n xs)
    (A : Addr) (m c : Nat) (news : List Value) (hx : a.eval x = .slice (some A) m c) (hl : news.length = m * size) (hnews : ∀ j u, news[j]? = some u → w.cell? (A.add j) = some u) (h1 : ∀ u ∈ news, u.oneCell' = true)
    (hn : n + m ≤ maxLen) (hb : (n + m) * bytes ≤ 140737488355328) (hbase : base ≤ w.heap.size)
    (h : ∀ v' w', w'.ownsRow base e size v' (n + m) (xs ++ news) → w.grownBy w' v.ownBlock → Where w.heap.size v v' → wpList P ops Q rest (a.put o.dst v') w') :
    wpList P ops Q (o :: rest) a w := by
  obtain ⟨i0, hi, hz0, hz2, hz3⟩ := info_parts hinf
  obtain ⟨v', w', hr, hown', hgrow, _⟩ := run_append_own (P := P) w base t o.type e i0 z size bytes ht hi hz0 hz2 hz3 hz1 hsz v n xs hown A m c news hl hnews h1 hn hb hbase
  have hwh := run_append_where (P := P) (w := w) base t o.type e i0 z size bytes ht hi hz0 hz2 hz3 hz1 hsz v n xs hown A m c news hl hnews h1 hn hb hr
  refine BigFrame.wpList_want hw fun K hK => ?_
  unfold Oper.wp execOp
  simp only [ho, resolve, invoke, builtin, Sem.run_bind, Sem.run_pure, Result.andThen_ok, List.map_toArray, List.map_cons, List.map_nil, hs, hx, hr]
  exact hK _ _ (h v' w' hown' hgrow hwh)
end Go.Proofs.YtdgbjhfkmembdaaGreatDoor
