/-
  The writer's memory: bytes put one behind the other. Conditions: as each says.
-/
import Derived.Test.YtdgbjhfkmembdaaGreatDoorShort0
import Derived.Test.YtdgbjhfkmembdaaGreatDoorObjMem
import Derived.Test.YtdgbjhfkmembdaaGreatDoorLebPut
import Derived.Test.YtdgbjhfkmembdaaGreatDoorHandB
import Derived.Test.YtdgbjhfkmembdaaGreatDoorHandL
namespace Go.Proofs.YtdgbjhfkmembdaaGreatDoor
open Go.RowKit Go.Maps
set_option linter.unusedVariables false

/-- 'append(s, l..)' at a row of the call's own, at a step taken by hand. -/
theorem op_appW {P : Program} {o : Oper} {a : Act} {K : Act → World → Prop} {Q : Exit → Act → World → Prop} {w : World} (s x : Operand) (t : TypeId)
    (ho : o.op = .call { callee := .builtin .append, args := #[s, x], argTypes := #[t, t] })
    (base : Nat) (e : TypeId) (z : Value) (size bytes : Nat) (ht : P.underlying t = some (.slice e)) (hinf : (P.info? e).map (fun i => (i.zero, i.size, i.bytes)) = some (some z, size, bytes))
    (hz1 : z.cells.size = size) (hsz : 0 < size) (v : Value) (n : Nat) (xs : List Value) (hs : a.eval s = v) (hown : w.ownsRow base e size v n xs)
    (A : Addr) (m c : Nat) (news : List Value) (hx : a.eval x = .slice (some A) m c) (hl : news.length = m * size) (hnews : ∀ j u, news[j]? = some u → w.cell? (A.add j) = some u) (h1 : ∀ u ∈ news, u.oneCell' = true)
    (hn : n + m ≤ maxLen) (hb : (n + m) * bytes ≤ 140737488355328) (hbase : base ≤ w.heap.size)
    (h : ∀ v' w', w'.ownsRow base e size v' (n + m) (xs ++ news) → w.grownBy w' v.ownBlock → Where w.heap.size v v' → K (a.put o.dst v') w') : o.wp P a w K Q := by
  obtain ⟨i0, hi, hz0, hz2, hz3⟩ := info_parts hinf
  obtain ⟨v', w', hr, hown', hgrow, _⟩ := run_append_own (P := P) w base t o.type e i0 z size bytes ht hi hz0 hz2 hz3 hz1 hsz v n xs hown A m c news hl hnews h1 hn hb hbase
  have hwh := run_append_where (P := P) (w := w) base t o.type e i0 z size bytes ht hi hz0 hz2 hz3 hz1 hsz v n xs hown A m c news hl hnews h1 hn hb hr
  unfold Oper.wp execOp
  simp only [ho, resolve, invoke, builtin, Sem.run_bind, Sem.run_pure, Result.andThen_ok, List.map_toArray, List.map_cons, List.map_nil, hs, hx, hr]
  exact h v' w' hown' hgrow hwh

/-- What the writer has written. -/
def WrAt (w : World) (g : Nat) (xs : List UInt8) : Prop := ∃ v, w.heap[g]? = some (.cells #[v] 269 (0, 0)) ∧ w.ownsRow (g + 1) 5 1 v xs.length (idV xs)
/-- The blocks that it may write into. -/
def WrX (w : World) (g k : Nat) : Prop := k = g ∨ ∃ v T z, w.heap[g]? = some (.cells #[v] T z) ∧ v.ownBlock = some k
/-- From world to world by writing. -/
def WrGo (g : Nat) (w w' : World) : Prop := But (WrX w g) w w' ∧ ∀ i, i < w.heap.size → WrX w' g i → WrX w g i
section
variable {g : Nat} {xs ys : List UInt8} {w w' w1 w2 : World}
theorem WrAt.lt (h : WrAt w g xs) : g < w.heap.size := by
  obtain ⟨v, h1, _⟩ := h
  exact (qX h1)
theorem WrX.at_ {v : Value} {T : TypeId} {z : Nat × Nat} (h : w.heap[g]? = some (.cells #[v] T z)) {k : Nat} (hx : WrX w g k) : k = g ∨ v.ownBlock = some k := by
  rcases hx with q | ⟨v', T', z', h', q⟩
  · exact .inl q
  · rw [h] at h'
    injection h' with h'
    injection h' with h' _ _
    injection h' with h'
    injection h' with h' _
    subst h'
    exact .inr q
theorem WrAt.low (h : WrAt w g xs) {k : Nat} (hk : k < g) : ¬ WrX w g k := by
  obtain ⟨v, h1, h2⟩ := h
  intro hx
  rcases hx.at_ h1 with q | q
  · omega
  · have := (h2.lt k q).1; omega
theorem WrAt.fresh (h : WrAt w g xs) {k : Nat} (hk : w.heap.size ≤ k) : ¬ WrX w g k := by
  have hlt := h.lt
  obtain ⟨v, h1, h2⟩ := h
  intro hx
  rcases hx.at_ h1 with q | q
  · omega
  · have := (h2.lt k q).2; omega
theorem WrGo.refl (g : Nat) (w : World) : WrGo g w w := ⟨But.refl _ _, fun _ _ h => h⟩
theorem WrGo.trans (h : WrGo g w w1) (k : WrGo g w1 w2) : WrGo g w w2 :=
  ⟨h.1.trans k.1 fun i hi hx => h.2 i hi hx, fun i hi hx => h.2 i hi (k.2 i (qL hi h.1.size) hx)⟩
theorem WrGo.below (hg : g < w.heap.size) (h : Below w.heap.size w w') : WrGo g w w' :=
  ⟨But.of_below h, fun i hi hx => by
    rcases hx with q | ⟨v, T, z, h1, q⟩
    · exact .inl q
    · exact .inr ⟨v, T, z, (h.block g hg).symm.trans h1, q⟩⟩
theorem WrAt.keep (h : WrAt w g xs) (hb : Below w.heap.size w w') : WrAt w' g xs := by
  have hlt := h.lt
  obtain ⟨v, h1, h2⟩ := h
  exact ⟨v, (hb.block g hlt).trans h1, (But.of_below (X := NoB) hb).own h2 fun _ _ q => q⟩
theorem WrAt.newNot (h : WrAt w g xs) (hb : Below w.heap.size w w') {k : Nat} (hk : w.heap.size ≤ k) : ¬ WrX w' g k := by
  intro hx
  refine h.fresh hk ?_
  rcases hx with q | ⟨v, T, z, h1, q⟩
  · exact .inl q
  · exact .inr ⟨v, T, z, (hb.block g h.lt).symm.trans h1, q⟩
theorem WrAt.keepNot (h : WrAt w g xs) (hb : Below w.heap.size w w') {k : Nat} (hk : ¬ WrX w g k) : ¬ WrX w' g k := by
  intro hx
  refine hk ?_
  rcases hx with q | ⟨v, T, z, h1, q⟩
  · exact .inl q
  · exact .inr ⟨v, T, z, (hb.block g h.lt).symm.trans h1, q⟩
/-- What stands elsewhere stands. -/
theorem WrGo.apart (h : WrGo g w w') {k : Nat} (hk : k < w.heap.size) (hx : ¬ WrX w g k) : w'.heap[k]? = w.heap[k]? ∧ ¬ WrX w' g k := ⟨h.1.block k hk hx, fun q => hx (h.2 k hk q)⟩
theorem WrGo.cell (h : WrGo g w w') {k j : Nat} (hk : k < w.heap.size) (hx : ¬ WrX w g k) : w'.cell? ⟨k, j, none⟩ = w.cell? ⟨k, j, none⟩ := h.1.cell hk hx
theorem WrGo.belowG (h : WrGo g w w') (hw : WrAt w g xs) : Below g w w' := h.1.below (Nat.le_of_lt hw.lt) fun k hk => hw.low hk
/-- Bytes more: the world that only grew, the append, the store. -/
theorem WrAt.put {v v' : Value} (h1 : w.heap[g]? = some (.cells #[v] 269 (0, 0))) (h2 : w.ownsRow (g + 1) 5 1 v xs.length (idV xs)) (hb : Below w.heap.size w w1) (ho : w2.ownsRow (g + 1) 5 1 v' (xs.length + ys.length) (idV xs ++ idV ys))
    (hg : w1.grownBy w2 v.ownBlock) (hw : Where w1.heap.size v v') : w2.cell? ⟨g, 0, none⟩ = some v ∧ w2.frozen? ⟨g, 0, none⟩ = false ∧ WrAt (w2.setCell ⟨g, 0, none⟩ v') g (xs ++ ys) ∧ WrGo g w (w2.setCell ⟨g, 0, none⟩ v') := by
  have hlt := (qX h1)
  have hlt1 := qL hlt hb.size
  have hne : v.ownBlock ≠ some g := fun e => by have := (h2.lt g e).1; omega
  have hne' : v'.ownBlock ≠ some g := fun e => by have := (ho.lt g e).1; omega
  have hg2 : w2.heap[g]? = some (.cells #[v] 269 (0, 0)) := ((hg.block g hlt1 (fun e => hne e.symm)).trans (hb.block g hlt)).trans h1
  have hset : (w2.setCell ⟨g, 0, none⟩ v').heap[g]? = some (.cells #[v'] 269 (0, 0)) := by
    obtain ⟨hl2, he2⟩ := Array.getElem?_eq_some_iff.1 hg2
    simp [World.setCell, Array.getElem?_modify, hg2]
  refine ⟨?_, ?_, ⟨v', hset, ?_⟩, ?_, ?_⟩
  · simp [World.cell?, hg2]
  · simp [World.frozen?, hg2]
  · have hbut : But (fun k => k = g) w2 (w2.setCell ⟨g, 0, none⟩ v') := But.setCell (X := fun k => k = g) (But.refl _ _) (p := ⟨g, 0, none⟩) (fun _ => rfl) v'
    have := hbut.own ho fun k hk e => hne' (by rw [hk, e])
    rw [List.length_append, idV_app]
    exact this
  · refine But.setCell (But.grown (But.of_below hb) hg fun k hk _ => .inr ⟨v, _, _, h1, hk⟩) (fun _ => .inl rfl) v'
  · intro i hi hx
    rcases hx.at_ hset with q | q
    · exact .inl q
    · rcases hw with e | ⟨k, e, hk⟩
      · exact .inr ⟨v, _, _, h1, by rw [← e]; exact q⟩
      · rw [e] at q
        injection q with q
        have := hb.size
        omega
end
theorem info_w8 : (Tryz.prog.info? 5).map (fun i => (i.zero, i.size, i.bytes)) = some (some (.int .u8 0), 1, 1) := info_u8
theorem own_addr {w : World} {base : Nat} {e : TypeId} {sz : Nat} {v : Value} {n : Nat} {xs : List Value} (h : w.ownsRow base e sz v n xs) (hn : 0 < n) : ∃ k c, v = .slice (some ⟨k, 0, none⟩) n c ∧ ∀ j u, xs[j]? = some u → w.cell? ((⟨k, 0, none⟩ : Addr).add j) = some u := by
  rcases h.2 with ⟨_, h0⟩ | ⟨k, cap, cur, rfl, r⟩
  · omega
  · exact ⟨k, cap, rfl, h.cells rfl⟩
end Go.Proofs.YtdgbjhfkmembdaaGreatDoor
