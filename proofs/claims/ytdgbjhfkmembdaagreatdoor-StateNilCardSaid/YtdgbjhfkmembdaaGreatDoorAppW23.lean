/-
  Where an appended row lies: where it lay, or in a new block. Over any program; conditions as each says.
-/
import Derived.Test.YtdgbjhfkmembdaaGreatDoorMem2
import Derived.BigFrame
namespace Go.Proofs.YtdgbjhfkmembdaaGreatDoor
open Go.RowKit
set_option linter.unusedVariables false

/-- The row lies where it lay, or in a block from z on. -/
def Where (z : Nat) (v v' : Value) : Prop := v'.ownBlock = v.ownBlock ∨ ∃ g, v'.ownBlock = some g ∧ z ≤ g
section
variable {P : Program} {w w' : World}
theorem run_append_where (base : Nat) (t ty e : TypeId) (i : TypeInfo) (z : Value) (size bytes : Nat) (ht : P.underlying t = some (.slice e)) (hi : P.info? e = some i) (hz : i.zero = some z)
    (hsize : i.size = size) (hby : i.bytes = bytes) (hzs : z.cells.size = size) (hsz : 0 < size)
    (v : Value) (n : Nat) (xs : List Value) (hown : w.ownsRow base e size v n xs)
    (a : Addr) (m c : Nat) (news : List Value) (hl : news.length = m * size) (hnews : ∀ j u, news[j]? = some u → w.cell? (a.add j) = some u) (h1 : ∀ u ∈ news, u.oneCell' = true)
    (h63 : n + m ≤ maxLen) (hbytes : (n + m) * bytes ≤ 140737488355328) {v' : Value} (hr : (Builtin.append_ #[t, t] ty #[v, .slice (some a) m c]).run P w = .ok v' w') : Where w.heap.size v v' := by
  subst hsize
  subst hby
  have hsmall : n + m ≤ 9223372036854775807 := by simp only [maxLen] at h63; omega
  rcases hown.2 with ⟨rfl, rfl⟩ | ⟨g, cap, cur, rfl, hbg, hg, hnc, hcm, hcs, htake⟩
  · by_cases hm : m = 0
    · subst hm
      have hn : news = [] := List.eq_nil_of_length_eq_zero (by simpa using hl)
      subst hn
      have h2 : (Builtin.append_ #[t, t] ty #[.slice none 0 0, .slice (some a) 0 c]).run P w = .ok (.slice none 0 0) w := by
        simp [Builtin.append_, run_underlying ht, sizeOf, typeInfo, hi, Builtin.lenOf, Builtin.firstCells, loadCells, loadCellsFrom]
      rw [h2] at hr
      injection hr with hr _
      rw [← hr]
      exact .inl rfl
    · have h2 := run_append_nil (P := P) w t ty e i z ht hi hz a m c news hl hnews (by omega) (by omega) (by have hb := hbytes; simp only [Nat.zero_add] at hb; omega)
      rw [h2] at hr
      injection hr with hr _
      rw [← hr]
      exact .inr ⟨_, rfl, Nat.le_refl _⟩
  · by_cases hroom : n + m ≤ cap
    · have hfit : n * i.size + news.length ≤ cur.size := by rw [hl, hcs, ← Nat.add_mul]; exact Nat.mul_le_mul_right _ hroom
      have h2 := run_append_room (P := P) w t ty e i ht hi g n cap cur hg a m c news hl hnews h1 hroom hfit
      rw [h2] at hr
      injection hr with hr _
      rw [← hr]
      exact .inl rfl
    · have holds : ∀ j u, xs[j]? = some u → w.cell? ((⟨g, 0, none⟩ : Addr).add j) = some u := hown.cells (g := g) rfl
      have h2 := run_append_grow (P := P) w t ty e i z ht hi hz ⟨g, 0, none⟩ n cap xs hown.1 holds a m c news hl hnews (by omega) (by omega) (growslice_fits (by omega) hbytes)
      rw [h2] at hr
      injection hr with hr _
      rw [← hr]
      exact .inr ⟨_, rfl, Nat.le_refl _⟩
end
/-- 'append(out, x)', x of one cell; every other block stands as it stood; and where the row lies. -/
theorem wp_app1w {P : Program} {ops : Array Oper} {rest : List Oper} {o : Oper} {a : Act} {Q : Exit → Act → World → Prop} {w : World} (hw : Region.wanted o (yielded ops a.tmps) = true) (s x : Operand) (t : TypeId)
    (ho : o.op = .call { callee := .builtin .append, args := #[s, x], argTypes := #[t, t] })
    (base : Nat) (e : TypeId) (z : Value) (bytes : Nat) (ht : P.underlying t = some (.slice e)) (hinf : (P.info? e).map (fun i => (i.zero, i.size, i.bytes)) = some (some z, 1, bytes))
    (hz1 : z.cells.size = 1) (v : Value) (n : Nat) (xs : List Value) (hs : a.eval s = v) (hown : w.ownsRow base e 1 v n xs)
    (u : Value) (et : TypeId) (hx : a.eval x = .slice (some ⟨w.heap.size, 0, none⟩) 1 1) (hu : u.oneCell' = true)
    (hn : n + 1 ≤ maxLen) (hb : (n + 1) * bytes ≤ 140737488355328) (hbase : base ≤ w.heap.size)
    (h : ∀ v' w', w'.ownsRow base e 1 v' (n + 1) (xs ++ [u]) → (∀ B a, B ≤ base → Below B a w → Below B a w') → (∀ k, k < w.heap.size → v.ownBlock ≠ some k → w'.heap[k]? = w.heap[k]?) → Where w.heap.size v v' → w.heap.size ≤ w'.heap.size → wpList P ops Q rest (a.put o.dst v') w') :
    wpList P ops Q (o :: rest) a (w.alloc (.cells #[u] et)) := by
  obtain ⟨i0, hi, hz0, hz2, hz3⟩ := info_parts hinf
  have hcell : ∀ j u', [u][j]? = some u' → (w.alloc (.cells #[u] et)).cell? ((⟨w.heap.size, 0, none⟩ : Addr).add j) = some u' := by
    intro j u' hj
    match j, hj with
    | 0, hj => simp at hj; subst hj; simp [Addr.add]
  have hone : ∀ u' ∈ [u], u'.oneCell' = true := fun u' hu' => by simp at hu'; subst hu'; exact hu
  obtain ⟨v', w', hr, hown', hgrow, _⟩ := run_append_own (P := P) _ base t o.type e i0 z 1 bytes ht hi hz0 hz2 hz3 hz1 (by decide) v n xs (hown.alloc (.cells #[u] et)) ⟨w.heap.size, 0, none⟩ 1 1 [u] rfl hcell hone hn hb (by simp; omega)
  have hwh := run_append_where (P := P) (w := w.alloc (.cells #[u] et)) base t o.type e i0 z 1 bytes ht hi hz0 hz2 hz3 hz1 (by decide) v n xs (hown.alloc (.cells #[u] et)) ⟨w.heap.size, 0, none⟩ 1 1 [u] rfl hcell hone hn hb hr
  refine BigFrame.wpList_want hw fun K hK => ?_
  unfold Oper.wp execOp
  simp only [ho, resolve, invoke, builtin, Sem.run_bind, Sem.run_pure, Result.andThen_ok, List.map_toArray, List.map_cons, List.map_nil, hs, hx, hr]
  refine hK _ _ (h v' w' hown' (fun B a hB hba => ?_) (fun k hk hne => ?_) ?_ ?_)
  · refine (hba.alloc (by omega) _).grown hgrow (by simp; omega) fun k hk => ?_
    have := (hown.lt k hk).1
    omega
  · rw [hgrow.block k (by simp; omega) (fun e => hne e.symm)]
    exact Below.heap_alloc _ _ _ hk
  · rcases hwh with q | ⟨g, q1, q2⟩
    · exact .inl q
    · exact .inr ⟨g, q1, by simp at q2; omega⟩
  · have := hgrow.size
    simp at this
    omega
/-- The same at a step taken by hand: 'append(out, x)', x of one cell; every other block stands as it stood; and where the row lies. -/
theorem op_app1w {P : Program} {o : Oper} {a : Act} {K : Act → World → Prop} {Q : Exit → Act → World → Prop} {w : World} (s x : Operand) (t : TypeId)
    (ho : o.op = .call { callee := .builtin .append, args := #[s, x], argTypes := #[t, t] })
    (base : Nat) (e : TypeId) (z : Value) (bytes : Nat) (ht : P.underlying t = some (.slice e)) (hinf : (P.info? e).map (fun i => (i.zero, i.size, i.bytes)) = some (some z, 1, bytes))
    (hz1 : z.cells.size = 1) (v : Value) (n : Nat) (xs : List Value) (hs : a.eval s = v) (hown : w.ownsRow base e 1 v n xs)
    (u : Value) (et : TypeId) (hx : a.eval x = .slice (some ⟨w.heap.size, 0, none⟩) 1 1) (hu : u.oneCell' = true)
    (hn : n + 1 ≤ maxLen) (hb : (n + 1) * bytes ≤ 140737488355328) (hbase : base ≤ w.heap.size)
    (h : ∀ v' w', w'.ownsRow base e 1 v' (n + 1) (xs ++ [u]) → (∀ B a, B ≤ base → Below B a w → Below B a w') → (∀ k, k < w.heap.size → v.ownBlock ≠ some k → w'.heap[k]? = w.heap[k]?) → Where w.heap.size v v' → w.heap.size ≤ w'.heap.size → K (a.put o.dst v') w') :
    o.wp P a (w.alloc (.cells #[u] et)) K Q := by
  obtain ⟨i0, hi, hz0, hz2, hz3⟩ := info_parts hinf
  have hcell : ∀ j u', [u][j]? = some u' → (w.alloc (.cells #[u] et)).cell? ((⟨w.heap.size, 0, none⟩ : Addr).add j) = some u' := by
    intro j u' hj
    match j, hj with
    | 0, hj => simp at hj; subst hj; simp [Addr.add]
  have hone : ∀ u' ∈ [u], u'.oneCell' = true := fun u' hu' => by simp at hu'; subst hu'; exact hu
  obtain ⟨v', w', hr, hown', hgrow, _⟩ := run_append_own (P := P) _ base t o.type e i0 z 1 bytes ht hi hz0 hz2 hz3 hz1 (by decide) v n xs (hown.alloc (.cells #[u] et)) ⟨w.heap.size, 0, none⟩ 1 1 [u] rfl hcell hone hn hb (by simp; omega)
  have hwh := run_append_where (P := P) (w := w.alloc (.cells #[u] et)) base t o.type e i0 z 1 bytes ht hi hz0 hz2 hz3 hz1 (by decide) v n xs (hown.alloc (.cells #[u] et)) ⟨w.heap.size, 0, none⟩ 1 1 [u] rfl hcell hone hn hb hr
  unfold Oper.wp execOp
  simp only [ho, resolve, invoke, builtin, Sem.run_bind, Sem.run_pure, Result.andThen_ok, List.map_toArray, List.map_cons, List.map_nil, hs, hx, hr]
  refine h v' w' hown' (fun B a hB hba => ?_) (fun k hk hne => ?_) ?_ ?_
  · refine (hba.alloc (by omega) _).grown hgrow (by simp; omega) fun k hk => ?_
    have := (hown.lt k hk).1
    omega
  · rw [hgrow.block k (by simp; omega) (fun e => hne e.symm)]
    exact Below.heap_alloc _ _ _ hk
  · rcases hwh with q | ⟨g, q1, q2⟩
    · exact .inl q
    · exact .inr ⟨g, q1, by simp at q2; omega⟩
  · have := hgrow.size
    simp at this
    omega
end Go.Proofs.YtdgbjhfkmembdaaGreatDoor
