/-
  Steps of a region that draws its order, taken by hand: a call, a new variable, a look into a map, an append of a slice, a store into one cell. Over any program; conditions as each says.
  The lists that the search has made again: what stands while it goes forward. No conditions but those said.
-/
import Derived.Test.YtmlhijlcefogmaaGreatDoorMerged10
import Derived.Test.YtmlhijlcefogmaaGreatDoorMerged8
import Derived.Deep.MidRow
import Derived.Deep.RegionHeld
import Derived.OrdersHeld
import Derived.Laws.AppendOwn
set_option linter.unusedVariables false
set_option linter.unusedSimpArgs false
namespace Go.Proofs.YtmlhijlcefogmaaGreatDoor
open Go.RowKit Go.Maps


/-- An operation by its number; it unfolds to the operation itself. -/
def opAt : List Oper → Nat → Option Oper
  | [], _ => none
  | o :: _, 0 => some o
  | _ :: l, n + 1 => opAt l n
theorem opAt_list : ∀ (l : List Oper) (i : Nat), opAt l i = l[i]?
  | [], i => by simp [opAt]
  | o :: l, 0 => by simp [opAt]
  | o :: l, i + 1 => by simp [opAt, opAt_list l i]
theorem opAt_spec {ops : Array Oper} {i : Nat} {o : Oper} (h : opAt ops.toList i = some o) : ops[i]? = some o := by
  rw [opAt_list, Array.getElem?_toList] at h
  exact h
theorem oper_wp_val {P : Program} {o : Oper} {a : Act} {w w' : World} {v : Value} {K : Act → World → Prop} {Q : Exit → Act → World → Prop} (h : (execOp a.eval o).run P w = .ok (.value v) w') (hk : K (a.put o.dst v) w') : o.wp P a w K Q := by
  unfold Oper.wp
  rw [h]
  exact hk
theorem oper_wp_skip {P : Program} {o : Oper} {a : Act} {w w' : World} {K : Act → World → Prop} {Q : Exit → Act → World → Prop} (h : (execOp a.eval o).run P w = .ok .skip w') (hk : K (a.put o.dst undef) w') : o.wp P a w K Q := by
  unfold Oper.wp
  rw [h]
  exact hk
theorem wpOp_val {P : Program} {ops : Array Oper} {Q : Exit → Act → World → Prop} {i : Nat} {K : Act → World → Prop} {a : Act} {w w' : World} {v : Value} (o : Oper) (hi : opAt ops.toList i = some o) (hw : Region.wanted o (yielded ops a.tmps) = true)
    (h : (execOp a.eval o).run P w = .ok (.value v) w') (hk : K (a.put o.dst v) w') : wpOp P ops Q i K a w := by
  unfold wpOp
  simp only [opAt_spec hi, if_pos hw]
  exact .inl (oper_wp_val h hk)
theorem wpOp_skip {P : Program} {ops : Array Oper} {Q : Exit → Act → World → Prop} {i : Nat} {K : Act → World → Prop} {a : Act} {w w' : World} (o : Oper) (hi : opAt ops.toList i = some o) (hw : Region.wanted o (yielded ops a.tmps) = true)
    (h : (execOp a.eval o).run P w = .ok .skip w') (hk : K (a.put o.dst undef) w') : wpOp P ops Q i K a w := by
  unfold wpOp
  simp only [opAt_spec hi, if_pos hw]
  exact .inl (oper_wp_skip h hk)
theorem wpOp_call {P : Program} {ops : Array Oper} {Q : Exit → Act → World → Prop} {i : Nat} {K : Act → World → Prop} {a : Act} {w : World} {f : FuncId} {args : Array Value} (o : Oper) (hi : opAt ops.toList i = some o) (hw : Region.wanted o (yielded ops a.tmps) = true)
    (h : (execOp a.eval o).run P w = .ok (.enter f args) w) (hc : Calls P f args w fun e w' => ∃ v, e = .returned v ∧ K (a.put o.dst v) w') : wpOp P ops Q i K a w := by
  unfold wpOp
  simp only [opAt_spec hi, if_pos hw]
  refine .inl ?_
  unfold Oper.wp
  rw [h]
  exact hc.mono fun e w' ⟨v, he, hk⟩ => by subst he; exact hk
section
variable {P : Program} {ρ : Operand → Value} {o : Oper} {w : World}
theorem ex_callFn {f : FuncId} {xs : Array Operand} {ts : Array TypeId} {args : Array Value} (ho : o.op = .call { callee := .value (.func f), args := xs, argTypes := ts }) (hf : ρ (.func f) = .func (.func f) #[] #[]) (hE : ∀ args w, (callFunc f args).run P w = .ok (.enter f args) w) (ha : xs.map ρ = args) :
    (execOp ρ o).run P w = .ok (.enter f args) w := by
  unfold execOp
  simp only [ho, resolve, hf, Deferred.ofValue, ha, Array.empty_append, Sem.run_bind, Sem.run_pure, Result.andThen_ok, invoke, Array.append_empty, hE]
end
theorem wpOp_wp {P : Program} {ops : Array Oper} {Q : Exit → Act → World → Prop} {i : Nat} {K : Act → World → Prop} {a : Act} {w : World} (o : Oper) (hi : opAt ops.toList i = some o) (hw : Region.wanted o (yielded ops a.tmps) = true)
    (h : o.wp P a w K Q) : wpOp P ops Q i K a w := by
  unfold wpOp
  simp only [opAt_spec hi, if_pos hw]
  exact .inl h
section
variable {P : Program} {w : World}
theorem own_made0 (w : World) (base : Nat) (e : TypeId) (size : Nat) (hb : base ≤ w.heap.size) : (w.alloc (.cells #[] e)).ownsRow base e size (.slice (some ⟨w.heap.size, 0, none⟩) 0 0) 0 [] :=
  ⟨by simp, .inr ⟨w.heap.size, 0, #[], rfl, hb, heap_alloc_new _ _, Nat.le_refl _, by decide, by simp, by simp⟩⟩
theorem wp_append_sl {o : Oper} {a : Act} {K : Act → World → Prop} {Q : Exit → Act → World → Prop} (s x : Operand) (t : TypeId)
    (ho : o.op = .call { callee := .builtin .append, args := #[s, x], argTypes := #[t, t] })
    (base : Nat) (e : TypeId) (i : TypeInfo) (z : Value) (size bytes : Nat) (ht : P.underlying t = some (.slice e)) (hi : P.info? e = some i) (hz : i.zero = some z)
    (hsize : i.size = size) (hby : i.bytes = bytes) (hzs : z.cells.size = size) (hsz : 0 < size)
    (v : Value) (n : Nat) (xs : List Value) (hs : a.eval s = v) (hown : w.ownsRow base e size v n xs)
    (A : Option Addr) (m c B : Nat) (news : List Value) (hx : a.eval x = .slice A m c) (hsl : Sl w B A m size news) (h1 : ∀ u ∈ news, u.oneCell' = true)
    (h63 : n + m ≤ maxLen) (hbytes : (n + m) * bytes ≤ 140737488355328) (hbase : base ≤ w.heap.size)
    (h : ∀ v' w', w'.ownsRow base e size v' (n + m) (xs ++ news) → w.grownBy w' v.ownBlock → K (a.put o.dst v') w') : o.wp P a w K Q := by
  have hnil : m = 0 → news = [] := fun h0 => List.eq_nil_of_length_eq_zero (by rw [hsl.1, h0, Nat.zero_mul])
  rcases A with _ | ad
  · have hm : m = 0 := by
      rcases Nat.eq_zero_or_pos m with h0 | hp
      · exact h0
      · obtain ⟨b, off, e1, _⟩ := hsl.2 hp; cases e1
    subst hm
    obtain rfl := hnil rfl
    have hgr : w.grownBy w v.ownBlock := ⟨rfl, rfl, rfl, Nat.le_refl _, fun _ _ _ => rfl⟩
    have hle : ∃ A0 c0, v = .slice A0 n c0 ∧ n ≤ c0 := by
      rcases hown.2 with ⟨rfl, rfl⟩ | ⟨g, cap, cur, rfl, _, _, hnc, _⟩
      · exact ⟨_, _, rfl, Nat.le_refl _⟩
      · exact ⟨_, _, rfl, hnc⟩
    obtain ⟨A0, c0, rfl, hnc⟩ := hle
    have hr : (Builtin.append_ #[t, t] o.type #[.slice A0 n c0, .slice none 0 c]).run P w = .ok (.slice A0 n c0) w := by
      rcases A0 with _ | a0
      · simp [Builtin.append_, run_underlying ht, sizeOf, typeInfo, hi, Builtin.lenOf, Builtin.firstCells, hnc]
      · simp [Builtin.append_, run_underlying ht, sizeOf, typeInfo, hi, Builtin.lenOf, Builtin.firstCells, hnc, storeCells]
    unfold Oper.wp execOp
    simp only [ho, resolve, invoke, builtin, Sem.run_bind, Sem.run_pure, Result.andThen_ok, List.map_toArray, List.map_cons, List.map_nil, hs, hx, hr]
    exact h _ w (by simpa using hown) hgr
  · refine wp_append_own w s x t ho base e i z size bytes ht hi hz hsize hby hzs hsz v n xs hs hown ad m c news hx hsl.1 ?_ h1 h63 hbytes hbase fun v' w' h2 h3 _ => h v' w' h2 h3
    intro j u hj
    rcases Nat.eq_zero_or_pos m with h0 | hp
    · rw [hnil h0] at hj; cases hj
    · obtain ⟨b, off, e1, _, hc⟩ := hsl.2 hp
      obtain rfl := Option.some.inj e1
      rw [Addr.add_mid]
      exact hc j u hj
end


theorem ex_store1 {P : Program} {o : Oper} {w : World} {ρ : Operand → Value} (ty : TypeId) (x y : Operand) (ho : o.op = .store ty x y) (g j : Nat) (v : Value) (hx : ρ x = .pointer (some ⟨g, j, none⟩)) (hy : ρ y = v) (h1 : v.oneCell' = true) (hv : v.cells = #[v])
    (hi : (P.info? ty).map (·.size) = some 1) {u : Value} (hc : w.cell? ⟨g, j, none⟩ = some u) (hf : w.frozen? ⟨g, j, none⟩ = false) : (execOp ρ o).run P w = .ok .skip (w.setCell ⟨g, j, none⟩ v) := by
  have h := run_storeCells_cells (P := P) g j [v] 0 w (fun i hi => by
      have : i = 0 := by simpa using hi
      subst this; simp [hc]) (fun i hi => by
      have : i = 0 := by simpa using hi
      subst this; simpa using hf) (fun q hq => by rw [List.mem_singleton.1 hq]; exact h1)
  have hset : w.setCells g (j + 0) [v] = w.setCell ⟨g, j, none⟩ v := rfl
  rw [hset] at h
  unfold execOp
  cases hq : P.info? ty with
  | none => simp [hq] at hi
  | some i =>
    have hs : i.size = 1 := by simpa [hq] using hi
    simp only [ho, hx, hy, Instr.storeAt, Instr.sureAddr, Sem.run_bind, Sem.run_pure, Result.andThen_ok]
    simp [storeVar, sizeOf, typeInfo, hq, hv, hs, h]
end Go.Proofs.YtmlhijlcefogmaaGreatDoor
namespace Go.Proofs.YtmlhijlcefogmaaGreatDoor
open Go.RowKit Go.Maps Go.Shelf

theorem set_block {w : World} {b j : Nat} {cs : Array Value} {t : TypeId} {fz : Nat × Nat} (h : w.heap[b]? = some (.cells cs t fz)) (v : Value) : (w.setCell ⟨b, j, none⟩ v).heap[b]? = some (.cells (cs.setIfInBounds j v) t fz) := by
  have hlt := lt_of_block h
  have h' : w.heap[b] = .cells cs t fz := by simpa [Array.getElem?_eq_getElem hlt] using h
  show (w.heap.modify b _)[b]? = _
  rw [Array.getElem?_eq_getElem (by simpa using hlt), Array.getElem_modify_self, h']
  rfl
/-- A list of the search, as a slice at its block's beginning. -/
def LstAt (a b : List Int) (w : World) (v : Value) (d : Nat) : Prop := ∃ g c, v = .slice (some ⟨g, 0, none⟩) (d + 1) c ∧ Sl w w.heap.size (some ⟨g, 0, none⟩) (d + 1) 1 (natV (lst a b d))
section
variable {a b : List Int} {w w' : World} {v : Value} {d X g : Nat}
theorem LstAt.below (h : LstAt a b w v d) (hb : Below w.heap.size w w') : LstAt a b w' v d := by
  obtain ⟨g, c, e, hs⟩ := h
  exact ⟨g, c, e, (hs.keep hb).more hb.size⟩
/-- No place of the block's beginning holds a list's number: it is none of the lists' blocks. -/
theorem sl_but (h : Sl w w.heap.size (some ⟨g, 0, none⟩) (d + 1) 1 (natV (lst a b d))) (hX : ∀ k, w.cell? ⟨X, 0, none⟩ ≠ some (.int .i32 k)) (hz : w.heap.size ≤ w'.heap.size) (hk : ∀ k, k < w.heap.size → k ≠ X → w'.heap[k]? = w.heap[k]?) :
    Sl w' w'.heap.size (some ⟨g, 0, none⟩) (d + 1) 1 (natV (lst a b d)) := by
  refine ⟨h.1, fun hn => ?_⟩
  obtain ⟨b0, off, e, hb, hc⟩ := h.2 hn
  have hl : 0 < (natV (lst a b d)).length := by have := h.1; omega
  obtain ⟨e1, e2⟩ := addr_eq e
  subst e1 e2
  have hgX : b0 ≠ X := by
    rintro rfl
    have h0 := hc 0 _ (List.getElem?_eq_getElem hl)
    obtain ⟨k, hk⟩ : ∃ k, (natV (lst a b d))[0] = .int .i32 k := by
      have hm := List.getElem_mem hl
      obtain ⟨x, _, hx⟩ := List.mem_map.1 hm
      exact ⟨_, hx.symm⟩
    rw [hk] at h0
    exact hX k h0
  refine ⟨b0, 0, rfl, Nat.lt_of_lt_of_le hb hz, fun j u hj => ?_⟩
  have h1 := hc j u hj
  unfold World.cell? at h1 ⊢
  rw [hk b0 hb hgX]
  exact h1
theorem LstAt.but (h : LstAt a b w v d) (hX : ∀ k, w.cell? ⟨X, 0, none⟩ ≠ some (.int .i32 k)) (hz : w.heap.size ≤ w'.heap.size) (hk : ∀ k, k < w.heap.size → k ≠ X → w'.heap[k]? = w.heap[k]?) : LstAt a b w' v d := by
  obtain ⟨g, c, e, hs⟩ := h
  exact ⟨g, c, e, sl_but hs hX hz hk⟩
end
section
variable {a b : List Int} {B M base d ca cb : Nat} {A A' : Option Addr} {v3 v4 : Value} {w wr w' : World}
/-- One block has changed, none of those that the search reads but its box or the row of its lists. -/
theorem CostAt.but (h : CostAt a b B M base A A' ca cb v3 v4 w d wr) (hMb : base ≤ M) {X : Nat} (hXb : base ≤ X) (hXM : X ≠ M) (hX : ∀ k, wr.cell? ⟨X, 0, none⟩ ≠ some (.int .i32 k)) (hz : wr.heap.size ≤ w'.heap.size) (hbel : Below base wr w')
    (hk : ∀ k, k < wr.heap.size → k ≠ X → w'.heap[k]? = wr.heap[k]?) (hsa : Sl w base A a.length 1 (i32V a)) (hsb : Sl w base A' b.length 1 (i32V b)) (hbs : base ≤ w'.heap.size) {v3' v4' : Value}
    (hbox : w'.heap[B]? = some (.cells #[.slice A a.length ca, .slice A' b.length cb, .map (some M), v3', v4'] 176 (0, 0))) : CostAt a b B M base A A' ca cb v3' v4' w d w' := by
  obtain ⟨nn, mm, h1, h2, h3⟩ := h.map
  refine ⟨h.bel.trans hbel, hbox, ⟨nn, mm, h1, ?_, fun j hj h0 => ?_⟩, (hsa.keep (h.bel.trans hbel)).more hbs, (hsb.keep (h.bel.trans hbel)).more hbs⟩
  · obtain ⟨D, ⟨es, clock, hbk, F, hs, hD⟩, h4⟩ := h2
    exact ⟨D, ⟨es, clock, (hk M (Array.getElem?_eq_some_iff.1 hbk).1 (fun e => hXM e.symm)).trans hbk, F, hs, hD⟩, h4⟩
  · obtain ⟨g, c, e, hs⟩ := h3 j hj h0
    exact ⟨g, c, e, sl_but hs hX hz hk⟩
/-- The lists from the last saved one on. -/
structure ListAt (a b : List Int) (B M base : Nat) (A A' : Option Addr) (ca cb : Nat) (w : World) (from' k : Nat) (v3 : Value) (wr : World) : Prop where
  cost : CostAt a b B M base A A' ca cb v3 (.int .i64 (from' : Int)) w (C a b 0 0 + 1) wr
  pos : 0 < k
  row : ∃ vs, wr.ownsRow base 75 1 v3 k vs ∧ ∀ j, j < k → ∃ v, vs[j]? = some v ∧ LstAt a b wr v (from' + j)
theorem ListAt.below {from' k : Nat} (h : ListAt a b B M base A A' ca cb w from' k v3 wr) (hbs : base ≤ wr.heap.size) (hb : Below wr.heap.size wr w') : ListAt a b B M base A A' ca cb w from' k v3 w' := by
  obtain ⟨vs, h1, h2⟩ := h.row
  exact ⟨h.cost.below hbs hb, h.pos, vs, own_kept h1 hb, fun j hj => by obtain ⟨v, e, hl⟩ := h2 j hj; exact ⟨v, e, hl.below hb⟩⟩
/-- What the search's going forward leaves alone: all but its box and the rows of its lists. -/
def ForKept (B : Nat) (w w' : World) : Prop := w.heap.size ≤ w'.heap.size ∧ ∀ k, k < w.heap.size → k ≠ B → (∀ cur fz, w.heap[k]? ≠ some (.cells cur 75 fz)) → w'.heap[k]? = w.heap[k]?
theorem ForKept.refl (B : Nat) (w : World) : ForKept B w w := ⟨Nat.le_refl _, fun _ _ _ _ => rfl⟩
theorem ForKept.trans {B : Nat} {w1 w2 w3 : World} (h : ForKept B w1 w2) (k : ForKept B w2 w3) : ForKept B w1 w3 :=
  ⟨Nat.le_trans h.1 k.1, fun i hi hB ht => by
    have e := h.2 i hi hB ht
    exact (k.2 i (Nat.lt_of_lt_of_le hi h.1) hB (fun cur fz => by rw [e]; exact ht cur fz)).trans e⟩
theorem ForKept.of_below {B : Nat} {w w' : World} (h : Below w.heap.size w w') : ForKept B w w' := ⟨h.size, fun k hk _ _ => h.block k hk⟩
theorem ForKept.setCell {B : Nat} (w : World) (j : Nat) (v : Value) : ForKept B w (w.setCell ⟨B, j, none⟩ v) := ⟨by simp [World.setCell], fun k hk hB _ => Below.heap_setCell _ _ _ _ hB⟩
theorem ForKept.own {B base k : Nat} {v : Value} {vs : List Value} (h : w.ownsRow base 75 1 v k vs) (hg : w.grownBy w' v.ownBlock) : ForKept B w w' := by
  refine ⟨hg.size, fun i hi hB ht => hg.block i hi fun e => ?_⟩
  rcases h.2 with ⟨rfl, _⟩ | ⟨g, cap, cur, rfl, _, hh, _⟩
  · simp [Value.ownBlock] at e
  · have : g = i := by simpa [Value.ownBlock] using e.symm
    subst this
    exact ht cur (0, 0) hh
/-- A row of other elements stays. -/
theorem ForKept.row {B base n size : Nat} {e : TypeId} {v : Value} {xs : List Value} (h : ForKept B w w') (ho : w.ownsRow base e size v n xs) (he : e ≠ 75) (hB : v.ownBlock ≠ some B) : w'.ownsRow base e size v n xs := by
  obtain ⟨h1, h2⟩ := ho
  refine ⟨h1, ?_⟩
  rcases h2 with h2 | ⟨g, cap, cur, rfl, hg, hh, r⟩
  · exact .inl h2
  · refine .inr ⟨g, cap, cur, rfl, hg, ?_, r⟩
    rw [h.2 g (Array.getElem?_eq_some_iff.1 hh).1 (fun e => hB (by simp [Value.ownBlock, e])) (fun c2 fz q => by
      rw [hh] at q
      injection q with q
      injection q with _ q2 _
      exact he q2)]
    exact hh
end
end Go.Proofs.YtmlhijlcefogmaaGreatDoor
