/-
  Steps of a region that draws its order, taken by hand: a call, a new variable, a look into a map, an append of a slice, a store into one cell. Over any program; conditions as each says.
-/
import Derived.Test.YtdgbjhfkmembdaaGreatDoorMapView
import Derived.Test.YtdgbjhfkmembdaaGreatDoorQStep
import Derived.Deep.MidRow
import Derived.Deep.RegionHeld
import Derived.OrdersHeld
import Derived.Laws.AppendOwn
namespace Go.Proofs.YtdgbjhfkmembdaaGreatDoor
open Go.RowKit Go.Maps
set_option linter.unusedVariables false


/-- An operation by its number; it unfolds to the operation itself. -/
def opAt : List Oper → Nat → Option Oper
  | [], _ => none
  | o :: _, 0 => some o
  | _ :: l, n + 1 => opAt l n
theorem opAt_list : ∀ (l : List Oper) (i : Nat), opAt l i = l[i]?
  | [], i => by simp [opAt]
  | o :: l, 0 => by simp [opAt]
  | o :: l, i + 1 => by simp [opAt, opAt_list l i]
theorem opAt_spec {ops : Array Oper} {i : Nat} {o : Oper} (h : opAt ops.toList i = some o) : ops[i]? = some o := by
  rw [opAt_list, Array.getElem?_toList] at h
  exact h
theorem oper_wp_val {P : Program} {o : Oper} {a : Act} {w w' : World} {v : Value} {K : Act → World → Prop} {Q : Exit → Act → World → Prop} (h : (execOp a.eval o).run P w = .ok (.value v) w') (hk : K (a.put o.dst v) w') : o.wp P a w K Q := by
  unfold Oper.wp
  rw [h]
  exact hk
theorem oper_wp_skip {P : Program} {o : Oper} {a : Act} {w w' : World} {K : Act → World → Prop} {Q : Exit → Act → World → Prop} (h : (execOp a.eval o).run P w = .ok .skip w') (hk : K (a.put o.dst undef) w') : o.wp P a w K Q := by
  unfold Oper.wp
  rw [h]
  exact hk
theorem wpOp_val {P : Program} {ops : Array Oper} {Q : Exit → Act → World → Prop} {i : Nat} {K : Act → World → Prop} {a : Act} {w w' : World} {v : Value} (o : Oper) (hi : opAt ops.toList i = some o) (hw : Region.wanted o (yielded ops a.tmps) = true)
    (h : (execOp a.eval o).run P w = .ok (.value v) w') (hk : K (a.put o.dst v) w') : wpOp P ops Q i K a w := by
  unfold wpOp
  simp only [opAt_spec hi, if_pos hw]
  exact .inl (oper_wp_val h hk)
theorem wpOp_skip {P : Program} {ops : Array Oper} {Q : Exit → Act → World → Prop} {i : Nat} {K : Act → World → Prop} {a : Act} {w w' : World} (o : Oper) (hi : opAt ops.toList i = some o) (hw : Region.wanted o (yielded ops a.tmps) = true)
    (h : (execOp a.eval o).run P w = .ok .skip w') (hk : K (a.put o.dst undef) w') : wpOp P ops Q i K a w := by
  unfold wpOp
  simp only [opAt_spec hi, if_pos hw]
  exact .inl (oper_wp_skip h hk)
theorem wpOp_call {P : Program} {ops : Array Oper} {Q : Exit → Act → World → Prop} {i : Nat} {K : Act → World → Prop} {a : Act} {w : World} {f : FuncId} {args : Array Value} (o : Oper) (hi : opAt ops.toList i = some o) (hw : Region.wanted o (yielded ops a.tmps) = true)
    (h : (execOp a.eval o).run P w = .ok (.enter f args) w) (hc : Calls P f args w fun e w' => ∃ v, e = .returned v ∧ K (a.put o.dst v) w') : wpOp P ops Q i K a w := by
  unfold wpOp
  simp only [opAt_spec hi, if_pos hw]
  refine .inl ?_
  unfold Oper.wp
  rw [h]
  exact hc.mono fun e w' ⟨v, he, hk⟩ => by subst he; exact hk
section
variable {P : Program} {ρ : Operand → Value} {o : Oper} {w : World}
theorem ex_callFn {f : FuncId} {xs : Array Operand} {ts : Array TypeId} {args : Array Value} (ho : o.op = .call { callee := .value (.func f), args := xs, argTypes := ts }) (hf : ρ (.func f) = .func (.func f) #[] #[]) (hE : ∀ args w, (callFunc f args).run P w = .ok (.enter f args) w) (ha : xs.map ρ = args) :
    (execOp ρ o).run P w = .ok (.enter f args) w := by
  unfold execOp
  simp only [ho, resolve, hf, Deferred.ofValue, ha, Array.empty_append, Sem.run_bind, Sem.run_pure, Result.andThen_ok, invoke, Array.append_empty, hE]
theorem ex_alloc {t : TypeId} {cs : Array Value} (ho : o.op = .alloc t) (hz : (zeroValue t).run P w = .ok (.agg cs) w) : (execOp ρ o).run P w = .ok (.value (.pointer (some ⟨w.heap.size, 0, none⟩))) (w.alloc (.cells cs t)) := by
  unfold execOp
  simp [ho, Instr.alloc, newVar, newRow, hz, Result.andThen, Sem.run_bind, Value.cells]
theorem ex_lookup2 (t : TypeId) (x ix : Operand) (ho : o.op = .lookup t x ix true) {vm vk v : Value} {w' : World} (hx : ρ x = vm) (hk : ρ ix = vk) (h : (Instr.lookup t vm vk true).run P w = .ok v w') : (execOp ρ o).run P w = .ok (.value v) w' := by
  unfold execOp
  simp only [ho, hx, hk, Sem.run_bind, h, Result.andThen_ok, Sem.run_pure]
end
/-- 'v, ok := m[k]', as the run has it. -/
theorem MapV.look2 {P : Program} {K t e : TypeId} {κ : Type} {ok : κ → Prop} {val : κ → Value} {kl : κ → Lit} {w : World} {b n : Nat} {m : κ → Option Value} (E : KeyEnc P K ok val kl) (ht : P.underlying t = some (.map K e)) {z : Value} (hz : ∀ u : World, (zeroValue e).run P u = .ok z u) (h : MapV w P K ok kl b n m) {k0 : κ} (hk : ok k0) :
    (Instr.lookup t (.map (some b)) (val k0) true).run P w = .ok (.tuple #[(m k0).getD z, .bool (m k0).isSome]) w := by
  obtain ⟨D, h1, hm, h3, h4⟩ := h
  obtain ⟨v, ps, hrun, hv⟩ := h1.look_ok E.keyed ht (hz w) (zd := .held z) (zp := []) rfl (E.of k0 hk)
  have hv' : v = (m k0).getD z := by
    have e1 : (DataW.held v : DataW Value) = D.atKey (kl k0) (.held z) := congrArg Prod.fst (Option.some.inj hv)
    rcases hmk : m k0 with _ | u
    · have hh : has D (kl k0) = false := by rw [h3 k0 hk, hmk]; rfl
      rw [atKey_of_not_has hh] at e1
      injection e1
    · rw [h4 k0 u hk hmk] at e1
      injection e1
  rw [hrun, hv', h3 k0 hk]


theorem wpOp_wp {P : Program} {ops : Array Oper} {Q : Exit → Act → World → Prop} {i : Nat} {K : Act → World → Prop} {a : Act} {w : World} (o : Oper) (hi : opAt ops.toList i = some o) (hw : Region.wanted o (yielded ops a.tmps) = true)
    (h : o.wp P a w K Q) : wpOp P ops Q i K a w := by
  unfold wpOp
  simp only [opAt_spec hi, if_pos hw]
  exact .inl h
section
variable {P : Program} {w : World}
theorem ex_build0 {ρ : Operand → Value} {o : Oper} (t : TypeId) (ho : o.op = .buildSlice t 0 #[]) (e : TypeId) (ht : P.underlying t = some (.slice e)) (i : TypeInfo) (hi : P.info? e = some i) :
    (execOp ρ o).run P w = .ok (.value (.slice (some ⟨w.heap.size, 0, none⟩) 0 0)) (w.alloc (.cells #[] e)) := by
  have h0 : ∀ f : Nat → Value, Array.map f (Array.range 0) = #[] := fun f => Array.eq_empty_of_size_eq_zero (by simp)
  unfold execOp
  simp [ho, Instr.buildSlice, Sem.run_bind, run_underlying ht, Result.andThen, sizeOf, typeInfo, hi, Instr.fill, newRow, h0]
theorem own_made0 (w : World) (base : Nat) (e : TypeId) (size : Nat) (hb : base ≤ w.heap.size) : (w.alloc (.cells #[] e)).ownsRow base e size (.slice (some ⟨w.heap.size, 0, none⟩) 0 0) 0 [] :=
  ⟨by simp, .inr ⟨w.heap.size, 0, #[], rfl, hb, heap_alloc_new _ _, Nat.le_refl _, by decide, by simp, by simp⟩⟩
theorem wp_append_sl {o : Oper} {a : Act} {K : Act → World → Prop} {Q : Exit → Act → World → Prop} (s x : Operand) (t : TypeId)
    (ho : o.op = .call { callee := .builtin .append, args := #[s, x], argTypes := #[t, t] })
    (base : Nat) (e : TypeId) (i : TypeInfo) (z : Value) (size bytes : Nat) (ht : P.underlying t = some (.slice e)) (hi : P.info? e = some i) (hz : i.zero = some z)
    (hsize : i.size = size) (hby : i.bytes = bytes) (hzs : z.cells.size = size) (hsz : 0 < size)
    (v : Value) (n : Nat) (xs : List Value) (hs : a.eval s = v) (hown : w.ownsRow base e size v n xs)
    (A : Option Addr) (m c B : Nat) (news : List Value) (hx : a.eval x = .slice A m c) (hsl : Sl w B A m size news) (h1 : ∀ u ∈ news, u.oneCell' = true)
    (h63 : n + m ≤ maxLen) (hbytes : (n + m) * bytes ≤ 140737488355328) (hbase : base ≤ w.heap.size)
    (h : ∀ v' w', w'.ownsRow base e size v' (n + m) (xs ++ news) → w.grownBy w' v.ownBlock → K (a.put o.dst v') w') : o.wp P a w K Q := by
  have hnil : m = 0 → news = [] := fun h0 => List.eq_nil_of_length_eq_zero (by rw [hsl.1, h0, Nat.zero_mul])
  rcases A with _ | ad
  · have hm : m = 0 := by
      rcases Nat.eq_zero_or_pos m with h0 | hp
      · exact h0
      · obtain ⟨b, off, e1, _⟩ := hsl.2 hp; cases e1
    subst hm
    obtain rfl := hnil rfl
    have hgr : w.grownBy w v.ownBlock := ⟨rfl, rfl, rfl, Nat.le_refl _, fun _ _ _ => rfl⟩
    have hle : ∃ A0 c0, v = .slice A0 n c0 ∧ n ≤ c0 := by
      rcases hown.2 with ⟨rfl, rfl⟩ | ⟨g, cap, cur, rfl, _, _, hnc, _⟩
      · exact ⟨_, _, rfl, Nat.le_refl _⟩
      · exact ⟨_, _, rfl, hnc⟩
    obtain ⟨A0, c0, rfl, hnc⟩ := hle
    have hr : (Builtin.append_ #[t, t] o.type #[.slice A0 n c0, .slice none 0 c]).run P w = .ok (.slice A0 n c0) w := by
      rcases A0 with _ | a0
      · simp [Builtin.append_, run_underlying ht, sizeOf, typeInfo, hi, Builtin.lenOf, Builtin.firstCells, hnc]
      · simp [Builtin.append_, run_underlying ht, sizeOf, typeInfo, hi, Builtin.lenOf, Builtin.firstCells, hnc, storeCells]
    unfold Oper.wp execOp
    simp only [ho, resolve, invoke, builtin, Sem.run_bind, Sem.run_pure, Result.andThen_ok, List.map_toArray, List.map_cons, List.map_nil, hs, hx, hr]
    exact h _ w (by simpa using hown) hgr
  · refine wp_append_own w s x t ho base e i z size bytes ht hi hz hsize hby hzs hsz v n xs hs hown ad m c news hx hsl.1 ?_ h1 h63 hbytes hbase fun v' w' h2 h3 _ => h v' w' h2 h3
    intro j u hj
    rcases Nat.eq_zero_or_pos m with h0 | hp
    · rw [hnil h0] at hj; cases hj
    · obtain ⟨b, off, e1, _, hc⟩ := hsl.2 hp
      obtain rfl := Option.some.inj e1
      rw [Addr.add_mid]
      exact hc j u hj
end


theorem ex_store1 {P : Program} {o : Oper} {w : World} {ρ : Operand → Value} (ty : TypeId) (x y : Operand) (ho : o.op = .store ty x y) (g j : Nat) (v : Value) (hx : ρ x = .pointer (some ⟨g, j, none⟩)) (hy : ρ y = v) (h1 : v.oneCell' = true) (hv : v.cells = #[v])
    (hi : (P.info? ty).map (·.size) = some 1) {u : Value} (hc : w.cell? ⟨g, j, none⟩ = some u) (hf : w.frozen? ⟨g, j, none⟩ = false) : (execOp ρ o).run P w = .ok .skip (w.setCell ⟨g, j, none⟩ v) := by
  have h := run_storeCells_cells (P := P) g j [v] 0 w (fun i hi => by
      have : i = 0 := by simpa using hi
      subst this; simp [hc]) (fun i hi => by
      have : i = 0 := by simpa using hi
      subst this; simpa using hf) (fun q hq => by rw [List.mem_singleton.1 hq]; exact h1)
  have hset : w.setCells g (j + 0) [v] = w.setCell ⟨g, j, none⟩ v := rfl
  rw [hset] at h
  unfold execOp
  cases hq : P.info? ty with
  | none => simp [hq] at hi
  | some i =>
    have hs : i.size = 1 := by simpa [hq] using hi
    simp only [ho, hx, hy, Instr.storeAt, Instr.sureAddr, Sem.run_bind, Sem.run_pure, Result.andThen_ok]
    simp [storeVar, sizeOf, typeInfo, hq, hv, hs, h]
end Go.Proofs.YtdgbjhfkmembdaaGreatDoor
