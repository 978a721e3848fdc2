/-
  Steps of a region that draws its order, taken by hand: a call, a new variable, a look into a map, an append of a slice, a store into one cell. Over any program; conditions as each says.
  A region that draws its order and ends in operations that write: a condition on the worlds that has to hold only behind the first n operations; an operation for which all others wait (be it by others) yields its value in every such world, or an operation that looks at no world: either may be taken first. Over any program; conditions as each says.
-/
import Derived.Test.YthjaepmfkgejkaaGreatDoorMerged1
import Derived.Test.YthjaepmfkgejkaaGreatDoorMerged2
import Derived.Deep.MidRow
import Derived.Deep.RegionHeld
import Derived.OrdersHeld
import Derived.Laws.AppendOwn
import Derived.StillTail
import Derived.Maps.RangeWalk
set_option linter.unusedVariables false
namespace Go.Proofs.YthjaepmfkgejkaaGreatDoor
open Go.RowKit Go.Maps
def Z0 : List Oper → Nat → Option Oper
  | [], _ => none
  | o :: _, 0 => some o
  | _ :: l, n + 1 => Z0 l n
theorem qF : ∀ (l : List Oper) (i : Nat), Z0 l i = l[i]?
  | [], i => by simp [Z0]
  | o :: l, 0 => by simp [Z0]
  | o :: l, i + 1 => by simp [Z0, qF l i]
theorem KM {ops : Array Oper} {i : Nat} {o : Oper} (h : Z0 ops.toList i = some o) : ops[i]? = some o := by
  rw [qF, Array.getElem?_toList] at h
  exact h
theorem oper_wp_val {P : Program} {o : Oper} {a : Act} {w w' : World} {v : Value} {K : Act → World → Prop} {Q : Exit → Act → World → Prop} (h : (execOp a.eval o).run P w = .ok (.value v) w') (hk : K (a.put o.dst v) w') : o.wp P a w K Q := by
  unfold Oper.wp
  rw [h]
  exact hk
theorem Qo {P : Program} {o : Oper} {a : Act} {w w' : World} {K : Act → World → Prop} {Q : Exit → Act → World → Prop} (h : (execOp a.eval o).run P w = .ok .skip w') (hk : K (a.put o.dst undef) w') : o.wp P a w K Q := by
  unfold Oper.wp
  rw [h]
  exact hk
theorem jv {P : Program} {ops : Array Oper} {Q : Exit → Act → World → Prop} {i : Nat} {K : Act → World → Prop} {a : Act} {w w' : World} {v : Value} (o : Oper) (hi : Z0 ops.toList i = some o) (hw : Region.wanted o (yielded ops a.tmps) = true)
    (h : (execOp a.eval o).run P w = .ok (.value v) w') (hk : K (a.put o.dst v) w') : wpOp P ops Q i K a w := by
  unfold wpOp
  simp only [KM hi, if_pos hw]
  exact .inl (oper_wp_val h hk)
theorem zD {P : Program} {ops : Array Oper} {Q : Exit → Act → World → Prop} {i : Nat} {K : Act → World → Prop} {a : Act} {w w' : World} (o : Oper) (hi : Z0 ops.toList i = some o) (hw : Region.wanted o (yielded ops a.tmps) = true)
    (h : (execOp a.eval o).run P w = .ok .skip w') (hk : K (a.put o.dst undef) w') : wpOp P ops Q i K a w := by
  unfold wpOp
  simp only [KM hi, if_pos hw]
  exact .inl (Qo h hk)
theorem JF {P : Program} {ops : Array Oper} {Q : Exit → Act → World → Prop} {i : Nat} {K : Act → World → Prop} {a : Act} {w : World} {f : FuncId} {args : Array Value} (o : Oper) (hi : Z0 ops.toList i = some o) (hw : Region.wanted o (yielded ops a.tmps) = true)
    (h : (execOp a.eval o).run P w = .ok (.enter f args) w) (hc : Calls P f args w fun e w' => ∃ v, e = .returned v ∧ K (a.put o.dst v) w') : wpOp P ops Q i K a w := by
  unfold wpOp
  simp only [KM hi, if_pos hw]
  refine .inl ?_
  unfold Oper.wp
  rw [h]
  exact hc.mono fun e w' ⟨v, he, hk⟩ => by subst he; exact hk
section
variable {P : Program} {ρ : Operand → Value} {o : Oper} {w : World}
theorem J6 {f : FuncId} {xs : Array Operand} {ts : Array TypeId} {args : Array Value} (ho : o.op = .call { callee := .value (.func f), args := xs, argTypes := ts }) (hf : ρ (.func f) = .func (.func f) #[] #[]) (hE : ∀ args w, (callFunc f args).run P w = .ok (.enter f args) w) (ha : xs.map ρ = args) :
    (execOp ρ o).run P w = .ok (.enter f args) w := by
  unfold execOp
  simp only [ho, resolve, hf, Deferred.ofValue, ha, Array.empty_append, Sem.run_bind, Sem.run_pure, Result.andThen_ok, invoke, Array.append_empty, hE]
theorem ZP {t : TypeId} {cs : Array Value} (ho : o.op = .alloc t) (hz : (zeroValue t).run P w = .ok (.agg cs) w) : (execOp ρ o).run P w = .ok (.value (.pointer (some ⟨w.heap.size, 0, none⟩))) (w.alloc (.cells cs t)) := by
  unfold execOp
  simp [ho, Instr.alloc, newVar, newRow, hz, Result.andThen, Sem.run_bind, Value.cells]
theorem Ja (t : TypeId) (x ix : Operand) (ho : o.op = .lookup t x ix true) {vm vk v : Value} {w' : World} (hx : ρ x = vm) (hk : ρ ix = vk) (h : (Instr.lookup t vm vk true).run P w = .ok v w') : (execOp ρ o).run P w = .ok (.value v) w' := by
  unfold execOp
  simp only [ho, hx, hk, Sem.run_bind, h, Result.andThen_ok, Sem.run_pure]
end
theorem MapV.look2 {P : Program} {K t e : TypeId} {κ : Type} {ok : κ → Prop} {val : κ → Value} {kl : κ → Lit} {w : World} {b n : Nat} {m : κ → Option Value} (E : KeyEnc P K ok val kl) (ht : P.underlying t = some (.map K e)) {z : Value} (hz : ∀ u : World, (zeroValue e).run P u = .ok z u) (h : MapV w P K ok kl b n m) {k0 : κ} (hk : ok k0) :
    (Instr.lookup t (.map (some b)) (val k0) true).run P w = .ok (.tuple #[(m k0).getD z, .bool (m k0).isSome]) w := by
  obtain ⟨D, h1, hm, h3, h4⟩ := h
  obtain ⟨v, ps, hrun, hv⟩ := h1.look_ok E.keyed ht (hz w) (zd := .held z) (zp := []) rfl (E.of k0 hk)
  have hv' : v = (m k0).getD z := by
    have e1 : (DataW.held v : DataW Value) = D.atKey (kl k0) (.held z) := congrArg Prod.fst (Option.some.inj hv)
    rcases hmk : m k0 with _ | u
    · have hh : has D (kl k0) = false := by rw [h3 k0 hk, hmk]; rfl
      rw [atKey_of_not_has hh] at e1
      injection e1
    · rw [h4 k0 u hk hmk] at e1
      injection e1
  rw [hrun, hv', h3 k0 hk]
theorem Jz {P : Program} {ops : Array Oper} {Q : Exit → Act → World → Prop} {i : Nat} {K : Act → World → Prop} {a : Act} {w : World} (o : Oper) (hi : Z0 ops.toList i = some o) (hw : Region.wanted o (yielded ops a.tmps) = true)
    (h : o.wp P a w K Q) : wpOp P ops Q i K a w := by
  unfold wpOp
  simp only [KM hi, if_pos hw]
  exact .inl h
section
variable {P : Program} {w : World}
theorem qG (w : World) (base : Nat) (e : TypeId) (size : Nat) (hb : base ≤ w.heap.size) : (w.alloc (.cells #[] e)).ownsRow base e size (.slice (some ⟨w.heap.size, 0, none⟩) 0 0) 0 [] :=
  ⟨by simp, .inr ⟨w.heap.size, 0, #[], rfl, hb, heap_alloc_new _ _, Nat.le_refl _, by decide, by simp, by simp⟩⟩
theorem ub {o : Oper} {a : Act} {K : Act → World → Prop} {Q : Exit → Act → World → Prop} (s x : Operand) (t : TypeId)
    (ho : o.op = .call { callee := .builtin .append, args := #[s, x], argTypes := #[t, t] })
    (base : Nat) (e : TypeId) (i : TypeInfo) (z : Value) (size bytes : Nat) (ht : P.underlying t = some (.slice e)) (hi : P.info? e = some i) (hz : i.zero = some z)
    (hsize : i.size = size) (hby : i.bytes = bytes) (hzs : z.cells.size = size) (hsz : 0 < size)
    (v : Value) (n : Nat) (xs : List Value) (hs : a.eval s = v) (hown : w.ownsRow base e size v n xs)
    (A : Option Addr) (m c B : Nat) (news : List Value) (hx : a.eval x = .slice A m c) (hsl : Sl w B A m size news) (h1 : ∀ u ∈ news, u.oneCell' = true)
    (h63 : n + m ≤ maxLen) (hbytes : (n + m) * bytes ≤ 140737488355328) (hbase : base ≤ w.heap.size)
    (h : ∀ v' w', w'.ownsRow base e size v' (n + m) (xs ++ news) → w.grownBy w' v.ownBlock → K (a.put o.dst v') w') : o.wp P a w K Q := by
  have hnil : m = 0 → news = [] := fun h0 => List.eq_nil_of_length_eq_zero (by rw [hsl.1, h0, Nat.zero_mul])
  rcases A with _ | ad
  ·
   have hm : m = 0 := by
     rcases Nat.eq_zero_or_pos m with h0 | hp
     · exact h0
     · obtain ⟨b, off, e1, _⟩ := hsl.2 hp; cases e1
   subst hm
   obtain rfl := hnil rfl
   have hgr : w.grownBy w v.ownBlock := ⟨rfl, rfl, rfl, Nat.le_refl _, fun _ _ _ => rfl⟩
   have hle : ∃ A0 c0, v = .slice A0 n c0 ∧ n ≤ c0 := by
     rcases hown.2 with ⟨rfl, rfl⟩ | ⟨g, cap, cur, rfl, _, _, hnc, _⟩
     · exact ⟨_, _, rfl, Nat.le_refl _⟩
     · exact ⟨_, _, rfl, hnc⟩
   obtain ⟨A0, c0, rfl, hnc⟩ := hle
   have hr : (Builtin.append_ #[t, t] o.type #[.slice A0 n c0, .slice none 0 c]).run P w = .ok (.slice A0 n c0) w := by
     rcases A0 with _ | a0
     · simp [Builtin.append_, run_underlying ht, sizeOf, typeInfo, hi, Builtin.lenOf, Builtin.firstCells, hnc]
     · simp [Builtin.append_, run_underlying ht, sizeOf, typeInfo, hi, Builtin.lenOf, Builtin.firstCells, hnc, storeCells]
   unfold Oper.wp execOp
   simp only [ho, resolve, invoke, builtin, Sem.run_bind, Sem.run_pure, Result.andThen_ok, List.map_toArray, List.map_cons, List.map_nil, hs, hx, hr]
   exact h _ w (by simpa using hown) hgr
  ·
   refine wp_append_own w s x t ho base e i z size bytes ht hi hz hsize hby hzs hsz v n xs hs hown ad m c news hx hsl.1 ?_ h1 h63 hbytes hbase fun v' w' h2 h3 _ => h v' w' h2 h3
   intro j u hj
   rcases Nat.eq_zero_or_pos m with h0 | hp
   · rw [hnil h0] at hj; cases hj
   ·
    obtain ⟨b, off, e1, _, hc⟩ := hsl.2 hp
    obtain rfl := Option.some.inj e1
    rw [Addr.add_mid]
    exact hc j u hj
end
theorem Jb {P : Program} {o : Oper} {w : World} {ρ : Operand → Value} (ty : TypeId) (x y : Operand) (ho : o.op = .store ty x y) (g j : Nat) (v : Value) (hx : ρ x = .pointer (some ⟨g, j, none⟩)) (hy : ρ y = v) (h1 : v.oneCell' = true) (hv : v.cells = #[v])
    (hi : (P.info? ty).map (·.size) = some 1) {u : Value} (hc : w.cell? ⟨g, j, none⟩ = some u) (hf : w.frozen? ⟨g, j, none⟩ = false) : (execOp ρ o).run P w = .ok .skip (w.setCell ⟨g, j, none⟩ v) := by
  have h := run_storeCells_cells (P := P) g j [v] 0 w (fun i hi => by
      have : i = 0 := by simpa using hi
      subst this; simp [hc]) (fun i hi => by
      have : i = 0 := by simpa using hi
      subst this; simpa using hf) (fun q hq => by rw [List.mem_singleton.1 hq]; exact h1)
  have hset : w.setCells g (j + 0) [v] = w.setCell ⟨g, j, none⟩ v := rfl
  rw [hset] at h
  unfold execOp
  cases hq : P.info? ty with
  | none => simp [hq] at hi
  | some i =>
    have hs : i.size = 1 := by simpa [hq] using hi
    simp only [ho, hx, hy, Instr.storeAt, Instr.sureAddr, Sem.run_bind, Sem.run_pure, Result.andThen_ok]
    simp [storeVar, sizeOf, typeInfo, hq, hv, hs, h]
end Go.Proofs.YthjaepmfkgejkaaGreatDoor
namespace Go.Proofs.YthjaepmfkgejkaaGreatDoor
open Go.RowKit Go.Maps
def Un (md : Region.Mode) (ops : Array Oper) : Nat → Nat → Nat → Bool
  | 0, _, _ => false
  | f + 1, j, i => match ops[j]? with
    | some o => o.after.any fun e => Region.binds md e && (decide (e.on = i) || Un md ops f e.on i)
    | none => false
def lateB (md : Region.Mode) (ops : Array Oper) (n i : Nat) : Bool := (List.range ops.size).all fun j => decide (j < n) || Un md ops 6 j i
def Shut (md : Region.Mode) (ops : Array Oper) (listed : Array Bool) : Prop := ∀ j o, ops[j]? = some o → listed.getD j false = true → ∀ e ∈ o.after, Region.binds md e = true → listed.getD e.on false = true
def shutB (md : Region.Mode) (ops : Array Oper) (listed : Array Bool) : Bool := (List.range ops.size).all fun j => !listed.getD j false || (match ops[j]? with
  | some o => o.after.all fun e => !Region.binds md e || listed.getD e.on false
  | none => true)
theorem Uu {md : Region.Mode} {ops : Array Oper} {listed : Array Bool} (h : shutB md ops listed = true) : Shut md ops listed := by
  intro j o ho hl e he hb
  have h1 := List.all_eq_true.1 h j (List.mem_range.2 (Array.getElem?_eq_some_iff.1 ho).1)
  rw [ho, hl] at h1
  have h2 : (o.after.all fun e => !Region.binds md e || listed.getD e.on false) = true := by simpa only [Bool.not_true, Bool.false_or] using h1
  have h3 := Array.all_eq_true'.1 h2 e he
  rw [hb] at h3
  simpa only [Bool.not_true, Bool.false_or] using h3
theorem uc {md : Region.Mode} {ops : Array Oper} {listed : Array Bool} (hs : Shut md ops listed) : ∀ (f j i : Nat), Un md ops f j i = true → (∀ o, ops[j]? = some o → ∀ e ∈ o.after, Region.binds md e = true → listed.getD e.on false = true) → listed.getD i false = true
  | 0, _, _, h, _ => by cases h
  | f + 1, j, i, h, hr => by
    unfold Un at h
    split at h
    ·
     rename_i o ho
     obtain ⟨e, he, h2⟩ := Array.any_eq_true'.1 h
     rw [Bool.and_eq_true, Bool.or_eq_true, decide_eq_true_eq] at h2
     have hl := hr o ho e he h2.1
     rcases h2.2 with q | q
     · rw [← q]; exact hl
     · exact uc hs f e.on i q fun o' ho' e' he' hb' => hs e.on o' ho' hl e' he' hb'
    · cases h
theorem Shut.set {md : Region.Mode} {ops : Array Oper} {listed : Array Bool} (h : Shut md ops listed) {j : Nat} (hj : j ∈ Region.ready md ops listed) : Shut md ops (listed.setIfInBounds j true) := by
  intro k o ho hl e he hb
  by_cases hjk : j = k
  ·
   subst hjk
   obtain ⟨_, o', ho', hall⟩ := mem_ready.1 hj
   rw [ho] at ho'
   obtain rfl := Option.some.inj ho'
   exact getD_set_true (hall e he hb)
  · rw [getD_set_ne false hjk] at hl
    exact getD_set_true (h k o ho hl e he hb)
def jB (P : Program) (md : Region.Mode) (ops : Array Oper) (Q : Exit → Act → World → Prop) (n : Nat) (F : World → Prop) : Nat → Array Bool → Act → World → Prop
  | 0, listed, a, w => Region.ready md ops listed = [] ∧ Q .normal a w
  | fuel + 1, listed, a, w =>
    (Region.ready md ops listed = [] → Q .normal a w) ∧
    ∀ i ∈ Region.ready md ops listed, wpOp P ops Q i (fun a' w' => (i < n → F w → F w') ∧ jB P md ops Q n F fuel (listed.setIfInBounds i true) a' w') a w
section
variable {P : Program} {md : Region.Mode} {ops : Array Oper} {Q : Exit → Act → World → Prop} {n : Nat} {F : World → Prop}
theorem Uv : ∀ (fuel : Nat) (listed : Array Bool) (a : Act) (w : World), jB P md ops Q n F fuel listed a w → wpAny P md ops Q fuel listed a w
  | 0, _, _, _, h => h
  | fuel + 1, _, _, _, h => ⟨h.1, fun i hi => wpOp_mono (fun a' w' h' => Uv fuel _ a' w' h'.2) (h.2 i hi)⟩
theorem ud {G : World → Prop} {i : Nat} {oi : Oper} {v : Value} (hi : ops[i]? = some oi) (hsel : ∀ (j : Nat) (o : Oper) cs b, ops[j]? = some o → o.op ≠ .select cs b)
    (hQ : ∀ c a w, Q (.panic c) (a.put oi.dst v) w → Q (.panic c) a w)
    (hG : ∀ (listed : Array Bool) j, Shut md ops listed → j ∈ Region.ready md ops listed → listed.getD i true = false → ∀ w w', G w → (j < n → F w → F w') → G w') :
    ∀ (fuel : Nat) (listed : Array Bool) (a : Act) (w : World), Shut md ops listed →
      (∀ j oj, ops[j]? = some oj → j ≠ i → listed.getD j true = false → (∀ e ∈ oj.after, Region.binds md e = true → e.on ≠ i) → oi.apart ops oj = true) →
      i ∈ Region.ready md ops listed → YieldsIf P ops G oi v a → G w →
      jB P md ops Q n F fuel (listed.setIfInBounds i true) (a.put oi.dst v) w → jB P md ops Q n F (fuel + 1) listed a w := by
  intro fuel
  induction fuel with
  | zero =>
    intro listed a w _ _ hr hy hg H
    refine ⟨fun h => (by rw [h] at hr; cases hr), fun j hj => ?_⟩
    by_cases hji : j = i
    · subst hji; exact hy.wpOp hi hg ⟨fun _ h => h, H⟩
    · have := ready_mono hj hji
      rw [H.1] at this
      cases this
  | succ fuel ih =>
    intro listed a w hsh hfree hr hy hg H
    refine ⟨fun h => (by rw [h] at hr; cases hr), fun j hj => ?_⟩
    by_cases hji : j = i
    · subst hji; exact hy.wpOp hi hg ⟨fun _ h => h, H⟩
    ·
     have h1 := H.2 j (ready_mono hj hji)
     obtain ⟨hjun, oj, hoj, hall⟩ := mem_ready.1 hj
     have hiun := (mem_ready.1 hr).1
     have hnot : ∀ e ∈ oj.after, Region.binds md e = true → e.on ≠ i := fun e he hb heq => by
       have h2 := hall e he hb
       rw [heq, getD_both hiun] at h2
       cases h2
     have h2 := wpOp_putIf hoj (hfree j oj hoj hji hjun hnot) (fun cs b => hsel i oi cs b hi) (fun cs b => hsel j oj cs b hoj) hQ hy h1
     have hfree' : ∀ k ok, ops[k]? = some ok → k ≠ i → (listed.setIfInBounds j true).getD k true = false →
         (∀ e ∈ ok.after, Region.binds md e = true → e.on ≠ i) → oi.apart ops ok = true := fun k ok hk hki hun hno => by
       refine hfree k ok hk hki ?_ hno
       by_cases hjk : j = k
       · subst hjk; exact hjun
       · rw [getD_set_ne true hjk] at hun; exact hun
     refine wpOp_mono (fun a' w' h3 => ⟨h3.2.1, ih (listed.setIfInBounds j true) a' w' (hsh.set hj) hfree' (ready_mono hr (Ne.symm hji)) h3.1 (hG listed j hsh hj hiun w w' hg h3.2.1) ?_⟩) h2
     rw [Array.setIfInBounds_comm _ _ hji]
     exact h3.2.2
theorem wpAnyN_take {i : Nat} {oi : Oper} {v : Value} {fuel : Nat} {listed : Array Bool} {a : Act} {w : World} (hL : lateB md ops n i = true) (hsh : shutB md ops listed = true) (hi : ops[i]? = some oi)
    (hs : Region.noSelect ops = true) (hf : Region.free md ops listed i = true) (hr : (Region.ready md ops listed).contains i = true)
    (hQ : ∀ c a w, Q (.panic c) (a.put oi.dst v) w → Q (.panic c) a w) (hy : YieldsIf P ops F oi v a) (hF : F w)
    (h : jB P md ops Q n F fuel (listed.setIfInBounds i true) (a.put oi.dst v) w) : jB P md ops Q n F (fuel + 1) listed a w :=
  ud (G := F) hi (Region.noSelect_spec hs) hQ (fun listed' j hs' hj hiun w w' hw hww => by
    obtain ⟨_, oj, hoj, hall⟩ := mem_ready.1 hj
    have hjn : j < n := by
      have h1 := List.all_eq_true.1 hL j (List.mem_range.2 (Array.getElem?_eq_some_iff.1 hoj).1)
      rw [Bool.or_eq_true, decide_eq_true_eq] at h1
      rcases h1 with h1 | h1
      · exact h1
      ·
       have h2 := uc hs' 6 j i h1 (fun o ho e he hb => by
         rw [hoj] at ho
         obtain rfl := Option.some.inj ho
         exact hall e he hb)
       rw [getD_both hiun] at h2
       cases h2
    exact hww hjn hw) fuel listed a w (Uu hsh) (Region.free_spec hi hf) (by simpa using hr) hy hF h
theorem ue {i : Nat} {oi : Oper} {v : Value} {fuel : Nat} {listed : Array Bool} {a : Act} {w : World} (hsh : shutB md ops listed = true) (hi : ops[i]? = some oi)
    (hs : Region.noSelect ops = true) (hf : Region.free md ops listed i = true) (hr : (Region.ready md ops listed).contains i = true)
    (hQ : ∀ c a w, Q (.panic c) (a.put oi.dst v) w → Q (.panic c) a w) (hy : YieldsIf P ops (fun _ => True) oi v a)
    (h : jB P md ops Q n F fuel (listed.setIfInBounds i true) (a.put oi.dst v) w) : jB P md ops Q n F (fuel + 1) listed a w :=
  ud (G := fun _ => True) hi (Region.noSelect_spec hs) hQ (fun _ _ _ _ _ _ _ _ _ => trivial) fuel listed a w (Uu hsh) (Region.free_spec hi hf) (by simpa using hr) hy trivial h
def tkB (md : Region.Mode) (ops : Array Oper) (listed : Array Bool) (i : Nat) : Bool := shutB md ops listed && Region.noSelect ops && Region.free md ops listed i && (Region.ready md ops listed).contains i
theorem tkW (i : Nat) (v : Value) {oi : Oper} {fuel : Nat} {listed : Array Bool} {a : Act} {w : World} (hB : tkB md ops listed i = true) (hi : Z0 ops.toList i = some oi)
    (hQ : ∀ c a w, Q (.panic c) (a.put oi.dst v) w → Q (.panic c) a w) (hw : Region.wanted oi (yielded ops a.tmps) = true) (hv : ∀ w' : World, True → (execOp a.eval oi).run P w' = .ok (.value v) w')
    (h : jB P md ops Q n F fuel (listed.setIfInBounds i true) (a.put oi.dst v) w) : jB P md ops Q n F (fuel + 1) listed a w := by
  simp only [tkB, Bool.and_eq_true] at hB
  exact ue hB.1.1.1 (KM hi) hB.1.1.2 hB.1.2 hB.2 hQ (.inl ⟨hw, hv⟩) h
theorem tkN (i : Nat) {oi : Oper} {fuel : Nat} {listed : Array Bool} {a : Act} {w : World} (hB : tkB md ops listed i = true) (hi : Z0 ops.toList i = some oi)
    (hQ : ∀ c a w, Q (.panic c) (a.put oi.dst undef) w → Q (.panic c) a w) (hw : Region.wanted oi (yielded ops a.tmps) = false)
    (h : jB P md ops Q n F fuel (listed.setIfInBounds i true) (a.put oi.dst undef) w) : jB P md ops Q n F (fuel + 1) listed a w := by
  simp only [tkB, Bool.and_eq_true] at hB
  exact ue hB.1.1.1 (KM hi) hB.1.1.2 hB.1.2 hB.2 hQ (.inr ⟨hw, rfl⟩) h
theorem tkF (i : Nat) (v : Value) {oi : Oper} {fuel : Nat} {listed : Array Bool} {a : Act} {w : World} (hB : (lateB md ops n i && tkB md ops listed i) = true) (hi : Z0 ops.toList i = some oi)
    (hQ : ∀ c a w, Q (.panic c) (a.put oi.dst v) w → Q (.panic c) a w) (hw : Region.wanted oi (yielded ops a.tmps) = true) (hF : F w) (hv : ∀ w' : World, F w' → (execOp a.eval oi).run P w' = .ok (.value v) w')
    (h : jB P md ops Q n F fuel (listed.setIfInBounds i true) (a.put oi.dst v) w) : jB P md ops Q n F (fuel + 1) listed a w := by
  simp only [tkB, Bool.and_eq_true] at hB
  exact wpAnyN_take hB.1 hB.2.1.1.1 (KM hi) hB.2.1.1.2 hB.2.1.2 hB.2.2 hQ (.inl ⟨hw, hv⟩) hF h
theorem Kh {rs : List Nat} {fuel : Nat} {listed : Array Bool} {a : Act} {w : World} (hr : Region.ready md ops listed = rs) (hne : rs ≠ [])
    (h : ∀ i ∈ rs, wpOp P ops Q i (fun a' w' => (i < n → F w → F w') ∧ jB P md ops Q n F fuel (listed.setIfInBounds i true) a' w') a w) : jB P md ops Q n F (fuel + 1) listed a w :=
  ⟨fun h0 => absurd (hr ▸ h0) hne, hr ▸ h⟩
theorem tkA (i : Nat) {fuel : Nat} {listed : Array Bool} {a : Act} {w : World} (hr : Region.ready md ops listed = [i])
    (h : wpOp P ops Q i (fun a' w' => (i < n → F w → F w') ∧ jB P md ops Q n F fuel (listed.setIfInBounds i true) a' w') a w) : jB P md ops Q n F (fuel + 1) listed a w :=
  Kh hr (by simp) fun q hq => by
    obtain rfl : q = i := by simpa using hq
    exact h
theorem kv {listed : Array Bool} {a : Act} {w : World} (hr : Region.ready md ops listed = []) (h : Q .normal a w) : ∀ fuel, jB P md ops Q n F fuel listed a w
  | 0 => ⟨hr, h⟩
  | _ + 1 => ⟨fun _ => h, by rw [hr]; simp⟩
theorem tw (i : Nat) (v : Value) {oi : Oper} {fuel : Nat} {listed : Array Bool} {a : Act} {w : World} (h : jB P md ops Q n F fuel (listed.setIfInBounds i true) (a.put oi.dst v) w) (hB : tkB md ops listed i = true := by kernel_rfl) (hi : Z0 ops.toList i = some oi := by rfl)
    (hQ : ∀ c a w, Q (.panic c) (a.put oi.dst v) w → Q (.panic c) a w := by exact fun _ _ _ h => h) (hw : Region.wanted oi (yielded ops a.tmps) = true := by rfl) (hv : ∀ w' : World, True → (execOp a.eval oi).run P w' = .ok (.value v) w' := by exact fun _ _ => rfl) : jB P md ops Q n F (fuel + 1) listed a w := tkW i v hB hi hQ hw hv h
theorem tn (i : Nat) {oi : Oper} {fuel : Nat} {listed : Array Bool} {a : Act} {w : World} (h : jB P md ops Q n F fuel (listed.setIfInBounds i true) (a.put oi.dst undef) w) (hi : Z0 ops.toList i = some oi := by rfl) (hB : tkB md ops listed i = true := by kernel_rfl)
    (hQ : ∀ c a w, Q (.panic c) (a.put oi.dst undef) w → Q (.panic c) a w := by exact fun _ _ _ h => h) (hw : Region.wanted oi (yielded ops a.tmps) = false := by rfl) : jB P md ops Q n F (fuel + 1) listed a w := tkN i hB hi hQ hw h
theorem ta (i : Nat) {fuel : Nat} {listed : Array Bool} {a : Act} {w : World} (h : wpOp P ops Q i (fun a' w' => (i < n → F w → F w') ∧ jB P md ops Q n F fuel (listed.setIfInBounds i true) a' w') a w) (hr : Region.ready md ops listed = [i] := by kernel_rfl) : jB P md ops Q n F (fuel + 1) listed a w := tkA i hr h
theorem wp_region_N {id : Nat} {a : Act} {w : World} (n : Nat) (F : World → Prop) (hm : P.follows .mixedOrders = true)
    (h : jB P .any ops Q n F ops.size (Array.replicate ops.size false) a w.drew) : (Code.region id ops true).wp P Q a w :=
  wp_region_any hm (Uv _ _ _ _ h)
end
section
variable {P : Program} {ρ : Operand → Value} {o : Oper} {w : World}
theorem jm (ty : TypeId) (x : Operand) (ho : o.op = .load ty x) {p : Addr} (hx : ρ x = .pointer (some p)) {d : TypeDesc} (hu : P.underlying ty = some d) (hd : (match d with | .struct _ | .array _ _ => true | _ => false) = false) {v : Value} (hc : w.cell? p = some v) :
    (execOp ρ o).run P w = .ok (.value v) w := by
  refine k9 ty x ho hx ?_
  unfold loadVar isAgg
  simp only [Sem.run_bind, run_underlying hu, Result.andThen_ok]
  cases d <;> first | (cases hd; done) | simp [Result.andThen, hc]
theorem Uw (t : TypeId) (x : Operand) (ho : o.op = .call { callee := .builtin .len, args := #[x], argTypes := #[t] }) {A : Option Addr} {n c : Nat} (hx : ρ x = .slice A n c) {e : TypeId} (ht : P.underlying t = some (.slice e)) : (execOp ρ o).run P w = .ok (.value (.int .i64 (n : Int))) w := by
  unfold execOp
  simp [ho, resolve, invoke, builtin, Builtin.len_, run_underlying ht, Result.andThen, hx]
  rfl
end
end Go.Proofs.YthjaepmfkgejkaaGreatDoor
