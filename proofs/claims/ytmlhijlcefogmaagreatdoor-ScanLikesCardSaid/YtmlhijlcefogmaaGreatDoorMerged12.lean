/-
  A region that draws its order and ends in operations that write: a condition on the worlds that has to hold only behind the first n operations; an operation for which all others wait (be it by others) yields its value in every such world, or an operation that looks at no world: either may be taken first. Over any program; conditions as each says.
  The rows of lists that the search makes again: how they begin and grow. Conditions: rows of at most 100000 numbers, kept where the search's box says.
  Structs put together from parts of several cells; a slice of one such element. Over any program; conditions as each says.
  A slice of one element of one cell, built at a step taken by hand. Over any program; conditions as it says.
-/
import Derived.Test.YtmlhijlcefogmaaGreatDoorMerged11
import Derived.StillTail
import Derived.Maps.RangeWalk
import Derived.WalkSpells
import Derived.Test.YtmlhijlcefogmaaGreatDoorMerged8
import Derived.Great.FillDense
import Derived.Laws.Tables
set_option linter.unusedVariables false
set_option linter.unusedSimpArgs false
namespace Go.Proofs.YtmlhijlcefogmaaGreatDoor
open Go.RowKit Go.Maps

/-- Operation j waits for i, by itself or by others. -/
def behindB (md : Region.Mode) (ops : Array Oper) : Nat → Nat → Nat → Bool
  | 0, _, _ => false
  | f + 1, j, i => match ops[j]? with
    | some o => o.after.any fun e => Region.binds md e && (decide (e.on = i) || behindB md ops f e.on i)
    | none => false
/-- Each operation from number n on waits for i. -/
def lateB (md : Region.Mode) (ops : Array Oper) (n i : Nat) : Bool := (List.range ops.size).all fun j => decide (j < n) || behindB md ops 6 j i
/-- What has come up has all that it waits for behind it. -/
def Shut (md : Region.Mode) (ops : Array Oper) (listed : Array Bool) : Prop := ∀ j o, ops[j]? = some o → listed.getD j false = true → ∀ e ∈ o.after, Region.binds md e = true → listed.getD e.on false = true
def shutB (md : Region.Mode) (ops : Array Oper) (listed : Array Bool) : Bool := (List.range ops.size).all fun j => !listed.getD j false || (match ops[j]? with
  | some o => o.after.all fun e => !Region.binds md e || listed.getD e.on false
  | none => true)
theorem shutB_spec {md : Region.Mode} {ops : Array Oper} {listed : Array Bool} (h : shutB md ops listed = true) : Shut md ops listed := by
  intro j o ho hl e he hb
  have h1 := List.all_eq_true.1 h j (List.mem_range.2 (Array.getElem?_eq_some_iff.1 ho).1)
  rw [ho, hl] at h1
  have h2 : (o.after.all fun e => !Region.binds md e || listed.getD e.on false) = true := by simpa only [Bool.not_true, Bool.false_or] using h1
  have h3 := Array.all_eq_true'.1 h2 e he
  rw [hb] at h3
  simpa only [Bool.not_true, Bool.false_or] using h3
theorem behindB_spec {md : Region.Mode} {ops : Array Oper} {listed : Array Bool} (hs : Shut md ops listed) : ∀ (f j i : Nat), behindB md ops f j i = true → (∀ o, ops[j]? = some o → ∀ e ∈ o.after, Region.binds md e = true → listed.getD e.on false = true) → listed.getD i false = true
  | 0, _, _, h, _ => by cases h
  | f + 1, j, i, h, hr => by
    unfold behindB at h
    split at h
    · rename_i o ho
      obtain ⟨e, he, h2⟩ := Array.any_eq_true'.1 h
      rw [Bool.and_eq_true, Bool.or_eq_true, decide_eq_true_eq] at h2
      have hl := hr o ho e he h2.1
      rcases h2.2 with q | q
      · rw [← q]; exact hl
      · exact behindB_spec hs f e.on i q fun o' ho' e' he' hb' => hs e.on o' ho' hl e' he' hb'
    · cases h
theorem Shut.set {md : Region.Mode} {ops : Array Oper} {listed : Array Bool} (h : Shut md ops listed) {j : Nat} (hj : j ∈ Region.ready md ops listed) : Shut md ops (listed.setIfInBounds j true) := by
  intro k o ho hl e he hb
  by_cases hjk : j = k
  · subst hjk
    obtain ⟨_, o', ho', hall⟩ := mem_ready.1 hj
    rw [ho] at ho'
    obtain rfl := Option.some.inj ho'
    exact getD_set_true (hall e he hb)
  · rw [getD_set_ne false hjk] at hl
    exact getD_set_true (h k o ho hl e he hb)
/-- Whatever order is picked from here on; F holds behind each of the first n. -/
def wpAnyN (P : Program) (md : Region.Mode) (ops : Array Oper) (Q : Exit → Act → World → Prop) (n : Nat) (F : World → Prop) : Nat → Array Bool → Act → World → Prop
  | 0, listed, a, w => Region.ready md ops listed = [] ∧ Q .normal a w
  | fuel + 1, listed, a, w =>
    (Region.ready md ops listed = [] → Q .normal a w) ∧
    ∀ i ∈ Region.ready md ops listed, wpOp P ops Q i (fun a' w' => (i < n → F w → F w') ∧ wpAnyN P md ops Q n F fuel (listed.setIfInBounds i true) a' w') a w
section
variable {P : Program} {md : Region.Mode} {ops : Array Oper} {Q : Exit → Act → World → Prop} {n : Nat} {F : World → Prop}
theorem wpAny_of_N : ∀ (fuel : Nat) (listed : Array Bool) (a : Act) (w : World), wpAnyN P md ops Q n F fuel listed a w → wpAny P md ops Q fuel listed a w
  | 0, _, _, _, h => h
  | fuel + 1, _, _, _, h => ⟨h.1, fun i hi => wpOp_mono (fun a' w' h' => wpAny_of_N fuel _ a' w' h'.2) (h.2 i hi)⟩
theorem wpAnyN_first {G : World → Prop} {i : Nat} {oi : Oper} {v : Value} (hi : ops[i]? = some oi) (hsel : ∀ (j : Nat) (o : Oper) cs b, ops[j]? = some o → o.op ≠ .select cs b)
    (hQ : ∀ c a w, Q (.panic c) (a.put oi.dst v) w → Q (.panic c) a w)
    (hG : ∀ (listed : Array Bool) j, Shut md ops listed → j ∈ Region.ready md ops listed → listed.getD i true = false → ∀ w w', G w → (j < n → F w → F w') → G w') :
    ∀ (fuel : Nat) (listed : Array Bool) (a : Act) (w : World), Shut md ops listed →
      (∀ j oj, ops[j]? = some oj → j ≠ i → listed.getD j true = false → (∀ e ∈ oj.after, Region.binds md e = true → e.on ≠ i) → oi.apart ops oj = true) →
      i ∈ Region.ready md ops listed → YieldsIf P ops G oi v a → G w →
      wpAnyN P md ops Q n F fuel (listed.setIfInBounds i true) (a.put oi.dst v) w → wpAnyN P md ops Q n F (fuel + 1) listed a w := by
  intro fuel
  induction fuel with
  | zero =>
    intro listed a w _ _ hr hy hg H
    refine ⟨fun h => (by rw [h] at hr; cases hr), fun j hj => ?_⟩
    by_cases hji : j = i
    · subst hji; exact hy.wpOp hi hg ⟨fun _ h => h, H⟩
    · have := ready_mono hj hji
      rw [H.1] at this
      cases this
  | succ fuel ih =>
    intro listed a w hsh hfree hr hy hg H
    refine ⟨fun h => (by rw [h] at hr; cases hr), fun j hj => ?_⟩
    by_cases hji : j = i
    · subst hji; exact hy.wpOp hi hg ⟨fun _ h => h, H⟩
    · have h1 := H.2 j (ready_mono hj hji)
      obtain ⟨hjun, oj, hoj, hall⟩ := mem_ready.1 hj
      have hiun := (mem_ready.1 hr).1
      have hnot : ∀ e ∈ oj.after, Region.binds md e = true → e.on ≠ i := fun e he hb heq => by
        have h2 := hall e he hb
        rw [heq, getD_both hiun] at h2
        cases h2
      have h2 := wpOp_putIf hoj (hfree j oj hoj hji hjun hnot) (fun cs b => hsel i oi cs b hi) (fun cs b => hsel j oj cs b hoj) hQ hy h1
      have hfree' : ∀ k ok, ops[k]? = some ok → k ≠ i → (listed.setIfInBounds j true).getD k true = false →
          (∀ e ∈ ok.after, Region.binds md e = true → e.on ≠ i) → oi.apart ops ok = true := fun k ok hk hki hun hno => by
        refine hfree k ok hk hki ?_ hno
        by_cases hjk : j = k
        · subst hjk; exact hjun
        · rw [getD_set_ne true hjk] at hun; exact hun
      refine wpOp_mono (fun a' w' h3 => ⟨h3.2.1, ih (listed.setIfInBounds j true) a' w' (hsh.set hj) hfree' (ready_mono hr (Ne.symm hji)) h3.1 (hG listed j hsh hj hiun w w' hg h3.2.1) ?_⟩) h2
      rw [Array.setIfInBounds_comm _ _ hji]
      exact h3.2.2
theorem wpAnyN_take {i : Nat} {oi : Oper} {v : Value} {fuel : Nat} {listed : Array Bool} {a : Act} {w : World} (hL : lateB md ops n i = true) (hsh : shutB md ops listed = true) (hi : ops[i]? = some oi)
    (hs : Region.noSelect ops = true) (hf : Region.free md ops listed i = true) (hr : (Region.ready md ops listed).contains i = true)
    (hQ : ∀ c a w, Q (.panic c) (a.put oi.dst v) w → Q (.panic c) a w) (hy : YieldsIf P ops F oi v a) (hF : F w)
    (h : wpAnyN P md ops Q n F fuel (listed.setIfInBounds i true) (a.put oi.dst v) w) : wpAnyN P md ops Q n F (fuel + 1) listed a w :=
  wpAnyN_first (G := F) hi (Region.noSelect_spec hs) hQ (fun listed' j hs' hj hiun w w' hw hww => by
    obtain ⟨_, oj, hoj, hall⟩ := mem_ready.1 hj
    have hjn : j < n := by
      have h1 := List.all_eq_true.1 hL j (List.mem_range.2 (Array.getElem?_eq_some_iff.1 hoj).1)
      rw [Bool.or_eq_true, decide_eq_true_eq] at h1
      rcases h1 with h1 | h1
      · exact h1
      · have h2 := behindB_spec hs' 6 j i h1 (fun o ho e he hb => by
          rw [hoj] at ho
          obtain rfl := Option.some.inj ho
          exact hall e he hb)
        rw [getD_both hiun] at h2
        cases h2
    exact hww hjn hw) fuel listed a w (shutB_spec hsh) (Region.free_spec hi hf) (by simpa using hr) hy hF h
/-- An operation that looks at no world. -/
theorem wpAnyN_takeW {i : Nat} {oi : Oper} {v : Value} {fuel : Nat} {listed : Array Bool} {a : Act} {w : World} (hsh : shutB md ops listed = true) (hi : ops[i]? = some oi)
    (hs : Region.noSelect ops = true) (hf : Region.free md ops listed i = true) (hr : (Region.ready md ops listed).contains i = true)
    (hQ : ∀ c a w, Q (.panic c) (a.put oi.dst v) w → Q (.panic c) a w) (hy : YieldsIf P ops (fun _ => True) oi v a)
    (h : wpAnyN P md ops Q n F fuel (listed.setIfInBounds i true) (a.put oi.dst v) w) : wpAnyN P md ops Q n F (fuel + 1) listed a w :=
  wpAnyN_first (G := fun _ => True) hi (Region.noSelect_spec hs) hQ (fun _ _ _ _ _ _ _ _ _ => trivial) fuel listed a w (shutB_spec hsh) (Region.free_spec hi hf) (by simpa using hr) hy trivial h
/-- May operation i be taken now? -/
def tkB (md : Region.Mode) (ops : Array Oper) (listed : Array Bool) (i : Nat) : Bool := shutB md ops listed && Region.noSelect ops && Region.free md ops listed i && (Region.ready md ops listed).contains i
/-- As wpAnyN_takeW: an operation that looks at no world. -/
theorem tkW (i : Nat) (v : Value) {oi : Oper} {fuel : Nat} {listed : Array Bool} {a : Act} {w : World} (hB : tkB md ops listed i = true) (hi : opAt ops.toList i = some oi)
    (hQ : ∀ c a w, Q (.panic c) (a.put oi.dst v) w → Q (.panic c) a w) (hw : Region.wanted oi (yielded ops a.tmps) = true) (hv : ∀ w' : World, True → (execOp a.eval oi).run P w' = .ok (.value v) w')
    (h : wpAnyN P md ops Q n F fuel (listed.setIfInBounds i true) (a.put oi.dst v) w) : wpAnyN P md ops Q n F (fuel + 1) listed a w := by
  simp only [tkB, Bool.and_eq_true] at hB
  exact wpAnyN_takeW hB.1.1.1 (opAt_spec hi) hB.1.1.2 hB.1.2 hB.2 hQ (.inl ⟨hw, hv⟩) h
/-- As wpAnyN_take: an operation that looks at a world. -/
theorem tkF (i : Nat) (v : Value) {oi : Oper} {fuel : Nat} {listed : Array Bool} {a : Act} {w : World} (hB : (lateB md ops n i && tkB md ops listed i) = true) (hi : opAt ops.toList i = some oi)
    (hQ : ∀ c a w, Q (.panic c) (a.put oi.dst v) w → Q (.panic c) a w) (hw : Region.wanted oi (yielded ops a.tmps) = true) (hF : F w) (hv : ∀ w' : World, F w' → (execOp a.eval oi).run P w' = .ok (.value v) w')
    (h : wpAnyN P md ops Q n F fuel (listed.setIfInBounds i true) (a.put oi.dst v) w) : wpAnyN P md ops Q n F (fuel + 1) listed a w := by
  simp only [tkB, Bool.and_eq_true] at hB
  exact wpAnyN_take hB.1 hB.2.1.1.1 (opAt_spec hi) hB.2.1.1.2 hB.2.1.2 hB.2.2 hQ (.inl ⟨hw, hv⟩) hF h
theorem wpAnyN_all {rs : List Nat} {fuel : Nat} {listed : Array Bool} {a : Act} {w : World} (hr : Region.ready md ops listed = rs) (hne : rs ≠ [])
    (h : ∀ i ∈ rs, wpOp P ops Q i (fun a' w' => (i < n → F w → F w') ∧ wpAnyN P md ops Q n F fuel (listed.setIfInBounds i true) a' w') a w) : wpAnyN P md ops Q n F (fuel + 1) listed a w :=
  ⟨fun h0 => absurd (hr ▸ h0) hne, hr ▸ h⟩
/-- The one operation that is ready. -/
theorem tkA (i : Nat) {fuel : Nat} {listed : Array Bool} {a : Act} {w : World} (hr : Region.ready md ops listed = [i])
    (h : wpOp P ops Q i (fun a' w' => (i < n → F w → F w') ∧ wpAnyN P md ops Q n F fuel (listed.setIfInBounds i true) a' w') a w) : wpAnyN P md ops Q n F (fuel + 1) listed a w :=
  wpAnyN_all hr (by simp) fun q hq => by
    obtain rfl : q = i := by simpa using hq
    exact h
theorem wpAnyN_done {listed : Array Bool} {a : Act} {w : World} (hr : Region.ready md ops listed = []) (h : Q .normal a w) : ∀ fuel, wpAnyN P md ops Q n F fuel listed a w
  | 0 => ⟨hr, h⟩
  | _ + 1 => ⟨fun _ => h, by rw [hr]; simp⟩
/-- The same, what is closed found by itself. -/
theorem tw (i : Nat) (v : Value) {oi : Oper} {fuel : Nat} {listed : Array Bool} {a : Act} {w : World} (h : wpAnyN P md ops Q n F fuel (listed.setIfInBounds i true) (a.put oi.dst v) w) (hB : tkB md ops listed i = true := by kernel_rfl) (hi : opAt ops.toList i = some oi := by rfl)
    (hQ : ∀ c a w, Q (.panic c) (a.put oi.dst v) w → Q (.panic c) a w := by exact fun _ _ _ h => h) (hw : Region.wanted oi (yielded ops a.tmps) = true := by rfl) (hv : ∀ w' : World, True → (execOp a.eval oi).run P w' = .ok (.value v) w' := by exact fun _ _ => rfl) : wpAnyN P md ops Q n F (fuel + 1) listed a w := tkW i v hB hi hQ hw hv h
theorem tv (i : Nat) (v : Value) {oi : Oper} {fuel : Nat} {listed : Array Bool} {a : Act} {w : World} (hv : ∀ w' : World, True → (execOp a.eval oi).run P w' = .ok (.value v) w') (h : wpAnyN P md ops Q n F fuel (listed.setIfInBounds i true) (a.put oi.dst v) w) (hi : opAt ops.toList i = some oi := by rfl) (hB : tkB md ops listed i = true := by kernel_rfl)
    (hQ : ∀ c a w, Q (.panic c) (a.put oi.dst v) w → Q (.panic c) a w := by exact fun _ _ _ h => h) (hw : Region.wanted oi (yielded ops a.tmps) = true := by rfl) : wpAnyN P md ops Q n F (fuel + 1) listed a w := tkW i v hB hi hQ hw hv h
theorem ta (i : Nat) {fuel : Nat} {listed : Array Bool} {a : Act} {w : World} (h : wpOp P ops Q i (fun a' w' => (i < n → F w → F w') ∧ wpAnyN P md ops Q n F fuel (listed.setIfInBounds i true) a' w') a w) (hr : Region.ready md ops listed = [i] := by kernel_rfl) : wpAnyN P md ops Q n F (fuel + 1) listed a w := tkA i hr h
/-- The beginning. -/
theorem wp_region_N {id : Nat} {a : Act} {w : World} (n : Nat) (F : World → Prop) (hm : P.follows .mixedOrders = true)
    (h : wpAnyN P .any ops Q n F ops.size (Array.replicate ops.size false) a w.drew) : (Code.region id ops true).wp P Q a w :=
  wp_region_any hm (wpAny_of_N _ _ _ _ h)
end

section
variable {P : Program} {ρ : Operand → Value} {o : Oper} {w : World}
/-- A load of one cell. -/
theorem ex_load1 (ty : TypeId) (x : Operand) (ho : o.op = .load ty x) {p : Addr} (hx : ρ x = .pointer (some p)) {d : TypeDesc} (hu : P.underlying ty = some d) (hd : (match d with | .struct _ | .array _ _ => true | _ => false) = false) {v : Value} (hc : w.cell? p = some v) :
    (execOp ρ o).run P w = .ok (.value v) w := by
  refine ex_load ty x ho hx ?_
  unfold loadVar isAgg
  simp only [Sem.run_bind, run_underlying hu, Result.andThen_ok]
  cases d <;> first | (cases hd; done) | simp [Result.andThen, hc]
/-- An element's place, elements of one cell. -/
theorem ex_index1 (t : TypeId) (x y : Operand) (ho : o.op = .indexAddr t x y) {X n c q : Nat} (hx : ρ x = .slice (some ⟨X, 0, none⟩) n c) (hy : ρ y = .int .i64 (q : Int)) (hq : q < n) {e : TypeId} (ht : P.underlying t = some (.slice e)) (hi : (P.info? e).map (·.size) = some 1) :
    (execOp ρ o).run P w = .ok (.value (.pointer (some ⟨X, q, none⟩))) w := by
  cases hp : P.info? e with
  | none => simp [hp] at hi
  | some i =>
    have hs : i.size = 1 := by simpa [hp] using hi
    unfold execOp
    simp [ho, hx, hy, Instr.indexAt, asIntOf, run_underlying ht, sizeOf, typeInfo, hp, hs, Sem.run_bind, Result.andThen, hq, Addr.add]
    try omega
/-- A slice's length. -/
theorem ex_len (t : TypeId) (x : Operand) (ho : o.op = .call { callee := .builtin .len, args := #[x], argTypes := #[t] }) {A : Option Addr} {n c : Nat} (hx : ρ x = .slice A n c) {e : TypeId} (ht : P.underlying t = some (.slice e)) : (execOp ρ o).run P w = .ok (.value (.int .i64 (n : Int))) w := by
  unfold execOp
  simp [ho, resolve, invoke, builtin, Builtin.len_, run_underlying ht, Result.andThen, hx]
  rfl
end
end Go.Proofs.YtmlhijlcefogmaaGreatDoor
namespace Go.Proofs.YtmlhijlcefogmaaGreatDoor
open Go.RowKit Go.Maps Go.Shelf

/-- What stands between the calls of list. -/
def BlkAt (a b : List Int) (B M base : Nat) (A A' : Option Addr) (ca cb : Nat) (w0 w : World) : Prop :=
  CostAt a b B M base A A' ca cb (.slice none 0 0) (.int .i64 ((0 : Nat) : Int)) w0 (C a b 0 0 + 1) w ∨ ∃ from' k v3, from' % 64 = 0 ∧ k ≤ 64 ∧ ListAt a b B M base A A' ca cb w0 from' k v3 w
def ListGives (a b : List Int) (B M base : Nat) (A A' : Option Addr) (ca cb : Nat) (w0 w : World) (d : Nat) (e : Ending) (w' : World) : Prop :=
  ∃ g c, e = .returned (.slice (some ⟨g, 0, none⟩) (d + 1) c) ∧ BlkAt a b B M base A A' ca cb w0 w' ∧ Sl w' w'.heap.size (some ⟨g, 0, none⟩) (d + 1) 1 (natV (lst a b d)) ∧ ForKept B w w' ∧ Below base w w'
theorem slsInfo : (Tryz.prog.info? 75).map (fun i => (i.zero, i.size, i.bytes)) = some (some (.slice none 0 0), 1, 24) := by kernel_rfl
theorem zeroSls (w : World) : (zeroValue 75).run Tryz.prog w = .ok (.slice none 0 0) w := by
  obtain ⟨i, h1, h2, _, _⟩ := info_parts slsInfo
  simp [zeroValue, typeInfo, h1, h2]
section
variable {a b : List Int} {B M base ca cb d : Nat} {A A' : Option Addr} {v3 v4 : Value} {w0 w w' : World}
/-- Behind the box's stores: a new row of lists. -/
theorem CostAt.fresh {v : Value} {fr : Nat} (h : CostAt a b B M base A A' ca cb v3 v4 w0 (C a b 0 0 + 1) w) (hbs : base ≤ w.heap.size) (hBb : base ≤ B) (hMb : base ≤ M) (hBM : B ≠ M) (hsa : Sl w0 base A a.length 1 (i32V a)) (hsb : Sl w0 base A' b.length 1 (i32V b)) (hv : LstAt a b w v fr) :
    ListAt a b B M base A A' ca cb w0 fr 1 (.slice (some ⟨w.heap.size, 0, none⟩) 1 1) (((w.setCell ⟨B, 4, none⟩ (.int .i64 (fr : Int))).setCell ⟨B, 3, none⟩ (.slice (some ⟨w.heap.size, 0, none⟩) 1 1)).alloc (.cells #[v] 75)) := by
  have hBz : B < w.heap.size := (Array.getElem?_eq_some_iff.1 h.box).1
  have hbox2 := set_block (j := 3) (set_block (j := 4) h.box (.int .i64 (fr : Int))) (.slice (some ⟨w.heap.size, 0, none⟩) 1 1)
  have hoth : ∀ k, k ≠ B → ((w.setCell ⟨B, 4, none⟩ (.int .i64 (fr : Int))).setCell ⟨B, 3, none⟩ (.slice (some ⟨w.heap.size, 0, none⟩) 1 1)).heap[k]? = w.heap[k]? := fun k hk => (Below.heap_setCell _ _ _ _ hk).trans (Below.heap_setCell _ _ _ _ hk)
  have hbel : Below base w ((w.setCell ⟨B, 4, none⟩ (.int .i64 (fr : Int))).setCell ⟨B, 3, none⟩ (.slice (some ⟨w.heap.size, 0, none⟩) 1 1)) := ((Below.refl _ _).setCell hBb _).setCell hBb _
  have hsz2 : ((w.setCell ⟨B, 4, none⟩ (.int .i64 (fr : Int))).setCell ⟨B, 3, none⟩ (.slice (some ⟨w.heap.size, 0, none⟩) 1 1)).heap.size = w.heap.size := by simp [World.setCell]
  generalize (w.setCell ⟨B, 4, none⟩ (.int .i64 (fr : Int))).setCell ⟨B, 3, none⟩ (.slice (some ⟨w.heap.size, 0, none⟩) 1 1) = w1 at *
  have hX : ∀ k, w.cell? ⟨B, 0, none⟩ ≠ some (.int .i32 k) := fun k e => by rw [cells_box h.box 0] at e; cases e
  have h1 := h.but hMb hBb hBM hX (by omega) hbel (fun k hk hkB => hoth k hkB) hsa hsb (by omega) hbox2
  have hv1 := hv.but hX (by omega) fun k hk hkB => hoth k hkB
  have hal : Below w1.heap.size w1 (w1.alloc (.cells #[v] 75)) := (Below.refl _ _).alloc (Nat.le_refl _) _
  have hnew : (w1.alloc (.cells #[v] 75)).heap[w1.heap.size]? = some (.cells #[v] 75 (0, 0)) := heap_alloc_new _ _
  rw [hsz2] at hnew
  refine ⟨h1.below (by omega) hal, by decide, [v], ⟨by simp, .inr ⟨w.heap.size, 1, #[v], rfl, hbs, hnew, Nat.le_refl _, by decide, by simp, by simp⟩⟩, fun j hj => ?_⟩
  obtain rfl : j = 0 := by omega
  exact ⟨v, rfl, hv1.below hal⟩
theorem row_noI32 {k : Nat} (h : ListAt a b B M base A A' ca cb w0 d k v3 w) : ∃ X c, v3 = .slice (some ⟨X, 0, none⟩) k c ∧ base ≤ X ∧ X ≠ B ∧ X ≠ M ∧ ∀ i, w.cell? ⟨X, 0, none⟩ ≠ some (.int .i32 i) := by
  obtain ⟨vs, ho, hl⟩ := h.row
  have hp := h.pos
  have ho' := ho
  obtain ⟨_, h2⟩ := ho
  rcases h2 with ⟨rfl, h0⟩ | ⟨g, cap, cur, rfl, hg, hh, r⟩
  · omega
  · refine ⟨g, cap, rfl, hg, ?_, ?_, fun i e => ?_⟩
    · rintro rfl
      have hb := h.cost.box
      rw [hh] at hb
      injection hb with hb
      injection hb with _ hb _
      revert hb
      decide
    · rintro rfl
      obtain ⟨nn, mm, _, ⟨D, ⟨es, clock, hbk, _⟩, _⟩, _⟩ := h.cost.map
      rw [hh] at hbk
      cases hbk
    · obtain ⟨v, hv, g2, c2, rfl, _⟩ := hl 0 hp
      have hc := ho'.cellAt 0 (by omega)
      rw [hv] at hc
      rw [hc] at e
      cases e
/-- Behind the append and the box's store: one list more. -/
theorem ListAt.grow {k fr : Nat} {v v3' : Value} {vs : List Value} (h : ListAt a b B M base A A' ca cb w0 fr k v3 w) (hbs : base ≤ w.heap.size) (hBb : base ≤ B) (hMb : base ≤ M) (hBM : B ≠ M) (hsa : Sl w0 base A a.length 1 (i32V a)) (hsb : Sl w0 base A' b.length 1 (i32V b))
    (hl : ∀ j, j < k → ∃ v, vs[j]? = some v ∧ LstAt a b w v (fr + j)) (hlen : vs.length = k) (hv : LstAt a b w v (fr + k)) (ho : w'.ownsRow base 75 1 v3' (k + 1) (vs ++ [v])) (hg : w.grownBy w' v3.ownBlock) (hne : v3'.ownBlock ≠ some B) :
    ListAt a b B M base A A' ca cb w0 fr (k + 1) v3' (w'.setCell ⟨B, 3, none⟩ v3') := by
  obtain ⟨X, c, rfl, hXb, hXB, hXM, hX⟩ := row_noI32 h
  have hk1 : ∀ i, i < w.heap.size → i ≠ X → w'.heap[i]? = w.heap[i]? := fun i hi hiX => hg.block i hi fun e => hiX (by simpa [Value.ownBlock] using e)
  have hbel : Below base w w' := (Below.refl _ _).grown hg hbs (fun i e => by have : i = X := by simpa [Value.ownBlock] using e.symm
                                                                              omega)
  have hBz : B < w.heap.size := (Array.getElem?_eq_some_iff.1 h.cost.box).1
  have hbox1 : w'.heap[B]? = some (.cells #[.slice A a.length ca, .slice A' b.length cb, .map (some M), .slice (some ⟨X, 0, none⟩) k c, .int .i64 (fr : Int)] 176 (0, 0)) := (hk1 B hBz (fun e => hXB e.symm)).trans h.cost.box
  have hc1 := h.cost.but hMb hXb hXM hX hg.size hbel hk1 hsa hsb (Nat.le_trans hbs hg.size) hbox1
  have hX1 : ∀ i, w'.cell? ⟨B, 0, none⟩ ≠ some (.int .i32 i) := fun i e => by rw [cells_box hbox1 0] at e; cases e
  have hsz : (w'.setCell ⟨B, 3, none⟩ v3').heap.size = w'.heap.size := by simp [World.setCell]
  have hoth : ∀ i, i < w'.heap.size → i ≠ B → (w'.setCell ⟨B, 3, none⟩ v3').heap[i]? = w'.heap[i]? := fun i _ hi => Below.heap_setCell _ _ _ _ hi
  have hcost := hc1.but hMb hBb hBM hX1 (by omega) ((Below.refl _ _).setCell hBb _) hoth hsa hsb (by have := hg.size; omega) (set_block (j := 3) hbox1 v3')
  refine ⟨hcost, by omega, vs ++ [v], ownsRow_setCell_other ho hne _, fun j hj => ?_⟩
  have key : ∀ u e, LstAt a b w u e → LstAt a b (w'.setCell ⟨B, 3, none⟩ v3') u e := fun u e hu => (hu.but hX hg.size hk1).but hX1 (by omega) hoth
  rcases (by omega : j < k ∨ j = k) with q | rfl
  · obtain ⟨u, e, hu⟩ := hl j q
    exact ⟨u, by rw [List.getElem?_append_left (by omega)]; exact e, key u _ hu⟩
  · exact ⟨v, by rw [List.getElem?_append_right (by omega), hlen]; simp, key v _ hv⟩
end
end Go.Proofs.YtmlhijlcefogmaaGreatDoor
namespace Go.Proofs.YtmlhijlcefogmaaGreatDoor
open Go.RowKit

/-- A slice literal of elements of several cells. -/
theorem run_buildSliceN {P : Program} (w : World) (t e : TypeId) (ht : P.underlying t = some (.slice e)) (z : Value) (size bytes : Nat) (hinf : (P.info? e).map (fun i => (i.zero, i.size, i.bytes)) = some (some z, size, bytes)) (hz1 : z.cells.size = size) (hsz : 0 < size)
    (vs : List Value) (hv : ∀ v ∈ vs, v.cells.size = size) (hn0 : 0 < vs.length) (hmax : vs.length * size ≤ 16777216) :
    (Instr.buildSlice t vs.length ((vs.zipIdx 0).map fun x => (x.2, x.1)).toArray).run P w = .ok (.slice (some ⟨w.heap.size, 0, none⟩) vs.length vs.length) (w.alloc (.cells (vs.flatMap fun v => v.cells.toList).toArray e)) := by
  obtain ⟨i, hi, hi0, hi1, hi2⟩ : ∃ i, P.info? e = some i ∧ i.zero = some z ∧ i.size = size ∧ i.bytes = bytes := by
    cases hq : P.info? e with
    | none => simp [hq] at hinf
    | some i => simp [hq] at hinf; exact ⟨i, rfl, hinf.1, hinf.2.1, hinf.2.2⟩
  have hpos : vs.length * size ≠ 0 := Nat.mul_ne_zero (by omega) (by omega)
  have hne : ¬ (vs.length * size > 2 ^ 24) := by omega
  have hfill : Instr.fill (fun k => some (k * size, size)) ((Array.range (vs.length * size)).map (z.cells[· % z.cells.size]!)) ((vs.zipIdx 0).map fun x => (x.2, x.1)) = some (vs.flatMap fun v => v.cells.toList).toArray :=
    Go.Great.fill_whole hsz vs _ hv (by simp)
  unfold Instr.buildSlice
  have hsize : (sizeOf e).run P w = .ok size w := by simp [sizeOf, typeInfo, hi, hi1]
  have hzero : (zeroValue e).run P w = .ok z w := by simp [zeroValue, typeInfo, hi, hi0]
  simp only [Sem.run_bind, run_underlying ht, Result.andThen_ok, hsize, if_neg hne, if_neg hpos, hzero, Sem.run_pure, hfill]
  rfl
/-- '[]T{x}' with x of several cells. -/
theorem wp_buildSlice1 {P : Program} {ops : Array Oper} {rest : List Oper} {o : Oper} {a : Act} {w : World} {Q : Exit → Act → World → Prop} (hw : Region.wanted o (yielded ops a.tmps) = true) (t : TypeId) (x : Operand) (ho : o.op = .buildSlice t 1 #[(0, x)])
    (e : TypeId) (ht : P.underlying t = some (.slice e)) (z : Value) (size bytes : Nat) (hinf : (P.info? e).map (fun i => (i.zero, i.size, i.bytes)) = some (some z, size, bytes)) (hz1 : z.cells.size = size) (hsz : 0 < size) (hmax : size ≤ 16777216)
    (us : List Value) (hl : us.length = size) (hx : a.eval x = .agg us.toArray)
    (h : wpList P ops Q rest (a.put o.dst (.slice (some ⟨w.heap.size, 0, none⟩) 1 1)) (w.alloc (.cells us.toArray e))) : wpList P ops Q (o :: rest) a w := by
  have hrun := run_buildSliceN w t e ht z size bytes hinf hz1 hsz [.agg us.toArray] (fun v hv => by rw [List.mem_singleton.1 hv]; exact hl) (by simp) (by simpa using hmax)
  simp only [List.flatMap_cons, List.flatMap_nil, List.append_nil] at hrun
  refine BigFrame.wpList_want hw fun K hK => ?_
  have := hK _ _ h
  unfold Oper.wp execOp
  simp only [ho, List.map_toArray, List.map_cons, List.map_nil, hx, Sem.run_bind]
  have h2 : (Instr.buildSlice t 1 #[(0, .agg us.toArray)]).run P w = .ok (.slice (some ⟨w.heap.size, 0, none⟩) 1 1) (w.alloc (.cells us.toArray e)) := hrun
  rw [h2]
  exact this
end Go.Proofs.YtmlhijlcefogmaaGreatDoor
namespace Go.Proofs.YtmlhijlcefogmaaGreatDoor
open Go.RowKit Go.Maps

theorem ex_build1c {P : Program} {ρ : Operand → Value} {o : Oper} {w : World} (t : TypeId) (x : Operand) (ho : o.op = .buildSlice t 1 #[(0, x)]) (e : TypeId) (ht : P.underlying t = some (.slice e)) (z : Value) (bytes : Nat) (hinf : (P.info? e).map (fun i => (i.zero, i.size, i.bytes)) = some (some z, 1, bytes)) (hz1 : z.cells.size = 1)
    (v : Value) (hx : ρ x = v) (hv : v.cells = #[v]) : (execOp ρ o).run P w = .ok (.value (.slice (some ⟨w.heap.size, 0, none⟩) 1 1)) (w.alloc (.cells #[v] e)) := by
  have hrun := run_buildSliceN w t e ht z 1 bytes hinf hz1 (by decide) [v] (fun u hu => by rw [List.mem_singleton.1 hu, hv]; rfl) (by simp) (by simp)
  simp only [List.flatMap_cons, List.flatMap_nil, List.append_nil, hv] at hrun
  unfold execOp
  have h2 : (Instr.buildSlice t 1 #[(0, v)]).run P w = .ok (.slice (some ⟨w.heap.size, 0, none⟩) 1 1) (w.alloc (.cells #[v] e)) := hrun
  simp only [ho, List.map_toArray, List.map_cons, List.map_nil, hx, Sem.run_bind, h2, Result.andThen_ok, Sem.run_pure]
end Go.Proofs.YtmlhijlcefogmaaGreatDoor
