/-
  A region that draws its order and ends in operations that write: a condition on the worlds that has to hold only behind the first n operations; an operation for which all others wait (be it by others) yields its value in every such world, or an operation that looks at no world: either may be taken first. Over any program; conditions as each says.
  Structs put together from parts of several cells; a slice of one such element. Over any program; conditions as each says.
-/
import Derived.Test.YthjaepmfkgejkaaGreatDoorMerged8
import Derived.StillTail
import Derived.Maps.RangeWalk
import Derived.Test.YthjaepmfkgejkaaGreatDoorMerged3
import Derived.Great.FillDense
import Derived.Laws.Tables
set_option linter.unusedVariables false
namespace Go.Proofs.YthjaepmfkgejkaaGreatDoor
open Go.RowKit Go.Maps
def uE (md : Region.Mode) (ops : Array Oper) : Nat → Nat → Nat → Bool
  | 0, _, _ => false
  | f + 1, j, i => match ops[j]? with
    | some o => o.after.any fun e => Region.binds md e && (decide (e.on = i) || uE md ops f e.on i)
    | none => false
def lateB (md : Region.Mode) (ops : Array Oper) (n i : Nat) : Bool := (List.range ops.size).all fun j => decide (j < n) || uE md ops 6 j i
def Shut (md : Region.Mode) (ops : Array Oper) (listed : Array Bool) : Prop := ∀ j o, ops[j]? = some o → listed.getD j false = true → ∀ e ∈ o.after, Region.binds md e = true → listed.getD e.on false = true
def shutB (md : Region.Mode) (ops : Array Oper) (listed : Array Bool) : Bool := (List.range ops.size).all fun j => !listed.getD j false || (match ops[j]? with
  | some o => o.after.all fun e => !Region.binds md e || listed.getD e.on false
  | none => true)
theorem U9 {md : Region.Mode} {ops : Array Oper} {listed : Array Bool} (h : shutB md ops listed = true) : Shut md ops listed := by
  intro j o ho hl e he hb
  have h1 := List.all_eq_true.1 h j (List.mem_range.2 (Array.getElem?_eq_some_iff.1 ho).1)
  rw [ho, hl] at h1
  have h2 : (o.after.all fun e => !Region.binds md e || listed.getD e.on false) = true := by simpa only [Bool.not_true, Bool.false_or] using h1
  have h3 := Array.all_eq_true'.1 h2 e he
  rw [hb] at h3
  simpa only [Bool.not_true, Bool.false_or] using h3
theorem vL {md : Region.Mode} {ops : Array Oper} {listed : Array Bool} (hs : Shut md ops listed) : ∀ (f j i : Nat), uE md ops f j i = true → (∀ o, ops[j]? = some o → ∀ e ∈ o.after, Region.binds md e = true → listed.getD e.on false = true) → listed.getD i false = true
  | 0, _, _, h, _ => by cases h
  | f + 1, j, i, h, hr => by
    unfold uE at h
    split at h
    ·
     rename_i o ho
     obtain ⟨e, he, h2⟩ := Array.any_eq_true'.1 h
     rw [Bool.and_eq_true, Bool.or_eq_true, decide_eq_true_eq] at h2
     have hl := hr o ho e he h2.1
     rcases h2.2 with q | q
     · rw [← q]; exact hl
     · exact vL hs f e.on i q fun o' ho' e' he' hb' => hs e.on o' ho' hl e' he' hb'
    · cases h
theorem Shut.set {md : Region.Mode} {ops : Array Oper} {listed : Array Bool} (h : Shut md ops listed) {j : Nat} (hj : j ∈ Region.ready md ops listed) : Shut md ops (listed.setIfInBounds j true) := by
  intro k o ho hl e he hb
  by_cases hjk : j = k
  ·
   subst hjk
   obtain ⟨_, o', ho', hall⟩ := mem_ready.1 hj
   rw [ho] at ho'
   obtain rfl := Option.some.inj ho'
   exact getD_set_true (hall e he hb)
  · rw [getD_set_ne false hjk] at hl
    exact getD_set_true (h k o ho hl e he hb)
def zn (P : Program) (md : Region.Mode) (ops : Array Oper) (Q : Exit → Act → World → Prop) (n : Nat) (F : World → Prop) : Nat → Array Bool → Act → World → Prop
  | 0, listed, a, w => Region.ready md ops listed = [] ∧ Q .normal a w
  | fuel + 1, listed, a, w =>
    (Region.ready md ops listed = [] → Q .normal a w) ∧
    ∀ i ∈ Region.ready md ops listed, wpOp P ops Q i (fun a' w' => (i < n → F w → F w') ∧ zn P md ops Q n F fuel (listed.setIfInBounds i true) a' w') a w
section
variable {P : Program} {md : Region.Mode} {ops : Array Oper} {Q : Exit → Act → World → Prop} {n : Nat} {F : World → Prop}
theorem Ua : ∀ (fuel : Nat) (listed : Array Bool) (a : Act) (w : World), zn P md ops Q n F fuel listed a w → wpAny P md ops Q fuel listed a w
  | 0, _, _, _, h => h
  | fuel + 1, _, _, _, h => ⟨h.1, fun i hi => wpOp_mono (fun a' w' h' => Ua fuel _ a' w' h'.2) (h.2 i hi)⟩
theorem vM {G : World → Prop} {i : Nat} {oi : Oper} {v : Value} (hi : ops[i]? = some oi) (hsel : ∀ (j : Nat) (o : Oper) cs b, ops[j]? = some o → o.op ≠ .select cs b)
    (hQ : ∀ c a w, Q (.panic c) (a.put oi.dst v) w → Q (.panic c) a w)
    (hG : ∀ (listed : Array Bool) j, Shut md ops listed → j ∈ Region.ready md ops listed → listed.getD i true = false → ∀ w w', G w → (j < n → F w → F w') → G w') :
    ∀ (fuel : Nat) (listed : Array Bool) (a : Act) (w : World), Shut md ops listed →
      (∀ j oj, ops[j]? = some oj → j ≠ i → listed.getD j true = false → (∀ e ∈ oj.after, Region.binds md e = true → e.on ≠ i) → oi.apart ops oj = true) →
      i ∈ Region.ready md ops listed → YieldsIf P ops G oi v a → G w →
      zn P md ops Q n F fuel (listed.setIfInBounds i true) (a.put oi.dst v) w → zn P md ops Q n F (fuel + 1) listed a w := by
  intro fuel
  induction fuel with
  | zero =>
    intro listed a w _ _ hr hy hg H
    refine ⟨fun h => (by rw [h] at hr; cases hr), fun j hj => ?_⟩
    by_cases hji : j = i
    · subst hji; exact hy.wpOp hi hg ⟨fun _ h => h, H⟩
    · have := ready_mono hj hji
      rw [H.1] at this
      cases this
  | succ fuel ih =>
    intro listed a w hsh hfree hr hy hg H
    refine ⟨fun h => (by rw [h] at hr; cases hr), fun j hj => ?_⟩
    by_cases hji : j = i
    · subst hji; exact hy.wpOp hi hg ⟨fun _ h => h, H⟩
    ·
     have h1 := H.2 j (ready_mono hj hji)
     obtain ⟨hjun, oj, hoj, hall⟩ := mem_ready.1 hj
     have hiun := (mem_ready.1 hr).1
     have hnot : ∀ e ∈ oj.after, Region.binds md e = true → e.on ≠ i := fun e he hb heq => by
       have h2 := hall e he hb
       rw [heq, getD_both hiun] at h2
       cases h2
     have h2 := wpOp_putIf hoj (hfree j oj hoj hji hjun hnot) (fun cs b => hsel i oi cs b hi) (fun cs b => hsel j oj cs b hoj) hQ hy h1
     have hfree' : ∀ k ok, ops[k]? = some ok → k ≠ i → (listed.setIfInBounds j true).getD k true = false →
         (∀ e ∈ ok.after, Region.binds md e = true → e.on ≠ i) → oi.apart ops ok = true := fun k ok hk hki hun hno => by
       refine hfree k ok hk hki ?_ hno
       by_cases hjk : j = k
       · subst hjk; exact hjun
       · rw [getD_set_ne true hjk] at hun; exact hun
     refine wpOp_mono (fun a' w' h3 => ⟨h3.2.1, ih (listed.setIfInBounds j true) a' w' (hsh.set hj) hfree' (ready_mono hr (Ne.symm hji)) h3.1 (hG listed j hsh hj hiun w w' hg h3.2.1) ?_⟩) h2
     rw [Array.setIfInBounds_comm _ _ hji]
     exact h3.2.2
theorem wpAnyN_take {i : Nat} {oi : Oper} {v : Value} {fuel : Nat} {listed : Array Bool} {a : Act} {w : World} (hL : lateB md ops n i = true) (hsh : shutB md ops listed = true) (hi : ops[i]? = some oi)
    (hs : Region.noSelect ops = true) (hf : Region.free md ops listed i = true) (hr : (Region.ready md ops listed).contains i = true)
    (hQ : ∀ c a w, Q (.panic c) (a.put oi.dst v) w → Q (.panic c) a w) (hy : YieldsIf P ops F oi v a) (hF : F w)
    (h : zn P md ops Q n F fuel (listed.setIfInBounds i true) (a.put oi.dst v) w) : zn P md ops Q n F (fuel + 1) listed a w :=
  vM (G := F) hi (Region.noSelect_spec hs) hQ (fun listed' j hs' hj hiun w w' hw hww => by
    obtain ⟨_, oj, hoj, hall⟩ := mem_ready.1 hj
    have hjn : j < n := by
      have h1 := List.all_eq_true.1 hL j (List.mem_range.2 (Array.getElem?_eq_some_iff.1 hoj).1)
      rw [Bool.or_eq_true, decide_eq_true_eq] at h1
      rcases h1 with h1 | h1
      · exact h1
      ·
       have h2 := vL hs' 6 j i h1 (fun o ho e he hb => by
         rw [hoj] at ho
         obtain rfl := Option.some.inj ho
         exact hall e he hb)
       rw [getD_both hiun] at h2
       cases h2
    exact hww hjn hw) fuel listed a w (U9 hsh) (Region.free_spec hi hf) (by simpa using hr) hy hF h
theorem vN {i : Nat} {oi : Oper} {v : Value} {fuel : Nat} {listed : Array Bool} {a : Act} {w : World} (hsh : shutB md ops listed = true) (hi : ops[i]? = some oi)
    (hs : Region.noSelect ops = true) (hf : Region.free md ops listed i = true) (hr : (Region.ready md ops listed).contains i = true)
    (hQ : ∀ c a w, Q (.panic c) (a.put oi.dst v) w → Q (.panic c) a w) (hy : YieldsIf P ops (fun _ => True) oi v a)
    (h : zn P md ops Q n F fuel (listed.setIfInBounds i true) (a.put oi.dst v) w) : zn P md ops Q n F (fuel + 1) listed a w :=
  vM (G := fun _ => True) hi (Region.noSelect_spec hs) hQ (fun _ _ _ _ _ _ _ _ _ => trivial) fuel listed a w (U9 hsh) (Region.free_spec hi hf) (by simpa using hr) hy trivial h
def tkB (md : Region.Mode) (ops : Array Oper) (listed : Array Bool) (i : Nat) : Bool := shutB md ops listed && Region.noSelect ops && Region.free md ops listed i && (Region.ready md ops listed).contains i
theorem tkW (i : Nat) (v : Value) {oi : Oper} {fuel : Nat} {listed : Array Bool} {a : Act} {w : World} (hB : tkB md ops listed i = true) (hi : Zr ops.toList i = some oi)
    (hQ : ∀ c a w, Q (.panic c) (a.put oi.dst v) w → Q (.panic c) a w) (hw : Region.wanted oi (yielded ops a.tmps) = true) (hv : ∀ w' : World, True → (execOp a.eval oi).run P w' = .ok (.value v) w')
    (h : zn P md ops Q n F fuel (listed.setIfInBounds i true) (a.put oi.dst v) w) : zn P md ops Q n F (fuel + 1) listed a w := by
  simp only [tkB, Bool.and_eq_true] at hB
  exact vN hB.1.1.1 (KJ hi) hB.1.1.2 hB.1.2 hB.2 hQ (.inl ⟨hw, hv⟩) h
theorem tkN (i : Nat) {oi : Oper} {fuel : Nat} {listed : Array Bool} {a : Act} {w : World} (hB : tkB md ops listed i = true) (hi : Zr ops.toList i = some oi)
    (hQ : ∀ c a w, Q (.panic c) (a.put oi.dst undef) w → Q (.panic c) a w) (hw : Region.wanted oi (yielded ops a.tmps) = false)
    (h : zn P md ops Q n F fuel (listed.setIfInBounds i true) (a.put oi.dst undef) w) : zn P md ops Q n F (fuel + 1) listed a w := by
  simp only [tkB, Bool.and_eq_true] at hB
  exact vN hB.1.1.1 (KJ hi) hB.1.1.2 hB.1.2 hB.2 hQ (.inr ⟨hw, rfl⟩) h
theorem tkF (i : Nat) (v : Value) {oi : Oper} {fuel : Nat} {listed : Array Bool} {a : Act} {w : World} (hB : (lateB md ops n i && tkB md ops listed i) = true) (hi : Zr ops.toList i = some oi)
    (hQ : ∀ c a w, Q (.panic c) (a.put oi.dst v) w → Q (.panic c) a w) (hw : Region.wanted oi (yielded ops a.tmps) = true) (hF : F w) (hv : ∀ w' : World, F w' → (execOp a.eval oi).run P w' = .ok (.value v) w')
    (h : zn P md ops Q n F fuel (listed.setIfInBounds i true) (a.put oi.dst v) w) : zn P md ops Q n F (fuel + 1) listed a w := by
  simp only [tkB, Bool.and_eq_true] at hB
  exact wpAnyN_take hB.1 hB.2.1.1.1 (KJ hi) hB.2.1.1.2 hB.2.1.2 hB.2.2 hQ (.inl ⟨hw, hv⟩) hF h
theorem zG {rs : List Nat} {fuel : Nat} {listed : Array Bool} {a : Act} {w : World} (hr : Region.ready md ops listed = rs) (hne : rs ≠ [])
    (h : ∀ i ∈ rs, wpOp P ops Q i (fun a' w' => (i < n → F w → F w') ∧ zn P md ops Q n F fuel (listed.setIfInBounds i true) a' w') a w) : zn P md ops Q n F (fuel + 1) listed a w :=
  ⟨fun h0 => absurd (hr ▸ h0) hne, hr ▸ h⟩
theorem tkA (i : Nat) {fuel : Nat} {listed : Array Bool} {a : Act} {w : World} (hr : Region.ready md ops listed = [i])
    (h : wpOp P ops Q i (fun a' w' => (i < n → F w → F w') ∧ zn P md ops Q n F fuel (listed.setIfInBounds i true) a' w') a w) : zn P md ops Q n F (fuel + 1) listed a w :=
  zG hr (by simp) fun q hq => by
    obtain rfl : q = i := by simpa using hq
    exact h
theorem kx {listed : Array Bool} {a : Act} {w : World} (hr : Region.ready md ops listed = []) (h : Q .normal a w) : ∀ fuel, zn P md ops Q n F fuel listed a w
  | 0 => ⟨hr, h⟩
  | _ + 1 => ⟨fun _ => h, by rw [hr]; simp⟩
theorem tw (i : Nat) (v : Value) {oi : Oper} {fuel : Nat} {listed : Array Bool} {a : Act} {w : World} (h : zn P md ops Q n F fuel (listed.setIfInBounds i true) (a.put oi.dst v) w) (hB : tkB md ops listed i = true := by kernel_rfl) (hi : Zr ops.toList i = some oi := by rfl)
    (hQ : ∀ c a w, Q (.panic c) (a.put oi.dst v) w → Q (.panic c) a w := by exact fun _ _ _ h => h) (hw : Region.wanted oi (yielded ops a.tmps) = true := by rfl) (hv : ∀ w' : World, True → (execOp a.eval oi).run P w' = .ok (.value v) w' := by exact fun _ _ => rfl) : zn P md ops Q n F (fuel + 1) listed a w := tkW i v hB hi hQ hw hv h
theorem tn (i : Nat) {oi : Oper} {fuel : Nat} {listed : Array Bool} {a : Act} {w : World} (h : zn P md ops Q n F fuel (listed.setIfInBounds i true) (a.put oi.dst undef) w) (hi : Zr ops.toList i = some oi := by rfl) (hB : tkB md ops listed i = true := by kernel_rfl)
    (hQ : ∀ c a w, Q (.panic c) (a.put oi.dst undef) w → Q (.panic c) a w := by exact fun _ _ _ h => h) (hw : Region.wanted oi (yielded ops a.tmps) = false := by rfl) : zn P md ops Q n F (fuel + 1) listed a w := tkN i hB hi hQ hw h
theorem ta (i : Nat) {fuel : Nat} {listed : Array Bool} {a : Act} {w : World} (h : wpOp P ops Q i (fun a' w' => (i < n → F w → F w') ∧ zn P md ops Q n F fuel (listed.setIfInBounds i true) a' w') a w) (hr : Region.ready md ops listed = [i] := by kernel_rfl) : zn P md ops Q n F (fuel + 1) listed a w := tkA i hr h
theorem kr {id : Nat} {a : Act} {w : World} (n : Nat) (F : World → Prop) (hm : P.follows .mixedOrders = true)
    (h : zn P .any ops Q n F ops.size (Array.replicate ops.size false) a w.drew) : (Code.region id ops true).wp P Q a w :=
  wp_region_any hm (Ua _ _ _ _ h)
end
section
variable {P : Program} {ρ : Operand → Value} {o : Oper} {w : World}
theorem ki (ty : TypeId) (x : Operand) (ho : o.op = .load ty x) {p : Addr} (hx : ρ x = .pointer (some p)) {d : TypeDesc} (hu : P.underlying ty = some d) (hd : (match d with | .struct _ | .array _ _ => true | _ => false) = false) {v : Value} (hc : w.cell? p = some v) :
    (execOp ρ o).run P w = .ok (.value v) w := by
  refine kd ty x ho hx ?_
  unfold loadVar isAgg
  simp only [Sem.run_bind, run_underlying hu, Result.andThen_ok]
  cases d <;> first | (cases hd; done) | simp [Result.andThen, hc]
theorem vl (t : TypeId) (x : Operand) (ho : o.op = .call { callee := .builtin .len, args := #[x], argTypes := #[t] }) {A : Option Addr} {n c : Nat} (hx : ρ x = .slice A n c) {e : TypeId} (ht : P.underlying t = some (.slice e)) : (execOp ρ o).run P w = .ok (.value (.int .i64 (n : Int))) w := by
  unfold execOp
  simp [ho, resolve, invoke, builtin, Builtin.len_, run_underlying ht, Result.andThen, hx]
  rfl
end
end Go.Proofs.YthjaepmfkgejkaaGreatDoor
namespace Go.Proofs.YthjaepmfkgejkaaGreatDoor
open Go.RowKit
theorem splice_is {A M B C : List Value} (hB : B.length = M.length) (v : Value) (hv : v.cells.toList = B) :
    v.cells.zipIdx.foldl (fun cs (x : Value × Nat) => cs.setIfInBounds (A.length + x.2) x.1) (A ++ (M ++ C)).toArray = (A ++ (B ++ C)).toArray := by
  obtain ⟨g1, g2⟩ := Go.Great.foldl_set A.length v.cells.toList 0 (A ++ (M ++ C)).toArray
  rw [← Array.foldl_toList, Array.toList_zipIdx]
  apply Array.ext_getElem?
  intro k
  rw [g2 k, hv]
  simp only [Nat.add_zero, List.size_toArray, List.length_append, List.getElem?_toArray]
  by_cases h1 : k < A.length
  · rw [if_neg (by omega), List.getElem?_append_left h1, List.getElem?_append_left h1]
  · by_cases h2 : k < A.length + B.length
    · rw [if_pos (by omega), List.getElem?_append_right (by omega), List.getElem?_append_left (by omega)]
    · rw [if_neg (by omega), List.getElem?_append_right (by omega), List.getElem?_append_right (by omega), List.getElem?_append_right (by omega), List.getElem?_append_right (by omega), hB]
theorem uq (place : Nat → Option (Nat × Nat)) : ∀ (parts : List (Nat × Value)) (ch : List (List Value)), (∀ i (h : i < ch.length), place i = some ((ch.take i).flatten.length, ch[i].length)) →
    (∀ p ∈ parts, ∃ h : p.1 < ch.length, p.2.cells.size = ch[p.1].length) → Instr.fill place ch.flatten.toArray parts = some ((parts.foldl (fun c p => c.set p.1 p.2.cells.toList) ch).flatten.toArray)
  | [], ch, _, _ => rfl
  | (i, v) :: rest, ch, hp, hs => by
    obtain ⟨hi, hsz⟩ := hs (i, v) (by simp)
    have hi' : i < ch.length := hi
    have hsz' : v.cells.size = ch[i].length := hsz
    have hsplit : ch = ch.take i ++ (ch[i] :: ch.drop (i + 1)) := by
      rw [← List.drop_eq_getElem_cons hi', List.take_append_drop]
    have hfl : ch.flatten = (ch.take i).flatten ++ (ch[i] ++ (ch.drop (i + 1)).flatten) := by
      have h := congrArg List.flatten hsplit
      rw [List.flatten_append, List.flatten_cons] at h
      exact h
    have hset : (ch.set i v.cells.toList).flatten = (ch.take i).flatten ++ (v.cells.toList ++ (ch.drop (i + 1)).flatten) := by
      rw [List.set_eq_take_append_cons_drop, if_pos hi']
      simp
    unfold Instr.fill
    simp only [hp i hi']
    rw [if_neg (by
      simp only [hsz', ne_eq, not_true_eq_false, decide_false, Bool.false_or, decide_eq_true_eq, List.size_toArray, Nat.not_lt]
      rw [hfl]; simp)]
    rw [show (v.cells.zipIdx.foldl (fun cs (x : Value × Nat) => cs.setIfInBounds ((ch.take i).flatten.length + x.2) x.1) ch.flatten.toArray) = (ch.set i v.cells.toList).flatten.toArray by
      rw [hset, hfl]
      exact splice_is (by simpa using hsz') v rfl]
    have hlen : ∀ k (h : k < (ch.set i v.cells.toList).length), (ch.set i v.cells.toList)[k].length = (ch[k]'(by simpa using h)).length := by
      intro k h
      rw [List.getElem_set]
      split
      · rename_i e; subst e; simpa using hsz'
      · rfl
    refine (uq place rest (ch.set i v.cells.toList) ?_ ?_).trans rfl
    ·
     intro k hk
     have hk' : k < ch.length := by simpa using hk
     rw [hp k hk', hlen k hk]
     congr 2
     have : ∀ n, n ≤ ch.length → (((ch.set i v.cells.toList).take n).flatten).length = ((ch.take n).flatten).length := by
       intro n
       induction n with
       | zero => intro _; rfl
       | succ n ih =>
         intro hn
         rw [List.take_succ_eq_append_getElem (by simp; omega), List.take_succ_eq_append_getElem (by omega)]
         simp only [List.flatten_append, List.length_append, ih (by omega), List.flatten_cons, List.flatten_nil, List.append_nil]
         rw [hlen n (by simp; omega)]
     exact (this k (by omega)).symm
    ·
     intro p hpm
     obtain ⟨h1, h2⟩ := hs p (by simp [hpm])
     refine ⟨by simpa using h1, ?_⟩
     rw [h2, hlen]
theorem Zj {P : Program} {t : TypeId} {i : TypeInfo} {fs : Array Field} (hi : P.info? t = some i) (hu : P.underlying t = some (.struct fs)) {z : Value} (hz : i.zero = some z) (ch : List (List Value)) (hc : z.cells.toList = ch.flatten)
    {places : List (Nat × Nat)} (hpl : fs.toList.mapM (fun f => (P.info? f.type).map fun i => (f.offset, i.size)) = some places) (hp : places = (List.range ch.length).map fun k => (((ch.take k).flatten.length), (ch.getD k []).length))
    (parts : List (Nat × Value)) (hs : ∀ p ∈ parts, ∃ h : p.1 < ch.length, p.2.cells.size = ch[p.1].length) : P.built t parts = some ((parts.foldl (fun c p => c.set p.1 p.2.cells.toList) ch).flatten.toArray) := by
  unfold Program.built
  simp only [hi, hu, hz, hpl]
  rw [show z.cells = ch.flatten.toArray by rw [← hc]]
  refine uq _ parts ch (fun k hk => ?_) hs
  rw [hp]
  simp [hk, List.getD_eq_getElem?_getD]
theorem Jp {P : Program} (w : World) (t e : TypeId) (ht : P.underlying t = some (.slice e)) (z : Value) (size bytes : Nat) (hinf : (P.info? e).map (fun i => (i.zero, i.size, i.bytes)) = some (some z, size, bytes)) (hz1 : z.cells.size = size) (hsz : 0 < size)
    (vs : List Value) (hv : ∀ v ∈ vs, v.cells.size = size) (hn0 : 0 < vs.length) (hmax : vs.length * size ≤ 16777216) :
    (Instr.buildSlice t vs.length ((vs.zipIdx 0).map fun x => (x.2, x.1)).toArray).run P w = .ok (.slice (some ⟨w.heap.size, 0, none⟩) vs.length vs.length) (w.alloc (.cells (vs.flatMap fun v => v.cells.toList).toArray e)) := by
  obtain ⟨i, hi, hi0, hi1, hi2⟩ : ∃ i, P.info? e = some i ∧ i.zero = some z ∧ i.size = size ∧ i.bytes = bytes := by
    cases hq : P.info? e with
    | none => simp [hq] at hinf
    | some i => simp [hq] at hinf; exact ⟨i, rfl, hinf.1, hinf.2.1, hinf.2.2⟩
  have hpos : vs.length * size ≠ 0 := Nat.mul_ne_zero (by omega) (by omega)
  have hne : ¬ (vs.length * size > 2 ^ 24) := by omega
  have hfill : Instr.fill (fun k => some (k * size, size)) ((Array.range (vs.length * size)).map (z.cells[· % z.cells.size]!)) ((vs.zipIdx 0).map fun x => (x.2, x.1)) = some (vs.flatMap fun v => v.cells.toList).toArray :=
    Go.Great.fill_whole hsz vs _ hv (by simp)
  unfold Instr.buildSlice
  have hsize : (sizeOf e).run P w = .ok size w := by simp [sizeOf, typeInfo, hi, hi1]
  have hzero : (zeroValue e).run P w = .ok z w := by simp [zeroValue, typeInfo, hi, hi0]
  simp only [Sem.run_bind, run_underlying ht, Result.andThen_ok, hsize, if_neg hne, if_neg hpos, hzero, Sem.run_pure, hfill]
  rfl
theorem K0 {P : Program} {ops : Array Oper} {rest : List Oper} {o : Oper} {a : Act} {w : World} {Q : Exit → Act → World → Prop} (hw : Region.wanted o (yielded ops a.tmps) = true) (t : TypeId) (x : Operand) (ho : o.op = .buildSlice t 1 #[(0, x)])
    (e : TypeId) (ht : P.underlying t = some (.slice e)) (z : Value) (size bytes : Nat) (hinf : (P.info? e).map (fun i => (i.zero, i.size, i.bytes)) = some (some z, size, bytes)) (hz1 : z.cells.size = size) (hsz : 0 < size) (hmax : size ≤ 16777216)
    (us : List Value) (hl : us.length = size) (hx : a.eval x = .agg us.toArray)
    (h : wpList P ops Q rest (a.put o.dst (.slice (some ⟨w.heap.size, 0, none⟩) 1 1)) (w.alloc (.cells us.toArray e))) : wpList P ops Q (o :: rest) a w := by
  have hrun := Jp w t e ht z size bytes hinf hz1 hsz [.agg us.toArray] (fun v hv => by rw [List.mem_singleton.1 hv]; exact hl) (by simp) (by simpa using hmax)
  simp only [List.flatMap_cons, List.flatMap_nil, List.append_nil] at hrun
  refine BigFrame.wpList_want hw fun K hK => ?_
  have := hK _ _ h
  unfold Oper.wp execOp
  simp only [ho, List.map_toArray, List.map_cons, List.map_nil, hx, Sem.run_bind]
  have h2 : (Instr.buildSlice t 1 #[(0, .agg us.toArray)]).run P w = .ok (.slice (some ⟨w.heap.size, 0, none⟩) 1 1) (w.alloc (.cells us.toArray e)) := hrun
  rw [h2]
  exact this
end Go.Proofs.YthjaepmfkgejkaaGreatDoor
