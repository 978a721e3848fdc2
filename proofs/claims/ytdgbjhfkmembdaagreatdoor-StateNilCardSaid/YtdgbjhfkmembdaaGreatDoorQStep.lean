/-
  Values of several cells in the steps of a walk: loads, '==', zero values; regions that draw their order and only read, but for calls that leave alone what lay. Over any program; conditions as each says.
-/
import Derived.Test.YtdgbjhfkmembdaaGreatDoorIdsSpec
import Derived.BigQuiet
import Derived.DeepKeys4
import Derived.Maps.Own
import Derived.Laws.StructEq
namespace Go.Proofs.YtdgbjhfkmembdaaGreatDoor
open Go.RowKit
set_option linter.unusedVariables false

/-! ### Values with a key's cells -/

theorem mapM_some {α β : Type} {f : α → Option β} : ∀ {l : List α}, (∀ x ∈ l, ∃ y, f x = some y) → ∃ ys, l.mapM f = some ys
  | [], _ => ⟨[], rfl⟩
  | x :: l, h => by
    obtain ⟨y, hy⟩ := h x (by simp)
    obtain ⟨ys, hys⟩ := mapM_some (l := l) fun z hz => h z (by simp [hz])
    exact ⟨y :: ys, by simp [List.mapM_cons, hy, hys]⟩

/-- Cells of a type that '==' goes through. -/
def Kb (P : Program) (n : Nat) (t : TypeId) (cs : List Value) : Prop := ∀ d, n ≤ d → ∃ l, P.keyLits d t cs = some l
section
variable {P : Program} {t e : TypeId} {m n : Nat} {cs : List Value}
theorem kb_int {k : IntKind} {z : Int} (hu : P.underlying t = some (.int k)) (hw : (Lit.int k z).wf = true) : Kb P 1 t [.int k z] := by
  intro d hd
  cases d with
  | zero => omega
  | succ d => exact ⟨_, by simp [Program.keyLits, hu, hw]; rfl⟩
theorem kb_bool {z : Bool} (hu : P.underlying t = some .bool) : Kb P 1 t [.bool z] := by
  intro d hd
  cases d with
  | zero => omega
  | succ d => exact ⟨_, by simp [Program.keyLits, hu]; rfl⟩
theorem kb_str {s : ByteArray} (hu : P.underlying t = some .string) (hs : s.size ≤ maxLen) : Kb P 1 t [.string s] := by
  intro d hd
  cases d with
  | zero => omega
  | succ d => exact ⟨_, by simp [Program.keyLits, hu, hs]; rfl⟩
theorem kb_arr (hu : P.underlying t = some (.array n e)) (hl : cs.length = P.cellsOf t) (h : ∀ i, i < n → Kb P m e ((cs.drop (i * P.cellsOf e)).take (P.cellsOf e))) : Kb P (m + 1) t cs := by
  intro d hd
  cases d with
  | zero => omega
  | succ d =>
    obtain ⟨ys, hys⟩ := mapM_some (l := List.range n) (f := fun i => P.keyLits d e ((cs.drop (i * P.cellsOf e)).take (P.cellsOf e))) fun i hi => h i (by simpa using hi) d (by omega)
    exact ⟨_, by simp only [Program.keyLits, hu, hl, if_true, hys]; rfl⟩
theorem kb_struct {fs : Array Field} (hu : P.underlying t = some (.struct fs)) (hl : cs.length = P.cellsOf t) (hn : fs.all (·.name != "_") = true) (h : ∀ f ∈ fs.toList, Kb P m f.type ((cs.drop f.offset).take (P.cellsOf f.type))) : Kb P (m + 1) t cs := by
  intro d hd
  cases d with
  | zero => omega
  | succ d =>
    obtain ⟨ys, hys⟩ := mapM_some (l := fs.toList) (f := fun f => P.keyLits d f.type ((cs.drop f.offset).take (P.cellsOf f.type))) fun f hf => h f hf d (by omega)
    exact ⟨_, by simp only [Program.keyLits, hu, hl, hn, and_self, if_true, hys]; rfl⟩
/-- What the gates of a type say that is compared cell by cell. -/
structure EqT (P : Program) (t : TypeId) (m : Nat) : Prop where
  laid : laidOutB P = true
  few : P.types.size + 2 ≤ 10000
  row : t < P.types.size
  key : P.keyType t = true
  wide : (match P.underlying t with | some (.array _ _) | some (.struct _) => true | _ => false) = true
  deep : m ≤ P.types.size + 1
  noGuard : P.eqGuardType P.depth t = false
theorem EqT.keyed (E : EqT P t m) : Maps.Keyed P t := Maps.Keyed.of_law (deep_law_laid E.laid (m := P.types.size + 1) E.few E.row E.key E.wide)
theorem EqT.is (E : EqT P t m) (hl : cs.length = P.cellsOf t) (h : Kb P m t cs) : ∃ l, keyOf P t (.agg cs.toArray) = some l := by
  obtain ⟨l, hl2⟩ := h (P.types.size + 1) E.deep
  have hw := E.wide
  have hf : (Value.agg cs.toArray).formed P t = true := by
    unfold Value.formed
    split at hw <;> simp_all
  have hc : (P.keyLits (P.types.size + 1) t (Value.agg cs.toArray).cells.toList).map (fun ls => Lit.string (keyBytes ls)) = some (.string (keyBytes l)) := by
    rw [show (Value.agg cs.toArray).cells.toList = cs from rfl, hl2]; rfl
  refine ⟨.string (keyBytes l), ?_⟩
  unfold keyOf
  split at hw
  · rename_i hu; simp only [hu, E.key, hf, Bool.and_self, if_true]; exact hc
  · rename_i hu; simp only [hu, E.key, hf, Bool.and_self, if_true]; exact hc
  · cases hw
theorem EqT.run (E : EqT P t m) {α : Type} [DecidableEq α] (enc : α → List Value) (hinj : ∀ a b, enc a = enc b → a = b) {a b : α} (la : (enc a).length = P.cellsOf t) (lb : (enc b).length = P.cellsOf t) (ha : Kb P m t (enc a)) (hb : Kb P m t (enc b)) (w : World) :
    (Op.equalIn 10000 t (.agg (enc a).toArray) (.agg (enc b).toArray)).run P w = .ok (decide (a = b)) w := by
  obtain ⟨ka, ha⟩ := E.is la ha
  obtain ⟨kb, hb⟩ := E.is lb hb
  obtain ⟨r, hr, hiff⟩ := run_equal_deep w (m := P.types.size + 1) (by have := E.few; omega) E.key E.wide ha hb
  have h2 : (Op.equalIn 10000 t (.agg (enc a).toArray) (.agg (enc b).toArray)).run P w = .ok r w := hr
  rw [h2]
  congr 1
  rw [Bool.eq_iff_iff, hiff, decide_eq_true_eq]
  constructor
  · intro h
    have := E.keyed.inj ha (by rw [h]; exact hb)
    injection this with this
    exact hinj _ _ (by have := congrArg Array.toList this; simpa using this)
  · rintro rfl
    rw [ha] at hb
    exact Option.some.inj hb
end

/-! ### Single operations -/

section
variable {P : Program} {ρ : Operand → Value} {o : Oper} {w : World}
theorem ex_load (ty : TypeId) (x : Operand) (ho : o.op = .load ty x) {p : Addr} (hx : ρ x = .pointer (some p)) {v : Value} (h : (loadVar ty p).run P w = .ok v w) : (execOp ρ o).run P w = .ok (.value v) w := by
  unfold execOp
  simp only [ho, hx, Instr.loadAt, Instr.sureAddr, Sem.run_bind, Sem.run_pure, Result.andThen_ok, h]
theorem ex_eql (t t' : TypeId) (x y : Operand) (ho : o.op = .binOp .eql t x y t') {xs ys : Array Value} (hx : ρ x = .agg xs) (hy : ρ y = .agg ys) {r : Bool} (hg : P.eqGuardType P.depth t = false)
    (h : (Op.equalIn 10000 t (.agg xs) (.agg ys)).run P w = .ok r w) : (execOp ρ o).run P w = .ok (.value (.bool r)) w := by
  unfold execOp
  simp only [ho, hx, hy, Sem.run_bind, run_eqGuard_agg w _ _ _ _ _ _ hg, Result.andThen_ok, run_eql_struct, h, Sem.run_pure]
theorem ex_neq (t t' : TypeId) (x y : Operand) (ho : o.op = .binOp .neq t x y t') {xs ys : Array Value} (hx : ρ x = .agg xs) (hy : ρ y = .agg ys) {r : Bool} (hg : P.eqGuardType P.depth t = false)
    (h : (Op.equalIn 10000 t (.agg xs) (.agg ys)).run P w = .ok r w) : (execOp ρ o).run P w = .ok (.value (.bool (!r))) w := by
  unfold execOp
  simp only [ho, hx, hy, Sem.run_bind, run_eqGuard_agg w _ _ _ _ _ _ hg, Result.andThen_ok, run_neq_struct, h, Sem.run_pure]
theorem ex_build (t : TypeId) (ps : Array (Nat × Operand)) (ho : o.op = .build t ps) {v : Value} (h : (Instr.build t (ps.map fun (i, x) => (i, ρ x))).run P w = .ok v w) : (execOp ρ o).run P w = .ok (.value v) w := by
  unfold execOp
  simp only [ho, Sem.run_bind, h, Result.andThen_ok, Sem.run_pure]
end
section
variable {P : Program} {o : Oper} {a : Act} {v : Value}
theorem quiet_val {C : World → Prop} {K : Act → Prop} (h : ∀ w, C w → (execOp a.eval o).run P w = .ok (.value v) w) (hk : K (a.put o.dst v)) : o.quiet P a C K :=
  ⟨v, fun w hw => by unfold Oper.quietAt; rw [h w hw]; exact ⟨rfl, rfl⟩, hk⟩
theorem wp_val {ops : Array Oper} {rest : List Oper} {w : World} {Q : Exit → Act → World → Prop} (hw : Region.wanted o (yielded ops a.tmps) = true) (h : (execOp a.eval o).run P w = .ok (.value v) w) (hk : wpList P ops Q rest (a.put o.dst v) w) : wpList P ops Q (o :: rest) a w :=
  BigFrame.wpList_want hw fun K hK => by
    have := hK _ _ hk
    unfold Oper.wp
    rw [h]
    exact this
theorem still_val {ops : Array Oper} {rest : List Oper} {w : World} {Q : Act → Prop} (hw : Region.wanted o (yielded ops a.tmps) = true) (h : (execOp a.eval o).run P w = .ok (.value v) w) (hk : wpStill P ops w Q rest (a.put o.dst v)) : wpStill P ops w Q (o :: rest) a := by
  unfold wpStill
  rw [if_pos hw]
  unfold Oper.still
  rw [h]
  exact ⟨rfl, hk⟩
end

/-! ### A region that draws its order, in the worlds that leave alone what lay -/

def Wd (base : Nat) (w : World) : Type := { w' : World // Below base w w' }
instance (base : Nat) (w : World) : Nonempty (Wd base w) := ⟨⟨w, Below.refl _ _⟩⟩
theorem Wd.cell {base : Nat} {w : World} {b o : Nat} {v : Value} (hc : w.cell? ⟨b, o, none⟩ = some v) (hb : b < base) : ∀ n : Wd base w, n.val.cell? ⟨b, o, none⟩ = some v := fun n => (n.2.cell (p := ⟨b, o, none⟩) hb).trans hc
theorem Wd.row {base : Nat} {w : World} {b o : Nat} {cs : List Value} (hc : ∀ j u, cs[j]? = some u → w.cell? ⟨b, o + j, none⟩ = some u) (hb : b < base) : ∀ w', (∃ n : Wd base w, w' = n.val) → ∀ j u, cs[j]? = some u → w'.cell? ⟨b, o + j, none⟩ = some u := by
  rintro w' ⟨n, rfl⟩ j u hu
  exact Wd.cell (hc j u hu) hb n
theorem Wd.call {base : Nat} {w : World} {P : Program} {f : FuncId} {args : Array Value} {v : Value} (h : ∀ w', Below base w w' → Calls P f args w' fun e w'' => Below w'.heap.size w' w'' ∧ e = .returned v) (hbs : base ≤ w.heap.size) (n : Wd base w) :
    Calls P f args n.val fun e w'' => e = .returned v ∧ ∃ m : Wd base w, w'' = m.val :=
  (h n.val n.2).mono fun e w'' ⟨hb, he⟩ => ⟨he, ⟨w'', n.2.trans (hb.mono (Nat.le_trans hbs n.2.size))⟩, rfl⟩
theorem wp_region_wd {P : Program} {id : Nat} {Q : Exit → Act → World → Prop} {a : Act} {w : World} {l : List Oper} {base : Nat} (w0 : World) (hb : Below base w0 w) (hm : P.follows .mixedOrders = true) (hB : Region.lexB .any l.toArray = true)
    (h : wpQuiet P l.toArray (fun w' => ∃ n : Wd base w0, w' = n.val) (fun a' => ∀ w', (∃ n : Wd base w0, w' = n.val) → Q .normal a' w') l a) : (Code.region id l.toArray true).wp P Q a w :=
  wp_region_quiet (C := fun w' => ∃ n : Wd base w0, w' = n.val) hm hB ⟨⟨_, hb.drew⟩, rfl⟩ (by simpa using h)
end Go.Proofs.YtdgbjhfkmembdaaGreatDoor
