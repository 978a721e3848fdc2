/-
  Ids and keys as cells: what a value of such a type holds, read as data; loads and stores of several cells at once. Over any program; conditions as each says.
  Lists of ids: their cells, whether they are a set, where an id stands in one. No conditions; no program.
  Values of several cells in the steps of a walk: loads, '==', zero values; regions that draw their order and only read, but for calls that leave alone what lay. Over any program; conditions as each says.
-/
import Derived.Test.YthjaepmfkgejkaaGreatDoorKeySpec
import Derived.Test.YthjaepmfkgejkaaGreatDoorMerged1
import Derived.OpenShut
import Derived.Deep.Slices
import Derived.Deep.Fields
import Derived.StillTailTactics
import Derived.BigQuiet
import Derived.DeepKeys4
import Derived.Maps.Own
import Derived.Laws.StructEq
set_option linter.unusedVariables false
namespace Go.Proofs.YthjaepmfkgejkaaGreatDoor
open Go.RowKit
def idV (l : List UInt8) : List Value := l.map fun b => Value.int .u8 (b.toNat : Int)
def Ke (l : List UInt8) : Prop := l.length = 32
theorem k8 (l : List UInt8) : (idV l).length = l.length := by simp [idV]
theorem ky (l : List UInt8) : ∀ u ∈ idV l, u.oneCell' = true := by
  intro u hu
  obtain ⟨b, _, rfl⟩ := List.mem_map.1 hu
  rfl
theorem idV_inj {a b : List UInt8} (h : idV a = idV b) : a = b := by
  induction a generalizing b with
  | nil => cases b with
    | nil => rfl
    | cons _ _ => simp [idV] at h
  | cons x a ih => cases b with
    | nil => simp [idV] at h
    | cons y b =>
      simp only [idV, List.map_cons, List.cons.injEq, Value.int.injEq, true_and] at h
      rw [ih h.2, UInt8.toNat_inj.1 (by omega : x.toNat = y.toNat)]
section
variable {H : Type} {enc : TypeId × Value → H} {P : Program} {w : World} {base : Nat} {spare : Nat → Bool} {held : Bool} {fuel : Nat} {cs : List Value} {x : DataW H × List MemPlace}
theorem trod_id {t u : TypeId} (ht : P.underlying t = some (.array 32 u)) (hu : P.underlying u = some (.int .u8)) (hc : P.cellsOf u = 1) (hct : P.cellsOf t = 32)
    (h : DataW.trod enc P w base spare held fuel t cs = some x) : ∃ l : List UInt8, Ke l ∧ cs = idV l := by
  obtain ⟨xs, m, _, _, hlen, hxl, hf⟩ := DataW.trod_array ht h
  rw [hct] at hlen
  have each : ∀ i, i < 32 → ∃ b : UInt8, cs[i]? = some (.int .u8 (b.toNat : Int)) := by
    intro i hi
    have h1 := hf i hi
    rw [hc, List.getElem?_eq_getElem (by omega : i < xs.length)] at h1
    obtain ⟨n, h2, _, hw⟩ := DataW.trod_int hu h1
    have hr : 0 ≤ n ∧ n ≤ 255 := by
      simp only [Lit.wf, IntKind.min, IntKind.max, IntKind.signed, IntKind.bits, Bool.and_eq_true] at hw
      simp at hw
      omega
    rw [Nat.mul_one, List.drop_eq_getElem_cons (by omega), List.take_succ_cons] at h2
    have h3 : cs[i]'(by omega) = .int .u8 n := (List.cons.inj h2).1
    refine ⟨UInt8.ofNat n.toNat, ?_⟩
    rw [List.getElem?_eq_getElem (by omega), h3]
    congr 2
    simp
    omega
  obtain ⟨f, hf⟩ := Go.Deep.choose_lt each
  refine ⟨(List.range 32).map f, by simp [Ke], ?_⟩
  apply List.ext_getElem?
  intro i
  by_cases hi : i < 32
  · rw [hf i hi]
    simp [idV, hi]
  · rw [List.getElem?_eq_none (by omega), List.getElem?_eq_none (by simp [idV]; omega)]
end
theorem qE {P : Program} (w : World) (b off : Nat) (ty : TypeId) (cs : List Value) (d : TypeDesc) (hc : ∀ j u, cs[j]? = some u → w.cell? ⟨b, off + j, none⟩ = some u)
    (hu : P.underlying ty = some d) (hd : (match d with | .struct _ | .array _ _ => true | _ => false) = true) (hi : (P.info? ty).map (·.size) = some cs.length) :
    (loadVar ty ⟨b, off, none⟩).run P w = .ok (.agg cs.toArray) w := by
  have hl : (loadCells ⟨b, off, none⟩ cs.length).run P w = .ok cs.toArray w :=
    run_loadCells_list (P := P) w ⟨b, off, none⟩ cs (fun j v hv => by
      have hadd : (⟨b, off, none⟩ : Addr).add j = ⟨b, off + j, none⟩ := by unfold Addr.add; split <;> simp_all
      rw [hadd]
      exact hc j v hv)
  cases hq : P.info? ty with
  | none => simp [hq] at hi
  | some i =>
    have hs : i.size = cs.length := by simpa [hq] using hi
    have hagg : (isAgg ty).run P w = .ok true w := by
      unfold isAgg
      rw [Sem.run_bind, run_underlying hu w]
      cases d <;> simp_all
    simp [loadVar, Sem.run_bind, hagg, sizeOf, typeInfo, hq, hs, hl]
theorem zE {P : Program} {ops : Array Oper} {rest : List Oper} {o : Oper} {a : Act} {w : World} {Q : Exit → Act → World → Prop} (hgd : o.guard = none) (ty : TypeId) (x : Operand) (ho : o.op = .load ty x)
    (b off : Nat) (hx : a.eval x = .pointer (some ⟨b, off, none⟩)) (cs : List Value) (d : TypeDesc) (hc : ∀ j u, cs[j]? = some u → w.cell? ⟨b, off + j, none⟩ = some u)
    (hu : P.underlying ty = some d) (hd : (match d with | .struct _ | .array _ _ => true | _ => false) = true) (hi : (P.info? ty).map (·.size) = some cs.length)
    (h : wpList P ops Q rest (a.put o.dst (.agg cs.toArray)) w) : wpList P ops Q (o :: rest) a w :=
  wpList_plain hgd fun K hK => by
    have := hK _ _ h
    unfold Oper.wp execOp
    simp only [ho, hx, Instr.loadAt, Instr.sureAddr, Sem.run_bind, Sem.run_pure, Result.andThen_ok, qE w b off ty cs d hc hu hd hi]
    exact this
end Go.Proofs.YthjaepmfkgejkaaGreatDoor
namespace Go.Proofs.YthjaepmfkgejkaaGreatDoor
open Go.RowKit
def kr (l : List (List UInt8)) : List Value := l.flatMap idV
def IdsOk (l : List (List UInt8)) : Prop := ∀ i ∈ l, Ke i
theorem IdsOk.tail {a : List UInt8} {l : List (List UInt8)} (h : IdsOk (a :: l)) : IdsOk l := fun i hi => h i (by simp [hi])
theorem IdsOk.sub {a b : List (List UInt8)} (h : IdsOk b) (hs : ∀ i ∈ a, i ∈ b) : IdsOk a := fun i hi => h i (hs i hi)
theorem IdsOk.app {a b : List (List UInt8)} (ha : IdsOk a) (hb : IdsOk b) : IdsOk (a ++ b) := fun i hi => (List.mem_append.1 hi).elim (ha i) (hb i)
theorem zO (a b : List (List UInt8)) : kr (a ++ b) = kr a ++ kr b := by simp [kr]
theorem Ky (l : List (List UInt8)) : ∀ u ∈ kr l, u.oneCell' = true := by
  intro u hu
  obtain ⟨a, _, ha⟩ := List.mem_flatMap.1 hu
  exact ky a u ha
theorem idsV_get : ∀ {l : List (List UInt8)}, IdsOk l → ∀ (i : Nat) (h : i < l.length) (j : Nat) (u : Value), (idV l[i])[j]? = some u → (kr l)[i * 32 + j]? = some u
  | [], _, _, h, _, _, _ => by cases h
  | a :: l, ho, 0, _, j, u, hj => by
    have h1 : (idV a).length = 32 := by rw [k8]; exact ho a (by simp)
    have hlt := (List.getElem?_eq_some_iff.1 hj).1
    simp only [kr, List.flatMap_cons, Nat.zero_mul, Nat.zero_add]
    rw [List.getElem?_append_left (by simpa using hlt)]
    exact hj
  | a :: l, ho, i + 1, h, j, u, hj => by
    have h1 : (idV a).length = 32 := by rw [k8]; exact ho a (by simp)
    have := idsV_get ho.tail i (by simpa using h) j u (by simpa using hj)
    simp only [kr, List.flatMap_cons] at this ⊢
    rw [List.getElem?_append_right (by omega), h1, show (i + 1) * 32 + j - 32 = i * 32 + j by omega]
    exact this
theorem Sl.id {w : World} {B b off : Nat} {l : List (List UInt8)} (ho : IdsOk l) (h : ∀ j u, (kr l)[j]? = some u → w.cell? ⟨b, off + j, none⟩ = some u) {i : Nat} (hi : i < l.length) : ∀ j u, (idV l[i])[j]? = some u → w.cell? ⟨b, off + i * 32 + j, none⟩ = some u := by
  intro j u hj
  rw [Nat.add_assoc]
  exact h _ _ (idsV_get ho i hi j u hj)
def kI : List (List UInt8) → Bool
  | a :: b :: r => decide (kX a b < 0) && kI (b :: r)
  | _ => true
theorem J5 : ∀ {l : List (List UInt8)}, kI l = true ↔ ∀ i (h : i + 1 < l.length), kX (l[i]'(by omega)) l[i + 1] < 0
  | [] => by simp [kI]
  | [a] => by simp [kI]
  | a :: b :: r => by
    rw [kI, Bool.and_eq_true, decide_eq_true_eq, J5 (l := b :: r)]
    constructor
    ·
     rintro ⟨h1, h2⟩ i hi
     cases i with
     | zero => exact h1
     | succ i => exact h2 i (by simpa using hi)
    · intro h
      exact ⟨h 0 (by simp), fun i hi => h (i + 1) (by simpa using hi)⟩
theorem Kg {l : List (List UInt8)} (h : kI l = true) : l.Pairwise fun a b => kX a b < 0 := by
  induction l with
  | nil => exact List.Pairwise.nil
  | cons a l ih =>
    rw [List.pairwise_cons]
    have ht : kI l = true := by
      cases l with
      | nil => rfl
      | cons b r => rw [kI, Bool.and_eq_true] at h; exact h.2
    refine ⟨?_, ih ht⟩
    intro x hx
    cases l with
    | nil => cases hx
    | cons b r =>
      rw [kI, Bool.and_eq_true, decide_eq_true_eq] at h
      rcases List.mem_cons.1 hx with rfl | hx
      · exact h.1
      · exact Kf h.1 ((List.pairwise_cons.1 (ih ht)).1 x hx)
theorem KV {l : List (List UInt8)} (h : l.Pairwise fun a b => kX a b < 0) : kI l = true := by
  rw [J5]
  intro i hi
  exact (List.pairwise_iff_getElem.1 h) i (i + 1) (by omega) hi (by omega)
theorem zn {P : Program} {ops : Array Oper} {rest : List Oper} {o : Oper} {a : Act} {w : World} {Q : Act → Prop} (hw : Region.wanted o (yielded ops a.tmps) = true) (ty : TypeId) (x : Operand) (ho : o.op = .load ty x)
    (b off : Nat) (hx : a.eval x = .pointer (some ⟨b, off, none⟩)) (cs : List Value) (d : TypeDesc) (hc : ∀ j u, cs[j]? = some u → w.cell? ⟨b, off + j, none⟩ = some u)
    (hu : P.underlying ty = some d) (hd : (match d with | .struct _ | .array _ _ => true | _ => false) = true) (hi : (P.info? ty).map (·.size) = some cs.length)
    (h : wpStill P ops w Q rest (a.put o.dst (.agg cs.toArray))) : wpStill P ops w Q (o :: rest) a := by
  unfold wpStill
  rw [if_pos hw]
  unfold Oper.still execOp
  simp only [ho, hx, Instr.loadAt, Instr.sureAddr, Sem.run_bind, Sem.run_pure, Result.andThen_ok, qE w b off ty cs d hc hu hd hi]
  exact ⟨rfl, h⟩
end Go.Proofs.YthjaepmfkgejkaaGreatDoor
namespace Go.Proofs.YthjaepmfkgejkaaGreatDoor
open Go.RowKit
theorem uP {α β : Type} {f : α → Option β} : ∀ {l : List α}, (∀ x ∈ l, ∃ y, f x = some y) → ∃ ys, l.mapM f = some ys
  | [], _ => ⟨[], rfl⟩
  | x :: l, h => by
    obtain ⟨y, hy⟩ := h x (by simp)
    obtain ⟨ys, hys⟩ := uP (l := l) fun z hz => h z (by simp [hz])
    exact ⟨y :: ys, by simp [List.mapM_cons, hy, hys]⟩
def Kb (P : Program) (n : Nat) (t : TypeId) (cs : List Value) : Prop := ∀ d, n ≤ d → ∃ l, P.keyLits d t cs = some l
section
variable {P : Program} {t e : TypeId} {m n : Nat} {cs : List Value}
theorem kb_int {k : IntKind} {z : Int} (hu : P.underlying t = some (.int k)) (hw : (Lit.int k z).wf = true) : Kb P 1 t [.int k z] := by
  intro d hd
  cases d with
  | zero => omega
  | succ d => exact ⟨_, by simp [Program.keyLits, hu, hw]; rfl⟩
theorem kb_arr (hu : P.underlying t = some (.array n e)) (hl : cs.length = P.cellsOf t) (h : ∀ i, i < n → Kb P m e ((cs.drop (i * P.cellsOf e)).take (P.cellsOf e))) : Kb P (m + 1) t cs := by
  intro d hd
  cases d with
  | zero => omega
  | succ d =>
    obtain ⟨ys, hys⟩ := uP (l := List.range n) (f := fun i => P.keyLits d e ((cs.drop (i * P.cellsOf e)).take (P.cellsOf e))) fun i hi => h i (by simpa using hi) d (by omega)
    exact ⟨_, by simp only [Program.keyLits, hu, hl, if_true, hys]; rfl⟩
theorem kb_struct {fs : Array Field} (hu : P.underlying t = some (.struct fs)) (hl : cs.length = P.cellsOf t) (hn : fs.all (·.name != "_") = true) (h : ∀ f ∈ fs.toList, Kb P m f.type ((cs.drop f.offset).take (P.cellsOf f.type))) : Kb P (m + 1) t cs := by
  intro d hd
  cases d with
  | zero => omega
  | succ d =>
    obtain ⟨ys, hys⟩ := uP (l := fs.toList) (f := fun f => P.keyLits d f.type ((cs.drop f.offset).take (P.cellsOf f.type))) fun f hf => h f hf d (by omega)
    exact ⟨_, by simp only [Program.keyLits, hu, hl, hn, and_self, if_true, hys]; rfl⟩
structure EqT (P : Program) (t : TypeId) (m : Nat) : Prop where
  laid : laidOutB P = true
  few : P.types.size + 2 ≤ 10000
  row : t < P.types.size
  key : P.keyType t = true
  wide : (match P.underlying t with | some (.array _ _) | some (.struct _) => true | _ => false) = true
  deep : m ≤ P.types.size + 1
  noGuard : P.eqGuardType P.depth t = false
theorem EqT.keyed (E : EqT P t m) : Maps.Keyed P t := Maps.Keyed.of_law (deep_law_laid E.laid (m := P.types.size + 1) E.few E.row E.key E.wide)
theorem EqT.is (E : EqT P t m) (hl : cs.length = P.cellsOf t) (h : Kb P m t cs) : ∃ l, keyOf P t (.agg cs.toArray) = some l := by
  obtain ⟨l, hl2⟩ := h (P.types.size + 1) E.deep
  have hw := E.wide
  have hf : (Value.agg cs.toArray).formed P t = true := by
    unfold Value.formed
    split at hw <;> simp_all
  have hc : (P.keyLits (P.types.size + 1) t (Value.agg cs.toArray).cells.toList).map (fun ls => Lit.string (keyBytes ls)) = some (.string (keyBytes l)) := by
    rw [show (Value.agg cs.toArray).cells.toList = cs from rfl, hl2]; rfl
  refine ⟨.string (keyBytes l), ?_⟩
  unfold keyOf
  split at hw
  · rename_i hu; simp only [hu, E.key, hf, Bool.and_self, if_true]; exact hc
  · rename_i hu; simp only [hu, E.key, hf, Bool.and_self, if_true]; exact hc
  · cases hw
theorem EqT.run (E : EqT P t m) {α : Type} [DecidableEq α] (enc : α → List Value) (hinj : ∀ a b, enc a = enc b → a = b) {a b : α} (la : (enc a).length = P.cellsOf t) (lb : (enc b).length = P.cellsOf t) (ha : Kb P m t (enc a)) (hb : Kb P m t (enc b)) (w : World) :
    (Op.equalIn 10000 t (.agg (enc a).toArray) (.agg (enc b).toArray)).run P w = .ok (decide (a = b)) w := by
  obtain ⟨ka, ha⟩ := E.is la ha
  obtain ⟨kb, hb⟩ := E.is lb hb
  obtain ⟨r, hr, hiff⟩ := run_equal_deep w (m := P.types.size + 1) (by have := E.few; omega) E.key E.wide ha hb
  have h2 : (Op.equalIn 10000 t (.agg (enc a).toArray) (.agg (enc b).toArray)).run P w = .ok r w := hr
  rw [h2]
  congr 1
  rw [Bool.eq_iff_iff, hiff, decide_eq_true_eq]
  constructor
  ·
   intro h
   have := E.keyed.inj ha (by rw [h]; exact hb)
   injection this with this
   exact hinj _ _ (by have := congrArg Array.toList this; simpa using this)
  · rintro rfl
    rw [ha] at hb
    exact Option.some.inj hb
end
section
variable {P : Program} {ρ : Operand → Value} {o : Oper} {w : World}
theorem k9 (ty : TypeId) (x : Operand) (ho : o.op = .load ty x) {p : Addr} (hx : ρ x = .pointer (some p)) {v : Value} (h : (loadVar ty p).run P w = .ok v w) : (execOp ρ o).run P w = .ok (.value v) w := by
  unfold execOp
  simp only [ho, hx, Instr.loadAt, Instr.sureAddr, Sem.run_bind, Sem.run_pure, Result.andThen_ok, h]
theorem K8 (t t' : TypeId) (x y : Operand) (ho : o.op = .binOp .eql t x y t') {xs ys : Array Value} (hx : ρ x = .agg xs) (hy : ρ y = .agg ys) {r : Bool} (hg : P.eqGuardType P.depth t = false)
    (h : (Op.equalIn 10000 t (.agg xs) (.agg ys)).run P w = .ok r w) : (execOp ρ o).run P w = .ok (.value (.bool r)) w := by
  unfold execOp
  simp only [ho, hx, hy, Sem.run_bind, run_eqGuard_agg w _ _ _ _ _ _ hg, Result.andThen_ok, run_eql_struct, h, Sem.run_pure]
theorem kN (t t' : TypeId) (x y : Operand) (ho : o.op = .binOp .neq t x y t') {xs ys : Array Value} (hx : ρ x = .agg xs) (hy : ρ y = .agg ys) {r : Bool} (hg : P.eqGuardType P.depth t = false)
    (h : (Op.equalIn 10000 t (.agg xs) (.agg ys)).run P w = .ok r w) : (execOp ρ o).run P w = .ok (.value (.bool (!r))) w := by
  unfold execOp
  simp only [ho, hx, hy, Sem.run_bind, run_eqGuard_agg w _ _ _ _ _ _ hg, Result.andThen_ok, run_neq_struct, h, Sem.run_pure]
theorem kB (t : TypeId) (ps : Array (Nat × Operand)) (ho : o.op = .build t ps) {v : Value} (h : (Instr.build t (ps.map fun (i, x) => (i, ρ x))).run P w = .ok v w) : (execOp ρ o).run P w = .ok (.value v) w := by
  unfold execOp
  simp only [ho, Sem.run_bind, h, Result.andThen_ok, Sem.run_pure]
end
section
variable {P : Program} {o : Oper} {a : Act} {v : Value}
theorem kG {C : World → Prop} {K : Act → Prop} (h : ∀ w, C w → (execOp a.eval o).run P w = .ok (.value v) w) (hk : K (a.put o.dst v)) : o.quiet P a C K :=
  ⟨v, fun w hw => by unfold Oper.quietAt; rw [h w hw]; exact ⟨rfl, rfl⟩, hk⟩
theorem k6 {ops : Array Oper} {rest : List Oper} {w : World} {Q : Exit → Act → World → Prop} (hw : Region.wanted o (yielded ops a.tmps) = true) (h : (execOp a.eval o).run P w = .ok (.value v) w) (hk : wpList P ops Q rest (a.put o.dst v) w) : wpList P ops Q (o :: rest) a w :=
  BigFrame.wpList_want hw fun K hK => by
    have := hK _ _ hk
    unfold Oper.wp
    rw [h]
    exact this
end
def Wd (base : Nat) (w : World) : Type := { w' : World // Below base w w' }
instance (base : Nat) (w : World) : Nonempty (Wd base w) := ⟨⟨w, Below.refl _ _⟩⟩
theorem Wd.cell {base : Nat} {w : World} {b o : Nat} {v : Value} (hc : w.cell? ⟨b, o, none⟩ = some v) (hb : b < base) : ∀ n : Wd base w, n.val.cell? ⟨b, o, none⟩ = some v := fun n => (n.2.cell (p := ⟨b, o, none⟩) hb).trans hc
theorem Wd.row {base : Nat} {w : World} {b o : Nat} {cs : List Value} (hc : ∀ j u, cs[j]? = some u → w.cell? ⟨b, o + j, none⟩ = some u) (hb : b < base) : ∀ w', (∃ n : Wd base w, w' = n.val) → ∀ j u, cs[j]? = some u → w'.cell? ⟨b, o + j, none⟩ = some u := by
  rintro w' ⟨n, rfl⟩ j u hu
  exact Wd.cell (hc j u hu) hb n
theorem Wd.call {base : Nat} {w : World} {P : Program} {f : FuncId} {args : Array Value} {v : Value} (h : ∀ w', Below base w w' → Calls P f args w' fun e w'' => Below w'.heap.size w' w'' ∧ e = .returned v) (hbs : base ≤ w.heap.size) (n : Wd base w) :
    Calls P f args n.val fun e w'' => e = .returned v ∧ ∃ m : Wd base w, w'' = m.val :=
  (h n.val n.2).mono fun e w'' ⟨hb, he⟩ => ⟨he, ⟨w'', n.2.trans (hb.mono (Nat.le_trans hbs n.2.size))⟩, rfl⟩
theorem jl {P : Program} {id : Nat} {Q : Exit → Act → World → Prop} {a : Act} {w : World} {l : List Oper} {base : Nat} (w0 : World) (hb : Below base w0 w) (hm : P.follows .mixedOrders = true) (hB : Region.lexB .any l.toArray = true)
    (h : wpQuiet P l.toArray (fun w' => ∃ n : Wd base w0, w' = n.val) (fun a' => ∀ w', (∃ n : Wd base w0, w' = n.val) → Q .normal a' w') l a) : (Code.region id l.toArray true).wp P Q a w :=
  wp_region_quiet (C := fun w' => ∃ n : Wd base w0, w' = n.val) hm hB ⟨⟨_, hb.drew⟩, rfl⟩ (by simpa using h)
end Go.Proofs.YthjaepmfkgejkaaGreatDoor
