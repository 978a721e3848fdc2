/-
  Ids and keys as cells: what a value of such a type holds, read as data; loads and stores of several cells at once. Over any program; conditions as each says.
-/
import Derived.Test.YtdgbjhfkmembdaaGreatDoorKeySpec
import Derived.Test.YtdgbjhfkmembdaaGreatDoorMem
import Derived.OpenShut
import Derived.Deep.Slices
import Derived.Deep.Fields
namespace Go.Proofs.YtdgbjhfkmembdaaGreatDoor
open Go.RowKit
set_option linter.unusedVariables false

/-- An id's cells; a key's. -/
def idV (l : List UInt8) : List Value := l.map fun b => Value.int .u8 (b.toNat : Int)
def keyV (k : KeyD) : List Value := .int .i64 k.1 :: (idV k.2.1 ++ [.int .i64 k.2.2])
def IdOk (l : List UInt8) : Prop := l.length = 32
def KeyOk (k : KeyD) : Prop := (Lit.int .i64 k.1).wf = true ∧ IdOk k.2.1 ∧ (Lit.int .i64 k.2.2).wf = true
theorem idV_length (l : List UInt8) : (idV l).length = l.length := by simp [idV]
theorem keyV_length {k : KeyD} (h : KeyOk k) : (keyV k).length = 34 := by
  have := h.2.1
  unfold IdOk at this
  simp [keyV, idV, this]
theorem idV_one (l : List UInt8) : ∀ u ∈ idV l, u.oneCell' = true := by
  intro u hu
  obtain ⟨b, _, rfl⟩ := List.mem_map.1 hu
  rfl
theorem keyV_one (k : KeyD) : ∀ u ∈ keyV k, u.oneCell' = true := by
  intro u hu
  unfold keyV at hu
  rcases List.mem_cons.1 hu with rfl | hu
  · rfl
  · rcases List.mem_append.1 hu with hu | hu
    · exact idV_one _ u hu
    · simp at hu; subst hu; rfl
theorem idV_inj {a b : List UInt8} (h : idV a = idV b) : a = b := by
  induction a generalizing b with
  | nil => cases b with
    | nil => rfl
    | cons _ _ => simp [idV] at h
  | cons x a ih => cases b with
    | nil => simp [idV] at h
    | cons y b =>
      simp only [idV, List.map_cons, List.cons.injEq, Value.int.injEq, true_and] at h
      rw [ih h.2, UInt8.toNat_inj.1 (by omega : x.toNat = y.toNat)]
theorem keyV_inj {a b : KeyD} (h : keyV a = keyV b) : a = b := by
  unfold keyV at h
  simp only [List.cons.injEq, Value.int.injEq, true_and] at h
  obtain ⟨h1, h2⟩ := h
  have hl := congrArg List.length h2
  simp only [List.length_append, List.length_singleton] at hl
  obtain ⟨h3, h4⟩ := List.append_inj h2 (by omega)
  simp only [List.cons.injEq, Value.int.injEq, true_and, and_true] at h4
  exact Prod.ext h1 (Prod.ext (idV_inj h3) h4)

section
variable {H : Type} {enc : TypeId × Value → H} {P : Program} {w : World} {base : Nat} {spare : Nat → Bool} {held : Bool} {fuel : Nat} {cs : List Value} {x : DataW H × List MemPlace}

theorem trod_id {t u : TypeId} (ht : P.underlying t = some (.array 32 u)) (hu : P.underlying u = some (.int .u8)) (hc : P.cellsOf u = 1) (hct : P.cellsOf t = 32)
    (h : DataW.trod enc P w base spare held fuel t cs = some x) : ∃ l : List UInt8, IdOk l ∧ cs = idV l := by
  obtain ⟨xs, m, _, _, hlen, hxl, hf⟩ := DataW.trod_array ht h
  rw [hct] at hlen
  have each : ∀ i, i < 32 → ∃ b : UInt8, cs[i]? = some (.int .u8 (b.toNat : Int)) := by
    intro i hi
    have h1 := hf i hi
    rw [hc, List.getElem?_eq_getElem (by omega : i < xs.length)] at h1
    obtain ⟨n, h2, _, hw⟩ := DataW.trod_int hu h1
    have hr : 0 ≤ n ∧ n ≤ 255 := by
      simp only [Lit.wf, IntKind.min, IntKind.max, IntKind.signed, IntKind.bits, Bool.and_eq_true] at hw
      simp at hw
      omega
    rw [Nat.mul_one, List.drop_eq_getElem_cons (by omega), List.take_succ_cons] at h2
    have h3 : cs[i]'(by omega) = .int .u8 n := (List.cons.inj h2).1
    refine ⟨UInt8.ofNat n.toNat, ?_⟩
    rw [List.getElem?_eq_getElem (by omega), h3]
    congr 2
    simp
    omega
  obtain ⟨f, hf⟩ := Go.Deep.choose_lt each
  refine ⟨(List.range 32).map f, by simp [IdOk], ?_⟩
  apply List.ext_getElem?
  intro i
  by_cases hi : i < 32
  · rw [hf i hi]
    simp [idV, hi]
  · rw [List.getElem?_eq_none (by omega), List.getElem?_eq_none (by simp [idV]; omega)]
theorem trod_key {t a u i : TypeId} {f0 f1 f2 : Field} (ht : P.underlying t = some (.struct #[f0, f1, f2])) (h0 : f0.type = i ∧ f0.offset = 0) (h1 : f1.type = a ∧ f1.offset = 1) (h2 : f2.type = i ∧ f2.offset = 33)
    (hi : P.underlying i = some (.int .i64)) (ha : P.underlying a = some (.array 32 u)) (hu : P.underlying u = some (.int .u8)) (ci : P.cellsOf i = 1) (ca : P.cellsOf a = 32) (cu : P.cellsOf u = 1) (ct : P.cellsOf t = 34)
    (h : DataW.trod enc P w base spare held fuel t cs = some x) : ∃ k : KeyD, KeyOk k ∧ cs = keyV k := by
  obtain ⟨xs, n, _, _, hlen, hxl, hf⟩ := DataW.trod_struct ht h
  rw [ct] at hlen
  have hxl' : xs.length = 3 := hxl
  have g0 := hf 0 f0 rfl
  have g1 := hf 1 f1 rfl
  have g2 := hf 2 f2 rfl
  rw [h0.1, h0.2, ci, List.getElem?_eq_getElem (by omega)] at g0
  rw [h1.1, h1.2, ca, List.getElem?_eq_getElem (by omega)] at g1
  rw [h2.1, h2.2, ci, List.getElem?_eq_getElem (by omega)] at g2
  obtain ⟨n0, e0, _, w0⟩ := DataW.trod_int hi g0
  obtain ⟨l, hl, e1⟩ := trod_id ha hu cu ca g1
  obtain ⟨n2, e2, _, w2⟩ := DataW.trod_int hi g2
  refine ⟨(n0, l, n2), ⟨w0, hl, w2⟩, ?_⟩
  have hsplit : cs = cs.take 1 ++ ((cs.drop 1).take 32 ++ (cs.drop 33).take 1) := by
    have a1 : (cs.drop 33).take 1 = cs.drop 33 := List.take_of_length_le (by simp; omega)
    rw [a1, show cs.drop 33 = (cs.drop 1).drop 32 by rw [List.drop_drop], List.take_append_drop, List.take_append_drop]
  rw [hsplit, e1, e2, show cs.take 1 = (cs.drop 0).take 1 from rfl, e0]
  rfl
end

/-- A load of several cells at once. -/
theorem run_loadN {P : Program} (w : World) (b off : Nat) (ty : TypeId) (cs : List Value) (d : TypeDesc) (hc : ∀ j u, cs[j]? = some u → w.cell? ⟨b, off + j, none⟩ = some u)
    (hu : P.underlying ty = some d) (hd : (match d with | .struct _ | .array _ _ => true | _ => false) = true) (hi : (P.info? ty).map (·.size) = some cs.length) :
    (loadVar ty ⟨b, off, none⟩).run P w = .ok (.agg cs.toArray) w := by
  have hl : (loadCells ⟨b, off, none⟩ cs.length).run P w = .ok cs.toArray w :=
    run_loadCells_list (P := P) w ⟨b, off, none⟩ cs (fun j v hv => by
      have hadd : (⟨b, off, none⟩ : Addr).add j = ⟨b, off + j, none⟩ := by unfold Addr.add; split <;> simp_all
      rw [hadd]
      exact hc j v hv)
  cases hq : P.info? ty with
  | none => simp [hq] at hi
  | some i =>
    have hs : i.size = cs.length := by simpa [hq] using hi
    have hagg : (isAgg ty).run P w = .ok true w := by
      unfold isAgg
      rw [Sem.run_bind, run_underlying hu w]
      cases d <;> simp_all
    simp [loadVar, Sem.run_bind, hagg, sizeOf, typeInfo, hq, hs, hl]
theorem wp_loadN {P : Program} {ops : Array Oper} {rest : List Oper} {o : Oper} {a : Act} {w : World} {Q : Exit → Act → World → Prop} (hgd : o.guard = none) (ty : TypeId) (x : Operand) (ho : o.op = .load ty x)
    (b off : Nat) (hx : a.eval x = .pointer (some ⟨b, off, none⟩)) (cs : List Value) (d : TypeDesc) (hc : ∀ j u, cs[j]? = some u → w.cell? ⟨b, off + j, none⟩ = some u)
    (hu : P.underlying ty = some d) (hd : (match d with | .struct _ | .array _ _ => true | _ => false) = true) (hi : (P.info? ty).map (·.size) = some cs.length)
    (h : wpList P ops Q rest (a.put o.dst (.agg cs.toArray)) w) : wpList P ops Q (o :: rest) a w :=
  wpList_plain hgd fun K hK => by
    have := hK _ _ h
    unfold Oper.wp execOp
    simp only [ho, hx, Instr.loadAt, Instr.sureAddr, Sem.run_bind, Sem.run_pure, Result.andThen_ok, run_loadN w b off ty cs d hc hu hd hi]
    exact this
end Go.Proofs.YtdgbjhfkmembdaaGreatDoor
