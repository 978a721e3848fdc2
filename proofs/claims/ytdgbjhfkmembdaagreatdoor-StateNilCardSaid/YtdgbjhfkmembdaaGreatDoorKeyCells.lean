/-
  Ids, refs and keys of the program: compared cell by cell; read from what came in. Conditions: the values are well formed, as each says.
-/
import Derived.Test.YtdgbjhfkmembdaaGreatDoorProg
import Derived.Test.YtdgbjhfkmembdaaGreatDoorQStep
namespace Go.Proofs.YtdgbjhfkmembdaaGreatDoor
open Go.RowKit
set_option linter.unusedVariables false

theorem cut_mid {α : Type} {a b c : List α} {n m : Nat} (ha : a.length = n) (hb : b.length = m) : ((a ++ (b ++ c)).drop n).take m = b := by
  subst ha; subst hb
  simp
theorem cut_end {α : Type} {a b : List α} {n m : Nat} (ha : a.length = n) (hb : b.length = m) : ((a ++ b).drop n).take m = b := by
  subst ha; subst hb
  simp
def zero32 : List UInt8 := List.replicate 32 0
theorem zero32_ok : IdOk zero32 := by simp [IdOk, zero32]

section
variable {P : Program} {t u i a : TypeId}
theorem kb_id (ht : P.underlying t = some (.array 32 u)) (hu : P.underlying u = some (.int .u8)) (hc : P.cellsOf u = 1) (hct : P.cellsOf t = 32) {l : List UInt8} (hl : IdOk l) : Kb P 2 t (idV l) := by
  have hln : (idV l).length = 32 := by rw [idV_length]; exact hl
  refine kb_arr ht (by rw [hct, hln]) fun j hj => ?_
  rw [hc, Nat.mul_one, List.drop_eq_getElem_cons (by omega), List.take_succ_cons, List.take_zero]
  have hlj : j < l.length := by rw [hl]; exact hj
  rw [show (idV l)[j]'(by omega) = .int .u8 ((l[j]'hlj).toNat : Int) by simp [idV]]
  refine kb_int hu ?_
  simp only [Lit.wf, IntKind.min, IntKind.max, IntKind.signed, IntKind.bits, Bool.and_eq_true]
  have := (l[j]'hlj).toNat_lt
  simp
  omega
end
/-- A ref: an id, an index. -/
abbrev RefD := List UInt8 × Int
def refV (r : RefD) : List Value := idV r.1 ++ [.int .i64 r.2]
def RefOk (r : RefD) : Prop := IdOk r.1 ∧ (Lit.int .i64 r.2).wf = true
theorem refV_length {r : RefD} (h : RefOk r) : (refV r).length = 33 := by
  have := h.1
  unfold IdOk at this
  simp [refV, idV, this]
theorem refV_inj {a b : RefD} (h : refV a = refV b) : a = b := by
  unfold refV at h
  have hl := congrArg List.length h
  simp only [List.length_append, List.length_singleton] at hl
  obtain ⟨h3, h4⟩ := List.append_inj h (by omega)
  simp only [List.cons.injEq, Value.int.injEq, true_and, and_true] at h4
  exact Prod.ext (idV_inj h3) h4
theorem refV_one (r : RefD) : ∀ u ∈ refV r, u.oneCell' = true := by
  intro u hu
  rcases List.mem_append.1 hu with hu | hu
  · exact idV_one _ u hu
  · simp at hu; subst hu; rfl

theorem cellsId : Tryz.prog.cellsOf 41 = 32 := by kernel_rfl
theorem cellsKey : Tryz.prog.cellsOf 89 = 34 := by kernel_rfl
theorem cellsU8 : Tryz.prog.cellsOf 5 = 1 := by kernel_rfl
theorem cellsInt : Tryz.prog.cellsOf 3 = 1 := by kernel_rfl
theorem cellsStr : Tryz.prog.cellsOf 9 = 1 := by kernel_rfl
theorem kbId {l : List UInt8} (hl : IdOk l) : Kb Tryz.prog 2 41 (idV l) := kb_id Tryz.underlying41 Tryz.underlying5 cellsU8 cellsId hl
set_option maxRecDepth 100000 in
theorem eqId : EqT Tryz.prog 41 2 := ⟨by kernel_rfl, of_decide_eq_true (by kernel_rfl), of_decide_eq_true (by kernel_rfl), by kernel_rfl, by kernel_rfl, of_decide_eq_true (by kernel_rfl), by kernel_rfl⟩
set_option maxRecDepth 100000 in
theorem eqKey : EqT Tryz.prog 89 3 := ⟨by kernel_rfl, of_decide_eq_true (by kernel_rfl), of_decide_eq_true (by kernel_rfl), by kernel_rfl, by kernel_rfl, of_decide_eq_true (by kernel_rfl), by kernel_rfl⟩
theorem kbKey {k : KeyD} (hk : KeyOk k) : Kb Tryz.prog 3 89 (keyV k) := by
  have hln := keyV_length hk
  have hid : (idV k.2.1).length = 32 := by rw [idV_length]; exact hk.2.1
  refine kb_struct Tryz.underlying89 (by rw [hln, cellsKey]) (by kernel_rfl) fun f hf => ?_
  simp only [List.mem_cons, List.not_mem_nil, or_false] at hf
  rcases hf with rfl | rfl | rfl
  · simp only [cellsInt, List.drop_zero]
    exact fun d hd => kb_int Tryz.underlying3 hk.1 d (by omega)
  · simp only [cellsId]
    rw [show ((keyV k).drop 1).take 32 = idV k.2.1 from cut_mid (a := [.int .i64 k.1]) rfl hid]
    exact kbId hk.2.1
  · simp only [cellsInt]
    rw [show ((keyV k).drop 33).take 1 = [.int .i64 k.2.2] from by
      show ((.int .i64 k.1 :: (idV k.2.1 ++ [.int .i64 k.2.2])).drop 33).take 1 = _
      rw [show (.int .i64 k.1 :: (idV k.2.1 ++ [Value.int .i64 k.2.2]) : List Value) = (.int .i64 k.1 :: idV k.2.1) ++ [.int .i64 k.2.2] from rfl]
      exact cut_end (by simp [hid]) rfl]
    exact fun d hd => kb_int Tryz.underlying3 hk.2.2 d (by omega)
theorem run_eqId {a b : List UInt8} (ha : IdOk a) (hb : IdOk b) (w : World) : (Op.equalIn 10000 41 (.agg (idV a).toArray) (.agg (idV b).toArray)).run Tryz.prog w = .ok (decide (a = b)) w :=
  eqId.run idV (fun _ _ => idV_inj) (by rw [idV_length, cellsId]; exact ha) (by rw [idV_length, cellsId]; exact hb) (kbId ha) (kbId hb) w
theorem run_eqKey {a b : KeyD} (ha : KeyOk a) (hb : KeyOk b) (w : World) : (Op.equalIn 10000 89 (.agg (keyV a).toArray) (.agg (keyV b).toArray)).run Tryz.prog w = .ok (decide (a = b)) w :=
  eqKey.run keyV (fun _ _ => keyV_inj) (by rw [keyV_length ha, cellsKey]) (by rw [keyV_length hb, cellsKey]) (kbKey ha) (kbKey hb) w
theorem keyedKey : Go.Maps.Keyed Tryz.prog 89 := eqKey.keyed
end Go.Proofs.YtdgbjhfkmembdaaGreatDoor
