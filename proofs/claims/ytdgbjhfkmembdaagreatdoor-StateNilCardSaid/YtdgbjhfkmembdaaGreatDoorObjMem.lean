/-
  Objects as they lie in memory: an operation's cells, an object's; '==' on refs and operations. Conditions: the values are well formed, as each says.
-/
import Derived.Test.YtdgbjhfkmembdaaGreatDoorObjBackS
import Derived.Test.YtdgbjhfkmembdaaGreatDoorRowList
import Derived.Test.YtdgbjhfkmembdaaGreatDoorBut
namespace Go.Proofs.YtdgbjhfkmembdaaGreatDoor
open Go.RowKit
set_option linter.unusedVariables false

/-- An operation's cells. -/
def opV (x : OpD) : List Value := .int .u8 (x.1.toNat : Int) :: (refV x.2.1 ++ (refV x.2.2.1 ++ [.string x.2.2.2.1, .int .i64 x.2.2.2.2.1, .string x.2.2.2.2.2]))
/-- An operation that may lie in memory: ids of 32 bytes, numbers and sizes that are such. -/
def OpIn (x : OpD) : Prop := OpOk x ∧ x.2.2.2.1.size ≤ maxLen ∧ x.2.2.2.2.2.size ≤ maxLen
theorem opV_length {x : OpD} (h : OpIn x) : (opV x).length = 70 := by
  have h1 := refV_length h.1.1
  have h2 := refV_length h.1.2.1
  simp [opV, h1, h2]
theorem opV_one (x : OpD) : ∀ u ∈ opV x, u.oneCell' = true := by
  intro u hu
  unfold opV at hu
  rcases List.mem_cons.1 hu with rfl | hu
  · rfl
  · rcases List.mem_append.1 hu with hu | hu
    · exact refV_one _ u hu
    · rcases List.mem_append.1 hu with hu | hu
      · exact refV_one _ u hu
      · simp at hu; rcases hu with rfl | rfl | rfl <;> rfl
theorem opV_inj {a b : OpD} (ha : OpIn a) (hb : OpIn b) (h : opV a = opV b) : a = b := by
  obtain ⟨k, d, p, t, c, q⟩ := a
  obtain ⟨k', d', p', t', c', q'⟩ := b
  unfold opV at h
  simp only [List.cons.injEq, Value.int.injEq, true_and] at h
  obtain ⟨hk, h⟩ := h
  have h1 := refV_length ha.1.1
  have h2 := refV_length hb.1.1
  have h3 := refV_length ha.1.2.1
  have h4 := refV_length hb.1.2.1
  simp only at h1 h2 h3 h4
  obtain ⟨e1, h⟩ := List.append_inj h (by rw [h1, h2])
  obtain ⟨e2, h⟩ := List.append_inj h (by rw [h3, h4])
  simp only [List.cons.injEq, Value.string.injEq, Value.int.injEq, true_and, and_true] at h
  obtain ⟨e3, e4, e5⟩ := h
  rw [UInt8.toNat_inj.1 (by omega : k.toNat = k'.toNat), refV_inj e1, refV_inj e2, e3, e4, e5]
/-- The cells of an operation, one by one. -/
theorem op_cells {x : OpD} (h : OpIn x) : (opV x)[0]? = some (.int .u8 (x.1.toNat : Int)) ∧ (∀ (j : Nat) (u : Value), (refV x.2.1)[j]? = some u → (opV x)[1 + j]? = some u) ∧ (∀ (j : Nat) (u : Value), (refV x.2.2.1)[j]? = some u → (opV x)[34 + j]? = some u) ∧
    (opV x)[67]? = some (.string x.2.2.2.1) ∧ (opV x)[68]? = some (.int .i64 x.2.2.2.2.1) ∧ (opV x)[69]? = some (.string x.2.2.2.2.2) := by
  have h1 := refV_length h.1.1
  have h2 := refV_length h.1.2.1
  have e : opV x = [.int .u8 (x.1.toNat : Int)] ++ refV x.2.1 ++ refV x.2.2.1 ++ [.string x.2.2.2.1, .int .i64 x.2.2.2.2.1, .string x.2.2.2.2.2] := by simp [opV]
  have l1 : ([.int .u8 (x.1.toNat : Int)] ++ refV x.2.1 : List Value).length = 34 := by simp [h1]
  have l2 : ([.int .u8 (x.1.toNat : Int)] ++ refV x.2.1 ++ refV x.2.2.1 : List Value).length = 67 := by simp [h1, h2]
  refine ⟨rfl, fun j u hj => ?_, fun j u hj => ?_, ?_, ?_, ?_⟩
  · have hlt := (List.getElem?_eq_some_iff.1 hj).1
    rw [e, List.append_assoc, List.append_assoc, List.getElem?_append_right (by simp), List.getElem?_append_left (by simp <;> omega)]
    simpa using hj
  · have hlt := (List.getElem?_eq_some_iff.1 hj).1
    rw [e, List.append_assoc, List.getElem?_append_right (by omega), l1, List.getElem?_append_left (by omega), Nat.add_sub_cancel_left]
    exact hj
  · rw [e, List.getElem?_append_right (by omega), l2]; rfl
  · rw [e, List.getElem?_append_right (by omega), l2]; rfl
  · rw [e, List.getElem?_append_right (by omega), l2]; rfl
theorem ref_cells {r : RefD} (h : RefOk r) : (∀ (j : Nat) (u : Value), (idV r.1)[j]? = some u → (refV r)[j]? = some u) ∧ (refV r)[32]? = some (.int .i64 r.2) := by
  have h1 : (idV r.1).length = 32 := by rw [idV_length]; exact h.1
  refine ⟨fun j u hj => ?_, ?_⟩
  · unfold refV
    rw [List.getElem?_append_left (List.getElem?_eq_some_iff.1 hj).1]
    exact hj
  · unfold refV
    rw [List.getElem?_append_right (by omega), h1]; rfl

theorem cellsRef : Tryz.prog.cellsOf 110 = 33 := by kernel_rfl
set_option maxRecDepth 100000 in
theorem eqRef : EqT Tryz.prog 110 3 := ⟨by kernel_rfl, of_decide_eq_true (by kernel_rfl), of_decide_eq_true (by kernel_rfl), by kernel_rfl, by kernel_rfl, of_decide_eq_true (by kernel_rfl), by kernel_rfl⟩
theorem kbRef {r : RefD} (hr : RefOk r) : Kb Tryz.prog 3 110 (refV r) := by
  have hln := refV_length hr
  have hid : (idV r.1).length = 32 := by rw [idV_length]; exact hr.1
  refine kb_struct Tryz.underlying110 (by rw [hln, cellsRef]) (by kernel_rfl) fun f hf => ?_
  simp only [List.mem_cons, List.not_mem_nil, or_false] at hf
  rcases hf with rfl | rfl
  · simp only [cellsId, List.drop_zero]
    rw [show (refV r).take 32 = idV r.1 by unfold refV; rw [← hid, List.take_left]]
    exact kbId hr.1
  · simp only [cellsInt]
    rw [show ((refV r).drop 32).take 1 = [.int .i64 r.2] from cut_end hid rfl]
    exact fun d hd => kb_int Tryz.underlying3 hr.2 d (by omega)
theorem run_eqRef {a b : RefD} (ha : RefOk a) (hb : RefOk b) (w : World) : (Op.equalIn 10000 110 (.agg (refV a).toArray) (.agg (refV b).toArray)).run Tryz.prog w = .ok (decide (a = b)) w :=
  eqRef.run refV (fun _ _ => refV_inj) (by rw [refV_length ha, cellsRef]) (by rw [refV_length hb, cellsRef]) (kbRef ha) (kbRef hb) w
theorem zeroRef_ok : RefOk zeroRef := ⟨zero32_ok, by decide⟩

/-- An object's own cells: what it is made of, and where its lists lie. -/
structure ObjIn (w : World) (B : Nat) (v : Value) (o : ObjD) : Prop where
  ok : ObjOk o
  ops : ∀ x ∈ o.2.1.2.2.2, OpIn x
  author : o.2.1.2.2.1.size ≤ maxLen
  author2 : o.2.2.2.2.1.size ≤ maxLen
  note : o.2.2.2.2.2.1.size ≤ maxLen
  cells : ∃ Ad cd Ao co Ap cp Ac cc, v = .agg #[.int .u8 (o.1.toNat : Int), .int .i64 o.2.1.1, .slice Ad o.2.1.2.1.length cd, .string o.2.1.2.2.1, .slice Ao o.2.1.2.2.2.length co, .slice Ap o.2.2.1.length cp, .slice Ac o.2.2.2.1.length cc, .string o.2.2.2.2.1, .string o.2.2.2.2.2.1, .int .i64 o.2.2.2.2.2.2] ∧
    Sl w B Ad o.2.1.2.1.length 32 (idsV o.2.1.2.1) ∧ Sl w B Ao o.2.1.2.2.2.length 70 (rowsV opV o.2.1.2.2.2) ∧ Sl w B Ap o.2.2.1.length 32 (idsV o.2.2.1) ∧ Sl w B Ac o.2.2.2.1.length 32 (idsV o.2.2.2.1)
/-- A change's own cells. -/
structure ChIn (w : World) (B : Nat) (v : Value) (c : ChangeD) : Prop where
  ok : ChangeOk c
  ops : ∀ x ∈ c.2.2.2, OpIn x
  author : c.2.2.1.size ≤ maxLen
  cells : ∃ Ad cd Ao co, v = .agg #[.int .i64 c.1, .slice Ad c.2.1.length cd, .string c.2.2.1, .slice Ao c.2.2.2.length co] ∧ Sl w B Ad c.2.1.length 32 (idsV c.2.1) ∧ Sl w B Ao c.2.2.2.length 70 (rowsV opV c.2.2.2)
structure CmIn (w : World) (B : Nat) (v : Value) (c : CommitD) : Prop where
  ok : CommitOk c
  author : c.2.2.1.size ≤ maxLen
  note : c.2.2.2.1.size ≤ maxLen
  cells : ∃ Ap cp Ac cc, v = .agg #[.slice Ap c.1.length cp, .slice Ac c.2.1.length cc, .string c.2.2.1, .string c.2.2.2.1, .int .i64 c.2.2.2.2] ∧ Sl w B Ap c.1.length 32 (idsV c.1) ∧ Sl w B Ac c.2.1.length 32 (idsV c.2.1)
section
variable {w w' : World} {B B' : Nat} {v : Value}
theorem ObjIn.keep {o : ObjD} (h : ObjIn w B v o) (hb : Below B w w') : ObjIn w' B v o := by
  obtain ⟨h1, h2, h3, h4, h5, Ad, cd, Ao, co, Ap, cp, Ac, cc, hv, s1, s2, s3, s4⟩ := h
  exact ⟨h1, h2, h3, h4, h5, Ad, cd, Ao, co, Ap, cp, Ac, cc, hv, s1.keep hb, s2.keep hb, s3.keep hb, s4.keep hb⟩
theorem ObjIn.more {o : ObjD} (h : ObjIn w B v o) (hB : B ≤ B') : ObjIn w B' v o := by
  obtain ⟨h1, h2, h3, h4, h5, Ad, cd, Ao, co, Ap, cp, Ac, cc, hv, s1, s2, s3, s4⟩ := h
  exact ⟨h1, h2, h3, h4, h5, Ad, cd, Ao, co, Ap, cp, Ac, cc, hv, s1.more hB, s2.more hB, s3.more hB, s4.more hB⟩
theorem ChIn.keep {o : ChangeD} (h : ChIn w B v o) (hb : Below B w w') : ChIn w' B v o := by
  obtain ⟨h1, h2, h3, Ad, cd, Ao, co, hv, s1, s2⟩ := h
  exact ⟨h1, h2, h3, Ad, cd, Ao, co, hv, s1.keep hb, s2.keep hb⟩
theorem ChIn.more {o : ChangeD} (h : ChIn w B v o) (hB : B ≤ B') : ChIn w B' v o := by
  obtain ⟨h1, h2, h3, Ad, cd, Ao, co, hv, s1, s2⟩ := h
  exact ⟨h1, h2, h3, Ad, cd, Ao, co, hv, s1.more hB, s2.more hB⟩
theorem CmIn.keep {o : CommitD} (h : CmIn w B v o) (hb : Below B w w') : CmIn w' B v o := by
  obtain ⟨h1, h2, h3, Ad, cd, Ao, co, hv, s1, s2⟩ := h
  exact ⟨h1, h2, h3, Ad, cd, Ao, co, hv, s1.keep hb, s2.keep hb⟩
theorem CmIn.more {o : CommitD} (h : CmIn w B v o) (hB : B ≤ B') : CmIn w B' v o := by
  obtain ⟨h1, h2, h3, Ad, cd, Ao, co, hv, s1, s2⟩ := h
  exact ⟨h1, h2, h3, Ad, cd, Ao, co, hv, s1.more hB, s2.more hB⟩
end
end Go.Proofs.YtdgbjhfkmembdaaGreatDoor
