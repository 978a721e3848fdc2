/-
  A change that came in, read. Conditions: none.
-/
import Derived.Test.YtdgbjhfkmembdaaGreatDoorObjArg
import Derived.Test.YtdgbjhfkmembdaaGreatDoorFew15
namespace Go.Proofs.YtdgbjhfkmembdaaGreatDoor
open Go.RowKit Go.ChangeShapes Go.WideShapes Go.ChangeAt
set_option linter.unusedVariables false

set_option maxRecDepth 100000 in
theorem change_arg {H : Type} {enc : TypeId × Value → H} {W : World} {r : Reach} {b0 : Nat} {v : Value} {d : DataW H} {ps : List MemPlace} (hv : Value.okWide Tryz.prog W r b0 37 v)
    (h : DataW.Trod enc Tryz.prog W 0 (fun _ => true) true 37 v d ps) : ∃ x : ChM, ChMIn W W.heap.size x ∧ v = .agg (chV x).toArray := by
  obtain ⟨ca, rfl, _⟩ := okWide_struct Tryz.underlying37 hv
  obtain ⟨fuel, hf⟩ := h
  obtain ⟨cs, hcs⟩ : ∃ cs, ca.toList = cs := ⟨_, rfl⟩
  have a1 : DataW.trod enc Tryz.prog W 0 (fun _ => true) true fuel 37 cs = some (d, ps) := by rw [← hcs]; exact hf
  obtain ⟨xb, nb, _, _, hlenb, hxlb, hfb⟩ := DataW.trod_struct Tryz.underlying37 a1
  rw [(show Tryz.prog.cellsOf 37 = 4 by kernel_rfl)] at hlenb
  have hxlb' : xb.length = 4 := hxlb
  have b0 : DataW.trod enc Tryz.prog W 0 (fun _ => true) true nb 3 ((cs.drop 0).take (Tryz.prog.cellsOf 3)) = xb[0]? := hfb 0 _ rfl
  have b1 : DataW.trod enc Tryz.prog W 0 (fun _ => true) true nb 34 ((cs.drop 1).take (Tryz.prog.cellsOf 34)) = xb[1]? := hfb 1 _ rfl
  have b2 : DataW.trod enc Tryz.prog W 0 (fun _ => true) true nb 9 ((cs.drop 2).take (Tryz.prog.cellsOf 9)) = xb[2]? := hfb 2 _ rfl
  have b3 : DataW.trod enc Tryz.prog W 0 (fun _ => true) true nb 35 ((cs.drop 3).take (Tryz.prog.cellsOf 35)) = xb[3]? := hfb 3 _ rfl
  rw [cellsInt, List.getElem?_eq_getElem (by omega)] at b0
  rw [(show Tryz.prog.cellsOf 34 = 1 by kernel_rfl), List.getElem?_eq_getElem (by omega)] at b1
  rw [cellsStr, List.getElem?_eq_getElem (by omega)] at b2
  rw [(show Tryz.prog.cellsOf 35 = 1 by kernel_rfl), List.getElem?_eq_getElem (by omega)] at b3
  obtain ⟨n0, f0, _, wn⟩ := DataW.trod_int Tryz.underlying3 b0
  obtain ⟨A1, m1, d1, f1, t1⟩ := trodSlice Tryz.underlying34 b1
  obtain ⟨au, f2, _, hau⟩ := DataW.trod_string Tryz.underlying9 b2
  obtain ⟨A2, m2, d2, f3, t2⟩ := trodSlice Tryz.underlying35 b3
  obtain ⟨l1, rfl, g1, k1, i1, s1⟩ := ids_in8 t1
  obtain ⟨l2, rfl, g2, k2, i2, s2⟩ := ops_in8 t2
  have sb : cs = (cs.drop 0).take 1 ++ ((cs.drop 1).take 1 ++ ((cs.drop 2).take 1 ++ (cs.drop 3).take 1)) := by
    rw [List.take_of_length_le (show (cs.drop 3).length ≤ 1 by simp; omega), ← cut_at (a := 2) (b := 1), ← cut_at (a := 1) (b := 1), ← cut_at (a := 0) (b := 1), List.drop_zero]
  rw [f0, f1, f2, f3, ← hcs] at sb
  refine ⟨((n0, l1, au, l2), (A1, d1, A2, d2)), ⟨⟨wn, i1, fun x hx => (i2 x hx).1⟩, i2, hau, s1, s2, g1, g2⟩, ?_⟩
  have e2 := congrArg List.toArray sb
  rw [Array.toArray_toList] at e2
  exact congrArg Value.agg e2
/-- The zero change's data. -/
def chData (H : Type) : DataW H := .agg [.lit (.int .i64 0), .nil, .lit (.string []), .nil]
def chZ15 : List Value := chC 0 none 0 0 noneS none 0 0
end Go.Proofs.YtdgbjhfkmembdaaGreatDoor
