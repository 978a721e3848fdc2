/-
  Objects and bytes that came in, read. Conditions: none.
-/
import Derived.Test.YtdgbjhfkmembdaaGreatDoorObjMem
import Derived.Test.YtdgbjhfkmembdaaGreatDoorFrame
import Derived.Test.YtdgbjhfkmembdaaGreatDoorObjCap
namespace Go.Proofs.YtdgbjhfkmembdaaGreatDoor
open Go.RowKit Go.ChangeShapes Go.WideShapes Go.ChangeAt
set_option linter.unusedVariables false

section
variable {H : Type} {enc : TypeId × Value → H} {W : World} {base : Nat} {spare : Nat → Bool} {held : Bool} {fuel : Nat} {cs : List Value} {x : DataW H × List MemPlace}
theorem trodId8 (h : DataW.trod enc Tryz.prog W base spare held fuel 41 cs = some x) : ∃ l : List UInt8, IdOk l ∧ cs = idV l :=
  trod_id Tryz.underlying41 Tryz.underlying5 cellsU8 cellsId h
/-- Cells cut at places. -/
theorem cut_at {l : List Value} {a b : Nat} : (l.drop a) = (l.drop a).take b ++ l.drop (a + b) := by rw [← List.drop_drop, List.take_append_drop]
set_option maxRecDepth 100000 in
theorem trodRef (h : DataW.trod enc Tryz.prog W base spare held fuel 110 cs = some x) : ∃ r : RefD, RefOk r ∧ cs = refV r := by
  obtain ⟨xs, n, _, _, hlen, hxl, hf⟩ := DataW.trod_struct Tryz.underlying110 h
  rw [cellsRef] at hlen
  have hxl' : xs.length = 2 := hxl
  have g0 : DataW.trod enc Tryz.prog W base spare held n 41 ((cs.drop 0).take (Tryz.prog.cellsOf 41)) = xs[0]? := hf 0 _ rfl
  have g1 : DataW.trod enc Tryz.prog W base spare held n 3 ((cs.drop 32).take (Tryz.prog.cellsOf 3)) = xs[1]? := hf 1 _ rfl
  rw [cellsId, List.getElem?_eq_getElem (by omega)] at g0
  rw [cellsInt, List.getElem?_eq_getElem (by omega)] at g1
  obtain ⟨l, hl, e0⟩ := trodId8 g0
  obtain ⟨n1, e1, _, w1⟩ := DataW.trod_int Tryz.underlying3 g1
  refine ⟨(l, n1), ⟨hl, w1⟩, ?_⟩
  have hsplit : cs = (cs.drop 0).take 32 ++ (cs.drop 32).take 1 := by
    rw [List.take_of_length_le (show (cs.drop 32).length ≤ 1 by simp; omega), List.drop_zero, List.take_append_drop]
  rw [hsplit, e0, e1]
  rfl
theorem u8_arg {n : Int} (h : (Lit.int .u8 n).wf = true) : ∃ k : UInt8, n = (k.toNat : Int) := by
  simp only [Lit.wf, IntKind.min, IntKind.max, IntKind.signed, IntKind.bits, Bool.and_eq_true] at h
  simp at h
  refine ⟨UInt8.ofNat n.toNat, ?_⟩
  rw [UInt8.toNat_ofNat_of_lt' (by show n.toNat < 256; omega)]
  omega
set_option maxRecDepth 100000 in
theorem trodOp (h : DataW.trod enc Tryz.prog W base spare held fuel 112 cs = some x) : ∃ o : OpD, OpIn o ∧ cs = opV o := by
  obtain ⟨xs, n, _, _, hlen, hxl, hf⟩ := DataW.trod_struct Tryz.underlying112 h
  rw [show Tryz.prog.cellsOf 112 = 70 by kernel_rfl] at hlen
  have hxl' : xs.length = 6 := hxl
  have g0 : DataW.trod enc Tryz.prog W base spare held n 5 ((cs.drop 0).take (Tryz.prog.cellsOf 5)) = xs[0]? := hf 0 _ rfl
  have g1 : DataW.trod enc Tryz.prog W base spare held n 110 ((cs.drop 1).take (Tryz.prog.cellsOf 110)) = xs[1]? := hf 1 _ rfl
  have g2 : DataW.trod enc Tryz.prog W base spare held n 110 ((cs.drop 34).take (Tryz.prog.cellsOf 110)) = xs[2]? := hf 2 _ rfl
  have g3 : DataW.trod enc Tryz.prog W base spare held n 9 ((cs.drop 67).take (Tryz.prog.cellsOf 9)) = xs[3]? := hf 3 _ rfl
  have g4 : DataW.trod enc Tryz.prog W base spare held n 3 ((cs.drop 68).take (Tryz.prog.cellsOf 3)) = xs[4]? := hf 4 _ rfl
  have g5 : DataW.trod enc Tryz.prog W base spare held n 9 ((cs.drop 69).take (Tryz.prog.cellsOf 9)) = xs[5]? := hf 5 _ rfl
  rw [cellsU8, List.getElem?_eq_getElem (by omega)] at g0
  rw [cellsRef, List.getElem?_eq_getElem (by omega)] at g1
  rw [cellsRef, List.getElem?_eq_getElem (by omega)] at g2
  rw [cellsStr, List.getElem?_eq_getElem (by omega)] at g3
  rw [cellsInt, List.getElem?_eq_getElem (by omega)] at g4
  rw [cellsStr, List.getElem?_eq_getElem (by omega)] at g5
  obtain ⟨k0, e0, _, w0⟩ := DataW.trod_int Tryz.underlying5 g0
  obtain ⟨d, hd, e1⟩ := trodRef g1
  obtain ⟨a, ha, e2⟩ := trodRef g2
  obtain ⟨t, e3, _, ht⟩ := DataW.trod_string Tryz.underlying9 g3
  obtain ⟨c, e4, _, w4⟩ := DataW.trod_int Tryz.underlying3 g4
  obtain ⟨q, e5, _, hq⟩ := DataW.trod_string Tryz.underlying9 g5
  obtain ⟨k, rfl⟩ := u8_arg w0
  refine ⟨(k, d, a, t, c, q), ⟨⟨hd, ha, w4⟩, ht, hq⟩, ?_⟩
  have hsplit : cs = (cs.drop 0).take 1 ++ ((cs.drop 1).take 33 ++ ((cs.drop 34).take 33 ++ ((cs.drop 67).take 1 ++ ((cs.drop 68).take 1 ++ (cs.drop 69).take 1)))) := by
    rw [List.take_of_length_le (show (cs.drop 69).length ≤ 1 by simp; omega), ← cut_at (a := 68) (b := 1), ← cut_at (a := 67) (b := 1), ← cut_at (a := 34) (b := 33), ← cut_at (a := 1) (b := 33), ← cut_at (a := 0) (b := 1), List.drop_zero]
  rw [hsplit, e0, e1, e2, e3, e4, e5]
  simp [opV]
/-- A field that is a slice. -/
theorem trodSlice {t e : TypeId} (ht : Tryz.prog.underlying t = some (.slice e)) (h : DataW.trod enc Tryz.prog W 0 (fun _ => true) true fuel t cs = some x) : ∃ A n c, cs = [.slice A n c] ∧ DataW.Trod enc Tryz.prog W 0 (fun _ => true) true t (.slice A n c) x.1 x.2 := by
  rcases Go.Deep.open_slice ht h with ⟨rfl, _⟩ | ⟨a, len, cap, m, n, D, Pl, rfl, _⟩
  · exact ⟨none, 0, 0, rfl, fuel, h⟩
  · exact ⟨some a, len, cap, rfl, fuel, h⟩
instance : Inhabited (List UInt8) := ⟨[]⟩
instance : Inhabited OpD := ⟨(0, zeroRef, zeroRef, noneS, 0, noneS)⟩
theorem ids_in8 {A : Option Addr} {n c : Nat} {d : DataW H} {ps : List MemPlace} (h : DataW.Trod enc Tryz.prog W 0 (fun _ => true) true 34 (.slice A n c) d ps) :
    ∃ l : List (List UInt8), l.length = n ∧ n ≤ maxLen ∧ n ≤ c ∧ IdsOk l ∧ Sl W W.heap.size A l.length 32 (idsV l) := by
  obtain ⟨l, h1, h2, h3, h4, h5⟩ := open_rows (ok := IdOk) (enc := idV) Tryz.underlying34 cellsId (by decide) (fun x hx => by rw [idV_length]; exact hx) (fun n cs x hx => trodId8 hx) h
  exact ⟨l, h1, h2, h3, h4, by unfold idsV; exact h5⟩
theorem ops_in8 {A : Option Addr} {n c : Nat} {d : DataW H} {ps : List MemPlace} (h : DataW.Trod enc Tryz.prog W 0 (fun _ => true) true 35 (.slice A n c) d ps) :
    ∃ l : List OpD, l.length = n ∧ n ≤ maxLen ∧ n ≤ c ∧ (∀ x ∈ l, OpIn x) ∧ Sl W W.heap.size A l.length 70 (rowsV opV l) := by
  obtain ⟨l, h1, h2, h3, h4, h5⟩ := open_rows (ok := OpIn) (enc := opV) Tryz.underlying35 (show Tryz.prog.cellsOf 112 = 70 by kernel_rfl) (by decide) (fun x hx => opV_length hx) (fun n cs x hx => trodOp hx) h
  exact ⟨l, h1, h2, h3, h4, h5⟩
theorem bytes_in {A : Option Addr} {n c : Nat} {d : DataW H} {ps : List MemPlace} (h : DataW.Trod enc Tryz.prog W 0 (fun _ => true) true 169 (.slice A n c) d ps) :
    ∃ l : List UInt8, l.length = n ∧ n ≤ maxLen ∧ n ≤ c ∧ Sl W W.heap.size A l.length 1 (idV l) := by
  obtain ⟨l, h1, h2, h3, _, h5⟩ := open_rows (α := UInt8) (ok := fun _ => True) (enc := fun b => [.int .u8 (b.toNat : Int)]) Tryz.underlying169 cellsU8 (by decide) (fun x hx => rfl) (fun n cs x hx => by
    obtain ⟨k0, e0, _, w0⟩ := DataW.trod_int Tryz.underlying5 hx
    obtain ⟨k, rfl⟩ := u8_arg w0
    exact ⟨k, trivial, e0⟩) h
  refine ⟨l, h1, h2, h3, ?_⟩
  have e : rowsV (fun b : UInt8 => [Value.int .u8 (b.toNat : Int)]) l = idV l := by
    unfold rowsV idV
    have hf : ∀ l : List UInt8, (l.flatMap fun b : UInt8 => [Value.int .u8 (b.toNat : Int)]) = l.map fun b => Value.int .u8 (b.toNat : Int) := fun l => by
      induction l with
      | nil => rfl
      | cons a l ih => rw [List.flatMap_cons, ih]; rfl
    exact hf l
  rw [← e]
  exact h5
end
set_option maxRecDepth 100000 in
theorem object_arg {H : Type} {enc : TypeId × Value → H} {W : World} {r : Reach} {b0 : Nat} {v : Value} {d : DataW H} {ps : List MemPlace} (hv : Value.okWide Tryz.prog W r b0 70 v)
    (h : DataW.Trod enc Tryz.prog W 0 (fun _ => true) true 70 v d ps) : ∃ o : ObjD, ObjIn W W.heap.size v o ∧ o.2.1.2.1.length ≤ maxLen ∧ o.2.1.2.2.2.length ≤ maxLen ∧ o.2.2.1.length ≤ maxLen ∧ o.2.2.2.1.length ≤ maxLen ∧ CapOk v := by
  obtain ⟨ca, rfl, _⟩ := okWide_struct Tryz.underlying70 hv
  obtain ⟨fuel, hf⟩ := h
  obtain ⟨cs, hcs⟩ : ∃ cs, ca.toList = cs := ⟨_, rfl⟩
  have hf' : DataW.trod enc Tryz.prog W 0 (fun _ => true) true fuel 70 cs = some (d, ps) := by rw [← hcs]; exact hf
  obtain ⟨xa, na, _, _, hlena, hxla, hfa⟩ := DataW.trod_struct Tryz.underlying70 hf'
  rw [show Tryz.prog.cellsOf 70 = 10 by kernel_rfl] at hlena
  have hxla' : xa.length = 3 := hxla
  have a0 : DataW.trod enc Tryz.prog W 0 (fun _ => true) true na 5 ((cs.drop 0).take (Tryz.prog.cellsOf 5)) = xa[0]? := hfa 0 _ rfl
  have a1 : DataW.trod enc Tryz.prog W 0 (fun _ => true) true na 37 ((cs.drop 1).take (Tryz.prog.cellsOf 37)) = xa[1]? := hfa 1 _ rfl
  have a2 : DataW.trod enc Tryz.prog W 0 (fun _ => true) true na 68 ((cs.drop 5).take (Tryz.prog.cellsOf 68)) = xa[2]? := hfa 2 _ rfl
  rw [cellsU8, List.getElem?_eq_getElem (by omega)] at a0
  rw [(show Tryz.prog.cellsOf 37 = 4 by kernel_rfl), List.getElem?_eq_getElem (by omega)] at a1
  rw [(show Tryz.prog.cellsOf 68 = 5 by kernel_rfl), List.getElem?_eq_getElem (by omega)] at a2
  obtain ⟨k0, e0, _, w0⟩ := DataW.trod_int Tryz.underlying5 a0
  obtain ⟨k, rfl⟩ := u8_arg w0
  have sa : cs = (cs.drop 0).take 1 ++ ((cs.drop 1).take 4 ++ (cs.drop 5).take 5) := by
    rw [List.take_of_length_le (show (cs.drop 5).length ≤ 5 by simp; omega), ← cut_at (a := 1) (b := 4), ← cut_at (a := 0) (b := 1), List.drop_zero]
  generalize (cs.drop 1).take 4 = y1 at *
  generalize (cs.drop 5).take 5 = y2 at *
  obtain ⟨xb, nb, _, _, hlenb, hxlb, hfb⟩ := DataW.trod_struct Tryz.underlying37 a1
  rw [(show Tryz.prog.cellsOf 37 = 4 by kernel_rfl)] at hlenb
  have hxlb' : xb.length = 4 := hxlb
  have b0 : DataW.trod enc Tryz.prog W 0 (fun _ => true) true nb 3 ((y1.drop 0).take (Tryz.prog.cellsOf 3)) = xb[0]? := hfb 0 _ rfl
  have b1 : DataW.trod enc Tryz.prog W 0 (fun _ => true) true nb 34 ((y1.drop 1).take (Tryz.prog.cellsOf 34)) = xb[1]? := hfb 1 _ rfl
  have b2 : DataW.trod enc Tryz.prog W 0 (fun _ => true) true nb 9 ((y1.drop 2).take (Tryz.prog.cellsOf 9)) = xb[2]? := hfb 2 _ rfl
  have b3 : DataW.trod enc Tryz.prog W 0 (fun _ => true) true nb 35 ((y1.drop 3).take (Tryz.prog.cellsOf 35)) = xb[3]? := hfb 3 _ rfl
  rw [cellsInt, List.getElem?_eq_getElem (by omega)] at b0
  rw [(show Tryz.prog.cellsOf 34 = 1 by kernel_rfl), List.getElem?_eq_getElem (by omega)] at b1
  rw [cellsStr, List.getElem?_eq_getElem (by omega)] at b2
  rw [(show Tryz.prog.cellsOf 35 = 1 by kernel_rfl), List.getElem?_eq_getElem (by omega)] at b3
  obtain ⟨xc, nc, _, _, hlenc, hxlc, hfc⟩ := DataW.trod_struct Tryz.underlying68 a2
  rw [(show Tryz.prog.cellsOf 68 = 5 by kernel_rfl)] at hlenc
  have hxlc' : xc.length = 5 := hxlc
  have c0 : DataW.trod enc Tryz.prog W 0 (fun _ => true) true nc 34 ((y2.drop 0).take (Tryz.prog.cellsOf 34)) = xc[0]? := hfc 0 _ rfl
  have c1 : DataW.trod enc Tryz.prog W 0 (fun _ => true) true nc 34 ((y2.drop 1).take (Tryz.prog.cellsOf 34)) = xc[1]? := hfc 1 _ rfl
  have c2 : DataW.trod enc Tryz.prog W 0 (fun _ => true) true nc 9 ((y2.drop 2).take (Tryz.prog.cellsOf 9)) = xc[2]? := hfc 2 _ rfl
  have c3 : DataW.trod enc Tryz.prog W 0 (fun _ => true) true nc 9 ((y2.drop 3).take (Tryz.prog.cellsOf 9)) = xc[3]? := hfc 3 _ rfl
  have c4 : DataW.trod enc Tryz.prog W 0 (fun _ => true) true nc 3 ((y2.drop 4).take (Tryz.prog.cellsOf 3)) = xc[4]? := hfc 4 _ rfl
  rw [(show Tryz.prog.cellsOf 34 = 1 by kernel_rfl), List.getElem?_eq_getElem (by omega)] at c0
  rw [(show Tryz.prog.cellsOf 34 = 1 by kernel_rfl), List.getElem?_eq_getElem (by omega)] at c1
  rw [cellsStr, List.getElem?_eq_getElem (by omega)] at c2
  rw [cellsStr, List.getElem?_eq_getElem (by omega)] at c3
  rw [cellsInt, List.getElem?_eq_getElem (by omega)] at c4
  obtain ⟨n0, f0, _, wn⟩ := DataW.trod_int Tryz.underlying3 b0
  obtain ⟨A1, m1, d1, f1, t1⟩ := trodSlice Tryz.underlying34 b1
  obtain ⟨au, f2, _, hau⟩ := DataW.trod_string Tryz.underlying9 b2
  obtain ⟨A2, m2, d2, f3, t2⟩ := trodSlice Tryz.underlying35 b3
  obtain ⟨A3, m3, d3, q0, t3⟩ := trodSlice Tryz.underlying34 c0
  obtain ⟨A4, m4, d4, q1, t4⟩ := trodSlice Tryz.underlying34 c1
  obtain ⟨a2, q2, _, ha2⟩ := DataW.trod_string Tryz.underlying9 c2
  obtain ⟨ms, q3, _, hms⟩ := DataW.trod_string Tryz.underlying9 c3
  obtain ⟨st, q4, _, wst⟩ := DataW.trod_int Tryz.underlying3 c4
  obtain ⟨l1, rfl, g1, k1, i1, s1⟩ := ids_in8 t1
  obtain ⟨l2, rfl, g2, k2, i2, s2⟩ := ops_in8 t2
  obtain ⟨l3, rfl, g3, k3, i3, s3⟩ := ids_in8 t3
  obtain ⟨l4, rfl, g4, k4, i4, s4⟩ := ids_in8 t4
  have sb : y1 = (y1.drop 0).take 1 ++ ((y1.drop 1).take 1 ++ ((y1.drop 2).take 1 ++ (y1.drop 3).take 1)) := by
    rw [List.take_of_length_le (show (y1.drop 3).length ≤ 1 by simp; omega), ← cut_at (a := 2) (b := 1), ← cut_at (a := 1) (b := 1), ← cut_at (a := 0) (b := 1), List.drop_zero]
  have sc : y2 = (y2.drop 0).take 1 ++ ((y2.drop 1).take 1 ++ ((y2.drop 2).take 1 ++ ((y2.drop 3).take 1 ++ (y2.drop 4).take 1))) := by
    rw [List.take_of_length_le (show (y2.drop 4).length ≤ 1 by simp; omega), ← cut_at (a := 3) (b := 1), ← cut_at (a := 2) (b := 1), ← cut_at (a := 1) (b := 1), ← cut_at (a := 0) (b := 1), List.drop_zero]
  rw [f0, f1, f2, f3] at sb
  rw [q0, q1, q2, q3, q4] at sc
  rw [e0, sb, sc, ← hcs] at sa
  have hcapo : CapOk (.agg ca) := fun cx hx A n c hm => by
    have e3 : cx = ca.toList := by
      injection hx with hx
      rw [hx]
    rw [e3, sa] at hm
    simp at hm
    rcases hm with ⟨_, rfl, rfl⟩ | ⟨_, rfl, rfl⟩ | ⟨_, rfl, rfl⟩ | ⟨_, rfl, rfl⟩ <;> assumption
  refine ⟨(k, (n0, l1, au, l2), (l3, l4, a2, ms, st)), ⟨⟨⟨wn, i1, fun x hx => (i2 x hx).1⟩, i3, i4, wst⟩, i2, hau, ha2, hms, A1, d1, A2, d2, A3, d3, A4, d4, ?_, s1, s2, s3, s4⟩, g1, g2, g3, g4, hcapo⟩
  have e2 := congrArg List.toArray sa
  rw [Array.toArray_toList] at e2
  exact congrArg Value.agg e2
/-- The zero object's data. -/
def objData (H : Type) : DataW H := .agg [.lit (.int .u8 0), .agg [.lit (.int .i64 0), .nil, .lit (.string []), .nil], .agg [.nil, .nil, .lit (.string []), .lit (.string []), .lit (.int .i64 0)]]
end Go.Proofs.YtdgbjhfkmembdaaGreatDoor
