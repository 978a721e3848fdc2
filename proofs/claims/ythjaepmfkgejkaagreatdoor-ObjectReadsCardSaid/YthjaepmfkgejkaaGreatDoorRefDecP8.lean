/-
  The document's Decode: what stands on its way. Conditions: none.
-/
import Derived.Test.YthjaepmfkgejkaaGreatDoorRefBytes8c
import Derived.Test.YthjaepmfkgejkaaGreatDoorRefOpR8
import Derived.Test.YthjaepmfkgejkaaGreatDoorRefIds8
import Derived.Test.YthjaepmfkgejkaaGreatDoorObjDecode2
import Derived.Test.YthjaepmfkgejkaaGreatDoorMem
namespace Go.Proofs.YthjaepmfkgejkaaGreatDoor
open Go.RowKit Go.Maps
set_option linter.unusedVariables false
set_option linter.unusedSimpArgs false

/-- What stands while an object is decoded: the reader, the result's box, the object's. -/
structure DcSt (w : World) (z2 z4 z5 b off c : Nat) (l : List UInt8) (cs : List Value) (a : Nat) (ok : Bool) (wx : World) : Prop where
  rd : RrAt wx z5 b off c l a ok
  bel : Below w.heap.size w wx
  res : wx.heap[z2]? = some (.cells objZ.toArray 30 (0, 0))
  obj : wx.heap[z4]? = some (.cells cs.toArray 30 (0, 0))
structure DcZ (w : World) (z2 z4 z5 : Nat) : Prop where
  n2 : w.heap.size ≤ z2
  n4 : w.heap.size ≤ z4
  n5 : w.heap.size ≤ z5
  a24 : z2 ≠ z4
  a25 : z2 ≠ z5
  a45 : z4 ≠ z5
section
variable {w wx wy : World} {z2 z4 z5 b off c a a2 : Nat} {l : List UInt8} {cs cs' : List Value} {ok ok2 : Bool}
theorem DcSt.l2 (h : DcSt w z2 z4 z5 b off c l cs a ok wx) : z2 < wx.heap.size := (Array.getElem?_eq_some_iff.1 h.res).1
theorem DcSt.l4 (h : DcSt w z2 z4 z5 b off c l cs a ok wx) : z4 < wx.heap.size := (Array.getElem?_eq_some_iff.1 h.obj).1
theorem DcSt.read (h : DcSt w z2 z4 z5 b off c l cs a ok wx) (hz : DcZ w z2 z4 z5) (hr : RrAt wy z5 b off c l a2 ok2) (hb : But (fun k => k = z5) wx wy) : DcSt w z2 z4 z5 b off c l cs a2 ok2 wy := by
  have h1 := hz.n5; have h2 := hz.a25; have h3 := hz.a45
  exact ⟨hr, h.bel.trans (hb.below h.bel.size fun k hk e => by omega), (hb.block z2 h.l2 (by omega)).trans h.res, (hb.block z4 h.l4 (by omega)).trans h.obj⟩
theorem DcSt.keep (h : DcSt w z2 z4 z5 b off c l cs a ok wx) (hb : Below wx.heap.size wx wy) : DcSt w z2 z4 z5 b off c l cs a ok wy :=
  ⟨h.rd.keep hb, h.bel.trans (hb.mono h.bel.size), (hb.block z2 h.l2).trans h.res, (hb.block z4 h.l4).trans h.obj⟩
theorem DcSt.put (h : DcSt w z2 z4 z5 b off c l cs a ok wx) (hz : DcZ w z2 z4 z5) (hw : b < w.heap.size) (hb : But (fun k => k = z4) wx wy) (hy : wy.heap[z4]? = some (.cells cs'.toArray 30 (0, 0))) : DcSt w z2 z4 z5 b off c l cs' a ok wy := by
  have h1 := hz.n4; have h2 := hz.a24; have h3 := hz.a45; have h4 := h.rd.lt; have h5 := h.rd.low
  exact ⟨⟨(hb.block z5 h.rd.lt (by omega)).trans h.rd.box, h.rd.le, h.rd.cap, h.rd.low, fun j hj => (hb.cell (Nat.lt_trans h5 h4) (by omega)).trans (h.rd.bytes j hj)⟩, h.bel.trans (hb.below h.bel.size fun k hk e => by omega), (hb.block z2 h.l2 (by omega)).trans h.res, hy⟩
end
theorem rdr_built (b off n c : Nat) (w : World) : (Instr.build 63 #[(0, .slice (some ⟨b, off, none⟩) n c), (1, .int .i64 1), (2, .bool true)]).run Tryz.prog w = .ok (.agg ([.slice (some ⟨b, off, none⟩) n c, .int .i64 1, .bool true] : List Value).toArray) w := by kernel_rfl
theorem ex_conv8 {ρ : Operand → Value} {o : Oper} {w : World} (x : Operand) (ho : o.op = .convert 22 9 x) {v r : Value} (hx : ρ x = v) (hr : (convert 22 9 v).run Tryz.prog w = .ok r w) : (execOp ρ o).run Tryz.prog w = .ok (.value r) w := by
  unfold execOp
  simp only [ho, hx, Sem.run_bind, hr, Result.andThen_ok, Sem.run_pure]
theorem ex_neqStr8 {ρ : Operand → Value} {o : Oper} {w : World} (x y : Operand) (t' : TypeId) (ho : o.op = .binOp .neq 9 x y t') {s t : ByteArray} (hx : ρ x = .string s) (hy : ρ y = .string t) {r : Bool} (hr : (!(s.toList == t.toList)) = r) : (execOp ρ o).run Tryz.prog w = .ok (.value (.bool r)) w := by
  subst hr
  unfold execOp
  simp only [ho, hx, hy]
  rfl
theorem conv8 {w : World} {B c : Nat} {A : Option Addr} {l : List UInt8} (h : Sl w B A l.length 1 (idV l)) (hp : 0 < l.length) : (convert 22 9 (.slice A l.length c)).run Tryz.prog w = .ok (.string ⟨l.toArray⟩) w := by
  obtain ⟨b, off, rfl, _, hc⟩ := h.2 hp
  have hb : Lib.Bytes w b off ⟨l.toArray⟩ := bytes_at fun j hj => hc j _ (by unfold idV; rw [List.getElem?_map, List.getElem?_eq_getElem hj]; rfl)
  have hw := Lib.run_convert_window (P := Tryz.prog) w 22 5 9 Tryz.underlying22 Tryz.underlying5 Tryz.underlying9 b off ⟨l.toArray⟩ hb 0 l.length c (by rw [size_mk]; omega)
  rw [extract_mk, List.drop_zero, List.take_length, Nat.add_zero] at hw
  exact hw
theorem objE_pos (o : ObjD) : 0 < (objE o).length := by
  unfold objE changeE commitE
  split <;> simp
theorem toS_eq (x y : List UInt8) : ((⟨x.toArray⟩ : ByteArray).toList == (⟨y.toArray⟩ : ByteArray).toList) = decide (x = y) := by
  rw [str_beq, L_mk, L_mk]
theorem commit_chain {l : List UInt8} {ps cs : List (List UInt8)} {au ms : ByteArray} {st a1 a2 a3 a4 a5 : Nat} {ok1 ok2 ok3 ok4 ok5 : Bool}
    (h1 : true = true → ∀ y r, pList 2 pId (l.drop 1) = some (y, r) → ps = y ∧ r = l.drop a1 ∧ ok1 = true)
    (h2 : ok1 = true → ∀ y r, pList 4096 pId (l.drop a1) = some (y, r) → cs = y ∧ r = l.drop a2 ∧ ok2 = true)
    (h3 : ok2 = true → ∀ y r, pText (l.drop a2) = some (y, r) → au = y ∧ r = l.drop a3 ∧ ok3 = true)
    (h4 : ok3 = true → ∀ y r, pText (l.drop a3) = some (y, r) → ms = y ∧ r = l.drop a4 ∧ ok4 = true)
    (h5 : ok4 = true → ∀ y r, pNum (l.drop a4) = some (y, r) → st = y ∧ r = l.drop a5 ∧ ok5 = true)
    (hb : pByte l = some (75, l.drop 1)) (o : ObjD) (ho : readS l = some o) : ok5 = true ∧ o = (2, noChangeD, (ps, cs, au, ms, ((st : Nat) : Int))) := by
  rw [readS_cm hb] at ho
  rcases hp : pCommit (l.drop 1) with _ | ⟨m, q⟩
  · rw [hp] at ho; cases ho
  · rw [hp] at ho
    simp only at ho
    split at ho
    · cases ho
      unfold pCommit at hp
      obtain ⟨x1, r1, g1, hp⟩ := pBind_some hp
      obtain ⟨x2, r2, g2, hp⟩ := pBind_some hp
      obtain ⟨x3, r3, g3, hp⟩ := pBind_some hp
      obtain ⟨x4, r4, g4, hp⟩ := pBind_some hp
      obtain ⟨x5, r5, g5, hp⟩ := pBind_some hp
      unfold pNumI at g5
      obtain ⟨x6, r6, g6, g5⟩ := pBind_some g5
      cases g5
      cases hp
      obtain ⟨rfl, rfl, k1⟩ := h1 rfl _ _ g1
      obtain ⟨rfl, rfl, k2⟩ := h2 k1 _ _ g2
      obtain ⟨rfl, rfl, k3⟩ := h3 k2 _ _ g3
      obtain ⟨rfl, rfl, k4⟩ := h4 k3 _ _ g4
      obtain ⟨rfl, rfl, k5⟩ := h5 k4 _ _ g6
      exact ⟨k5, rfl⟩
    · cases ho
end Go.Proofs.YthjaepmfkgejkaaGreatDoor
