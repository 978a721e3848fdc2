/-
  Objects and bytes that came in, read. Conditions: none.
  An object's texts against the bulk of what was read. Conditions: none.
-/
import Derived.Test.YthjaepmfkgejkaaGreatDoorMerged7
import Derived.Test.YthjaepmfkgejkaaGreatDoorMerged26
import Derived.Test.YthjaepmfkgejkaaGreatDoorRows
set_option linter.unusedVariables false
set_option maxRecDepth 100000
namespace Go.Proofs.YthjaepmfkgejkaaGreatDoor
open Go.RowKit Go.ChangeShapes Go.WideShapes Go.ChangeAt
section
variable {H : Type} {enc : TypeId × Value → H} {W : World} {base : Nat} {spare : Nat → Bool} {held : Bool} {fuel : Nat} {cs : List Value} {x : DataW H × List MemPlace}
theorem trodId8 (h : DataW.trod enc Tryz.prog W base spare held fuel 47 cs = some x) : ∃ l : List UInt8, Ke l ∧ cs = idV l :=
  trod_id Tryz.underlying47 Tryz.underlying5 Up Zx h
theorem J3 {l : List Value} {a b : Nat} : (l.drop a) = (l.drop a).take b ++ l.drop (a + b) := by rw [← List.drop_drop, List.take_append_drop]
theorem trodRef (h : DataW.trod enc Tryz.prog W base spare held fuel 68 cs = some x) : ∃ r : jQ, jN r ∧ cs = ke r := by
  obtain ⟨xs, n, _, _, hlen, hxl, hf⟩ := DataW.trod_struct Tryz.underlying68 h
  rw [Zm] at hlen
  have hxl' : xs.length = 2 := hxl
  have g0 : DataW.trod enc Tryz.prog W base spare held n 47 ((cs.drop 0).take (Tryz.prog.cellsOf 47)) = xs[0]? := hf 0 _ rfl
  have g1 : DataW.trod enc Tryz.prog W base spare held n 3 ((cs.drop 32).take (Tryz.prog.cellsOf 3)) = xs[1]? := hf 1 _ rfl
  rw [Zx, List.getElem?_eq_getElem (by omega)] at g0
  rw [ZQ, List.getElem?_eq_getElem (by omega)] at g1
  obtain ⟨l, hl, e0⟩ := trodId8 g0
  obtain ⟨n1, e1, _, w1⟩ := DataW.trod_int Tryz.underlying3 g1
  refine ⟨(l, n1), ⟨hl, w1⟩, ?_⟩
  have hsplit : cs = (cs.drop 0).take 32 ++ (cs.drop 32).take 1 := by
    rw [List.take_of_length_le (show (cs.drop 32).length ≤ 1 by simp; omega), List.drop_zero, List.take_append_drop]
  rw [hsplit, e0, e1]
  rfl
theorem u8_arg {n : Int} (h : (Lit.int .u8 n).wf = true) : ∃ k : UInt8, n = (k.toNat : Int) := by
  simp only [Lit.wf, IntKind.min, IntKind.max, IntKind.signed, IntKind.bits, Bool.and_eq_true] at h
  simp at h
  refine ⟨UInt8.ofNat n.toNat, ?_⟩
  rw [UInt8.toNat_ofNat_of_lt' (by show n.toNat < 256; omega)]
  omega
theorem trodOp (h : DataW.trod enc Tryz.prog W base spare held fuel 70 cs = some x) : ∃ o : OpD, Je o ∧ cs = opV o := by
  obtain ⟨xs, n, _, _, hlen, hxl, hf⟩ := DataW.trod_struct Tryz.underlying70 h
  rw [show Tryz.prog.cellsOf 70 = 70 by kernel_rfl] at hlen
  have hxl' : xs.length = 6 := hxl
  have g0 : DataW.trod enc Tryz.prog W base spare held n 5 ((cs.drop 0).take (Tryz.prog.cellsOf 5)) = xs[0]? := hf 0 _ rfl
  have g1 : DataW.trod enc Tryz.prog W base spare held n 68 ((cs.drop 1).take (Tryz.prog.cellsOf 68)) = xs[1]? := hf 1 _ rfl
  have g2 : DataW.trod enc Tryz.prog W base spare held n 68 ((cs.drop 34).take (Tryz.prog.cellsOf 68)) = xs[2]? := hf 2 _ rfl
  have g3 : DataW.trod enc Tryz.prog W base spare held n 9 ((cs.drop 67).take (Tryz.prog.cellsOf 9)) = xs[3]? := hf 3 _ rfl
  have g4 : DataW.trod enc Tryz.prog W base spare held n 3 ((cs.drop 68).take (Tryz.prog.cellsOf 3)) = xs[4]? := hf 4 _ rfl
  have g5 : DataW.trod enc Tryz.prog W base spare held n 9 ((cs.drop 69).take (Tryz.prog.cellsOf 9)) = xs[5]? := hf 5 _ rfl
  rw [Up, List.getElem?_eq_getElem (by omega)] at g0
  rw [Zm, List.getElem?_eq_getElem (by omega)] at g1
  rw [Zm, List.getElem?_eq_getElem (by omega)] at g2
  rw [Zf, List.getElem?_eq_getElem (by omega)] at g3
  rw [ZQ, List.getElem?_eq_getElem (by omega)] at g4
  rw [Zf, List.getElem?_eq_getElem (by omega)] at g5
  obtain ⟨k0, e0, _, w0⟩ := DataW.trod_int Tryz.underlying5 g0
  obtain ⟨d, hd, e1⟩ := trodRef g1
  obtain ⟨a, ha, e2⟩ := trodRef g2
  obtain ⟨t, e3, _, ht⟩ := DataW.trod_string Tryz.underlying9 g3
  obtain ⟨c, e4, _, w4⟩ := DataW.trod_int Tryz.underlying3 g4
  obtain ⟨q, e5, _, hq⟩ := DataW.trod_string Tryz.underlying9 g5
  obtain ⟨k, rfl⟩ := u8_arg w0
  refine ⟨(k, d, a, t, c, q), ⟨⟨hd, ha, w4⟩, ht, hq⟩, ?_⟩
  have hsplit : cs = (cs.drop 0).take 1 ++ ((cs.drop 1).take 33 ++ ((cs.drop 34).take 33 ++ ((cs.drop 67).take 1 ++ ((cs.drop 68).take 1 ++ (cs.drop 69).take 1)))) := by
    rw [List.take_of_length_le (show (cs.drop 69).length ≤ 1 by simp; omega), ← J3 (a := 68) (b := 1), ← J3 (a := 67) (b := 1), ← J3 (a := 34) (b := 33), ← J3 (a := 1) (b := 33), ← J3 (a := 0) (b := 1), List.drop_zero]
  rw [hsplit, e0, e1, e2, e3, e4, e5]
  simp [opV]
theorem vE {t e : TypeId} (ht : Tryz.prog.underlying t = some (.slice e)) (h : DataW.trod enc Tryz.prog W 0 (fun _ => true) true fuel t cs = some x) : ∃ A n c, cs = [.slice A n c] ∧ DataW.Trod enc Tryz.prog W 0 (fun _ => true) true t (.slice A n c) x.1 x.2 := by
  rcases Go.Deep.open_slice ht h with ⟨rfl, _⟩ | ⟨a, len, cap, m, n, D, Pl, rfl, _⟩
  · exact ⟨none, 0, 0, rfl, fuel, h⟩
  · exact ⟨some a, len, cap, rfl, fuel, h⟩
instance : Inhabited (List UInt8) := ⟨[]⟩
instance : Inhabited OpD := ⟨(0, kd, kd, kc, 0, kc)⟩
theorem QM {A : Option Addr} {n c : Nat} {d : DataW H} {ps : List MemPlace} (h : DataW.Trod enc Tryz.prog W 0 (fun _ => true) true 23 (.slice A n c) d ps) :
    ∃ l : List (List UInt8), l.length = n ∧ n ≤ maxLen ∧ n ≤ c ∧ IdsOk l ∧ Sl W W.heap.size A l.length 32 (kr l) := by
  obtain ⟨l, h1, h2, h3, h4, h5⟩ := qQ (ok := Ke) (enc := idV) Tryz.underlying23 Zx (by decide) (fun x hx => by rw [k8]; exact hx) (fun n cs x hx => trodId8 hx) h
  exact ⟨l, h1, h2, h3, h4, by unfold kr; exact h5⟩
theorem ops_in8 {A : Option Addr} {n c : Nat} {d : DataW H} {ps : List MemPlace} (h : DataW.Trod enc Tryz.prog W 0 (fun _ => true) true 24 (.slice A n c) d ps) :
    ∃ l : List OpD, l.length = n ∧ n ≤ maxLen ∧ n ≤ c ∧ (∀ x ∈ l, Je x) ∧ Sl W W.heap.size A l.length 70 (jb opV l) := by
  obtain ⟨l, h1, h2, h3, h4, h5⟩ := qQ (ok := Je) (enc := opV) Tryz.underlying24 (show Tryz.prog.cellsOf 70 = 70 by kernel_rfl) (by decide) (fun x hx => kq hx) (fun n cs x hx => trodOp hx) h
  exact ⟨l, h1, h2, h3, h4, h5⟩
end
theorem object_arg {H : Type} {enc : TypeId × Value → H} {W : World} {r : Reach} {b0 : Nat} {v : Value} {d : DataW H} {ps : List MemPlace} (hv : Value.okWide Tryz.prog W r b0 30 v)
    (h : DataW.Trod enc Tryz.prog W 0 (fun _ => true) true 30 v d ps) : ∃ o : zR, ObjIn W W.heap.size v o ∧ o.2.1.2.1.length ≤ maxLen ∧ o.2.1.2.2.2.length ≤ maxLen ∧ o.2.2.1.length ≤ maxLen ∧ o.2.2.2.1.length ≤ maxLen ∧ CapOk v := by
  obtain ⟨ca, rfl, _⟩ := okWide_struct Tryz.underlying30 hv
  obtain ⟨fuel, hf⟩ := h
  obtain ⟨cs, hcs⟩ : ∃ cs, ca.toList = cs := ⟨_, rfl⟩
  have hf' : DataW.trod enc Tryz.prog W 0 (fun _ => true) true fuel 30 cs = some (d, ps) := by rw [← hcs]; exact hf
  obtain ⟨xa, na, _, _, hlena, hxla, hfa⟩ := DataW.trod_struct Tryz.underlying30 hf'
  rw [show Tryz.prog.cellsOf 30 = 10 by kernel_rfl] at hlena
  have hxla' : xa.length = 3 := hxla
  have a0 : DataW.trod enc Tryz.prog W 0 (fun _ => true) true na 5 ((cs.drop 0).take (Tryz.prog.cellsOf 5)) = xa[0]? := hfa 0 _ rfl
  have a1 : DataW.trod enc Tryz.prog W 0 (fun _ => true) true na 26 ((cs.drop 1).take (Tryz.prog.cellsOf 26)) = xa[1]? := hfa 1 _ rfl
  have a2 : DataW.trod enc Tryz.prog W 0 (fun _ => true) true na 28 ((cs.drop 5).take (Tryz.prog.cellsOf 28)) = xa[2]? := hfa 2 _ rfl
  rw [Up, List.getElem?_eq_getElem (by omega)] at a0
  rw [(show Tryz.prog.cellsOf 26 = 4 by kernel_rfl), List.getElem?_eq_getElem (by omega)] at a1
  rw [(show Tryz.prog.cellsOf 28 = 5 by kernel_rfl), List.getElem?_eq_getElem (by omega)] at a2
  obtain ⟨k0, e0, _, w0⟩ := DataW.trod_int Tryz.underlying5 a0
  obtain ⟨k, rfl⟩ := u8_arg w0
  have sa : cs = (cs.drop 0).take 1 ++ ((cs.drop 1).take 4 ++ (cs.drop 5).take 5) := by
    rw [List.take_of_length_le (show (cs.drop 5).length ≤ 5 by simp; omega), ← J3 (a := 1) (b := 4), ← J3 (a := 0) (b := 1), List.drop_zero]
  generalize (cs.drop 1).take 4 = y1 at *
  generalize (cs.drop 5).take 5 = y2 at *
  obtain ⟨xb, nb, _, _, hlenb, hxlb, hfb⟩ := DataW.trod_struct Tryz.underlying26 a1
  rw [(show Tryz.prog.cellsOf 26 = 4 by kernel_rfl)] at hlenb
  have hxlb' : xb.length = 4 := hxlb
  have b0 : DataW.trod enc Tryz.prog W 0 (fun _ => true) true nb 3 ((y1.drop 0).take (Tryz.prog.cellsOf 3)) = xb[0]? := hfb 0 _ rfl
  have b1 : DataW.trod enc Tryz.prog W 0 (fun _ => true) true nb 23 ((y1.drop 1).take (Tryz.prog.cellsOf 23)) = xb[1]? := hfb 1 _ rfl
  have b2 : DataW.trod enc Tryz.prog W 0 (fun _ => true) true nb 9 ((y1.drop 2).take (Tryz.prog.cellsOf 9)) = xb[2]? := hfb 2 _ rfl
  have b3 : DataW.trod enc Tryz.prog W 0 (fun _ => true) true nb 24 ((y1.drop 3).take (Tryz.prog.cellsOf 24)) = xb[3]? := hfb 3 _ rfl
  rw [ZQ, List.getElem?_eq_getElem (by omega)] at b0
  rw [(show Tryz.prog.cellsOf 23 = 1 by kernel_rfl), List.getElem?_eq_getElem (by omega)] at b1
  rw [Zf, List.getElem?_eq_getElem (by omega)] at b2
  rw [(show Tryz.prog.cellsOf 24 = 1 by kernel_rfl), List.getElem?_eq_getElem (by omega)] at b3
  obtain ⟨xc, nc, _, _, hlenc, hxlc, hfc⟩ := DataW.trod_struct Tryz.underlying28 a2
  rw [(show Tryz.prog.cellsOf 28 = 5 by kernel_rfl)] at hlenc
  have hxlc' : xc.length = 5 := hxlc
  have c0 : DataW.trod enc Tryz.prog W 0 (fun _ => true) true nc 23 ((y2.drop 0).take (Tryz.prog.cellsOf 23)) = xc[0]? := hfc 0 _ rfl
  have c1 : DataW.trod enc Tryz.prog W 0 (fun _ => true) true nc 23 ((y2.drop 1).take (Tryz.prog.cellsOf 23)) = xc[1]? := hfc 1 _ rfl
  have c2 : DataW.trod enc Tryz.prog W 0 (fun _ => true) true nc 9 ((y2.drop 2).take (Tryz.prog.cellsOf 9)) = xc[2]? := hfc 2 _ rfl
  have c3 : DataW.trod enc Tryz.prog W 0 (fun _ => true) true nc 9 ((y2.drop 3).take (Tryz.prog.cellsOf 9)) = xc[3]? := hfc 3 _ rfl
  have c4 : DataW.trod enc Tryz.prog W 0 (fun _ => true) true nc 3 ((y2.drop 4).take (Tryz.prog.cellsOf 3)) = xc[4]? := hfc 4 _ rfl
  rw [(show Tryz.prog.cellsOf 23 = 1 by kernel_rfl), List.getElem?_eq_getElem (by omega)] at c0
  rw [(show Tryz.prog.cellsOf 23 = 1 by kernel_rfl), List.getElem?_eq_getElem (by omega)] at c1
  rw [Zf, List.getElem?_eq_getElem (by omega)] at c2
  rw [Zf, List.getElem?_eq_getElem (by omega)] at c3
  rw [ZQ, List.getElem?_eq_getElem (by omega)] at c4
  obtain ⟨n0, f0, _, wn⟩ := DataW.trod_int Tryz.underlying3 b0
  obtain ⟨A1, m1, d1, f1, t1⟩ := vE Tryz.underlying23 b1
  obtain ⟨au, f2, _, hau⟩ := DataW.trod_string Tryz.underlying9 b2
  obtain ⟨A2, m2, d2, f3, t2⟩ := vE Tryz.underlying24 b3
  obtain ⟨A3, m3, d3, q0, t3⟩ := vE Tryz.underlying23 c0
  obtain ⟨A4, m4, d4, q1, t4⟩ := vE Tryz.underlying23 c1
  obtain ⟨a2, q2, _, ha2⟩ := DataW.trod_string Tryz.underlying9 c2
  obtain ⟨ms, q3, _, hms⟩ := DataW.trod_string Tryz.underlying9 c3
  obtain ⟨st, q4, _, wst⟩ := DataW.trod_int Tryz.underlying3 c4
  obtain ⟨l1, rfl, g1, k1, i1, s1⟩ := QM t1
  obtain ⟨l2, rfl, g2, k2, i2, s2⟩ := ops_in8 t2
  obtain ⟨l3, rfl, g3, k3, i3, s3⟩ := QM t3
  obtain ⟨l4, rfl, g4, k4, i4, s4⟩ := QM t4
  have sb : y1 = (y1.drop 0).take 1 ++ ((y1.drop 1).take 1 ++ ((y1.drop 2).take 1 ++ (y1.drop 3).take 1)) := by
    rw [List.take_of_length_le (show (y1.drop 3).length ≤ 1 by simp; omega), ← J3 (a := 2) (b := 1), ← J3 (a := 1) (b := 1), ← J3 (a := 0) (b := 1), List.drop_zero]
  have sc : y2 = (y2.drop 0).take 1 ++ ((y2.drop 1).take 1 ++ ((y2.drop 2).take 1 ++ ((y2.drop 3).take 1 ++ (y2.drop 4).take 1))) := by
    rw [List.take_of_length_le (show (y2.drop 4).length ≤ 1 by simp; omega), ← J3 (a := 3) (b := 1), ← J3 (a := 2) (b := 1), ← J3 (a := 1) (b := 1), ← J3 (a := 0) (b := 1), List.drop_zero]
  rw [f0, f1, f2, f3] at sb
  rw [q0, q1, q2, q3, q4] at sc
  rw [e0, sb, sc, ← hcs] at sa
  have hcapo : CapOk (.agg ca) := fun cx hx A n c hm => by
    have e3 : cx = ca.toList := by
      injection hx with hx
      rw [hx]
    rw [e3, sa] at hm
    simp at hm
    rcases hm with ⟨_, rfl, rfl⟩ | ⟨_, rfl, rfl⟩ | ⟨_, rfl, rfl⟩ | ⟨_, rfl, rfl⟩ <;> assumption
  refine ⟨(k, (n0, l1, au, l2), (l3, l4, a2, ms, st)), ⟨⟨⟨wn, i1, fun x hx => (i2 x hx).1⟩, i3, i4, wst⟩, i2, hau, ha2, hms, A1, d1, A2, d2, A3, d3, A4, d4, ?_, s1, s2, s3, s4⟩, g1, g2, g3, g4, hcapo⟩
  have e2 := congrArg List.toArray sa
  rw [Array.toArray_toList] at e2
  exact congrArg Value.agg e2
def objData (H : Type) : DataW H := .agg [.lit (.int .u8 0), .agg [.lit (.int .i64 0), .nil, .lit (.string []), .nil], .agg [.nil, .nil, .lit (.string []), .lit (.string []), .lit (.int .i64 0)]]
end Go.Proofs.YthjaepmfkgejkaaGreatDoor
namespace Go.Proofs.YthjaepmfkgejkaaGreatDoor
open Go.RowKit Go.ChangeShapes Go.WideShapes Go.ChangeAt
theorem Ql {H : Type} {d : DataW H} {l : List (DataW H)} (h : d ∈ l) : Rows.uptoBulk d ≤ Rows.uptoBulkAll l := by
  induction l with
  | nil => cases h
  | cons x r ih =>
    simp only [Rows.uptoBulkAll]
    cases List.mem_cons.1 h with
    | inl e => subst e; omega
    | inr e => have := ih e; omega
section
variable {H : Type} {enc : TypeId × Value → H} {W : World} {spare : Nat → Bool} {held : Bool} {fuel : Nat} {cs : List Value}
theorem qq {xs : List (DataW H × List MemPlace)} {k : Nat} {y : DataW H × List MemPlace} (h : xs[k]? = some y) : Rows.uptoBulk y.1 ≤ Rows.uptoBulk (.agg (xs.map (·.1))) := by
  have h2 := Ql (List.mem_map.2 ⟨y, List.mem_of_getElem? h, rfl⟩ : y.1 ∈ xs.map (·.1))
  simp only [Rows.uptoBulk]
  omega
theorem opText {base : Nat} {x : DataW H × List MemPlace} (h : DataW.trod enc Tryz.prog W base spare held fuel 70 cs = some x) : ∃ t : ByteArray, cs[67]? = some (.string t) ∧ t.size ≤ Rows.uptoBulk x.1 := by
  obtain ⟨xs, n, _, rfl, hlen, hxl, hf⟩ := DataW.trod_struct Tryz.underlying70 h
  have hxl' : xs.length = 6 := hxl
  have g3 : DataW.trod enc Tryz.prog W base spare held n 9 ((cs.drop 67).take (Tryz.prog.cellsOf 9)) = xs[3]? := hf 3 _ rfl
  have h3 : xs[3]? = some xs[3] := List.getElem?_eq_getElem (by omega)
  rw [Zf, h3] at g3
  obtain ⟨t, e3, hx3, ht⟩ := DataW.trod_string Tryz.underlying9 g3
  refine ⟨t, ?_, ?_⟩
  · have e4 := congrArg (fun l : List Value => l[0]?) e3
    simpa [List.getElem?_take, List.getElem?_drop] using e4
  ·
   have h4 := qq h3
   rw [hx3] at h4
   have h5 : Rows.uptoBulk (.lit (.string t.data.toList) : DataW H) = t.data.toList.length + 1 := by simp [Rows.uptoBulk]
   have h6 : t.data.toList.length = t.size := by rw [Array.length_toList]; rfl
   rw [h5, h6] at h4
   exact Nat.le_of_succ_le h4
theorem add_mid8 (b o j : Nat) : (⟨b, o, none⟩ : Addr).add j = ⟨b, o + j, none⟩ := by unfold Addr.add; split <;> simp_all
theorem opsTexts {A : Option Addr} {c : Nat} {d : DataW H} {ps : List MemPlace} {l : List OpD} (h : DataW.Trod enc Tryz.prog W 0 (fun _ => true) true 24 (.slice A l.length c) d ps) (hop : ∀ x ∈ l, Je x) (hs : Sl W W.heap.size A l.length 70 (jb opV l)) : ∀ x ∈ l, x.2.2.2.1.size ≤ Rows.uptoBulk d := by
  intro x hx
  obtain ⟨i, hi, rfl⟩ := List.mem_iff_getElem.1 hx
  obtain ⟨fuel, hf⟩ := h
  rcases Go.Deep.open_slice Tryz.underlying24 hf with ⟨hcs, _⟩ | ⟨a, ln, cc, m, n, D, Pl, hcs, _, hl, hm, hmm, hdx, hx2⟩
  ·
   simp [Value.cells] at hcs
   obtain ⟨_, h0, _⟩ := hcs
   subst h0
   cases hi
  ·
   simp [Value.cells] at hcs
   obtain ⟨rfl, rfl, rfl⟩ := hcs
   have hmc : m = c := by simpa using hmm
   subst hmc
   obtain ⟨b, off, e, hlt, hc⟩ := hs.2 (Nat.lt_of_le_of_lt (Nat.zero_le _) hi)
   obtain rfl := Option.some.inj e
   obtain ⟨cs', h1, h2⟩ := hx2 i (by omega)
   rw [show Tryz.prog.cellsOf 70 = 70 by kernel_rfl] at h1
   obtain ⟨_, hlen', hcell⟩ := World.cells?_some h1
   obtain ⟨t, ht, hb⟩ := opText h2
   have c1 := hcell 67 (by decide)
   rw [ht] at c1
   have c2 := hc (i * 70 + 67) _ (JG (fun x hx => kq (hop x hx)) i hi 67 _ (kn (hop _ (List.getElem_mem hi))).2.2.2.1)
   have e5 : ((⟨b, off, none⟩ : Addr).add (i * 70)).add 67 = ⟨b, off + (i * 70 + 67), none⟩ := by rw [add_mid8, add_mid8, Nat.add_assoc]
   rw [e5, c2] at c1
   injection c1 with c1
   injection c1 with c1
   rw [c1]
   have hd : d = .slice ((List.range l.length).map D) ((List.range (m - l.length)).map fun j => D (l.length + j)) := (Prod.mk.inj hdx).1
   have h6 := Ql (List.mem_map.2 ⟨i, List.mem_range.2 hi, rfl⟩ : D i ∈ (List.range l.length).map D)
   rw [hd]
   simp only [Rows.uptoBulk]
   have hb' : t.size ≤ Rows.uptoBulk (D i) := hb
   omega
theorem objTexts {v : Value} {o : zR} {d : DataW H} {ps : List MemPlace} (hin : ObjIn W W.heap.size v o) (h : DataW.Trod enc Tryz.prog W 0 (fun _ => true) true 30 v d ps) : ∀ x ∈ o.2.1.2.2.2, x.2.2.2.1.size ≤ Rows.uptoBulk d := by
  obtain ⟨_, hops, _, _, _, Ad, cd, Ao, co, Ap, cp, Ac, cc, rfl, sd, so, _, _⟩ := hin
  obtain ⟨fuel, hf⟩ := h
  obtain ⟨xa, na, _, hxa, hlena, hxla, hfa⟩ := DataW.trod_struct Tryz.underlying30 hf
  have hxla' : xa.length = 3 := hxla
  have a1 : DataW.trod enc Tryz.prog W 0 (fun _ => true) true na 26 (([.int .u8 (o.1.toNat : Int), .int .i64 o.2.1.1, .slice Ad o.2.1.2.1.length cd, .string o.2.1.2.2.1, .slice Ao o.2.1.2.2.2.length co, .slice Ap o.2.2.1.length cp, .slice Ac o.2.2.2.1.length cc, .string o.2.2.2.2.1, .string o.2.2.2.2.2.1, .int .i64 o.2.2.2.2.2.2] : List Value).drop 1 |>.take (Tryz.prog.cellsOf 26)) = xa[1]? := hfa 1 _ rfl
  have h1 : xa[1]? = some xa[1] := List.getElem?_eq_getElem (by omega)
  rw [(show Tryz.prog.cellsOf 26 = 4 by kernel_rfl), h1] at a1
  obtain ⟨xb, nb, _, hxb, hlenb, hxlb, hfb⟩ := DataW.trod_struct Tryz.underlying26 a1
  have hxlb' : xb.length = 4 := hxlb
  have b3 : DataW.trod enc Tryz.prog W 0 (fun _ => true) true nb 24 (([.int .i64 o.2.1.1, .slice Ad o.2.1.2.1.length cd, .string o.2.1.2.2.1, .slice Ao o.2.1.2.2.2.length co] : List Value).drop 3 |>.take (Tryz.prog.cellsOf 24)) = xb[3]? := hfb 3 _ rfl
  have h3 : xb[3]? = some xb[3] := List.getElem?_eq_getElem (by omega)
  rw [(show Tryz.prog.cellsOf 24 = 1 by kernel_rfl), h3] at b3
  intro x hx
  have e1 := opsTexts (d := xb[3].1) (ps := xb[3].2) ⟨nb, b3⟩ hops so x hx
  have e2 := qq h3
  have e3 := qq h1
  rw [hxb] at e3
  have hd : d = .agg (xa.map (·.1)) := (Prod.mk.inj hxa).1
  rw [hd]
  exact Nat.le_trans e1 (Nat.le_trans e2 e3)
end
end Go.Proofs.YthjaepmfkgejkaaGreatDoor
