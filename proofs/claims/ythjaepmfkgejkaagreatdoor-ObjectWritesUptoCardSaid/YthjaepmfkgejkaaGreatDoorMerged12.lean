/-
  Stores into a part of a block, the block named by its cells; a new variable's block; results that lie in blocks. Over any program; conditions as each says.
  What the writer's commit writes. Conditions: few ids; a stamp that is not below 0.
-/
import Derived.Test.YthjaepmfkgejkaaGreatDoorMerged7
import Derived.Test.YthjaepmfkgejkaaGreatDoorMerged11
import Derived.Test.YthjaepmfkgejkaaGreatDoorMerged2
import Derived.Test.YthjaepmfkgejkaaGreatDoorMerged3
import Derived.Deep.MidRow
import Derived.Test.YthjaepmfkgejkaaGreatDoorMerged1
import Derived.Test.YthjaepmfkgejkaaGreatDoorMerged10
set_option linter.unusedVariables false
set_option linter.unusedSimpArgs false
set_option maxHeartbeats 4000000
set_option maxRecDepth 100000
namespace Go.Proofs.YthjaepmfkgejkaaGreatDoor
open Go.RowKit
theorem zI {T : TypeId} {fr : Nat × Nat} {g : Nat} : ∀ (cs pre mid post : List Value) (w : World), mid.length = cs.length → w.heap[g]? = some (.cells (pre ++ (mid ++ post)).toArray T fr) → (w.setCells g pre.length cs).heap[g]? = some (.cells (pre ++ (cs ++ post)).toArray T fr)
  | [], pre, mid, post, w, hl, hg => by
    obtain rfl : mid = [] := List.eq_nil_of_length_eq_zero hl
    exact hg
  | v :: cs, pre, [], post, w, hl, hg => by cases hl
  | v :: cs, pre, u :: mid, post, w, hl, hg => by
    have h1 : (w.setCell ⟨g, pre.length, none⟩ v).heap[g]? = some (.cells ((pre ++ [v]) ++ (mid ++ post)).toArray T fr) := by
      simp [World.setCell, Array.getElem?_modify, hg]
    have h2 := zI cs (pre ++ [v]) mid post _ (by simpa using hl) h1
    rw [World.setCells]
    have e : (pre ++ [v]).length = pre.length + 1 := by simp
    rw [e] at h2
    rw [h2]
    simp
theorem zX {X : Nat → Prop} {g : Nat} (hX : X g) : ∀ (cs : List Value) (o : Nat) (w : World), But X w (w.setCells g o cs)
  | [], _, _ => But.refl _ _
  | v :: cs, o, w => (But.setCell (X := X) (But.refl X w) (p := ⟨g, o, none⟩) (fun _ => hX) v).trans (zX hX cs (o + 1) _) fun _ _ h => h
theorem Za {g : Nat} : ∀ (cs : List Value) (o : Nat) (w : World), (w.setCells g o cs).heap.size = w.heap.size
  | [], _, _ => rfl
  | v :: cs, o, w => (Za cs (o + 1) _).trans (by simp [World.setCell])
section
variable {P : Program} {o : Oper} {w : World}
theorem JH {ρ : Operand → Value} (ty : TypeId) (x y : Operand) (ho : o.op = .store ty x y) (g k : Nat) (pre mid post cs : List Value) (T : TypeId) (V : Value) (hx : ρ x = .pointer (some ⟨g, k, none⟩)) (hk : k = pre.length) (hy : ρ y = V) (hV : V.cells = cs.toArray)
    (hg : w.heap[g]? = some (.cells (pre ++ (mid ++ post)).toArray T (0, 0))) (hl : mid.length = cs.length) (hi : (P.info? ty).map (·.size) = some cs.length) (h1 : ∀ u ∈ cs, u.oneCell' = true) : (execOp ρ o).run P w = .ok .skip (w.setCells g pre.length cs) := by
  subst hk
  have hcell : ∀ j, j < cs.length → (w.cell? ⟨g, pre.length + 0 + j, none⟩).isSome = true := fun j hj => by
    rw [k5 hg]
    have : pre.length + 0 + j < (pre ++ (mid ++ post)).length := by simp; omega
    rw [List.getElem?_eq_getElem this]; rfl
  have hfr : ∀ j, j < cs.length → w.frozen? ⟨g, pre.length + 0 + j, none⟩ = false := fun j _ => by simp [World.frozen?, hg]
  have h := run_storeCells_cells (P := P) g pre.length cs 0 w hcell hfr h1
  unfold execOp
  cases hq : P.info? ty with
  | none => simp [hq] at hi
  | some i =>
    have hs : i.size = cs.length := by simpa [hq] using hi
    simp only [ho, hx, hy, Instr.storeAt, Instr.sureAddr, Sem.run_bind, Sem.run_pure, Result.andThen_ok]
    simp [storeVar, sizeOf, typeInfo, hq, hV, hs, h]
theorem km {ops : Array Oper} {rest : List Oper} {a : Act} {Q : Exit → Act → World → Prop} (hw : Region.wanted o (yielded ops a.tmps) = true) (ty : TypeId) (x y : Operand) (ho : o.op = .store ty x y) (g k : Nat) (pre mid post cs : List Value) (T : TypeId) (V : Value) (hx : a.eval x = .pointer (some ⟨g, k, none⟩)) (hk : k = pre.length) (hy : a.eval y = V) (hV : V.cells = cs.toArray)
    (hg : w.heap[g]? = some (.cells (pre ++ (mid ++ post)).toArray T (0, 0))) (hl : mid.length = cs.length) (hi : (P.info? ty).map (·.size) = some cs.length) (h1 : ∀ u ∈ cs, u.oneCell' = true)
    (h : ∀ W : World, But (fun k => k = g) w W → W.heap[g]? = some (.cells (pre ++ (cs ++ post)).toArray T (0, 0)) → W.heap.size = w.heap.size → wpList P ops Q rest (a.put o.dst undef) W) : wpList P ops Q (o :: rest) a w := by
  refine BigFrame.wpList_want hw fun K hK => ?_
  have h2 := JH (P := P) ty x y ho g k pre mid post cs T V hx hk hy hV hg hl hi h1
  unfold Oper.wp
  rw [h2]
  exact hK _ _ (h _ (zX (X := fun k => k = g) rfl _ _ _) (zI cs pre mid post w hl hg) (Za _ _ _))
theorem ku {ops : Array Oper} {rest : List Oper} {a : Act} {Q : Exit → Act → World → Prop} (hw : Region.wanted o (yielded ops a.tmps) = true) (t : TypeId) (ho : o.op = .alloc t) (cs : List Value) (hz : (zeroValue t).run P w = .ok (.agg cs.toArray) w)
    (h : ∀ W : World, Below w.heap.size w W → W.heap[w.heap.size]? = some (.cells cs.toArray t (0, 0)) → W.heap.size = w.heap.size + 1 → wpList P ops Q rest (a.put o.dst (.pointer (some ⟨w.heap.size, 0, none⟩))) W) : wpList P ops Q (o :: rest) a w := by
  refine BigFrame.wpList_want hw fun K hK => ?_
  have h2 : (execOp a.eval o).run P w = .ok (.value (.pointer (some ⟨w.heap.size, 0, none⟩))) (w.alloc (.cells cs.toArray t)) := by
    unfold execOp
    simp [ho, Instr.alloc, newVar, newRow, hz, Result.andThen, Sem.run_bind, Value.cells]
  unfold Oper.wp
  rw [h2]
  exact hK _ _ (h _ ((Below.refl _ _).alloc (Nat.le_refl _) _) (heap_alloc_new _ _) (by simp))
theorem ko {ops : Array Oper} {rest : List Oper} {a : Act} {Q : Exit → Act → World → Prop} (hw : Region.wanted o (yielded ops a.tmps) = true) (t : TypeId) (x : Operand) (ho : o.op = .box t x) (cs : List Value) (V : Value) (hx : a.eval x = V) (hV : V.cells = cs.toArray) (hi : (P.info? t).map (·.size) = some cs.length)
    (h : ∀ W : World, Below w.heap.size w W → W.heap[w.heap.size]? = some (.cells cs.toArray t (0, 0)) → W.heap.size = w.heap.size + 1 → wpList P ops Q rest (a.put o.dst (.pointer (some ⟨w.heap.size, 0, none⟩))) W) : wpList P ops Q (o :: rest) a w := by
  refine BigFrame.wpList_want hw fun K hK => ?_
  have h2 : (execOp a.eval o).run P w = .ok (.value (.pointer (some ⟨w.heap.size, 0, none⟩))) (w.alloc (.cells cs.toArray t)) := by
    unfold execOp
    cases hq : P.info? t with
    | none => simp [hq] at hi
    | some i =>
      have hs : i.size = cs.length := by simpa [hq] using hi
      simp [ho, hx, Instr.box, newVar, newRow, hV, Result.andThen]
  unfold Oper.wp
  rw [h2]
  exact hK _ _ (h _ ((Below.refl _ _).alloc (Nat.le_refl _) _) (heap_alloc_new _ _) (by simp))
end
theorem zf {P : Program} {ops : Array Oper} {Q : Exit → Act → World → Prop} {i : Nat} {K : Act → World → Prop} {a : Act} {w : World} (o : Oper) (hi : Z0 ops.toList i = some o) (hw : Region.wanted o (yielded ops a.tmps) = true)
    (ty : TypeId) (x y : Operand) (ho : o.op = .store ty x y) (g k : Nat) (pre mid post cs : List Value) (T : TypeId) (V : Value) (hx : a.eval x = .pointer (some ⟨g, k, none⟩)) (hk : k = pre.length) (hy : a.eval y = V) (hV : V.cells = cs.toArray)
    (hg : w.heap[g]? = some (.cells (pre ++ (mid ++ post)).toArray T (0, 0))) (hl : mid.length = cs.length) (hi2 : (P.info? ty).map (·.size) = some cs.length) (h1 : ∀ u ∈ cs, u.oneCell' = true)
    (h : ∀ W : World, But (fun k => k = g) w W → W.heap[g]? = some (.cells (pre ++ (cs ++ post)).toArray T (0, 0)) → W.heap.size = w.heap.size → K (a.put o.dst undef) W) : wpOp P ops Q i K a w :=
  zD o hi hw (JH ty x y ho g k pre mid post cs T V hx hk hy hV hg hl hi2 h1) (h _ (zX (X := fun k => k = g) rfl _ _ _) (zI cs pre mid post w hl hg) (Za _ _ _))
theorem KO {P : Program} {ops : Array Oper} {Q : Exit → Act → World → Prop} {i : Nat} {K : Act → World → Prop} {a : Act} {w : World} (o : Oper) (hi : Z0 ops.toList i = some o) (hw : Region.wanted o (yielded ops a.tmps) = true)
    (t : TypeId) (ho : o.op = .alloc t) (cs : List Value) (hz : (zeroValue t).run P w = .ok (.agg cs.toArray) w)
    (h : ∀ W : World, Below w.heap.size w W → W.heap[w.heap.size]? = some (.cells cs.toArray t (0, 0)) → W.heap.size = w.heap.size + 1 → K (a.put o.dst (.pointer (some ⟨w.heap.size, 0, none⟩))) W) : wpOp P ops Q i K a w :=
  jv o hi hw (ZP (cs := cs.toArray) ho hz) (h _ ((Below.refl _ _).alloc (Nat.le_refl _) _) (heap_alloc_new _ _) (by simp))
theorem jL {P : Program} {fn : Func} {p : Tmp} {ty : TypeId} (h : fn.results = #[.cell p ty]) (tmps : Array Value) (w : World) {a : Addr} {r : Value} (hp : tmps.getD p undef = .pointer (some a)) (hl : (loadVar ty a).run P w = .ok r w) : (results fn tmps).run P w = .ok r w := by
  have hp' : tmps[p]?.getD undef = .pointer (some a) := by simpa using hp
  simp only [results, h]
  simp [hp', asAddr, hl]
theorem vb {P : Program} {fn : Func} {p q : Tmp} {ty tz : TypeId} (h : fn.results = #[.cell p ty, .cell q tz]) (tmps : Array Value) (w : World) {a b : Addr} {r s : Value} (hp : tmps.getD p undef = .pointer (some a)) (hq : tmps.getD q undef = .pointer (some b)) (hl : (loadVar ty a).run P w = .ok r w) (hm : (loadVar tz b).run P w = .ok s w) : (results fn tmps).run P w = .ok (.tuple #[r, s]) w := by
  have hp' : tmps[p]?.getD undef = .pointer (some a) := by simpa using hp
  have hq' : tmps[q]?.getD undef = .pointer (some b) := by simpa using hq
  simp only [results, h]
  simp [Result.andThen, hp', hq', asAddr, hl, hm]
end Go.Proofs.YthjaepmfkgejkaaGreatDoor
namespace Go.Proofs.YthjaepmfkgejkaaGreatDoor
open Lib (hid)
open Go.RowKit Go.Maps
theorem vd {n : Nat} (h : n < 9223372036854775808) : (kS n).length ≤ 10 := kU (by omega)
theorem ux {n : Int} (h : n < 9223372036854775808) : (vR n).length ≤ 10 := by
  unfold vR
  split
  · exact Nat.zero_le _
  · exact vd (by omega)
theorem Zo {s : ByteArray} (h : s.size ≤ 1099511627776) : (kJ (L s)).length ≤ 10 + s.size := by
  have := vd (n := (L s).length) (by rw [jW]; omega)
  unfold kJ
  rw [List.length_append]
  rw [jW] at this ⊢
  omega
theorem flat_len : ∀ {l : List (List UInt8)}, IdsOk l → l.flatten.length = 32 * l.length
  | [], _ => rfl
  | a :: l, h => by
    have h1 : a.length = 32 := h a (by simp)
    rw [List.flatten_cons, List.length_append, flat_len (fun b hb => h b (by simp [hb])), List.length_cons, h1]
    omega
theorem UV {l : List (List UInt8)} (h : IdsOk l) (hl : l.length ≤ 1099511627776) : (jR l).length ≤ 10 + 32 * l.length := by
  have := ux (n := (l.length : Int)) (by omega)
  unfold jR
  rw [List.length_append, flat_len h]
  omega
theorem refE_len {deps : List (List UInt8)} {r : jQ} (hl : deps.length ≤ 1099511627776) (hr : jN r) : (jz deps r).length ≤ 20 := by
  have h1 := ux (jO hr.2).2
  have h2 := List.idxOf_le_length (a := r.1) (l := deps)
  have h3 := ux (n := if r.1 ≠ zero32 then (deps.idxOf r.1 : Int) + 1 else 0) (by split <;> omega)
  unfold jz
  rw [List.length_append]
  omega
theorem wcommit_any (g : Nat) (c : zV) (cv : Value) (w : World) (hw : WrAt w g []) (hc : CmIn w g cv c) (h1 : c.1.length ≤ 1048576) (h2 : c.2.1.length ≤ 1048576) (h3 : 0 ≤ c.2.2.2.2) (h4 : c.2.2.1.size ≤ 1048576) (h5 : c.2.2.2.1.size ≤ 1048576) :
    Calls Tryz.prog 32 #[.pointer (some ⟨g, 0, none⟩), cv] w fun e w' => e = .returned (.tuple #[]) ∧ WrAt w' g (KH c) ∧ WrGo g w w' := by
  have HWA := hid hw
  obtain ⟨ok, ha, hm, Ap, cp, Ac, cc, rfl, sp, sc⟩ := hc
  obtain ⟨ps, cs, au, ms, st⟩ := c
  simp only at *
  have HSP := hid sp; have HSC := hid sc
  have HI1 := hid (show IdsOk ps from ok.1); have HI2 := hid (show IdsOk cs from ok.2.1)
  have h63 := (jO ok.2.2).2
  simp only at h63
  obtain ⟨st, rfl⟩ : ∃ n : Nat, st = (n : Int) := ⟨st.toNat, by omega⟩
  have h64 : st < 9223372036854775808 := by omega
  clear h63 h3
  clear sp sc ok hw
  go_enter Tryz.func32, Tryz.ntmps32
  go_upto_region 1 with (first
    | (with_reducible refine kz ?_
       refine ko (by rfl) 28 _ rfl [.slice Ap ps.length cp, .slice Ac cs.length cc, .string au, .string ms, .int .i64 ((st : Nat) : Int)] _ rfl rfl (by kernel_rfl) ?_
       intro W1 hb1 hz1 hs1
       have HB1 := hid hb1; have HZ1 := hid hz1
       clear hb1 hz1 hs1))
  have HAT1 := hid (HWA.out.keep HB1.out)
  have HNC := hid (HWA.out.newNot HB1.out (qR _))
  have HGO1 := hid (WrGo.below HWA.out.lt HB1.out)
  obtain ⟨v0, hhg, how⟩ := HAT1.out
  have HHG := hid hhg; have HOW := hid how
  have hcv : W1.cell? ⟨g, 0, none⟩ = some v0 := k5 hhg 0
  have hal : Below W1.heap.size W1 (W1.alloc (.cells #[.int .u8 75] 5)) := (qB _ _).alloc (qR _) _
  have HAL := hid hal
  have HOWA := hid ((But.of_below (X := NoB) hal).own how fun _ _ q => q)
  have HNW := hid (show ∀ j u, (idV [75])[j]? = some u → (W1.alloc (.cells #[.int .u8 75] 5)).cell? ((⟨W1.heap.size, 0, none⟩ : Addr).add j) = some u from fun j u hj => by
    have e1 : (⟨W1.heap.size, 0, none⟩ : Addr).add j = ⟨W1.heap.size, j, none⟩ := by unfold Addr.add; split <;> simp_all
    rw [e1]
    exact (k5 (cs := [.int .u8 75]) (heap_alloc_new W1 (.cells #[.int .u8 75] 5)) j).trans (by simpa [idV] using hj))
  have HLA := hid (show g + 1 ≤ (W1.alloc (.cells #[.int .u8 75] 5)).heap.size from qT HAT1.out.lt hal.size)
  clear hhg how hal
  go_upto_region 2 with (first
    | (at_builtin; go_loud (refine Jd (by rfl) _ _ 22 rfl (g + 1) 5 (.int .u8 0) 1 1 Tryz.underlying22 kH rfl (by decide) v0 0 (idV []) rfl HOWA.out ⟨W1.heap.size, 0, none⟩ 1 1 (idV [75]) rfl rfl HNW.out (ky _) (by unfold maxLen; omega) (by omega) HLA.out ?_)
       intro v9 w9 ho9 hg9 hw9
       obtain ⟨A9, c9, rfl⟩ := kg ho9
       obtain ⟨cg, cf, hat, hgo⟩ := WrAt.put (xs := []) (ys := [75]) HHG.out HOW.out HAL.out ho9 hg9 hw9
       have HAT2 := hid hat; have HGO2 := hid hgo
       clear ho9 hg9 hw9 hat hgo))
  obtain ⟨w2, hw2⟩ : ∃ u : World, w9.setCell ⟨g, 0, none⟩ (.slice A9 (0 + 1) c9) = u := ⟨_, rfl⟩
  rw [hw2] at HAT2 HGO2 ⊢
  clear hw2 cg cf
  obtain ⟨x2, HX2⟩ : ∃ x2 : List UInt8, Hid ([] ++ [75] = x2) := ⟨_, hid rfl⟩
  have hxl2 : x2.length ≤ 1 := by rw [← HX2.out]; decide
  rw [HX2.out] at HAT2
  obtain ⟨zc, hzc⟩ : ∃ zc, w.heap.size = zc := ⟨_, rfl⟩
  have HZL := hid (show zc < W1.heap.size from by rw [← hzc]; exact (qX HZ1.out))
  rw [hzc] at HZ1 HNC ⊢
  clear hzc HOWA HNW HLA HHG HOW HAL hcv
  have ce2 : w2.cell? ⟨zc, 0, none⟩ = some (.slice Ap ps.length cp) := (HGO2.out.cell HZL.out HNC.out).trans (k5 HZ1.out 0)
  go_upto_region 3 with (first
    | (go_at_call 67; refine (UR g ps x2 Ap cp w2 HAT2.out HI1.out (by omega) (HSP.out.keep (HB1.out.mono (Nat.le_of_lt HWA.out.lt) |>.trans (HGO2.out.belowG HAT1.out)))).mono ?_; rintro e w3 ⟨rfl, hat, hgo⟩
       have HAT3 := hid hat; have HGO3 := hid (HGO2.out.trans hgo)
       clear hat hgo))
  obtain ⟨x3, HX3⟩ : ∃ x3, Hid (x2 ++ jR ps = x3) := ⟨_, hid rfl⟩
  have hxl3 : x3.length ≤ x2.length + (10 + 32 * ps.length) := by rw [← HX3.out, List.length_append]; have := UV HI1.out (by omega); omega
  rw [HX3.out] at HAT3
  have ce3 : w3.cell? ⟨zc, 1, none⟩ = some (.slice Ac cs.length cc) := (HGO3.out.cell HZL.out HNC.out).trans (k5 HZ1.out 1)
  go_upto_region 4 with (first
    | (go_at_call 67; refine (UR g cs x3 Ac cc w3 HAT3.out HI2.out (by omega) (HSC.out.keep (HB1.out.mono (Nat.le_of_lt HWA.out.lt) |>.trans (HGO3.out.belowG HAT1.out)))).mono ?_; rintro e w4 ⟨rfl, hat, hgo⟩
       have HAT4 := hid hat; have HGO4 := hid (HGO3.out.trans hgo)
       clear hat hgo))
  obtain ⟨x4, HX4⟩ : ∃ x4, Hid (x3 ++ jR cs = x4) := ⟨_, hid rfl⟩
  have hxl4 : x4.length ≤ x3.length + (10 + 32 * cs.length) := by rw [← HX4.out, List.length_append]; have := UV HI2.out (by omega); omega
  rw [HX4.out] at HAT4
  have ce4 : w4.cell? ⟨zc, 2, none⟩ = some (.string au) := (HGO4.out.cell HZL.out HNC.out).trans (k5 HZ1.out 2)
  go_upto_region 5 with (first
    | (go_at_call 68; refine (Zn g au x4 w4 HAT4.out (by omega) (by omega)).mono ?_; rintro e w5 ⟨rfl, hat, hgo⟩
       have HAT5 := hid hat; have HGO5 := hid (HGO4.out.trans hgo)
       clear hat hgo))
  obtain ⟨x5, HX5⟩ : ∃ x5, Hid (x4 ++ kJ (L au) = x5) := ⟨_, hid rfl⟩
  have hxl5 : x5.length ≤ x4.length + (10 + au.size) := by rw [← HX5.out, List.length_append]; have := Zo (s := au) (by omega); omega
  rw [HX5.out] at HAT5
  have ce5 : w5.cell? ⟨zc, 3, none⟩ = some (.string ms) := (HGO5.out.cell HZL.out HNC.out).trans (k5 HZ1.out 3)
  go_upto_region 6 with (first
    | (go_at_call 68; refine (Zn g ms x5 w5 HAT5.out (by omega) (by omega)).mono ?_; rintro e w6 ⟨rfl, hat, hgo⟩
       have HAT6 := hid hat; have HGO6 := hid (HGO5.out.trans hgo)
       clear hat hgo))
  obtain ⟨x6, HX6⟩ : ∃ x6, Hid (x5 ++ kJ (L ms) = x6) := ⟨_, hid rfl⟩
  have hxl6 : x6.length ≤ x5.length + (10 + ms.size) := by rw [← HX6.out, List.length_append]; have := Zo (s := ms) (by omega); omega
  rw [HX6.out] at HAT6
  have ce6 : w6.cell? ⟨zc, 4, none⟩ = some (.int .i64 ((st : Nat) : Int)) := (HGO6.out.cell HZL.out HNC.out).trans (k5 HZ1.out 4)
  go_wp2_with (first
    | (go_at_call 66; refine (KX g st x6 w6 HAT6.out (by omega) (by omega)).mono ?_; rintro e w7 ⟨rfl, hat, hgo⟩
       have HAT7 := hid hat; have HGO7 := hid (HGO6.out.trans hgo)
       clear hat hgo))
  obtain ⟨x7, HX7⟩ : ∃ x7, Hid (x6 ++ kS st = x7) := ⟨_, hid rfl⟩
  have hxl7 : x7.length ≤ x6.length + (10) := by rw [← HX7.out, List.length_append]; have := vd (n := st) (by omega); omega
  rw [HX7.out] at HAT7
  go_end0
  refine ⟨rfl, ?_, HGO1.out.trans HGO7.out⟩
  have e : x7 = KH (ps, cs, au, ms, (st : Int)) := by
    rw [← HX7.out, ← HX6.out, ← HX5.out, ← HX4.out, ← HX3.out, ← HX2.out]
    simp only [KH, jx, List.nil_append, List.append_assoc, List.cons_append]
  rw [← e]
  exact HAT7.out
end Go.Proofs.YthjaepmfkgejkaaGreatDoor
