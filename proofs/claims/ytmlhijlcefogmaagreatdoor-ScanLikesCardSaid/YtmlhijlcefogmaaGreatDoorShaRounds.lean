/-
  A block's rounds, as the program does them. Conditions: 64 bytes that lie in memory; the table of words holds what the program's text lays.
-/
import Derived.Test.YtmlhijlcefogmaaGreatDoorMerged2
import Derived.Test.YtmlhijlcefogmaaGreatDoorMerged25
set_option linter.unusedVariables false
set_option linter.unusedSimpArgs false
set_option maxHeartbeats 4000000
set_option maxRecDepth 100000
namespace Go.Proofs.YtmlhijlcefogmaaGreatDoor
open Go.RowKit Go.Maps

theorem ex_idx64 {ρ : Operand → Value} {o : Oper} {w : World} (x y : Operand) (ho : o.op = .index 271 x y) {xs : List Int} (hl : xs.length = 64) (hx : ρ x = .agg (w32V xs).toArray) {t : Nat} (ht : t < 64) (hy : ρ y = .int .i64 (t : Int)) {V : Int} (hv : xs.getD t 0 = V) :
    (execOp ρ o).run Tryz.prog w = .ok (.value (.int .u32 V)) w := by
  have h := w32V_at (l := xs) (i := t) (by omega)
  rw [hv] at h
  obtain ⟨i, hi, hsz⟩ := Option.map_eq_some_iff.1 (show (Tryz.prog.info? 244).map (·.size) = some 1 by kernel_rfl)
  unfold execOp
  simp only [ho, hx, hy, Instr.index, asIntOf, run_underlying Tryz.underlying271, Sem.run_bind, Result.andThen_ok, Sem.run_pure]
  simp only [show ((0 : Int) ≤ (t : Int) ∧ (t : Int) < ((64 : Nat) : Int)) from ⟨by omega, by omega⟩, and_self, if_true]
  simp [part, isAgg, run_underlying Tryz.underlying244, Sem.run_bind, Result.andThen, h, sizeOf, typeInfo, hi, hsz]
/-- The tables of the program's package sha. -/
def ShaG (w : World) : Prop := (∀ j, j < 8 → w.cell? ⟨2, j, none⟩ = some (.int .u32 ((st8 firstS).getD j 0))) ∧ ∀ j, j < 64 → w.cell? ⟨3, j, none⟩ = some (.int .u32 (keyS j))
theorem cell_lt {w : World} {b j : Nat} {v : Value} (h : w.cell? ⟨b, j, none⟩ = some v) : b < w.heap.size := by
  unfold World.cell? at h
  rcases Nat.lt_or_ge b w.heap.size with h1 | h1
  · exact h1
  · rw [show w.heap[(⟨b, j, none⟩ : Addr).block]? = none from Array.getElem?_eq_none h1] at h; cases h
theorem ShaG.keep {w w' : World} {B : Nat} (h : ShaG w) (hb : Below B w w') (h1 : 2 < B) (h2 : 3 < B) : ShaG w' :=
  ⟨fun j hj => (hb.cell (p := ⟨2, j, none⟩) h1).trans (h.1 j hj), fun j hj => (hb.cell (p := ⟨3, j, none⟩) h2).trans (h.2 j hj)⟩
theorem ShaG.next {w w' : World} (h : ShaG w) (hb : Below w.heap.size w w') : ShaG w' := h.keep hb (cell_lt (h.1 0 (by decide))) (cell_lt (h.2 0 (by decide)))
/-- What stands while the rounds go on: the row of eight words. -/
structure RndAt (w : World) (z : Nat) (s : St8) (wx : World) : Prop where
  but : But (fun k => k = z) w wx
  row : wx.heap[z]? = some (.cells (w32V (st8 s)).toArray 269 (0, 0))
theorem RndAt.lt {w : World} {z : Nat} {s : St8} {wx : World} (h : RndAt w z s wx) : z < wx.heap.size := (qX h.row)
theorem RndAt.keep {w : World} {z : Nat} {s : St8} {wx wy : World} (h : RndAt w z s wx) (hb : Below wx.heap.size wx wy) : RndAt w z s wy :=
  ⟨h.but.andBelow hb, (hb.block z h.lt).trans h.row⟩
theorem RndAt.cell {w : World} {z : Nat} {s : St8} {wx : World} (h : RndAt w z s wx) (j : Nat) (hj : j < 8) : wx.cell? ⟨z, j, none⟩ = some (.int .u32 ((st8 s).getD j 0)) := (cells_at0 h.row j).trans (w32V_at (l := st8 s) hj)
theorem RndAt.fr {w : World} {z : Nat} {s : St8} {wx : World} (h : RndAt w z s wx) (k : Nat) : wx.frozen? ⟨z, k, none⟩ = false := frozen_of_row _ _ _ _ _ h.row
theorem w32_of {s : St8} (h : s.ok) (j : Nat) (hj : j < 8) : W32 ((st8 s).getD j 0) := by
  have hl : j < (st8 s).length := hj
  rw [List.getD_eq_getElem?_getD, List.getElem?_eq_getElem hl]
  exact h _ (List.getElem_mem hl)
theorem wpS_built (a b c d e f g h : Int) (w : World) : (Instr.build 269 #[(0, .int .u32 a), (1, .int .u32 b), (2, .int .u32 c), (3, .int .u32 d), (4, .int .u32 e), (5, .int .u32 f), (6, .int .u32 g), (7, .int .u32 h)]).run Tryz.prog w = .ok (.agg (w32V [a, b, c, d, e, f, g, h]).toArray) w := by kernel_rfl
def mixS (x y : List Int) (i : Nat) : List Int := (List.range 8).map fun k => if k < i then addS (x.getD k 0) (y.getD k 0) else x.getD k 0
theorem mixS_at (x y : List Int) {i : Nat} (hi : i < 8) : (w32V (mixS x y i))[i]? = some (.int .u32 (x.getD i 0)) := by
  unfold w32V mixS
  rw [List.map_map, List.getElem?_map, List.getElem?_range hi]
  simp
theorem mixS_set (x y : List Int) {i : Nat} (hi : i < 8) : (w32V (mixS x y i)).toArray.setIfInBounds i (.int .u32 (addS (x.getD i 0) (y.getD i 0))) = (w32V (mixS x y (i + 1))).toArray := by
  match i, hi with
  | 0, _ | 1, _ | 2, _ | 3, _ | 4, _ | 5, _ | 6, _ | 7, _ => rfl
/-- What stands while the state is added. -/
structure MixAt (w : World) (z : Nat) (x y : List Int) (i : Nat) (wx : World) : Prop where
  but : But (fun k => k = z) w wx
  row : wx.heap[z]? = some (.cells (w32V (mixS x y i)).toArray 269 (0, 0))
section
variable {w : World} {z : Nat} {x y : List Int} {i : Nat} {wx wy : World}
theorem MixAt.lt (h : MixAt w z x y i wx) : z < wx.heap.size := (qX h.row)
theorem MixAt.keep (h : MixAt w z x y i wx) (hb : Below wx.heap.size wx wy) : MixAt w z x y i wy := ⟨h.but.andBelow hb, (hb.block z h.lt).trans h.row⟩
theorem MixAt.cell (h : MixAt w z x y i wx) (hi : i < 8) : wx.cell? ⟨z, i, none⟩ = some (.int .u32 (x.getD i 0)) := (cells_at0 h.row i).trans (mixS_at x y hi)
theorem MixAt.fr (h : MixAt w z x y i wx) (k : Nat) : wx.frozen? ⟨z, k, none⟩ = false := frozen_of_row _ _ _ _ _ h.row
theorem MixAt.next (h : MixAt w z x y i wx) (hi : i < 8) {u : Int} (hu : addS (x.getD i 0) (y.getD i 0) = u) : MixAt w z x y (i + 1) (wx.setCell ⟨z, i, none⟩ (.int .u32 u)) := by
  refine ⟨h.but.setCell (fun _ => rfl) _, ?_⟩
  rw [← mixS_set x y hi, hu]
  exact set_blk h.row _
end
theorem rounds_any (s : St8) (b off c : Nat) (l : List UInt8) (w : World) (hs : s.ok) (hl : l.length = 64) (hbw : b < w.heap.size) (hb : ∀ j (hj : j < 64), w.cell? ⟨b, off + j, none⟩ = some (.int .u8 (byteAt l j : Int))) (hc : 64 ≤ c) (hg : ShaG w) :
    Calls Tryz.prog 187 #[.agg (w32V (st8 s)).toArray, .slice (some ⟨b, off, none⟩) 64 c] w fun e w' => e = .returned (.agg (w32V (st8 (blockS l 0 s))).toArray) ∧ Below w.heap.size w w' := by
  have HBY := Lib.hid hb; have HG := Lib.hid hg; have HOK0 := Lib.hid hs
  clear hb hg hs
  go_enter Tryz.func187, Tryz.ntmps187
  go_upto_region 1 with (first
    | (with_reducible refine at_box ?_
       refine wp_boxM (by rfl) 269 _ rfl (w32V (st8 s)) (.agg (w32V (st8 s)).toArray) rfl rfl (by kernel_rfl) ?_
       intro Wa hba hza hsa
       have HBa := Lib.hid hba; have HZa := Lib.hid hza; have HSa := Lib.hid hsa
       clear hba hza hsa)
    | (with_reducible refine at_alloc ?_
       refine wp_allocM (by rfl) 269 rfl (List.replicate 8 (.int .u32 0)) (by kernel_rfl) ?_
       intro W0 hb0 hz0 hs0
       have HB0 := Lib.hid hb0; have HZ0 := Lib.hid hz0; have HS0 := Lib.hid hs0
       clear hb0 hz0 hs0))
  obtain ⟨zs, hzs⟩ : ∃ z, w.heap.size = z := ⟨_, rfl⟩
  obtain ⟨zr, hzr⟩ : ∃ z, Wa.heap.size = z := ⟨_, rfl⟩
  have HZS : Hid (W0.heap[zs]? = some (.cells (w32V (st8 s)).toArray 269 (0, 0))) := Lib.hid (by rw [← hzs]; exact (HB0.out.block _ (by have := HSa.out; omega)).trans HZa.out)
  have HZR : Hid (W0.heap[zr]? = some (.cells (List.replicate 8 (.int .u32 0)).toArray 269 (0, 0))) := Lib.hid (by rw [← hzr]; exact HZ0.out)
  have HW0 := Lib.hid (HBa.out.trans (HB0.out.mono HBa.out.size))
  rw [hzs, hzr]
  try simp only [Act.put, List.setIfInBounds_toArray, List.set_cons_zero, List.set_cons_succ]
  go_upto_region 2 with (first
    | (with_reducible refine at_load ?_
       refine wp_val (by rfl) (ex_load 269 _ rfl (p := ⟨zs, 0, none⟩) rfl (qV _ _ _ _ (w32V (st8 s)) _ (fun j u hj => by rw [qZ]; exact (cells_at0 HZS.out j).trans hj) Tryz.underlying269 rfl (by kernel_rfl))) ?_)
    | (with_reducible refine at_alloc ?_
       refine wp_allocM (by rfl) 269 rfl (List.replicate 8 (.int .u32 0)) (by kernel_rfl) ?_
       intro W2 hb2 hz2 hs2
       have HB2 := Lib.hid hb2; have HZ2 := Lib.hid hz2; have HS2 := Lib.hid hs2
       clear hb2 hz2 hs2)
    | (with_reducible refine at_store ?_
       refine wp_storeM (by rfl) 269 _ _ rfl W0.heap.size 0 [] (List.replicate 8 (.int .u32 0)) [] (w32V (st8 s)) 269 (.agg (w32V (st8 s)).toArray) rfl rfl rfl rfl (by simpa using HZ2.out) rfl (by kernel_rfl) (w32V_one _) ?_
       intro W3 hb3 hy3 hs3
       have HB3 := Lib.hid hb3
       have HY3 : Hid (W3.heap[W0.heap.size]? = some (.cells (w32V (st8 s)).toArray 269 (0, 0))) := Lib.hid (by simpa using hy3)
       have HS3 := Lib.hid hs3
       clear hb3 hy3 hs3))
  obtain ⟨zv, hzv⟩ : ∃ z, W0.heap.size = z := ⟨_, rfl⟩
  have HW3 := Lib.hid (HW0.out.trans ((HB2.out.trans (HB3.out.below HB2.out.size fun k hk e => by omega)).mono HW0.out.size))
  have HB03 := Lib.hid (HB2.out.trans (HB3.out.below HB2.out.size fun k hk e => by omega))
  have HSV := Lib.hid (show zs < zr ∧ zr < zv ∧ w.heap.size ≤ zs ∧ zv < W3.heap.size by have := HSa.out; have := HS0.out; have := HS2.out; have := HS3.out; omega)
  rw [hzv] at HY3 HB3 ⊢
  try simp only [Act.put, List.setIfInBounds_toArray, List.set_cons_zero, List.set_cons_succ]
  go_upto_region 3 with (first
    | (go_at_call 226; refine (schedule_any b off c l W3 hl (qL hbw HW3.out.size) (fun j hj => (HW3.out.cell (p := ⟨b, off + j, none⟩) hbw).trans (HBY.out j hj)) hc).mono ?_
       rintro e W4 ⟨rfl, hb4⟩
       have HB4 := Lib.hid hb4
       clear hb4))
  have HG5 := Lib.hid (HG.out.next (HW3.out.trans (HB4.out.mono HW3.out.size)))
  have HR : Hid (RndAt W4 zv (runS l 0 s 0) W4) := Lib.hid ⟨But.refl _ _, (HB4.out.block zv HSV.out.2.2.2).trans HY3.out⟩
  have HZV : Hid (zv < W4.heap.size ∧ 3 < W4.heap.size ∧ ¬ 3 = zv) := Lib.hid ⟨HR.out.lt, cell_lt (HG5.out.2 0 (by decide)), by have h := cell_lt (HG.out.2 0 (by decide)); have h2 := HSV.out; omega⟩
  obtain ⟨W5, hW5⟩ : ∃ u : World, u = W4 := ⟨_, rfl⟩
  subst hW5
  have HZ5 := Lib.hid (show W5.heap[zs]? = some (.cells (w32V (st8 s)).toArray 269 (0, 0)) from (HB4.out.block zs (by have := HSV.out; omega)).trans ((HB03.out.block zs (by have := HSV.out; omega)).trans HZS.out))
  have HZR5 := Lib.hid (show W5.heap[zr]? = some (.cells (List.replicate 8 (.int .u32 0)).toArray 269 (0, 0)) from (HB4.out.block zr (by have := HSV.out; omega)).trans ((HB03.out.block zr (by have := HSV.out; omega)).trans HZR.out))
  clear hzs hzr hzv HZa HZ0 HZ2 HBa HB0 HB2 HB3 HY3 HS0 HSa HS2 HS3 HZS HZR
  go_loopw [17] (fun t17 wr => ∃ t : Nat, t ≤ 64 ∧ t17 = .int .i64 (t : Int) ∧ Hid (RndAt W5 zv (runS l 0 s t) wr)) (fun t17 _ => 64 - (intOf t17).toNat)
  case atStart => exact ⟨0, by omega, rfl, HR⟩
  case round =>
    clear HR
    obtain ⟨t, ht, rfl, HR⟩ := hrel
    by_cases hlt : t < 64
    · have i1 : (t : Int) < 64 := by omega
      obtain ⟨K, hK⟩ : ∃ K, keyS t = K := ⟨_, rfl⟩
      obtain ⟨V, hV⟩ : ∃ V, schS l 0 t = V := ⟨_, rfl⟩
      have HKV := Lib.hid (show ∀ S, stepS S (keyS t) (schS l 0 t) = stepS S K V by rw [hK, hV]; exact fun _ => rfl)
      have HVL := Lib.hid (show (schL l 0 64).getD t 0 = V by
        have h := schV_at (l := l) (a := 0) (t := 64) hlt (qR _)
        have h2 := w32V_at (l := schL l 0 64) (i := t) (by simp [schL]; omega)
        unfold schV at h
        rw [h2] at h
        injection h with h
        injection h with _ h
        rw [h, hV])
      have HKC := Lib.hid (fun (u : World) (hu : But (fun k => k = zv) W5 u) => (show u.cell? ⟨3, t, none⟩ = some (.int .u32 K) from by rw [← hK]; exact (hu.cell HZV.out.2.1 HZV.out.2.2).trans (HG5.out.2 t hlt)))
      obtain ⟨K0, K1⟩ : 0 ≤ K ∧ K ≤ 4294967295 := hK ▸ w32_key t
      obtain ⟨V0, V1⟩ : 0 ≤ V ∧ V ≤ 4294967295 := hV ▸ w32_sch _ _ _
      have HOK := Lib.hid (ok_run (l := l) (at' := 0) HOK0.out t)
      have HRN := Lib.hid (show runS l 0 s (t + 1) = stepS (runS l 0 s t) K V from HKV.out _)
      generalize hS : runS l 0 s t = S at *
      obtain ⟨a, b', c', d, e', f', g', h'⟩ := S
      clear hK hV HKV hS
      obtain ⟨a0, a1⟩ := w32_of HOK.out 0 (by decide)
      change 0 ≤ a at a0
      change a ≤ 4294967295 at a1
      obtain ⟨b0, b1⟩ := w32_of HOK.out 1 (by decide)
      change 0 ≤ b' at b0
      change b' ≤ 4294967295 at b1
      obtain ⟨c0, c1⟩ := w32_of HOK.out 2 (by decide)
      change 0 ≤ c' at c0
      change c' ≤ 4294967295 at c1
      obtain ⟨d0, d1⟩ := w32_of HOK.out 3 (by decide)
      change 0 ≤ d at d0
      change d ≤ 4294967295 at d1
      obtain ⟨e0, e1⟩ := w32_of HOK.out 4 (by decide)
      change 0 ≤ e' at e0
      change e' ≤ 4294967295 at e1
      obtain ⟨f0, f1⟩ := w32_of HOK.out 5 (by decide)
      change 0 ≤ f' at f0
      change f' ≤ 4294967295 at f1
      obtain ⟨g0, g1⟩ := w32_of HOK.out 6 (by decide)
      change 0 ≤ g' at g0
      change g' ≤ 4294967295 at g1
      obtain ⟨h0, h1⟩ := w32_of HOK.out 7 (by decide)
      change 0 ≤ h' at h0
      change h' ≤ 4294967295 at h1
      have q4 : wr.cell? ⟨zv, 4, none⟩ = some (.int .u32 e') := HR.out.cell 4 (by decide)
      have hzl := HR.out.lt
      have F4 := Wg.cell q4 hzl
      clear q4
      go_upto_region 5 with (first
        | (refine wp_val (by rfl) (ex_idx64 _ _ rfl (xs := schL l 0 64) rfl rfl (t := t) hlt rfl HVL.out) ?_))
      have He'W : Hid (W32 e') := Lib.hid ⟨e0, e1⟩
      have HaW : Hid (W32 a) := Lib.hid ⟨a0, a1⟩
      have HT6 : Hid (∀ u : World, Calls Tryz.prog 227 #[.int .u32 e', .int .i64 6] u fun ee ww => ee = .returned (.int .u32 (rotS 6 e')) ∧ u = ww) := Lib.hid (fun u => turn_any e' 6 He'W.out (by decide) (by decide) u)
      have HT11 : Hid (∀ u : World, Calls Tryz.prog 227 #[.int .u32 e', .int .i64 11] u fun ee ww => ee = .returned (.int .u32 (rotS 11 e')) ∧ u = ww) := Lib.hid (fun u => turn_any e' 11 He'W.out (by decide) (by decide) u)
      have HT25 : Hid (∀ u : World, Calls Tryz.prog 227 #[.int .u32 e', .int .i64 25] u fun ee ww => ee = .returned (.int .u32 (rotS 25 e')) ∧ u = ww) := Lib.hid (fun u => turn_any e' 25 He'W.out (by decide) (by decide) u)
      have HT2 : Hid (∀ u : World, Calls Tryz.prog 227 #[.int .u32 a, .int .i64 2] u fun ee ww => ee = .returned (.int .u32 (rotS 2 a)) ∧ u = ww) := Lib.hid (fun u => turn_any a 2 HaW.out (by decide) (by decide) u)
      have HT13 : Hid (∀ u : World, Calls Tryz.prog 227 #[.int .u32 a, .int .i64 13] u fun ee ww => ee = .returned (.int .u32 (rotS 13 a)) ∧ u = ww) := Lib.hid (fun u => turn_any a 13 HaW.out (by decide) (by decide) u)
      have HT22 : Hid (∀ u : World, Calls Tryz.prog 227 #[.int .u32 a, .int .i64 22] u fun ee ww => ee = .returned (.int .u32 (rotS 22 a)) ∧ u = ww) := Lib.hid (fun u => turn_any a 22 HaW.out (by decide) (by decide) u)
      refine wp_region_wr (by kernel_rfl) (by kernel_rfl) ?_
      repeat (first
        | go_big_quiet_skip
        | (go_big_quiet_want
           first
             | (go_big_quiet_op
                first
                  | go_big_quiet_on
                  | go_big_quiet_call (first | (go_at_call 227; (with_reducible refine (HT6.out _).mono ?_); exact fun e w'' ⟨he, hw⟩ => ⟨he, ⟨_, hw.symm⟩⟩) | (go_at_call 227; (with_reducible refine (HT11.out _).mono ?_); exact fun e w'' ⟨he, hw⟩ => ⟨he, ⟨_, hw.symm⟩⟩) | (go_at_call 227; (with_reducible refine (HT25.out _).mono ?_); exact fun e w'' ⟨he, hw⟩ => ⟨he, ⟨_, hw.symm⟩⟩)))))
      refine wpQuiet_nil ?_
      rintro w' ⟨kk, rfl⟩
      have hk9 := kk.2
      generalize kk.val = w9 at *
      clear kk
      clear F4 HT6 HT11 HT25
      generalize hS1 : bits BinOp.xor IntKind.u32 (bits BinOp.xor IntKind.u32 (rotS 6 e') (rotS 11 e')) (rotS 25 e') = S1
      obtain ⟨S10, S11⟩ : 0 ≤ S1 ∧ S1 ≤ 4294967295 := by rw [← hS1]; exact ⟨bits_lo_u32 _ _ _, bits_hi_u32 _ _ _⟩
      have HR9 := Lib.hid (HR.out.keep hk9.below)
      have q4 : w9.cell? ⟨zv, 4, none⟩ = some (.int .u32 e') := HR9.out.cell 4 (by decide)
      have q5 : w9.cell? ⟨zv, 5, none⟩ = some (.int .u32 f') := HR9.out.cell 5 (by decide)
      have q6 : w9.cell? ⟨zv, 6, none⟩ = some (.int .u32 g') := HR9.out.cell 6 (by decide)
      have q7 : w9.cell? ⟨zv, 7, none⟩ = some (.int .u32 h') := HR9.out.cell 7 (by decide)
      go_upto_region 7 with fail
      generalize hCH : bits BinOp.xor IntKind.u32 (bits BinOp.and IntKind.u32 e' f') (bits BinOp.and IntKind.u32 (bits BinOp.xor IntKind.u32 (if IntKind.u32.signed = true then -1 else IntKind.u32.max) e') g') = CH
      obtain ⟨CH0, CH1⟩ : 0 ≤ CH ∧ CH ≤ 4294967295 := by rw [← hCH]; exact ⟨bits_lo_u32 _ _ _, bits_hi_u32 _ _ _⟩
      have hzl9 := HR9.out.lt
      have F7 := Wg.cell q7 hzl9
      have FK := Wg.cell (HKC.out w9 HR9.out.but) (qL HZV.out.2.1 HR9.out.but.size)
      clear q4 q5 q6 q7
      refine wp_region_wr (by kernel_rfl) (by kernel_rfl) ?_
      repeat (first
        | go_big_quiet_skip
        | (go_big_quiet_want
           first
             | (go_big_quiet_op
                first
                  | go_big_quiet_on
                  | go_big_quiet_call (first | (fail)))))
      refine wpQuiet_nil ?_
      rintro w' ⟨kk, rfl⟩
      have hk8 := kk.2
      generalize kk.val = w8 at *
      clear kk
      clear F7 FK
      generalize hUP : ((h' + S1 + CH + K) % 4294967296 + V) % 4294967296 = UP
      obtain ⟨UP0, UP1⟩ : 0 ≤ UP ∧ UP ≤ 4294967295 := by omega
      have HR8 := Lib.hid (HR9.out.keep hk8.below)
      have q0 : w8.cell? ⟨zv, 0, none⟩ = some (.int .u32 a) := HR8.out.cell 0 (by decide)
      have hzl8 := HR8.out.lt
      have F0 := Wg.cell q0 hzl8
      clear q0
      go_upto_region 8 with fail
      refine wp_region_wr (by kernel_rfl) (by kernel_rfl) ?_
      repeat (first
        | go_big_quiet_skip
        | (go_big_quiet_want
           first
             | (go_big_quiet_op
                first
                  | go_big_quiet_on
                  | go_big_quiet_call (first | (go_at_call 227; (with_reducible refine (HT2.out _).mono ?_); exact fun e w'' ⟨he, hw⟩ => ⟨he, ⟨_, hw.symm⟩⟩) | (go_at_call 227; (with_reducible refine (HT13.out _).mono ?_); exact fun e w'' ⟨he, hw⟩ => ⟨he, ⟨_, hw.symm⟩⟩) | (go_at_call 227; (with_reducible refine (HT22.out _).mono ?_); exact fun e w'' ⟨he, hw⟩ => ⟨he, ⟨_, hw.symm⟩⟩)))))
      refine wpQuiet_nil ?_
      rintro w' ⟨kk, rfl⟩
      have hk7 := kk.2
      generalize kk.val = w7 at *
      clear kk
      clear F0 HT2 HT13 HT22
      generalize hTW : bits BinOp.xor IntKind.u32 (bits BinOp.xor IntKind.u32 (rotS 2 a) (rotS 13 a)) (rotS 22 a) = TW
      obtain ⟨TW0, TW1⟩ : 0 ≤ TW ∧ TW ≤ 4294967295 := by rw [← hTW]; exact ⟨bits_lo_u32 _ _ _, bits_hi_u32 _ _ _⟩
      have HR7 := Lib.hid (HR8.out.keep hk7.below)
      have q0 : w7.cell? ⟨zv, 0, none⟩ = some (.int .u32 a) := HR7.out.cell 0 (by decide)
      have q1 : w7.cell? ⟨zv, 1, none⟩ = some (.int .u32 b') := HR7.out.cell 1 (by decide)
      have q2 : w7.cell? ⟨zv, 2, none⟩ = some (.int .u32 c') := HR7.out.cell 2 (by decide)
      have q3 : w7.cell? ⟨zv, 3, none⟩ = some (.int .u32 d) := HR7.out.cell 3 (by decide)
      have q4 : w7.cell? ⟨zv, 4, none⟩ = some (.int .u32 e') := HR7.out.cell 4 (by decide)
      have q5 : w7.cell? ⟨zv, 5, none⟩ = some (.int .u32 f') := HR7.out.cell 5 (by decide)
      have q6 : w7.cell? ⟨zv, 6, none⟩ = some (.int .u32 g') := HR7.out.cell 6 (by decide)
      have q7 : w7.cell? ⟨zv, 7, none⟩ = some (.int .u32 h') := HR7.out.cell 7 (by decide)
      go_upto_region 10 with fail
      generalize hMJ : bits BinOp.xor IntKind.u32 (bits BinOp.xor IntKind.u32 (bits BinOp.and IntKind.u32 a b') (bits BinOp.and IntKind.u32 a c')) (bits BinOp.and IntKind.u32 b' c') = MJ
      obtain ⟨MJ0, MJ1⟩ : 0 ≤ MJ ∧ MJ ≤ 4294967295 := by rw [← hMJ]; exact ⟨bits_lo_u32 _ _ _, bits_hi_u32 _ _ _⟩
      have HST : Hid (st8 (runS l 0 s (t + 1)) = [((UP + TW) % 4294967296 + MJ) % 4294967296, a, b', c', (d + UP) % 4294967296, e', f', g']) := Lib.hid (by
        have e1 : t1S (a, b', c', d, e', f', g', h') K V = UP := by
          rw [← hUP, ← hS1, ← hCH]
          simp only [t1S, addS, xorS, andS, notS]
          omega
        have e2 : t2S (a, b', c', d, e', f', g', h') = (TW + MJ) % 4294967296 := by rw [← hTW, ← hMJ]; rfl
        rw [HRN.out]
        show [addS (t1S (a, b', c', d, e', f', g', h') K V) (t2S (a, b', c', d, e', f', g', h')), a, b', c', addS d (t1S (a, b', c', d, e', f', g', h') K V), e', f', g'] = _
        rw [e1, e2]
        unfold addS
        rw [show (UP + (TW + MJ) % 4294967296) % 4294967296 = ((UP + TW) % 4294967296 + MJ) % 4294967296 by omega])
      clear hUP hS1 hCH hTW hMJ
      go_wp2_with (first
        | (with_reducible refine at_build ?_
           refine wp_val (by rfl) (ex_build 269 #[(0, .tmp 88), (1, .tmp 90), (2, .tmp 92), (3, .tmp 94), (4, .tmp 98), (5, .tmp 100), (6, .tmp 102), (7, .tmp 104)] rfl (by simp only [List.map_toArray, List.map_cons, List.map_nil]; exact wpS_built (((UP + TW) % 4294967296 + MJ) % 4294967296) a b' c' ((d + UP) % 4294967296) e' f' g' _)) ?_)
        | (with_reducible refine at_store ?_
           refine wp_storeM (by rfl) 269 _ _ rfl zv 0 [] (w32V (st8 (a, b', c', d, e', f', g', h'))) [] (w32V ([((UP + TW) % 4294967296 + MJ) % 4294967296, a, b', c', (d + UP) % 4294967296, e', f', g'])) 269 (.agg (w32V ([((UP + TW) % 4294967296 + MJ) % 4294967296, a, b', c', (d + UP) % 4294967296, e', f', g'])).toArray) rfl rfl rfl rfl (by simpa using HR7.out.row) rfl (by kernel_rfl) (w32V_one _) ?_
           intro W6 hb6 hy6 hs6
           have HB6 := Lib.hid hb6
           have HY6 : Hid (W6.heap[zv]? = some (.cells (w32V ([((UP + TW) % 4294967296 + MJ) % 4294967296, a, b', c', (d + UP) % 4294967296, e', f', g'])).toArray 269 (0, 0))) := Lib.hid (by simpa using hy6)
           have HS6 := Lib.hid hs6
           clear hb6 hy6 hs6))
      go_roundw
      case rel =>
        refine ⟨t + 1, by omega, by go_num, Lib.hid ⟨HR7.out.but.trans HB6.out fun _ _ q => q, ?_⟩⟩
        rw [HST.out]
        exact HY6.out
      case measure => (simp [intOf]) <;> omega
    · have i1 : ¬ (t : Int) < 64 := by omega
      obtain rfl : t = 64 := by omega
      go_upto_region 13 with fail
      have HRK := HR
      go_loopw [107] (fun t107 wr => ∃ i : Nat, i ≤ 8 ∧ t107 = .int .i64 (i : Int) ∧ Hid (MixAt W5 zv (st8 (runS l 0 s 64)) (st8 s) i wr)) (fun t107 _ => 8 - (intOf t107).toNat)
      case atStart => exact ⟨0, by omega, rfl, Lib.hid ⟨HRK.out.but, HRK.out.row⟩⟩
      case round =>
        clear HR HRK
        obtain ⟨i, hi, rfl, HM⟩ := hrel
        by_cases hlt : i < 8
        · have i2 : (i : Int) < 8 := by omega
          obtain ⟨A, hA⟩ : ∃ x, (st8 (runS l 0 s 64)).getD i 0 = x := ⟨_, rfl⟩
          obtain ⟨B, hB⟩ : ∃ x, (st8 s).getD i 0 = x := ⟨_, rfl⟩
          obtain ⟨A0, A1⟩ : 0 ≤ A ∧ A ≤ 4294967295 := hA ▸ w32_of (ok_run HOK0.out 64) i hlt
          obtain ⟨B0, B1⟩ : 0 ≤ B ∧ B ≤ 4294967295 := hB ▸ w32_of HOK0.out i hlt
          have q1 : wr.cell? ⟨zv, i, none⟩ = some (.int .u32 A) := by rw [← hA]; exact HM.out.cell hlt
          have q2 : wr.cell? ⟨zs, i, none⟩ = some (.int .u32 B) := by
            rw [← hB]
            exact (HM.out.but.cell (Nat.lt_trans (by have := HSV.out; omega) HZV.out.1) (by have := HSV.out; omega)).trans ((cells_at0 HZ5.out i).trans (w32V_at (l := st8 s) hlt))
          have hzl := HM.out.lt
          have F1 := Wg.cell q1 hzl
          have F2 := Wg.cell q2 (Nat.lt_trans (by have := HSV.out; omega) hzl)
          have HA := Lib.hid hA; have HB := Lib.hid hB
          clear q1 q2 hA hB
          go_upto_region 15 with fail
          refine wp_region_tail_wg 8 (by kernel_rfl) (by kernel_rfl) (by kernel_rfl) (by kernel_rfl) (by kernel_rfl) ?_
          simp only [List.take_succ_cons, List.take_zero, List.drop_succ_cons, List.drop_zero]
          repeat (first
            | go_big_quiet_skip
            | (go_big_quiet_want
               first
                 | (go_big_quiet_op
                    first
                      | go_big_quiet_on
                      | go_big_quiet_call (first | (fail)))))
          refine wpQuiet_nil ?_
          rintro w' ⟨kk, rfl⟩
          have hk9 := kk.2
          generalize kk.val = w9 at *
          clear kk
          clear F1 F2
          have HM9 := Lib.hid (HM.out.keep hk9.below)
          have c9 := HM9.out.cell hlt
          have f9 := HM9.out.fr i
          go_wp2_with fail
          go_roundw
          case rel =>
            refine ⟨i + 1, by omega, by go_num, Lib.hid (HM9.out.next hlt ?_)⟩
            rw [HA.out, HB.out]; rfl
          case measure => (simp [intOf]) <;> omega
        · have i2 : ¬ (i : Int) < 8 := by omega
          obtain rfl : i = 8 := by omega
          have HROW : Hid (wr.heap[zv]? = some (.cells (w32V (st8 (blockS l 0 s))).toArray 269 (0, 0))) := Lib.hid HM.out.row
          have HZF := Lib.hid ((HM.out.but.block zr (Nat.lt_trans (by have := HSV.out; omega) HZV.out.1) (by have := HSV.out; omega)).trans HZR5.out)
          go_wp2_with (first
            | (with_reducible refine at_load ?_
               refine wp_val (by rfl) (ex_load 269 _ rfl (p := ⟨zv, 0, none⟩) rfl (qV _ _ _ _ (w32V (st8 (blockS l 0 s))) _ (fun j u hj => by rw [qZ]; exact (cells_at0 HROW.out j).trans hj) Tryz.underlying269 rfl (by kernel_rfl))) ?_)
            | (with_reducible refine at_store ?_
               refine wp_storeM (by rfl) 269 _ _ rfl zr 0 [] (List.replicate 8 (.int .u32 0)) [] (w32V (st8 (blockS l 0 s))) 269 (.agg (w32V (st8 (blockS l 0 s))).toArray) rfl rfl rfl rfl (by simpa using HZF.out) rfl (by kernel_rfl) (w32V_one _) ?_
               intro W6 hb6 hy6 hs6
               have HB6 := Lib.hid hb6
               have HY6 : Hid (W6.heap[zr]? = some (.cells (w32V (st8 (blockS l 0 s))).toArray 269 (0, 0))) := Lib.hid (by simpa using hy6)
               have HS6 := Lib.hid hs6
               clear hb6 hy6 hs6))
          refine bodyPost_ret (results_one Tryz.results187 _ _ rfl (qV _ zr 0 269 (w32V (st8 (blockS l 0 s))) _ (fun j u hj => by rw [qZ]; exact (cells_at0 HY6.out j).trans hj) Tryz.underlying269 rfl (by kernel_rfl))) rfl ?_
          have hw5 := HW3.out.trans (HB4.out.mono HW3.out.size)
          exact ⟨rfl, hw5.trans ((HM.out.but.below hw5.size (fun k hk e => by have := HSV.out; omega)).trans (HB6.out.below (qT hw5.size HM.out.but.size) fun k hk e => by have := HSV.out; omega))⟩
end Go.Proofs.YtmlhijlcefogmaaGreatDoor
