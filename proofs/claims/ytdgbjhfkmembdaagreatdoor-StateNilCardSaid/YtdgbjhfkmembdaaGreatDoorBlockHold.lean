/-
  A key some places on; whether a run has a key, or meets some. Conditions: keys well formed, their indexes small.
-/
import Derived.Test.YtdgbjhfkmembdaaGreatDoorDocRun
import Derived.Test.YtdgbjhfkmembdaaGreatDoorKeyWalks
import Derived.Test.YtdgbjhfkmembdaaGreatDoorStoreM
import Derived.Test.YtdgbjhfkmembdaaGreatDoorAtOp
import Derived.Test.YtdgbjhfkmembdaaGreatDoorShort9
import Derived.Test.YtdgbjhfkmembdaaGreatDoorQuietR
import Derived.Test.YtdgbjhfkmembdaaGreatDoorQuietTail
namespace Go.Proofs.YtdgbjhfkmembdaaGreatDoor
open Go.RowKit Go.Maps
set_option linter.unusedVariables false
set_option linter.unusedSimpArgs false

/-- An index that is far from the number's ends. -/
def Ix (n : Int) : Prop := -2305843009213693952 ≤ n ∧ n ≤ 2305843009213693952
theorem run_cells {r : RunM} (h : KeyOk r.1) : (runV r)[0]? = some (.int .i64 r.1.1) ∧ (runV r)[33]? = some (.int .i64 r.1.2.2) ∧ (∀ j u, (idV r.1.2.1)[j]? = some u → (runV r)[1 + j]? = some u) ∧ (runV r)[34]? = some r.2.1 ∧ (runV r)[35]? = some (.bool r.2.2.2) ∧ ∀ j u, (keyV r.1)[j]? = some u → (runV r)[0 + j]? = some u := by
  obtain ⟨h0, h1, h2⟩ := key_cells h
  have hl := keyV_length h
  have hin : ∀ j u, (keyV r.1)[j]? = some u → (runV r)[j]? = some u := fun j u hj => by
    unfold runV
    rw [List.getElem?_append_left (List.getElem?_eq_some_iff.1 hj).1]; exact hj
  refine ⟨hin _ _ h0, hin _ _ h1, fun j u hj => hin _ _ (h2 j u hj), ?_, ?_, fun j u hj => by rw [qZ]; exact hin _ _ hj⟩
  · unfold runV
    rw [List.getElem?_append_right (by omega), hl]; rfl
  · unfold runV
    rw [List.getElem?_append_right (by omega), hl]; rfl
section
variable {ρ : Operand → Value} {o : Oper} {w : World} {b f : Nat} {x : Operand}
theorem ldK {k : KeyD} (hk : KeyOk k) (hc : w.rangeAt b f (keyV k)) (ho : o.op = .load 89 x := by rfl) (hx : ρ x = .pointer (some ⟨b, f, none⟩) := by rfl) : (execOp ρ o).run Tryz.prog w = .ok (.value (.agg (keyV k).toArray)) w :=
  ex_load 89 x ho hx (qV w b f _ (keyV k) _ hc Tryz.underlying89 rfl (by rw [keyV_length hk]; kernel_rfl))
theorem ldD {i : List UInt8} (hi : IdOk i) (hc : w.rangeAt b f (idV i)) (ho : o.op = .load 41 x := by rfl) (hx : ρ x = .pointer (some ⟨b, f, none⟩) := by rfl) : (execOp ρ o).run Tryz.prog w = .ok (.value (.agg (idV i).toArray)) w :=
  ex_load 41 x ho hx (qV w b f _ (idV i) _ hc Tryz.underlying41 rfl (by rw [idV_length, hi]; kernel_rfl))
theorem ldU {r : RunM} (hr : (runV r).length = 36) (hc : w.rangeAt b f (runV r)) (ho : o.op = .load 177 x := by rfl) (hx : ρ x = .pointer (some ⟨b, f, none⟩) := by rfl) : (execOp ρ o).run Tryz.prog w = .ok (.value (.agg (runV r).toArray)) w :=
  ex_load 177 x ho hx (qV w b f _ (runV r) _ hc Tryz.underlying177 rfl (by rw [hr]; kernel_rfl))
theorem eqD {y : Operand} {t' : TypeId} {i j : List UInt8} (hi : IdOk i) (hj : IdOk j) {q : Bool} (hq : decide (i = j) = q) (ho : o.op = .binOp .eql 41 x y t' := by rfl) (hx : ρ x = .agg (idV i).toArray := by rfl) (hy : ρ y = .agg (idV j).toArray := by rfl) : (execOp ρ o).run Tryz.prog w = .ok (.value (.bool q)) w :=
  ex_eql 41 t' x y ho hx hy eqId.noGuard (hq ▸ run_eqId hi hj w)
end
set_option maxHeartbeats 4000000 in
set_option maxRecDepth 100000 in
theorem holds_any (r : RunM) (k : KeyD) (w : World) (hr : RunIn w r) (hk : KeyOk k) (hx1 : Ix r.1.2.2) (hx2 : Ix k.2.2) :
    Calls Tryz.prog 199 #[.agg (runV r).toArray, .agg (keyV k).toArray] w fun e w' => Below w.heap.size w w' ∧ e = .returned (.tuple #[.int .i64 (k.2.2 - r.1.2.2), .bool (holdsR (runOf r) k)]) := by
  have HK := Lib.hid hk; have HR := Lib.hid hr
  obtain ⟨av, cv, hsv⟩ : ∃ av cv, r.2.1 = .slice av r.2.2.1.length cv := by
    obtain ⟨g, off, cap, _, _, h1, _⟩ := hr.2.1
    exact ⟨_, _, h1⟩
  have HSV := Lib.hid hsv
  obtain ⟨⟨rt, ri, rx⟩, rv, rl, rd⟩ := r
  obtain ⟨kt, ki, kx⟩ := k
  dsimp only at hsv
  subst hsv
  obtain ⟨p0, p1, p2, p3, _, _⟩ := run_cells HR.out.1
  obtain ⟨q0, q1, q2⟩ := key_cells HK.out
  have P0 := Lib.hid p0; have P1 := Lib.hid p1; have P2 := Lib.hid p2; have P3 := Lib.hid p3; have Q0 := Lib.hid q0; have Q1 := Lib.hid q1; have Q2 := Lib.hid q2
  clear hk hr p0 p1 p2 p3 q0 q1 q2
  dsimp only at hx1 hx2
  go_enter Tryz.func199, Tryz.ntmps199
  go_upto_region 1 with (first
    | (with_reducible refine at_box ?_
       refine wp_boxM (by rfl) 177 _ rfl (runV ((rt, ri, rx), .slice av rl.length cv, rl, rd)) _ rfl rfl (by rw [runV_length HR.out]; kernel_rfl) ?_
       intro W0 hb0 hy0 hs0
       have HB0 := Lib.hid hb0; have HY0 := Lib.hid hy0; have HS0 := Lib.hid hs0
       clear hb0 hy0 hs0)
    | (with_reducible refine at_box ?_
       refine wp_boxM (by rfl) 89 _ rfl (keyV (kt, ki, kx)) _ rfl rfl (by rw [keyV_length HK.out]; kernel_rfl) ?_
       intro W1 hb1 hy1 hs1
       have HB1 := Lib.hid hb1; have HY1 := Lib.hid hy1; have HS1 := Lib.hid hs1
       clear hb1 hy1 hs1))
  obtain ⟨b0, hb0⟩ : ∃ b0, w.heap.size = b0 := ⟨_, rfl⟩
  obtain ⟨b1, hb1⟩ : ∃ b1, W0.heap.size = b1 := ⟨_, rfl⟩
  have HBW := Lib.hid (HB0.out.trans (HB1.out.mono HB0.out.size))
  have hb0l := qX HY0.out
  have HZ0 := Lib.hid ((HB1.out.block w.heap.size hb0l).trans HY0.out)
  rw [hb0] at HZ0 ⊢
  rw [hb1] at HY1 ⊢
  have c0 : W1.cell? ⟨b0, 0, none⟩ = some (.int .i64 rt) := (cells_at0 HZ0.out 0).trans P0.out
  have c1 : W1.cell? ⟨b0, 33, none⟩ = some (.int .i64 rx) := (cells_at0 HZ0.out 33).trans P1.out
  have c2 : W1.cell? ⟨b0, 34, none⟩ = some (.slice av rl.length cv) := (cells_at0 HZ0.out 34).trans P3.out
  have c3 : W1.cell? ⟨b1, 0, none⟩ = some (.int .i64 kt) := (cells_at0 HY1.out 0).trans Q0.out
  have c4 : W1.cell? ⟨b1, 33, none⟩ = some (.int .i64 kx) := (cells_at0 HY1.out 33).trans Q1.out
  have R0 := Lib.hid (show W1.rangeAt b0 1 (idV ri) from fun j u hj => (cells_at0 HZ0.out (1 + j)).trans (P2.out j u hj))
  have R1 := Lib.hid (show W1.rangeAt b1 1 (idV ki) from fun j u hj => (cells_at0 HY1.out (1 + j)).trans (Q2.out j u hj))
  clear HB0 HB1 hb0l HZ0 HY0 HY1 P0 P1 P2 P3 Q0 Q1 Q2
  have hl0 : b0 < W1.heap.size := by have := HS1.out; have := HS0.out; omega
  have hl1 : b1 < W1.heap.size := by have := HS1.out; omega
  have C0 := Wg.cell c0 hl0; have C1 := Wg.cell c1 hl0; have C2 := Wg.cell c2 hl0; have C3 := Wg.cell c3 hl1; have C4 := Wg.cell c4 hl1
  have A0 := Lib.hid (Wg.row R0.out hl0); have A1 := Lib.hid (Wg.row R1.out hl1)
  have HI1 : Hid (IdOk ri) := Lib.hid HR.out.1.2.1
  have HI2 : Hid (IdOk ki) := Lib.hid HK.out.2.1
  clear hb0 hb1 HR HK HSV HS0 HS1 hl0 hl1
  unfold Ix at hx1 hx2
  have ew : IntKind.i64.wrap (kx - rx) = kx - rx := IntWalk.i64_in _ (by omega)
  go_upto_region 2 with fail
  by_cases h0 : rt = kt
  · have e0 : (rt == kt) = true := beq_iff_eq.2 h0
    by_cases h1 : ri = ki
    · have EQ : Hid (decide (ri = ki) = true) := Lib.hid (dT h1)
      by_cases h2 : rx ≤ kx
      · have e2 : decide ((0 : Int) ≤ kx - rx) = true := dT (by omega)
        by_cases h3 : kx < rx + (rl.length : Int)
        · have e3 : decide (kx - rx < (rl.length : Int)) = true := dT (by omega)
          refine wp_region_wr (by kernel_rfl) (by kernel_rfl) ?_
          repeat (first
            | go_big_quiet_skip
            | (go_big_quiet_want
               first
                 | (refine quiet_val (fun w' hw' => ldD HI1.out (A0.out w' hw')) ?_
                    go_big_quiet_on
                    go_frame)
                 | (refine quiet_val (fun w' hw' => ldD HI2.out (A1.out w' hw')) ?_
                    go_big_quiet_on
                    go_frame)
                 | (refine quiet_val (fun w' hw' => eqD HI1.out HI2.out EQ.out) ?_
                    go_big_quiet_on
                    go_frame)
                 | (go_big_quiet_op
                    first
                      | go_big_quiet_on)))
          refine wpQuiet_nil ?_
          rintro w' ⟨kk, rfl⟩
          have hkk := kk.2
          generalize kk.val = w2 at *
          go_wp2_with fail
          go_ret2
          exact ⟨HBW.out.trans (hkk.below.mono HBW.out.size), by simp [holdsR, sameRow, runOf, h0, h1, h2, h3] <;> first | exact decide_eq_false (by omega) | exact fun q => absurd (of_decide_eq_true q) (by omega)⟩
        have e3 : decide (kx - rx < (rl.length : Int)) = false := dF (by omega)
        refine wp_region_wr (by kernel_rfl) (by kernel_rfl) ?_
        repeat (first
          | go_big_quiet_skip
          | (go_big_quiet_want
             first
               | (refine quiet_val (fun w' hw' => ldD HI1.out (A0.out w' hw')) ?_
                  go_big_quiet_on
                  go_frame)
               | (refine quiet_val (fun w' hw' => ldD HI2.out (A1.out w' hw')) ?_
                  go_big_quiet_on
                  go_frame)
               | (refine quiet_val (fun w' hw' => eqD HI1.out HI2.out EQ.out) ?_
                  go_big_quiet_on
                  go_frame)
               | (go_big_quiet_op
                  first
                    | go_big_quiet_on)))
        refine wpQuiet_nil ?_
        rintro w' ⟨kk, rfl⟩
        have hkk := kk.2
        generalize kk.val = w2 at *
        go_wp2_with fail
        go_ret2
        exact ⟨HBW.out.trans (hkk.below.mono HBW.out.size), by simp [holdsR, sameRow, runOf, h0, h1, h2, h3] <;> first | exact decide_eq_false (by omega) | exact fun q => absurd (of_decide_eq_true q) (by omega)⟩
      have e2 : decide ((0 : Int) ≤ kx - rx) = false := dF (by omega)
      refine wp_region_wr (by kernel_rfl) (by kernel_rfl) ?_
      repeat (first
        | go_big_quiet_skip
        | (go_big_quiet_want
           first
             | (refine quiet_val (fun w' hw' => ldD HI1.out (A0.out w' hw')) ?_
                go_big_quiet_on
                go_frame)
             | (refine quiet_val (fun w' hw' => ldD HI2.out (A1.out w' hw')) ?_
                go_big_quiet_on
                go_frame)
             | (refine quiet_val (fun w' hw' => eqD HI1.out HI2.out EQ.out) ?_
                go_big_quiet_on
                go_frame)
             | (go_big_quiet_op
                first
                  | go_big_quiet_on)))
      refine wpQuiet_nil ?_
      rintro w' ⟨kk, rfl⟩
      have hkk := kk.2
      generalize kk.val = w2 at *
      go_wp2_with fail
      go_ret2
      exact ⟨HBW.out.trans (hkk.below.mono HBW.out.size), by simp [holdsR, sameRow, runOf, h0, h1, h2] <;> first | exact decide_eq_false (by omega) | exact fun q => absurd (of_decide_eq_true q) (by omega)⟩
    have EQ : Hid (decide (ri = ki) = false) := Lib.hid (dF h1)
    refine wp_region_wr (by kernel_rfl) (by kernel_rfl) ?_
    repeat (first
      | go_big_quiet_skip
      | (go_big_quiet_want
         first
           | (refine quiet_val (fun w' hw' => ldD HI1.out (A0.out w' hw')) ?_
              go_big_quiet_on
              go_frame)
           | (refine quiet_val (fun w' hw' => ldD HI2.out (A1.out w' hw')) ?_
              go_big_quiet_on
              go_frame)
           | (refine quiet_val (fun w' hw' => eqD HI1.out HI2.out EQ.out) ?_
              go_big_quiet_on
              go_frame)
           | (go_big_quiet_op
              first
                | go_big_quiet_on)))
    refine wpQuiet_nil ?_
    rintro w' ⟨kk, rfl⟩
    have hkk := kk.2
    generalize kk.val = w2 at *
    go_wp2_with fail
    go_ret2
    exact ⟨HBW.out.trans (hkk.below.mono HBW.out.size), by simp [holdsR, sameRow, runOf, h0, h1] <;> first | exact decide_eq_false (by omega) | exact fun q => absurd (of_decide_eq_true q) (by omega)⟩
  have e0 : (rt == kt) = false := beq_eq_false_iff_ne.2 h0
  refine wp_region_wr (by kernel_rfl) (by kernel_rfl) ?_
  repeat (first
    | go_big_quiet_skip
    | (go_big_quiet_want
       first
         | (refine quiet_val (fun w' hw' => ldD HI1.out (A0.out w' hw')) ?_
            go_big_quiet_on
            go_frame)
         | (refine quiet_val (fun w' hw' => ldD HI2.out (A1.out w' hw')) ?_
            go_big_quiet_on
            go_frame)
         | (refine quiet_val (fun w' hw' => eqD HI1.out HI2.out EQ.out) ?_
            go_big_quiet_on
            go_frame)
         | (go_big_quiet_op
            first
              | go_big_quiet_on)))
  refine wpQuiet_nil ?_
  rintro w' ⟨kk, rfl⟩
  have hkk := kk.2
  generalize kk.val = w2 at *
  go_wp2_with fail
  go_ret2
  exact ⟨HBW.out.trans (hkk.below.mono HBW.out.size), by simp [holdsR, sameRow, runOf, h0] <;> first | exact decide_eq_false (by omega) | exact fun q => absurd (of_decide_eq_true q) (by omega)⟩
set_option maxHeartbeats 4000000 in
set_option maxRecDepth 100000 in
theorem meets_any (r : RunM) (k : KeyD) (n : Int) (w : World) (hr : RunIn w r) (hk : KeyOk k) (hx1 : Ix r.1.2.2) (hx2 : Ix k.2.2) (hx3 : Ix n) (hln : r.2.2.1.length ≤ 2305843009213693952) :
    Calls Tryz.prog 160 #[.agg (runV r).toArray, .agg (keyV k).toArray, .int .i64 n] w fun e w' => Below w.heap.size w w' ∧ e = .returned (.bool (meetsR (runOf r) k n)) := by
  have HK := Lib.hid hk; have HR := Lib.hid hr
  obtain ⟨av, cv, hsv⟩ : ∃ av cv, r.2.1 = .slice av r.2.2.1.length cv := by
    obtain ⟨g, off, cap, _, _, h1, _⟩ := hr.2.1
    exact ⟨_, _, h1⟩
  have HSV := Lib.hid hsv
  obtain ⟨⟨rt, ri, rx⟩, rv, rl, rd⟩ := r
  obtain ⟨kt, ki, kx⟩ := k
  dsimp only at hsv
  subst hsv
  obtain ⟨p0, p1, p2, p3, _, _⟩ := run_cells HR.out.1
  obtain ⟨q0, q1, q2⟩ := key_cells HK.out
  have P0 := Lib.hid p0; have P1 := Lib.hid p1; have P2 := Lib.hid p2; have P3 := Lib.hid p3; have Q0 := Lib.hid q0; have Q1 := Lib.hid q1; have Q2 := Lib.hid q2
  clear hk hr p0 p1 p2 p3 q0 q1 q2
  dsimp only at hx1 hx2
  go_enter Tryz.func160, Tryz.ntmps160
  go_upto_region 1 with (first
    | (with_reducible refine at_box ?_
       refine wp_boxM (by rfl) 177 _ rfl (runV ((rt, ri, rx), .slice av rl.length cv, rl, rd)) _ rfl rfl (by rw [runV_length HR.out]; kernel_rfl) ?_
       intro W0 hb0 hy0 hs0
       have HB0 := Lib.hid hb0; have HY0 := Lib.hid hy0; have HS0 := Lib.hid hs0
       clear hb0 hy0 hs0)
    | (with_reducible refine at_box ?_
       refine wp_boxM (by rfl) 89 _ rfl (keyV (kt, ki, kx)) _ rfl rfl (by rw [keyV_length HK.out]; kernel_rfl) ?_
       intro W1 hb1 hy1 hs1
       have HB1 := Lib.hid hb1; have HY1 := Lib.hid hy1; have HS1 := Lib.hid hs1
       clear hb1 hy1 hs1))
  obtain ⟨b0, hb0⟩ : ∃ b0, w.heap.size = b0 := ⟨_, rfl⟩
  obtain ⟨b1, hb1⟩ : ∃ b1, W0.heap.size = b1 := ⟨_, rfl⟩
  have HBW := Lib.hid (HB0.out.trans (HB1.out.mono HB0.out.size))
  have hb0l := qX HY0.out
  have HZ0 := Lib.hid ((HB1.out.block w.heap.size hb0l).trans HY0.out)
  rw [hb0] at HZ0 ⊢
  rw [hb1] at HY1 ⊢
  have c0 : W1.cell? ⟨b0, 0, none⟩ = some (.int .i64 rt) := (cells_at0 HZ0.out 0).trans P0.out
  have c1 : W1.cell? ⟨b0, 33, none⟩ = some (.int .i64 rx) := (cells_at0 HZ0.out 33).trans P1.out
  have c2 : W1.cell? ⟨b0, 34, none⟩ = some (.slice av rl.length cv) := (cells_at0 HZ0.out 34).trans P3.out
  have c3 : W1.cell? ⟨b1, 0, none⟩ = some (.int .i64 kt) := (cells_at0 HY1.out 0).trans Q0.out
  have c4 : W1.cell? ⟨b1, 33, none⟩ = some (.int .i64 kx) := (cells_at0 HY1.out 33).trans Q1.out
  have R0 := Lib.hid (show W1.rangeAt b0 1 (idV ri) from fun j u hj => (cells_at0 HZ0.out (1 + j)).trans (P2.out j u hj))
  have R1 := Lib.hid (show W1.rangeAt b1 1 (idV ki) from fun j u hj => (cells_at0 HY1.out (1 + j)).trans (Q2.out j u hj))
  clear HB0 HB1 hb0l HZ0 HY0 HY1 P0 P1 P2 P3 Q0 Q1 Q2
  have hl0 : b0 < W1.heap.size := by have := HS1.out; have := HS0.out; omega
  have hl1 : b1 < W1.heap.size := by have := HS1.out; omega
  have C0 := Wg.cell c0 hl0; have C1 := Wg.cell c1 hl0; have C2 := Wg.cell c2 hl0; have C3 := Wg.cell c3 hl1; have C4 := Wg.cell c4 hl1
  have A0 := Lib.hid (Wg.row R0.out hl0); have A1 := Lib.hid (Wg.row R1.out hl1)
  have HI1 : Hid (IdOk ri) := Lib.hid HR.out.1.2.1
  have HI2 : Hid (IdOk ki) := Lib.hid HK.out.2.1
  clear hb0 hb1 HR HK HSV HS0 HS1 hl0 hl1
  unfold Ix at hx1 hx2
  dsimp only at hln
  unfold Ix at hx3
  have ew : IntKind.i64.wrap (kx + n) = kx + n := IntWalk.i64_in _ (by omega)
  have ew2 : IntKind.i64.wrap (rx + (rl.length : Int)) = rx + (rl.length : Int) := IntWalk.i64_in _ (by omega)
  by_cases h0 : rt = kt
  · have e0 : (rt == kt) = true := beq_iff_eq.2 h0
    by_cases h1 : ri = ki
    · have EQ : Hid (decide (ri = ki) = true) := Lib.hid (dT h1)
      by_cases h2 : rx < kx + n
      · have e2 : decide (rx < kx + n) = true := dT h2
        by_cases h3 : kx < rx + (rl.length : Int)
        · have e3 : decide (kx < rx + (rl.length : Int)) = true := dT h3
          go_wp2_with (first
            | (with_reducible refine at_load ?_
               refine wp_val (by rfl) (ldD HI1.out R0.out) ?_
               go_frame)
            | (with_reducible refine at_load ?_
               refine wp_val (by rfl) (ldD HI2.out R1.out) ?_
               go_frame)
            | (with_reducible refine at_binOp ?_
               refine wp_val (by rfl) (eqD HI1.out HI2.out EQ.out) ?_
               go_frame; try simp only [nTF]))
          go_ret
          exact ⟨HBW.out, by simp [meetsR, sameRow, runOf, h0, h1, h2, h3] <;> first | exact decide_eq_false (by omega) | exact fun q => absurd (of_decide_eq_true q) (by omega)⟩
        have e3 : decide (kx < rx + (rl.length : Int)) = false := dF h3
        go_wp2_with (first
          | (with_reducible refine at_load ?_
             refine wp_val (by rfl) (ldD HI1.out R0.out) ?_
             go_frame)
          | (with_reducible refine at_load ?_
             refine wp_val (by rfl) (ldD HI2.out R1.out) ?_
             go_frame)
          | (with_reducible refine at_binOp ?_
             refine wp_val (by rfl) (eqD HI1.out HI2.out EQ.out) ?_
             go_frame; try simp only [nTF]))
        go_ret
        exact ⟨HBW.out, by simp [meetsR, sameRow, runOf, h0, h1, h2, h3] <;> first | exact decide_eq_false (by omega) | exact fun q => absurd (of_decide_eq_true q) (by omega)⟩
      have e2 : decide (rx < kx + n) = false := dF h2
      go_wp2_with (first
        | (with_reducible refine at_load ?_
           refine wp_val (by rfl) (ldD HI1.out R0.out) ?_
           go_frame)
        | (with_reducible refine at_load ?_
           refine wp_val (by rfl) (ldD HI2.out R1.out) ?_
           go_frame)
        | (with_reducible refine at_binOp ?_
           refine wp_val (by rfl) (eqD HI1.out HI2.out EQ.out) ?_
           go_frame; try simp only [nTF]))
      go_ret
      exact ⟨HBW.out, by simp [meetsR, sameRow, runOf, h0, h1, h2] <;> first | exact decide_eq_false (by omega) | exact fun q => absurd (of_decide_eq_true q) (by omega)⟩
    have EQ : Hid (decide (ri = ki) = false) := Lib.hid (dF h1)
    go_wp2_with (first
      | (with_reducible refine at_load ?_
         refine wp_val (by rfl) (ldD HI1.out R0.out) ?_
         go_frame)
      | (with_reducible refine at_load ?_
         refine wp_val (by rfl) (ldD HI2.out R1.out) ?_
         go_frame)
      | (with_reducible refine at_binOp ?_
         refine wp_val (by rfl) (eqD HI1.out HI2.out EQ.out) ?_
         go_frame; try simp only [nTF]))
    go_ret
    exact ⟨HBW.out, by simp [meetsR, sameRow, runOf, h0, h1] <;> first | exact decide_eq_false (by omega) | exact fun q => absurd (of_decide_eq_true q) (by omega)⟩
  have e0 : (rt == kt) = false := beq_eq_false_iff_ne.2 h0
  go_wp2_with (first
    | (with_reducible refine at_load ?_
       refine wp_val (by rfl) (ldD HI1.out R0.out) ?_
       go_frame)
    | (with_reducible refine at_load ?_
       refine wp_val (by rfl) (ldD HI2.out R1.out) ?_
       go_frame)
    | (with_reducible refine at_binOp ?_
       refine wp_val (by rfl) (eqD HI1.out HI2.out EQ.out) ?_
       go_frame; try simp only [nTF]))
  go_ret
  exact ⟨HBW.out, by simp [meetsR, sameRow, runOf, h0] <;> first | exact decide_eq_false (by omega) | exact fun q => absurd (of_decide_eq_true q) (by omega)⟩
theorem keyZ_run (w : World) : (zeroValue 89).run Tryz.prog w = .ok (.agg (keyV (0, zero32, 0)).toArray) w := by kernel_rfl
set_option maxHeartbeats 4000000 in
set_option maxRecDepth 100000 in
theorem later_any (k : KeyD) (n : Int) (w : World) (hk : KeyOk k) (hx : Ix k.2.2) (hn : Ix n) :
    Calls Tryz.prog 89 #[.agg (keyV k).toArray, .int .i64 n] w fun e w' => Below w.heap.size w w' ∧ e = .returned (.agg (keyV (laterD k n)).toArray) := by
  obtain ⟨kt, ki, kx⟩ := k
  have HK := Lib.hid hk
  have hkl := keyV_length hk
  obtain ⟨q0, q1, q2⟩ := key_cells hk
  have Q1 := Lib.hid q1
  have HI : Hid (IdOk ki) := Lib.hid hk.2.1
  have HW := Lib.hid hk.1
  clear hk q0 q1 q2
  dsimp only at hx
  unfold Ix at hx hn
  go_enter Tryz.func89, Tryz.ntmps89
  go_upto_region 1 with (first
    | (with_reducible refine at_box ?_
       refine wp_boxM (by rfl) 89 _ rfl (keyV (kt, ki, kx)) _ rfl rfl (by rw [hkl]; kernel_rfl) ?_
       intro W0 hb0 hy0 hs0
       have HB0 := Lib.hid hb0; have HY0 := Lib.hid hy0; have HS0 := Lib.hid hs0
       clear hb0 hy0 hs0)
    | (with_reducible refine at_alloc ?_
       refine wp_allocM (by rfl) 89 rfl (keyV (0, zero32, 0)) (keyZ_run _) ?_
       intro W1 hb1 hy1 hs1
       have HB1 := Lib.hid hb1; have HY1 := Lib.hid hy1; have HS1 := Lib.hid hs1
       clear hb1 hy1 hs1))
  obtain ⟨b0, hb0⟩ : ∃ b0, w.heap.size = b0 := ⟨_, rfl⟩
  obtain ⟨b1, hb1⟩ : ∃ b1, W0.heap.size = b1 := ⟨_, rfl⟩
  have HBW := Lib.hid (HB0.out.trans (HB1.out.mono HB0.out.size))
  have hb0l := qX HY0.out
  have HZ0 : Hid (W1.heap[b0]? = some (.cells ((Value.int .i64 kt :: idV ki) ++ ([Value.int .i64 kx] ++ [])).toArray 89 (0, 0))) := Lib.hid (by rw [← hb0]; simpa [keyV] using (HB1.out.block w.heap.size hb0l).trans HY0.out)
  rw [hb0]
  rw [hb1] at HY1 ⊢
  have HNE := Lib.hid (show b0 ≠ b1 by have := HS0.out; omega)
  have HL0 := Lib.hid (show w.heap.size ≤ b0 by omega)
  have HL1 := Lib.hid (show w.heap.size ≤ b1 by have := HS0.out; omega)
  have hpl : (Value.int .i64 kt :: idV ki).length = 33 := by simp [idV_length, show ki.length = 32 from HI.out]
  have c1 : W1.cell? ⟨b0, 33, none⟩ = some (.int .i64 kx) := by
    have := cells_at0 HZ0.out 33
    rw [this, List.getElem?_append_right (by omega), hpl]; rfl
  have ew : IntKind.i64.wrap (kx + n) = kx + n := IntWalk.i64_in _ (by omega)
  have HK2 : Hid (KeyOk (kt, ki, kx + n)) := Lib.hid ⟨HW.out, HI.out, by
    simp only [Lit.wf, IntKind.min, IntKind.max, IntKind.signed, IntKind.bits, Bool.and_eq_true]
    simp
    omega⟩
  clear HB0 HB1 hb0l HY0 HS0 HS1 hb0 hb1
  go_wp2_with (first
    | (with_reducible refine at_store ?_
       refine wp_storeM (by rfl) 3 _ _ rfl b0 33 (Value.int .i64 kt :: idV ki) [.int .i64 kx] [] [.int .i64 (kx + n)] 89 _ rfl hpl.symm rfl rfl HZ0.out rfl (by kernel_rfl) (by intro u hu; rw [List.mem_singleton.1 hu]; rfl) ?_
       intro W2 hb2 hy2 hs2
       have HR2 : Hid (W2.rangeAt b0 0 (keyV (kt, ki, kx + n))) := Lib.hid (fun j u hj => by rw [qZ]; exact (cells_at0 hy2 j).trans (by simpa [keyV] using hj))
       have HY2 := Lib.hid ((hb2.block b1 (qX HY1.out) (fun e => HNE.out e.symm)).trans HY1.out)
       have HB2 := Lib.hid (hb2.below (B := w.heap.size) HBW.out.size (fun k hk e => by have := HL0.out; omega))
       clear hb2 hy2 hs2)
    | (refine wp_val (by rfl) (ldK HK2.out HR2.out) ?_)
    | (with_reducible refine at_store ?_
       refine wp_storeM (by rfl) 89 _ _ rfl b1 0 [] (keyV (0, zero32, 0)) [] (keyV (kt, ki, kx + n)) 89 _ rfl rfl rfl rfl (by simpa using HY2.out) (by rw [keyV_length HK2.out]; rfl) (by rw [keyV_length HK2.out]; kernel_rfl) (keyV_one _) ?_
       intro W3 hb3 hy3 hs3
       have HY3 : Hid (W3.rangeAt b1 0 (keyV (kt, ki, kx + n))) := Lib.hid (fun j u hj => by rw [qZ]; exact (cells_at0 hy3 j).trans (by simpa using hj))
       have HB3 := Lib.hid (hb3.below (B := w.heap.size) (qT HBW.out.size HB2.out.size) (fun k hk e => by have := HL1.out; omega))
       clear hb3 hy3 hs3))
  refine bodyPost_ret (results_one Tryz.results89 _ _ rfl (qV _ b1 0 89 (keyV (kt, ki, kx + n)) _ HY3.out Tryz.underlying89 rfl (by rw [keyV_length HK2.out]; kernel_rfl))) rfl ?_
  exact ⟨HBW.out.trans (HB2.out.trans HB3.out), rfl⟩
end Go.Proofs.YtdgbjhfkmembdaaGreatDoor
