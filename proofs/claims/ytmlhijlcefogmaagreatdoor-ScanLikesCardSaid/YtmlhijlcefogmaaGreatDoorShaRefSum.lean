/-
  The document's sum of bytes. Conditions: bytes that lie in memory.
-/
import Derived.Test.YtmlhijlcefogmaaGreatDoorMerged2
import Derived.Test.YtmlhijlcefogmaaGreatDoorMerged28
set_option linter.unusedVariables false
set_option linter.unusedSimpArgs false
set_option maxHeartbeats 4000000
set_option maxRecDepth 100000
namespace Go.Proofs.YtmlhijlcefogmaaGreatDoor
open Go.RowKit Go.Maps

theorem firstS_built (w : World) : (Instr.build 269 #[(0, .int .u32 1779033703), (1, .int .u32 3144134277), (2, .int .u32 1013904242), (3, .int .u32 2773480762), (4, .int .u32 1359893119), (5, .int .u32 2600822924), (6, .int .u32 528734635), (7, .int .u32 1541459225)]).run Tryz.prog w = .ok (.agg (w32V (st8 firstS)).toArray) w := by kernel_rfl
theorem refSum_any (l : List UInt8) (A : Option Addr) (c : Nat) (w : World) (hs : Sl w w.heap.size A l.length 1 (idV l)) (hl : l.length ≤ 1099511627776) :
    Calls Tryz.prog 97 #[.slice A l.length c] w fun e w' => e = .returned (.agg (idV (shaS l)).toArray) ∧ Below w.heap.size w w' := by
  have HS := Lib.hid hs
  clear hs
  go_enter Tryz.func97, Tryz.ntmps97
  go_upto_region 1 with (first
    | (with_reducible refine at_alloc ?_
       refine wp_allocM (by rfl) 50 rfl (List.replicate 32 (.int .u8 0)) (by kernel_rfl) ?_
       intro W0 hb0 hz0 hs0
       have HB0 := Lib.hid hb0; have HZ0 := Lib.hid hz0; have HS0 := Lib.hid hs0
       clear hb0 hz0 hs0))
  go_upto_region 2 with (first
    | (with_reducible refine at_build ?_
       refine wp_val (by rfl) (ex_build 269 _ rfl (firstS_built _)) ?_)
    | (with_reducible refine at_alloc ?_
       refine wp_allocM (by rfl) 269 rfl (List.replicate 8 (.int .u32 0)) (by kernel_rfl) ?_
       intro W1 hb1 hz1 hs1
       have HB1 := Lib.hid hb1; have HZ1 := Lib.hid hz1; have HS1 := Lib.hid hs1
       clear hb1 hz1 hs1)
    | (with_reducible refine at_store ?_
       refine wp_storeM (by rfl) 269 _ _ rfl W0.heap.size 0 [] (List.replicate 8 (.int .u32 0)) [] (w32V (st8 firstS)) 269 (.agg (w32V (st8 firstS)).toArray) rfl rfl rfl rfl (by simpa using HZ1.out) rfl (by kernel_rfl) (w32V_one _) ?_
       intro W2 hb2 hy2 hs2
       have HB2 := Lib.hid hb2
       have HY2 : Hid (W2.heap[W0.heap.size]? = some (.cells (w32V (st8 firstS)).toArray 269 (0, 0))) := Lib.hid (by simpa using hy2)
       have HS2 := Lib.hid hs2
       clear hb2 hy2 hs2))
  obtain ⟨zi, hzi⟩ : ∃ x, w.heap.size = x := ⟨_, rfl⟩
  obtain ⟨z3, hz3⟩ : ∃ x, W0.heap.size = x := ⟨_, rfl⟩
  have HB12 := Lib.hid (HB1.out.trans (HB2.out.below HB1.out.size fun k hk e => by omega))
  have HB02 := Lib.hid (HB0.out.trans (HB12.out.mono HB0.out.size))
  have HORD := Lib.hid (show w.heap.size = zi ∧ zi < z3 ∧ z3 < W2.heap.size by have := HS0.out; have := HS1.out; have := HS2.out; omega)
  have HIR : Hid (W2.heap[zi]? = some (.cells (List.replicate 32 (.int .u8 0)).toArray 50 (0, 0))) := Lib.hid (by rw [← hzi]; exact (HB12.out.block _ (by have := HS0.out; omega)).trans HZ0.out)
  rw [hz3] at HY2 ⊢
  rw [hzi]
  try simp only [Act.put, List.setIfInBounds_toArray, List.set_cons_zero, List.set_cons_succ]
  clear hzi hz3 HZ0 HZ1 HB0 HB1 HB2 HS0 HS1 HS2
  go_upto_region 4 with (first
    | (go_at_call 146; refine (padded_any l A c W2 ((HS.out.keep HB02.out).more HB02.out.size) hl).mono ?_
       rintro e W3 ⟨A3, c3, rfl, ho3, hb3⟩
       have HO3 := Lib.hid ho3; have HB3 := Lib.hid hb3
       clear ho3 hb3))
  obtain ⟨P, hP⟩ : ∃ P, padS l = P := ⟨_, rfl⟩
  rw [hP] at HO3 ⊢
  obtain ⟨N, hN⟩ : ∃ N, P.length / 64 = N := ⟨_, rfl⟩
  have HPN := Lib.hid (show P.length = 64 * N by have h := padS_mod l; rw [hP] at h; omega)
  have HPL := Lib.hid (show P.length ≤ 1099511627900 by rw [← hP, padS_length]; unfold zerosN; omega)
  have HSH := Lib.hid (show shaS l = outS (hashS P firstS N) by unfold shaS; rw [hP, hN])
  clear hP hN
  have HR : Hid (RndAt W3 z3 (hashS P firstS 0) W3) := Lib.hid ⟨But.refl _ _, (HB3.out.block z3 HORD.out.2.2).trans HY2.out⟩
  have HSR := Lib.hid (own_bytes HO3.out HR.out.row (by decide))
  go_loopw [5] (fun t5 wr => ∃ n : Nat, n ≤ N ∧ t5 = .int .i64 ((64 * n : Nat) : Int) ∧ Hid (RndAt W3 z3 (hashS P firstS n) wr)) (fun t5 _ => P.length - (intOf t5).toNat)
  case atStart => exact ⟨0, Nat.zero_le _, rfl, HR⟩
  case round =>
    clear HR
    obtain ⟨n, hn, rfl, HR⟩ := hrel
    obtain ⟨a0, ha0⟩ : ∃ x, 64 * n = x := ⟨_, rfl⟩
    rw [ha0]
    by_cases hlt : n < N
    · have hpn := HPN.out
      have i1 : (a0 : Int) < (P.length : Int) := by omega
      have HA0 := Lib.hid (show a0 + 64 ≤ P.length ∧ 64 * n = a0 by omega)
      have hp0 : 0 < P.length := by omega
      obtain ⟨b, off, rfl, hbl3, hbz3, hcb⟩ := HSR.out hp0
      have HCB := Lib.hid hcb
      clear hcb ha0 hpn hp0
      go_upto_region 7 with (first
        | (with_reducible refine at_alloc ?_
           refine wp_allocM (by rfl) 271 rfl (List.replicate 64 (.int .u32 0)) (by kernel_rfl) ?_
           intro W4 hb4 hz4 hs4
           have HB4 := Lib.hid hb4; have HZ4 := Lib.hid hz4; have HS4 := Lib.hid hs4
           clear hb4 hz4 hs4))
      obtain ⟨z6, hz6⟩ : ∃ x, wr.heap.size = x := ⟨_, rfl⟩
      have HZ6 := Lib.hid (show z6 < W4.heap.size ∧ z3 < z6 ∧ b < z6 ∧ W3.heap.size ≤ z6 by have h1 := HR.out.lt; have h2 := HR.out.but.size; have h3 := HS4.out; omega)
      rw [hz6] at HZ4 ⊢
      try simp only [Act.put, List.setIfInBounds_toArray, List.set_cons_zero, List.set_cons_succ]
      have HRK := Lib.hid (HR.out.keep HB4.out)
      have HB4L := Lib.hid (show b < W4.heap.size by have := HZ6.out; omega)
      have HBX := Lib.hid (fun (u : World) (hu : But (fun k => k = z6) W4 u) (j : Nat) (hj : j < P.length) => (show u.cell? ⟨b, off + j, none⟩ = some (.int .u8 (byteAt P j : Int)) from (hu.cell HB4L.out (by have := HZ6.out; omega)).trans ((HRK.out.but.cell hbl3 hbz3).trans (HCB.out j hj))))
      obtain ⟨wo, hwo⟩ : ∃ u : World, u = wr := ⟨_, rfl⟩
      subst hwo
      have HS : Hid (SchAt W4 z6 P a0 0 W4) := Lib.hid ⟨But.refl _ _, HZ4.out⟩
      clear hz6 HZ4 HS4
      go_upto_region 8 with fail
      go_loopw [7] (fun t7 wr => ∃ t : Nat, t ≤ 64 ∧ t7 = .int .i64 (t : Int) ∧ Hid (SchAt W4 z6 P a0 t wr)) (fun t7 _ => 64 - (intOf t7).toNat)
      case atStart => exact ⟨0, by omega, rfl, HS⟩
      case round =>
        clear HS
        obtain ⟨t, ht, rfl, HS⟩ := hrel
        have hzl := HS.out.lt
        by_cases hlt : t < 64
        · have i2 : (t : Int) < 64 := by omega
          by_cases h16 : t < 16
          · have i3 : (t : Int) < 16 := by omega
            obtain ⟨q, hq⟩ : ∃ q, 4 * t = q := ⟨_, rfl⟩
            obtain ⟨m, hm⟩ : ∃ m, a0 + q = m := ⟨_, rfl⟩
            have hmP : m + 3 < P.length := by have := HA0.out; omega
            have hP := HPL.out
            have e4 : IntKind.i64.wrap (4 * (t : Int)) = ((q : Nat) : Int) := by rw [IntWalk.i64_in _ (by omega)]; omega
            have e0 : IntKind.i64.wrap ((a0 : Int) + (q : Int)) = ((m : Nat) : Int) := by rw [IntWalk.i64_in _ (by omega)]; omega
            have e5 : IntKind.i64.wrap ((m : Int) + 1) = ((m + 1 : Nat) : Int) := by rw [IntWalk.i64_in _ (by omega)]; omega
            have e6 : IntKind.i64.wrap ((m : Int) + 2) = ((m + 2 : Nat) : Int) := by rw [IntWalk.i64_in _ (by omega)]; omega
            have e7 : IntKind.i64.wrap ((m : Int) + 3) = ((m + 3 : Nat) : Int) := by rw [IntWalk.i64_in _ (by omega)]; omega
            have hbl : b < wr.heap.size := qL HB4L.out HS.out.but.size
            obtain ⟨k0, hk0⟩ : ∃ k, byteAt P m = k := ⟨_, rfl⟩
            obtain ⟨k1, hk1⟩ : ∃ k, byteAt P (m + 1) = k := ⟨_, rfl⟩
            obtain ⟨k2, hk2⟩ : ∃ k, byteAt P (m + 2) = k := ⟨_, rfl⟩
            obtain ⟨k3, hk3⟩ : ∃ k, byteAt P (m + 3) = k := ⟨_, rfl⟩
            have F0 := Wg.cell (hk0 ▸ HBX.out wr HS.out.but m (by omega)) hbl
            have F1 := Wg.cell (hk1 ▸ HBX.out wr HS.out.but (m + 1) (by omega)) hbl
            have F2 := Wg.cell (hk2 ▸ HBX.out wr HS.out.but (m + 2) (by omega)) hbl
            have F3 := Wg.cell (hk3 ▸ HBX.out wr HS.out.but (m + 3) (by omega)) hbl
            have q0 : k0 < 256 := hk0 ▸ byteAt_lt _ _
            have q1 : k1 < 256 := hk1 ▸ byteAt_lt _ _
            have q2 : k2 < 256 := hk2 ▸ byteAt_lt _ _
            have q3 : k3 < 256 := hk3 ▸ byteAt_lt _ _
            have HW := Lib.hid (show schS P a0 t = wordS k0 k1 k2 k3 by rw [schS_lo h16, hq, hm, hk0, hk1, hk2, hk3])
            clear hk0 hk1 hk2 hk3 hm hq
            go_upto_region 11 with fail
            refine wp_region_tail_wg 43 (by kernel_rfl) (by kernel_rfl) (by kernel_rfl) (by kernel_rfl) (by kernel_rfl) ?_
            simp only [List.take_succ_cons, List.take_zero, List.drop_succ_cons, List.drop_zero]
            repeat (first
              | go_big_quiet_skip
              | (go_big_quiet_want
                 first
                   | (go_big_quiet_op
                      first
                        | go_big_quiet_on
                        | go_big_quiet_call (first | (fail)))))
            refine wpQuiet_nil ?_
            rintro w' ⟨kk, rfl⟩
            have hk9 := kk.2
            generalize kk.val = w9 at *
            clear kk
            clear F0 F1 F2 F3 e0 e4 e5 e6 e7
            have HS9 := Lib.hid (HS.out.keep hk9.below)
            obtain ⟨u9, c9⟩ := HS9.out.any (show t < 64 by omega)
            have f9 := HS9.out.fr t
            go_wp2_with fail
            go_roundw
            case rel =>
              refine ⟨t + 1, by omega, by go_num, Lib.hid (HS9.out.next (by omega) ?_)⟩
              rw [HW.out]; rfl
            case measure => (simp [intOf]) <;> omega
          · have i3 : ¬ (t : Int) < 16 := by omega
            obtain ⟨m2, hm2⟩ : ∃ m, t - 2 = m := ⟨_, rfl⟩
            obtain ⟨m7, hm7⟩ : ∃ m, t - 7 = m := ⟨_, rfl⟩
            obtain ⟨m15, hm15⟩ : ∃ m, t - 15 = m := ⟨_, rfl⟩
            obtain ⟨m16, hm16⟩ : ∃ m, t - 16 = m := ⟨_, rfl⟩
            have e2 : IntKind.i64.wrap ((t : Int) - 2) = ((m2 : Nat) : Int) := by rw [IntWalk.i64_in _ (by omega)]; omega
            have e7 : IntKind.i64.wrap ((t : Int) - 7) = ((m7 : Nat) : Int) := by rw [IntWalk.i64_in _ (by omega)]; omega
            have e15 : IntKind.i64.wrap ((t : Int) - 15) = ((m15 : Nat) : Int) := by rw [IntWalk.i64_in _ (by omega)]; omega
            have e16 : IntKind.i64.wrap ((t : Int) - 16) = ((m16 : Nat) : Int) := by rw [IntWalk.i64_in _ (by omega)]; omega
            have l2 : m2 < 64 := by omega
            have l7 : m7 < 64 := by omega
            have l15 : m15 < 64 := by omega
            have l16 : m16 < 64 := by omega
            obtain ⟨Y, hY⟩ : ∃ x, schS P a0 m2 = x := ⟨_, rfl⟩
            obtain ⟨V, hV⟩ : ∃ x, schS P a0 m7 = x := ⟨_, rfl⟩
            obtain ⟨X, hX⟩ : ∃ x, schS P a0 m15 = x := ⟨_, rfl⟩
            obtain ⟨U, hU⟩ : ∃ x, schS P a0 m16 = x := ⟨_, rfl⟩
            have HCX := Lib.hid (fun (u : World) (hu : Below wr.heap.size wr u) => (show u.cell? ⟨z6, m2, none⟩ = some (.int .u32 Y) ∧ u.cell? ⟨z6, m7, none⟩ = some (.int .u32 V) ∧ u.cell? ⟨z6, m15, none⟩ = some (.int .u32 X) ∧ u.cell? ⟨z6, m16, none⟩ = some (.int .u32 U) from by
              have h := HS.out.keep hu
              rw [← hY, ← hV, ← hX, ← hU]
              exact ⟨h.cell (by omega) ht, h.cell (by omega) ht, h.cell (by omega) ht, h.cell (by omega) ht⟩))
            have HYW : Hid (W32 Y) := Lib.hid (hY ▸ w32_sch _ _ _)
            have HXW : Hid (W32 X) := Lib.hid (hX ▸ w32_sch _ _ _)
            have HVW : Hid (W32 V) := Lib.hid (hV ▸ w32_sch _ _ _)
            have HUW : Hid (W32 U) := Lib.hid (hU ▸ w32_sch _ _ _)
            have HE := Lib.hid (show schS P a0 t = addS (addS (addS (xorS (xorS (rotS 17 Y) (rotS 19 Y)) (Y / 1024)) V) (xorS (xorS (rotS 7 X) (rotS 18 X)) (X / 8))) U by rw [schS_hi (by omega), hm2, hm7, hm15, hm16, hY, hV, hX, hU])
            clear hm2 hm7 hm15 hm16 hY hV hX hU
            obtain ⟨y0, y1⟩ := HYW.out
            obtain ⟨x0, x1⟩ := HXW.out
            obtain ⟨v0, v1⟩ := HVW.out
            obtain ⟨s0, s1⟩ := HUW.out
            obtain ⟨c2, c7, c15, c16⟩ := HCX.out wr (qB _ _)
            have F2 := Wg.cell c2 hzl
            have F15 := Wg.cell c15 hzl
            clear c2 c7 c15 c16
            go_upto_region 12 with fail
            refine wp_region_wr (by kernel_rfl) (by kernel_rfl) ?_
            repeat (first
              | go_big_quiet_skip
              | (go_big_quiet_want
                 first
                   | (go_big_quiet_op
                      first
                        | go_big_quiet_on
                        | go_big_quiet_call (first | (fail)))))
            refine wpQuiet_nil ?_
            rintro w' ⟨kk, rfl⟩
            have hk9 := kk.2
            generalize kk.val = w9 at *
            clear kk
            clear F2 F15
            have HT7 : Hid (∀ u : World, Calls Tryz.prog 147 #[.int .u32 X, .int .u64 7] u fun ee ww => ee = .returned (.int .u32 (rotS 7 X)) ∧ u = ww) := Lib.hid (fun u => refRot_any X 7 HXW.out (by decide) (by decide) u)
            have HT18 : Hid (∀ u : World, Calls Tryz.prog 147 #[.int .u32 X, .int .u64 18] u fun ee ww => ee = .returned (.int .u32 (rotS 18 X)) ∧ u = ww) := Lib.hid (fun u => refRot_any X 18 HXW.out (by decide) (by decide) u)
            have HT17 : Hid (∀ u : World, Calls Tryz.prog 147 #[.int .u32 Y, .int .u64 17] u fun ee ww => ee = .returned (.int .u32 (rotS 17 Y)) ∧ u = ww) := Lib.hid (fun u => refRot_any Y 17 HYW.out (by decide) (by decide) u)
            have HT19 : Hid (∀ u : World, Calls Tryz.prog 147 #[.int .u32 Y, .int .u64 19] u fun ee ww => ee = .returned (.int .u32 (rotS 19 Y)) ∧ u = ww) := Lib.hid (fun u => refRot_any Y 19 HYW.out (by decide) (by decide) u)
            obtain ⟨c2, c7, c15, c16⟩ := HCX.out w9 hk9.below
            have HS9 := Lib.hid (HS.out.keep hk9.below)
            have hzl9 := HS9.out.lt
            have F7 := Wg.cell c7 hzl9
            have F16 := Wg.cell c16 hzl9
            clear c2 c7 c15 c16 hk9
            go_upto_region 13 with fail
            refine wp_region_tail_wg 29 (by kernel_rfl) (by kernel_rfl) (by kernel_rfl) (by kernel_rfl) (by kernel_rfl) ?_
            simp only [List.take_succ_cons, List.take_zero, List.drop_succ_cons, List.drop_zero]
            repeat (first
              | go_big_quiet_skip
              | (go_big_quiet_want
                 first
                   | (go_big_quiet_op
                      first
                        | go_big_quiet_on
                        | go_big_quiet_call (first | (go_at_call 147; (with_reducible refine (HT17.out _).mono ?_); exact fun e w'' ⟨he, hw⟩ => ⟨he, ⟨_, hw.symm⟩⟩) | (go_at_call 147; (with_reducible refine (HT19.out _).mono ?_); exact fun e w'' ⟨he, hw⟩ => ⟨he, ⟨_, hw.symm⟩⟩) | (go_at_call 147; (with_reducible refine (HT7.out _).mono ?_); exact fun e w'' ⟨he, hw⟩ => ⟨he, ⟨_, hw.symm⟩⟩) | (go_at_call 147; (with_reducible refine (HT18.out _).mono ?_); exact fun e w'' ⟨he, hw⟩ => ⟨he, ⟨_, hw.symm⟩⟩)))))
            refine wpQuiet_nil ?_
            rintro w' ⟨kk, rfl⟩
            have hk8 := kk.2
            generalize kk.val = w8 at *
            clear kk
            clear F7 F16 e2 e7 e15 e16 HT7 HT18 HT17 HT19
            have HS8 := Lib.hid (HS9.out.keep hk8.below)
            obtain ⟨u8, c8⟩ := HS8.out.any (show t < 64 by omega)
            have f8 := HS8.out.fr t
            go_wp2_with fail
            go_roundw
            case rel =>
              refine ⟨t + 1, by omega, by go_num, Lib.hid (HS8.out.next (by omega) ?_)⟩
              rw [HE.out]; unfold addS xorS; omega
            case measure => (simp [intOf]) <;> omega
        · have i2 : ¬ (t : Int) < 64 := by omega
          obtain rfl : t = 64 := by omega
          obtain ⟨W6, hW6⟩ : ∃ u : World, u = wr := ⟨_, rfl⟩
          subst hW6
          have HR6 := Lib.hid (show W6.heap[z3]? = some (.cells (w32V (st8 (hashS P firstS n))).toArray 269 (0, 0)) from (HS.out.but.block z3 (by have := HZ6.out; omega) (by have := HZ6.out; omega)).trans HRK.out.row)
          have HOK0 := Lib.hid (ok_hash (l := P) first_ok n)
          have HNX := Lib.hid (show hashS P firstS (n + 1) = blockS P a0 (hashS P firstS n) by show blockS P (64 * n) _ = _; rw [HA0.out.2])
          generalize hashS P firstS n = S at *
          have HZ3L := Lib.hid (qX HR6.out)
          have F0 := Wg.cell ((cells_at0 HR6.out 0).trans (w32V_at (l := st8 S) (i := 0) (show 0 < 8 by decide))) HZ3L.out
          have F1 := Wg.cell ((cells_at0 HR6.out 1).trans (w32V_at (l := st8 S) (i := 1) (show 1 < 8 by decide))) HZ3L.out
          have F2 := Wg.cell ((cells_at0 HR6.out 2).trans (w32V_at (l := st8 S) (i := 2) (show 2 < 8 by decide))) HZ3L.out
          have F3 := Wg.cell ((cells_at0 HR6.out 3).trans (w32V_at (l := st8 S) (i := 3) (show 3 < 8 by decide))) HZ3L.out
          have F4 := Wg.cell ((cells_at0 HR6.out 4).trans (w32V_at (l := st8 S) (i := 4) (show 4 < 8 by decide))) HZ3L.out
          have F5 := Wg.cell ((cells_at0 HR6.out 5).trans (w32V_at (l := st8 S) (i := 5) (show 5 < 8 by decide))) HZ3L.out
          have F6 := Wg.cell ((cells_at0 HR6.out 6).trans (w32V_at (l := st8 S) (i := 6) (show 6 < 8 by decide))) HZ3L.out
          have F7 := Wg.cell ((cells_at0 HR6.out 7).trans (w32V_at (l := st8 S) (i := 7) (show 7 < 8 by decide))) HZ3L.out
          go_upto_region 14 with fail
          refine wp_region_wr (by kernel_rfl) (by kernel_rfl) ?_
          repeat (first
            | go_big_quiet_skip
            | (go_big_quiet_want
               first
                 | (go_big_quiet_op
                    first
                      | go_big_quiet_on
                      | go_big_quiet_call (first | (fail)))))
          refine wpQuiet_nil ?_
          rintro w' ⟨kk, rfl⟩
          have hk9 := kk.2
          generalize kk.val = w9 at *
          clear kk
          clear F0 F1 F2 F3 F4 F5 F6 F7
          go_upto_region 16 with fail
          have HS9 := Lib.hid (HS.out.keep hk9.below)
          have HR9 := Lib.hid ((hk9.below.block z3 HZ3L.out).trans HR6.out)
          have HB9 := Lib.hid hk9.below
          clear hk9
          go_loopw [18, 10, 11, 12, 13, 14, 15, 16, 17] (fun t18 t10 t11 t12 t13 t14 t15 t16 t17 wr => ∃ (t : Nat) (a b' c' d e' f' g' h' : Int), t ≤ 64 ∧ t18 = .int .i64 (t : Int) ∧ t10 = .int .u32 a ∧ t11 = .int .u32 b' ∧ t12 = .int .u32 c' ∧ t13 = .int .u32 d ∧ t14 = .int .u32 e' ∧ t15 = .int .u32 f' ∧ t16 = .int .u32 g' ∧ t17 = .int .u32 h' ∧ Hid (runS P a0 S t = (a, b', c', d, e', f', g', h')) ∧ Hid (Below w9.heap.size w9 wr)) (fun t18 _ _ _ _ _ _ _ _ _ => 64 - (intOf t18).toNat)
          case atStart => exact ⟨0, _, _, _, _, _, _, _, _, by omega, rfl, rfl, rfl, rfl, rfl, rfl, rfl, rfl, rfl, Lib.hid rfl, Lib.hid (qB _ _)⟩
          case round =>
            obtain ⟨t, a, b', c', d, e', f', g', h', ht, rfl, rfl, rfl, rfl, rfl, rfl, rfl, rfl, rfl, HRUN, HB⟩ := hrel
            have HOK := Lib.hid (show St8.ok (a, b', c', d, e', f', g', h') from HRUN.out ▸ ok_run (l := P) (at' := a0) HOK0.out t)
            obtain ⟨a0', a1'⟩ := w32_of HOK.out 0 (by decide)
            change 0 ≤ a at a0'
            change a ≤ 4294967295 at a1'
            obtain ⟨b0, b1⟩ := w32_of HOK.out 1 (by decide)
            change 0 ≤ b' at b0
            change b' ≤ 4294967295 at b1
            obtain ⟨c0, c1⟩ := w32_of HOK.out 2 (by decide)
            change 0 ≤ c' at c0
            change c' ≤ 4294967295 at c1
            obtain ⟨d0, d1⟩ := w32_of HOK.out 3 (by decide)
            change 0 ≤ d at d0
            change d ≤ 4294967295 at d1
            obtain ⟨e0, e1⟩ := w32_of HOK.out 4 (by decide)
            change 0 ≤ e' at e0
            change e' ≤ 4294967295 at e1
            obtain ⟨f0, f1⟩ := w32_of HOK.out 5 (by decide)
            change 0 ≤ f' at f0
            change f' ≤ 4294967295 at f1
            obtain ⟨g0, g1⟩ := w32_of HOK.out 6 (by decide)
            change 0 ≤ g' at g0
            change g' ≤ 4294967295 at g1
            obtain ⟨h0, h1⟩ := w32_of HOK.out 7 (by decide)
            change 0 ≤ h' at h0
            change h' ≤ 4294967295 at h1
            by_cases hlt : t < 64
            · have i2 : (t : Int) < 64 := by omega
              obtain ⟨K, hK⟩ : ∃ K, keyS t = K := ⟨_, rfl⟩
              obtain ⟨V, hV⟩ : ∃ V, schS P a0 t = V := ⟨_, rfl⟩
              obtain ⟨K0, K1⟩ : 0 ≤ K ∧ K ≤ 4294967295 := hK ▸ w32_key t
              obtain ⟨V0, V1⟩ : 0 ≤ V ∧ V ≤ 4294967295 := hV ▸ w32_sch _ _ _
              have HST := Lib.hid (show runS P a0 S (t + 1) = stepS (a, b', c', d, e', f', g', h') K V by show stepS _ _ _ = _; rw [HRUN.out, hK, hV])
              have HKK : Hid (∀ u : World, Calls Tryz.prog 148 #[.int .i64 (t : Int)] u fun ee ww => Below u.heap.size u ww ∧ ee = .returned (.int .u32 K)) := Lib.hid (fun u => (refKey_any t hlt u).mono fun ee ww ⟨he, hb⟩ => ⟨hb, by rw [he, hK]⟩)
              have hzl := (HS9.out.keep HB.out).lt
              have FV : ∀ n : Wd wr.heap.size wr, n.val.cell? ⟨z6, t, none⟩ = some (.int .u32 V) := Wd.cell (by rw [← hV]; exact (HS9.out.keep HB.out).cell hlt (qR _)) hzl
              have HaW : Hid (W32 a) := Lib.hid ⟨a0', a1'⟩
              have He'W : Hid (W32 e') := Lib.hid ⟨e0, e1⟩
              have HK6 : Hid (∀ u : World, Calls Tryz.prog 147 #[.int .u32 e', .int .u64 6] u fun ee ww => Below u.heap.size u ww ∧ ee = .returned (.int .u32 (rotS 6 e'))) := Lib.hid (fun u => (refRot_any e' 6 He'W.out (by decide) (by decide) u).mono fun ee ww ⟨he, hw⟩ => ⟨hw ▸ qB _ _, he⟩)
              have HK11 : Hid (∀ u : World, Calls Tryz.prog 147 #[.int .u32 e', .int .u64 11] u fun ee ww => Below u.heap.size u ww ∧ ee = .returned (.int .u32 (rotS 11 e'))) := Lib.hid (fun u => (refRot_any e' 11 He'W.out (by decide) (by decide) u).mono fun ee ww ⟨he, hw⟩ => ⟨hw ▸ qB _ _, he⟩)
              have HK25 : Hid (∀ u : World, Calls Tryz.prog 147 #[.int .u32 e', .int .u64 25] u fun ee ww => Below u.heap.size u ww ∧ ee = .returned (.int .u32 (rotS 25 e'))) := Lib.hid (fun u => (refRot_any e' 25 He'W.out (by decide) (by decide) u).mono fun ee ww ⟨he, hw⟩ => ⟨hw ▸ qB _ _, he⟩)
              have HT2 : Hid (∀ u : World, Calls Tryz.prog 147 #[.int .u32 a, .int .u64 2] u fun ee ww => ee = .returned (.int .u32 (rotS 2 a)) ∧ u = ww) := Lib.hid (fun u => refRot_any a 2 HaW.out (by decide) (by decide) u)
              have HT13 : Hid (∀ u : World, Calls Tryz.prog 147 #[.int .u32 a, .int .u64 13] u fun ee ww => ee = .returned (.int .u32 (rotS 13 a)) ∧ u = ww) := Lib.hid (fun u => refRot_any a 13 HaW.out (by decide) (by decide) u)
              have HT22 : Hid (∀ u : World, Calls Tryz.prog 147 #[.int .u32 a, .int .u64 22] u fun ee ww => ee = .returned (.int .u32 (rotS 22 a)) ∧ u = ww) := Lib.hid (fun u => refRot_any a 22 HaW.out (by decide) (by decide) u)
              clear hK hV
              go_upto_region 18 with fail
              refine wp_region_wd (base := wr.heap.size) wr (qB _ _) (by kernel_rfl) (by kernel_rfl) ?_
              repeat (first
                | go_big_quiet_skip
                | (go_big_quiet_want
                   first
                     | (go_big_quiet_op
                        first
                          | go_big_quiet_on
                          | go_big_quiet_call (first | (go_at_call 148; with_reducible exact Wd.call (fun u _ => HKK.out u) (qR _) _) | (go_at_call 147; with_reducible exact Wd.call (fun u _ => HK6.out u) (qR _) _) | (go_at_call 147; with_reducible exact Wd.call (fun u _ => HK11.out u) (qR _) _) | (go_at_call 147; with_reducible exact Wd.call (fun u _ => HK25.out u) (qR _) _)))))
              refine wpQuiet_nil ?_
              rintro w' ⟨kk, rfl⟩
              have hk8 := kk.2
              generalize kk.val = w8 at *
              clear kk
              clear FV HK6 HK11 HK25 HKK
              go_upto_region 20 with (first | (go_at_call 147; (with_reducible refine (HT2.out _).mono ?_); rintro e w' ⟨rfl, rfl⟩) | (go_at_call 147; (with_reducible refine (HT13.out _).mono ?_); rintro e w' ⟨rfl, rfl⟩) | (go_at_call 147; (with_reducible refine (HT22.out _).mono ?_); rintro e w' ⟨rfl, rfl⟩))
              generalize hS1 : bits BinOp.xor IntKind.u32 (bits BinOp.xor IntKind.u32 (rotS 6 e') (rotS 11 e')) (rotS 25 e') = S1
              obtain ⟨S10, S11⟩ : 0 ≤ S1 ∧ S1 ≤ 4294967295 := by rw [← hS1]; exact ⟨bits_lo_u32 _ _ _, bits_hi_u32 _ _ _⟩
              generalize hCH : bits BinOp.xor IntKind.u32 (bits BinOp.and IntKind.u32 e' f') (bits BinOp.and IntKind.u32 (bits BinOp.xor IntKind.u32 (if IntKind.u32.signed = true then -1 else IntKind.u32.max) e') g') = CH
              obtain ⟨CH0, CH1⟩ : 0 ≤ CH ∧ CH ≤ 4294967295 := by rw [← hCH]; exact ⟨bits_lo_u32 _ _ _, bits_hi_u32 _ _ _⟩
              generalize hTW : bits BinOp.xor IntKind.u32 (bits BinOp.xor IntKind.u32 (rotS 2 a) (rotS 13 a)) (rotS 22 a) = TW
              obtain ⟨TW0, TW1⟩ : 0 ≤ TW ∧ TW ≤ 4294967295 := by rw [← hTW]; exact ⟨bits_lo_u32 _ _ _, bits_hi_u32 _ _ _⟩
              generalize hMJ : bits BinOp.xor IntKind.u32 (bits BinOp.xor IntKind.u32 (bits BinOp.and IntKind.u32 a b') (bits BinOp.and IntKind.u32 a c')) (bits BinOp.and IntKind.u32 b' c') = MJ
              obtain ⟨MJ0, MJ1⟩ : 0 ≤ MJ ∧ MJ ≤ 4294967295 := by rw [← hMJ]; exact ⟨bits_lo_u32 _ _ _, bits_hi_u32 _ _ _⟩
              generalize hT1 : (h' + S1 + CH + K + V) % 4294967296 = T1
              generalize hT2 : (TW + MJ) % 4294967296 = T2
              obtain ⟨T10, T11⟩ : 0 ≤ T1 ∧ T1 ≤ 4294967295 := by omega
              obtain ⟨T20, T21⟩ : 0 ≤ T2 ∧ T2 ≤ 4294967295 := by omega
              have HRN : Hid (runS P a0 S (t + 1) = ((T1 + T2) % 4294967296, a, b', c', (d + T1) % 4294967296, e', f', g')) := Lib.hid (by
                have e1 : t1S (a, b', c', d, e', f', g', h') K V = T1 := by
                  rw [← hT1, ← hS1, ← hCH]
                  simp only [t1S, addS, xorS, andS, notS]
                  omega
                have e2 : t2S (a, b', c', d, e', f', g', h') = T2 := by rw [← hT2, ← hTW, ← hMJ]; rfl
                rw [HST.out]
                show (addS (t1S (a, b', c', d, e', f', g', h') K V) (t2S (a, b', c', d, e', f', g', h')), a, b', c', addS d (t1S (a, b', c', d, e', f', g', h') K V), e', f', g') = _
                rw [e1, e2]
                rfl)
              have HB8 := Lib.hid (HB.out.trans (hk8.mono HB.out.size))
              clear hT1 hT2 hS1 hCH hTW hMJ hk8 HT2 HT13 HT22
              go_wp2_with fail
              go_roundw
              case rel => exact ⟨t + 1, _, _, _, _, _, _, _, _, by omega, by go_num, rfl, rfl, rfl, rfl, rfl, rfl, rfl, rfl, HRN, HB8⟩
              case measure => (simp [intOf]) <;> omega
            · have i2 : ¬ (t : Int) < 64 := by omega
              obtain rfl : t = 64 := by omega
              have HRW := Lib.hid ((HB.out.block z3 (qL HZ3L.out HB9.out.size)).trans HR9.out)
              have HN := Lib.hid (show st8 (hashS P firstS (n + 1)) = st8 (sumS (a, b', c', d, e', f', g', h') S) by rw [HNX.out]; unfold blockS; rw [HRUN.out])
              obtain ⟨s0, s1, s2, s3, s4, s5, s6, s7⟩ := S
              have HOS := Lib.hid (fun j hj => w32_of HOK0.out j hj)
              obtain ⟨l0, r0⟩ : 0 ≤ s0 ∧ s0 ≤ 4294967295 := HOS.out 0 (by decide)
              obtain ⟨l1, r1⟩ : 0 ≤ s1 ∧ s1 ≤ 4294967295 := HOS.out 1 (by decide)
              obtain ⟨l2, r2⟩ : 0 ≤ s2 ∧ s2 ≤ 4294967295 := HOS.out 2 (by decide)
              obtain ⟨l3, r3⟩ : 0 ≤ s3 ∧ s3 ≤ 4294967295 := HOS.out 3 (by decide)
              obtain ⟨l4, r4⟩ : 0 ≤ s4 ∧ s4 ≤ 4294967295 := HOS.out 4 (by decide)
              obtain ⟨l5, r5⟩ : 0 ≤ s5 ∧ s5 ≤ 4294967295 := HOS.out 5 (by decide)
              obtain ⟨l6, r6⟩ : 0 ≤ s6 ∧ s6 ≤ 4294967295 := HOS.out 6 (by decide)
              obtain ⟨l7, r7⟩ : 0 ≤ s7 ∧ s7 ≤ 4294967295 := HOS.out 7 (by decide)
              have p0 : wr.cell? ⟨z3, 0, none⟩ = some (.int .u32 s0) := cells_at0 HRW.out 0
              have p1 : wr.cell? ⟨z3, 1, none⟩ = some (.int .u32 s1) := cells_at0 HRW.out 1
              have p2 : wr.cell? ⟨z3, 2, none⟩ = some (.int .u32 s2) := cells_at0 HRW.out 2
              have p3 : wr.cell? ⟨z3, 3, none⟩ = some (.int .u32 s3) := cells_at0 HRW.out 3
              have p4 : wr.cell? ⟨z3, 4, none⟩ = some (.int .u32 s4) := cells_at0 HRW.out 4
              have p5 : wr.cell? ⟨z3, 5, none⟩ = some (.int .u32 s5) := cells_at0 HRW.out 5
              have p6 : wr.cell? ⟨z3, 6, none⟩ = some (.int .u32 s6) := cells_at0 HRW.out 6
              have p7 : wr.cell? ⟨z3, 7, none⟩ = some (.int .u32 s7) := cells_at0 HRW.out 7
              have y0 : wr.frozen? ⟨z3, 0, none⟩ = false := frozen_of_row _ _ _ _ _ HRW.out
              have y1 : wr.frozen? ⟨z3, 1, none⟩ = false := frozen_of_row _ _ _ _ _ HRW.out
              have y2 : wr.frozen? ⟨z3, 2, none⟩ = false := frozen_of_row _ _ _ _ _ HRW.out
              have y3 : wr.frozen? ⟨z3, 3, none⟩ = false := frozen_of_row _ _ _ _ _ HRW.out
              have y4 : wr.frozen? ⟨z3, 4, none⟩ = false := frozen_of_row _ _ _ _ _ HRW.out
              have y5 : wr.frozen? ⟨z3, 5, none⟩ = false := frozen_of_row _ _ _ _ _ HRW.out
              have y6 : wr.frozen? ⟨z3, 6, none⟩ = false := frozen_of_row _ _ _ _ _ HRW.out
              have y7 : wr.frozen? ⟨z3, 7, none⟩ = false := frozen_of_row _ _ _ _ _ HRW.out
              have hap : a0 + 64 ≤ 1099511627900 := by have := HA0.out; have := HPL.out; omega
              go_wp2_with fail
              go_roundw
              case rel =>
                refine ⟨n + 1, by omega, congrArg (Value.int .i64) (by have := HA0.out; omega), Lib.hid ⟨?_, ?_⟩⟩
                · have hb := ((((HR.out.but.andBelow HB4.out).trans HS.out.but fun i hi e => by have := HZ6.out; omega).andBelow HB9.out).andBelow HB.out)
                  exact (((((((hb.setCell (fun _ => rfl) _).setCell (fun _ => rfl) _).setCell (fun _ => rfl) _).setCell (fun _ => rfl) _).setCell (fun _ => rfl) _).setCell (fun _ => rfl) _).setCell (fun _ => rfl) _).setCell (fun _ => rfl) _
                · rw [HN.out, show st8 (sumS (a, b', c', d, e', f', g', h') (s0, s1, s2, s3, s4, s5, s6, s7)) = [addS a s0, addS b' s1, addS c' s2, addS d s3, addS e' s4, addS f' s5, addS g' s6, addS h' s7] from rfl]
                  unfold addS
                  rw [Int.add_comm a, Int.add_comm b', Int.add_comm c', Int.add_comm d, Int.add_comm e', Int.add_comm f', Int.add_comm g', Int.add_comm h']
                  exact set_blk (set_blk (set_blk (set_blk (set_blk (set_blk (set_blk (set_blk HRW.out _) _) _) _) _) _) _) _
              case measure =>
                have := HA0.out
                simp only [intOf]
                omega
    · obtain rfl : n = N := by omega
      have hpn := HPN.out
      have i1 : ¬ (a0 : Int) < (P.length : Int) := by omega
      clear ha0 hpn
      go_upto_region 31 with (first
        | (with_reducible refine at_alloc ?_
           refine wp_allocM (by rfl) 50 rfl (List.replicate 32 (.int .u8 0)) (by kernel_rfl) ?_
           intro W4 hb4 hz4 hs4
           have HB4 := Lib.hid hb4; have HZ4 := Lib.hid hz4; have HS4 := Lib.hid hs4
           clear hb4 hz4 hs4))
      obtain ⟨zo, hzo⟩ : ∃ x, wr.heap.size = x := ⟨_, rfl⟩
      have HSO : Hid (St8.ok (hashS P firstS n)) := Lib.hid (ok_hash first_ok n)
      have hw3 := HB02.out.trans (HB3.out.mono HB02.out.size)
      have hwr := hw3.trans (HR.out.but.below hw3.size fun k hk e => by have := HORD.out; omega)
      have HW4 := Lib.hid (hwr.trans (HB4.out.mono hwr.size))
      have HZ34 := Lib.hid ((HB4.out.block z3 HR.out.lt).trans HR.out.row)
      have HZO := Lib.hid (show z3 < zo ∧ zo < W4.heap.size by have h1 := HR.out.lt; have h3 := HS4.out; omega)
      have HIR4 := Lib.hid (((HR.out.but.andBelow HB4.out).block zi (qL (by have := HORD.out; omega) HB3.out.size) (by have := HORD.out; omega)).trans ((HB3.out.block zi (by have := HORD.out; omega)).trans HIR.out))
      rw [hzo] at HZ4 ⊢
      try simp only [Act.put, List.setIfInBounds_toArray, List.set_cons_zero, List.set_cons_succ]
      generalize hashS P firstS n = S at *
      have HO4 : Hid (OutAt W4 zo S 0 W4) := Lib.hid ⟨But.refl _ _, HZ4.out⟩
      clear hzo HS4 HZ4 hw3 hwr i1
      go_loopw [22] (fun t22 wr => ∃ i : Nat, i ≤ 8 ∧ t22 = .int .i64 (i : Int) ∧ Hid (OutAt W4 zo S i wr)) (fun t22 _ => 8 - (intOf t22).toNat)
      case atStart => exact ⟨0, by omega, rfl, HO4⟩
      case round =>
        clear HO4
        obtain ⟨i, hi, rfl, HO⟩ := hrel
        by_cases hlt : i < 8
        · have i8 : (i : Int) < 8 := by omega
          obtain ⟨X, hX⟩ : ∃ x, (st8 S).getD i 0 = x := ⟨_, rfl⟩
          obtain ⟨X0, X1⟩ : 0 ≤ X ∧ X ≤ 4294967295 := hX ▸ w32_of HSO.out i hlt
          have HX := Lib.hid hX
          have qx : wr.cell? ⟨z3, i, none⟩ = some (.int .u32 X) := by
            rw [← hX]
            exact (HO.out.but.cell (Nat.lt_trans HZO.out.1 HZO.out.2) (by have := HZO.out; omega)).trans ((cells_at0 HZ34.out i).trans (w32V_at (l := st8 S) hlt))
          clear hX
          obtain ⟨m, hm⟩ : ∃ m, 4 * i = m := ⟨_, rfl⟩
          have e4 : 4 * (i : Int) = (m : Int) := by omega
          have hm3 : m + 3 < 32 := by omega
          have HM := Lib.hid hm
          obtain ⟨u0, q0⟩ := HO.out.any (k := m) (by omega)
          obtain ⟨u1, q1⟩ := HO.out.any (k := m + 1) (by omega)
          obtain ⟨u2, q2⟩ := HO.out.any (k := m + 2) (by omega)
          obtain ⟨u3, q3⟩ := HO.out.any (k := m + 3) (by omega)
          have f0 := HO.out.fr m
          have f1 := HO.out.fr (m + 1)
          have f2 := HO.out.fr (m + 2)
          have f3 := HO.out.fr (m + 3)
          have n1 : zo ≠ z3 := by have := HZO.out; omega
          have n2 : z3 ≠ zo := by have := HZO.out; omega
          clear hm
          go_wp2_with fail
          go_roundw
          case rel =>
            refine ⟨i + 1, by omega, by go_num, Lib.hid ?_⟩
            have h := HO.out.next hlt
            rw [HX.out, HM.out] at h
            rw [b8_top X0 X1, b8_low X0, show Value.int .u8 (X / 65536 % 256) = b8 X 65536 from b8_mid (d := 65536) X0, show Value.int .u8 (X / 256 % 256) = b8 X 256 from b8_mid (d := 256) X0]
            exact h
          case measure => (simp [intOf]) <;> omega
        · obtain rfl : i = 8 := by omega
          have i8 : ¬ ((8 : Nat) : Int) < 8 := by omega
          have HROW : Hid (wr.heap[zo]? = some (.cells (idV (outS S)).toArray 50 (0, 0))) := Lib.hid HO.out.row
          have HZF := Lib.hid ((HO.out.but.block zi (by have := HZO.out; have := HORD.out; omega) (by have := HZO.out; have := HORD.out; omega)).trans HIR4.out)
          go_wp2_with (first
            | (with_reducible refine at_load ?_
               refine wp_val (by rfl) (ex_load 50 _ rfl (p := ⟨zo, 0, none⟩) rfl (qV _ _ _ _ (idV (outS S)) _ (fun j u hj => by rw [qZ]; exact (cells_at0 HROW.out j).trans hj) Tryz.underlying50 rfl (by kernel_rfl))) ?_)
            | (with_reducible refine at_store ?_
               refine wp_storeM (by rfl) 50 _ _ rfl zi 0 [] (List.replicate 32 (.int .u8 0)) [] (idV (outS S)) 50 (.agg (idV (outS S)).toArray) rfl rfl rfl rfl (by simpa using HZF.out) rfl (by kernel_rfl) (idV_one _) ?_
               intro W6 hb6 hy6 hs6
               have HB6 := Lib.hid hb6
               have HY6 : Hid (W6.heap[zi]? = some (.cells (idV (outS S)).toArray 50 (0, 0))) := Lib.hid (by simpa using hy6)
               clear hb6 hy6 hs6))
          refine bodyPost_ret (results_one Tryz.results97 _ _ rfl (qV _ zi 0 50 (idV (outS S)) _ (fun j u hj => by rw [qZ]; exact (cells_at0 HY6.out j).trans hj) Tryz.underlying50 rfl (by kernel_rfl))) rfl ?_
          exact ⟨by rw [HSH.out], HW4.out.trans ((HO.out.but.below HW4.out.size (fun k hk e => by have := HZO.out; have := HORD.out; omega)).trans (HB6.out.below (qT HW4.out.size HO.out.but.size) fun k hk e => by have := HORD.out; omega))⟩
end Go.Proofs.YtmlhijlcefogmaaGreatDoor
