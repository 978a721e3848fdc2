/-
  What Right says of an object. Conditions: as it says.
-/
import Derived.Test.YtdgbjhfkmembdaaGreatDoorShort0
import Derived.Test.YtdgbjhfkmembdaaGreatDoorObjRight2
namespace Go.Proofs.YtdgbjhfkmembdaaGreatDoor
open Go.RowKit Go.Maps
set_option linter.unusedVariables false
set_option linter.unusedSimpArgs false

theorem mid1 {v0 v1 v2 v3 v4 v5 v6 v7 v8 v9 : Value} {j : Nat} {y : Value} (h : [v1, v2, v3, v4][j]? = some y) : [v0, v1, v2, v3, v4, v5, v6, v7, v8, v9][1 + j]? = some y := by
  rcases j with _ | _ | _ | _ | j <;> simp_all
theorem mid5 {v0 v1 v2 v3 v4 v5 v6 v7 v8 v9 : Value} {j : Nat} {y : Value} (h : [v5, v6, v7, v8, v9][j]? = some y) : [v0, v1, v2, v3, v4, v5, v6, v7, v8, v9][5 + j]? = some y := by
  rcases j with _ | _ | _ | _ | _ | j <;> simp_all
set_option maxHeartbeats 4000000 in
set_option maxRecDepth 100000 in
theorem right_any (o : ObjD) (v : Value) (B : Nat) (w : World) (h : ObjIn w B v o) (hB : B ≤ w.heap.size) (hl1 : o.2.1.2.1.length ≤ 1099511627776) (hl2 : o.2.1.2.2.2.length ≤ 1099511627776) (hl3 : o.2.2.1.length ≤ 1099511627776) (hl4 : o.2.2.2.1.length ≤ 1099511627776) (hg : Glob w) : Calls Tryz.prog 148 #[v] w fun e w' => Below w.heap.size w w' ∧ e = .returned (.bool (rightB o)) := by
  obtain ⟨ho, hop, ha, ha2, hm, Ad, cd, Ao, co, Ap, cp, Ac, cc, rfl, sd, so, sp, sc⟩ := h
  obtain ⟨k, ⟨n, dp, a, os⟩, ⟨p, s, a2, m, x⟩⟩ := o
  dsimp only at *
  have HCI : Hid (ChIn w B (.agg [.int .i64 n, .slice Ad dp.length cd, .string a, .slice Ao os.length co].toArray) (n, dp, a, os)) := Lib.hid ⟨ho.1, hop, ha, Ad, cd, Ao, co, rfl, sd, so⟩
  have HMI : Hid (CmIn w B (.agg [.slice Ap p.length cp, .slice Ac s.length cc, .string a2, .string m, .int .i64 x].toArray) (p, s, a2, m, x)) := Lib.hid ⟨ho.2, ha2, hm, Ap, cp, Ac, cc, rfl, sp, sc⟩
  have h1 : dp.length ≤ 1099511627776 := hl1
  have h2 : os.length ≤ 1099511627776 := hl2
  have h3 : p.length ≤ 1099511627776 := hl3
  have h4 : s.length ≤ 1099511627776 := hl4
  have HG := Lib.hid hg
  clear ho hop ha ha2 hm sd so sp sc hl1 hl2 hl3 hl4 hg
  by_cases hk1 : k = 1
  · subst hk1
    have HRB : Hid (rightB (1, (n, dp, a, os), (p, s, a2, m, x)) = (noCommitB (p, s, a2, m, x) && changeB (n, dp, a, os))) := Lib.hid rfl
    rcases Bool.eq_false_or_eq_true (noCommitB (p, s, a2, m, x)) with hq1 | hq1
    rotate_left
    · have HE : Hid (rightB (1, (n, dp, a, os), (p, s, a2, m, x)) = false) := Lib.hid (by rw [HRB.out, hq1]; rfl)
      have Q1 := Lib.hid hq1
      clear hq1
      go_enter Tryz.func148, Tryz.ntmps148
      go_upto_region 1 with (first
        | (with_reducible refine at_box ?_
           refine wp_boxM (by rfl) 70 _ rfl [.int .u8 1, .int .i64 n, .slice Ad dp.length cd, .string a, .slice Ao os.length co, .slice Ap p.length cp, .slice Ac s.length cc, .string a2, .string m, .int .i64 x] _ rfl rfl (by kernel_rfl) ?_
           intro W0 hb0 hy0 hs0
           have HB0 := Lib.hid hb0; have HY0 := Lib.hid hy0
           clear hb0 hy0 hs0
           simp only [Act.put, List.setIfInBounds_toArray, List.set_cons_zero, List.set_cons_succ]))
      have hx0 : w.heap.size < W0.heap.size := (qX HY0.out)
      have b0 : W0.cell? ⟨w.heap.size, 0, none⟩ = some (.int .u8 1) := cells_at0 HY0.out 0
      have HCH := Lib.hid (fun (u : World) (hu : Below W0.heap.size W0 u) => (show u.rangeAt w.heap.size 1 [.int .i64 n, .slice Ad dp.length cd, .string a, .slice Ao os.length co] from fun j y hj => (hu.cell (p := ⟨w.heap.size, 1 + j, none⟩) hx0).trans ((cells_at0 HY0.out (1 + j)).trans (mid1 hj))))
      have HCM := Lib.hid (fun (u : World) (hu : Below W0.heap.size W0 u) => (show u.rangeAt w.heap.size 5 [.slice Ap p.length cp, .slice Ac s.length cc, .string a2, .string m, .int .i64 x] from fun j y hj => (hu.cell (p := ⟨w.heap.size, 5 + j, none⟩) hx0).trans ((cells_at0 HY0.out (5 + j)).trans (mid5 hj))))
      have HT0 := HB0
      have HW0 := Lib.hid (qB W0.heap.size W0)
      go_wp2_with (first
        | (with_reducible refine at_load ?_
           refine wp_val (by rfl) (ex_load 68 _ rfl (p := ⟨w.heap.size, 5, none⟩) rfl (qV _ _ _ _ [.slice Ap p.length cp, .slice Ac s.length cc, .string a2, .string m, .int .i64 x] _ (HCM.out _ HW0.out) Tryz.underlying68 rfl (by kernel_rfl))) ?_))
      refine (noCommit_any (p, s, a2, m, x) _ _ W0 ((HMI.out.keep (HT0.out.mono hB)).more (qT hB HT0.out.size))).mono ?_
      rintro e W1 ⟨hb, rfl⟩
      rw [Q1.out]
      have HW1 := Lib.hid (HW0.out.trans (hb.mono HW0.out.size))
      have HT1 := Lib.hid (HT0.out.trans (hb.mono HT0.out.size))
      clear hb
      go_wp2_with fail
      go_ret
      exact ⟨HT1.out, by rw [HE.out]; rfl⟩
    go_enter Tryz.func148, Tryz.ntmps148
    go_upto_region 1 with (first
      | (with_reducible refine at_box ?_
         refine wp_boxM (by rfl) 70 _ rfl [.int .u8 1, .int .i64 n, .slice Ad dp.length cd, .string a, .slice Ao os.length co, .slice Ap p.length cp, .slice Ac s.length cc, .string a2, .string m, .int .i64 x] _ rfl rfl (by kernel_rfl) ?_
         intro W0 hb0 hy0 hs0
         have HB0 := Lib.hid hb0; have HY0 := Lib.hid hy0
         clear hb0 hy0 hs0
         simp only [Act.put, List.setIfInBounds_toArray, List.set_cons_zero, List.set_cons_succ]))
    have hx0 : w.heap.size < W0.heap.size := (qX HY0.out)
    have b0 : W0.cell? ⟨w.heap.size, 0, none⟩ = some (.int .u8 1) := cells_at0 HY0.out 0
    have HCH := Lib.hid (fun (u : World) (hu : Below W0.heap.size W0 u) => (show u.rangeAt w.heap.size 1 [.int .i64 n, .slice Ad dp.length cd, .string a, .slice Ao os.length co] from fun j y hj => (hu.cell (p := ⟨w.heap.size, 1 + j, none⟩) hx0).trans ((cells_at0 HY0.out (1 + j)).trans (mid1 hj))))
    have HCM := Lib.hid (fun (u : World) (hu : Below W0.heap.size W0 u) => (show u.rangeAt w.heap.size 5 [.slice Ap p.length cp, .slice Ac s.length cc, .string a2, .string m, .int .i64 x] from fun j y hj => (hu.cell (p := ⟨w.heap.size, 5 + j, none⟩) hx0).trans ((cells_at0 HY0.out (5 + j)).trans (mid5 hj))))
    have HT0 := HB0
    have HW0 := Lib.hid (qB W0.heap.size W0)
    rcases Bool.eq_false_or_eq_true (changeB (n, dp, a, os)) with hq2 | hq2
    · have HE : Hid (rightB (1, (n, dp, a, os), (p, s, a2, m, x)) = true) := Lib.hid (by rw [HRB.out, hq1, hq2]; rfl)
      have Q1 := Lib.hid hq1; have Q2 := Lib.hid hq2
      clear hq1 hq2
      go_wp2_with (first
        | (with_reducible refine at_load ?_
           refine wp_val (by rfl) (ex_load 68 _ rfl (p := ⟨w.heap.size, 5, none⟩) rfl (qV _ _ _ _ [.slice Ap p.length cp, .slice Ac s.length cc, .string a2, .string m, .int .i64 x] _ (HCM.out _ HW0.out) Tryz.underlying68 rfl (by kernel_rfl))) ?_))
      refine (noCommit_any (p, s, a2, m, x) _ _ W0 ((HMI.out.keep (HT0.out.mono hB)).more (qT hB HT0.out.size))).mono ?_
      rintro e W1 ⟨hb, rfl⟩
      rw [Q1.out]
      have HW1 := Lib.hid (HW0.out.trans (hb.mono HW0.out.size))
      have HT1 := Lib.hid (HT0.out.trans (hb.mono HT0.out.size))
      clear hb
      go_wp2_with (first
        | (with_reducible refine at_load ?_
           refine wp_val (by rfl) (ex_load 37 _ rfl (p := ⟨w.heap.size, 1, none⟩) rfl (qV _ _ _ _ [.int .i64 n, .slice Ad dp.length cd, .string a, .slice Ao os.length co] _ (HCH.out _ HW1.out) Tryz.underlying37 rfl (by kernel_rfl))) ?_))
      refine (rightChange_any (n, dp, a, os) _ _ W1 ((HCI.out.keep (HT1.out.mono hB)).more (qT hB HT1.out.size)) (qR _) h1 h2 (HG.out.next HT1.out)).mono ?_
      rintro e W2 ⟨hb, rfl⟩
      rw [Q2.out]
      have HW2 := Lib.hid (HW1.out.trans (hb.mono HW1.out.size))
      have HT2 := Lib.hid (HT1.out.trans (hb.mono HT1.out.size))
      clear hb
      go_wp2_with fail
      go_ret
      exact ⟨HT2.out, by rw [HE.out]; rfl⟩
    · have HE : Hid (rightB (1, (n, dp, a, os), (p, s, a2, m, x)) = false) := Lib.hid (by rw [HRB.out, hq1, hq2]; rfl)
      have Q1 := Lib.hid hq1; have Q2 := Lib.hid hq2
      clear hq1 hq2
      go_wp2_with (first
        | (with_reducible refine at_load ?_
           refine wp_val (by rfl) (ex_load 68 _ rfl (p := ⟨w.heap.size, 5, none⟩) rfl (qV _ _ _ _ [.slice Ap p.length cp, .slice Ac s.length cc, .string a2, .string m, .int .i64 x] _ (HCM.out _ HW0.out) Tryz.underlying68 rfl (by kernel_rfl))) ?_))
      refine (noCommit_any (p, s, a2, m, x) _ _ W0 ((HMI.out.keep (HT0.out.mono hB)).more (qT hB HT0.out.size))).mono ?_
      rintro e W1 ⟨hb, rfl⟩
      rw [Q1.out]
      have HW1 := Lib.hid (HW0.out.trans (hb.mono HW0.out.size))
      have HT1 := Lib.hid (HT0.out.trans (hb.mono HT0.out.size))
      clear hb
      go_wp2_with (first
        | (with_reducible refine at_load ?_
           refine wp_val (by rfl) (ex_load 37 _ rfl (p := ⟨w.heap.size, 1, none⟩) rfl (qV _ _ _ _ [.int .i64 n, .slice Ad dp.length cd, .string a, .slice Ao os.length co] _ (HCH.out _ HW1.out) Tryz.underlying37 rfl (by kernel_rfl))) ?_))
      refine (rightChange_any (n, dp, a, os) _ _ W1 ((HCI.out.keep (HT1.out.mono hB)).more (qT hB HT1.out.size)) (qR _) h1 h2 (HG.out.next HT1.out)).mono ?_
      rintro e W2 ⟨hb, rfl⟩
      rw [Q2.out]
      have HW2 := Lib.hid (HW1.out.trans (hb.mono HW1.out.size))
      have HT2 := Lib.hid (HT1.out.trans (hb.mono HT1.out.size))
      clear hb
      go_wp2_with fail
      go_ret
      exact ⟨HT2.out, by rw [HE.out]; rfl⟩
  by_cases hk2 : k = 2
  · subst hk2
    have HRB : Hid (rightB (2, (n, dp, a, os), (p, s, a2, m, x)) = (noChangeB (n, dp, a, os) && commitB (p, s, a2, m, x))) := Lib.hid rfl
    rcases Bool.eq_false_or_eq_true (noChangeB (n, dp, a, os)) with hq1 | hq1
    rotate_left
    · have HE : Hid (rightB (2, (n, dp, a, os), (p, s, a2, m, x)) = false) := Lib.hid (by rw [HRB.out, hq1]; rfl)
      have Q1 := Lib.hid hq1
      clear hq1
      go_enter Tryz.func148, Tryz.ntmps148
      go_upto_region 1 with (first
        | (with_reducible refine at_box ?_
           refine wp_boxM (by rfl) 70 _ rfl [.int .u8 2, .int .i64 n, .slice Ad dp.length cd, .string a, .slice Ao os.length co, .slice Ap p.length cp, .slice Ac s.length cc, .string a2, .string m, .int .i64 x] _ rfl rfl (by kernel_rfl) ?_
           intro W0 hb0 hy0 hs0
           have HB0 := Lib.hid hb0; have HY0 := Lib.hid hy0
           clear hb0 hy0 hs0
           simp only [Act.put, List.setIfInBounds_toArray, List.set_cons_zero, List.set_cons_succ]))
      have hx0 : w.heap.size < W0.heap.size := (qX HY0.out)
      have b0 : W0.cell? ⟨w.heap.size, 0, none⟩ = some (.int .u8 2) := cells_at0 HY0.out 0
      have HCH := Lib.hid (fun (u : World) (hu : Below W0.heap.size W0 u) => (show u.rangeAt w.heap.size 1 [.int .i64 n, .slice Ad dp.length cd, .string a, .slice Ao os.length co] from fun j y hj => (hu.cell (p := ⟨w.heap.size, 1 + j, none⟩) hx0).trans ((cells_at0 HY0.out (1 + j)).trans (mid1 hj))))
      have HCM := Lib.hid (fun (u : World) (hu : Below W0.heap.size W0 u) => (show u.rangeAt w.heap.size 5 [.slice Ap p.length cp, .slice Ac s.length cc, .string a2, .string m, .int .i64 x] from fun j y hj => (hu.cell (p := ⟨w.heap.size, 5 + j, none⟩) hx0).trans ((cells_at0 HY0.out (5 + j)).trans (mid5 hj))))
      have HT0 := HB0
      have HW0 := Lib.hid (qB W0.heap.size W0)
      go_wp2_with (first
        | (with_reducible refine at_load ?_
           refine wp_val (by rfl) (ex_load 37 _ rfl (p := ⟨w.heap.size, 1, none⟩) rfl (qV _ _ _ _ [.int .i64 n, .slice Ad dp.length cd, .string a, .slice Ao os.length co] _ (HCH.out _ HW0.out) Tryz.underlying37 rfl (by kernel_rfl))) ?_))
      refine (noChange_any (n, dp, a, os) _ _ W0 ((HCI.out.keep (HT0.out.mono hB)).more (qT hB HT0.out.size))).mono ?_
      rintro e W1 ⟨hb, rfl⟩
      rw [Q1.out]
      have HW1 := Lib.hid (HW0.out.trans (hb.mono HW0.out.size))
      have HT1 := Lib.hid (HT0.out.trans (hb.mono HT0.out.size))
      clear hb
      go_wp2_with fail
      go_ret
      exact ⟨HT1.out, by rw [HE.out]; rfl⟩
    go_enter Tryz.func148, Tryz.ntmps148
    go_upto_region 1 with (first
      | (with_reducible refine at_box ?_
         refine wp_boxM (by rfl) 70 _ rfl [.int .u8 2, .int .i64 n, .slice Ad dp.length cd, .string a, .slice Ao os.length co, .slice Ap p.length cp, .slice Ac s.length cc, .string a2, .string m, .int .i64 x] _ rfl rfl (by kernel_rfl) ?_
         intro W0 hb0 hy0 hs0
         have HB0 := Lib.hid hb0; have HY0 := Lib.hid hy0
         clear hb0 hy0 hs0
         simp only [Act.put, List.setIfInBounds_toArray, List.set_cons_zero, List.set_cons_succ]))
    have hx0 : w.heap.size < W0.heap.size := (qX HY0.out)
    have b0 : W0.cell? ⟨w.heap.size, 0, none⟩ = some (.int .u8 2) := cells_at0 HY0.out 0
    have HCH := Lib.hid (fun (u : World) (hu : Below W0.heap.size W0 u) => (show u.rangeAt w.heap.size 1 [.int .i64 n, .slice Ad dp.length cd, .string a, .slice Ao os.length co] from fun j y hj => (hu.cell (p := ⟨w.heap.size, 1 + j, none⟩) hx0).trans ((cells_at0 HY0.out (1 + j)).trans (mid1 hj))))
    have HCM := Lib.hid (fun (u : World) (hu : Below W0.heap.size W0 u) => (show u.rangeAt w.heap.size 5 [.slice Ap p.length cp, .slice Ac s.length cc, .string a2, .string m, .int .i64 x] from fun j y hj => (hu.cell (p := ⟨w.heap.size, 5 + j, none⟩) hx0).trans ((cells_at0 HY0.out (5 + j)).trans (mid5 hj))))
    have HT0 := HB0
    have HW0 := Lib.hid (qB W0.heap.size W0)
    rcases Bool.eq_false_or_eq_true (commitB (p, s, a2, m, x)) with hq2 | hq2
    · have HE : Hid (rightB (2, (n, dp, a, os), (p, s, a2, m, x)) = true) := Lib.hid (by rw [HRB.out, hq1, hq2]; rfl)
      have Q1 := Lib.hid hq1; have Q2 := Lib.hid hq2
      clear hq1 hq2
      go_wp2_with (first
        | (with_reducible refine at_load ?_
           refine wp_val (by rfl) (ex_load 37 _ rfl (p := ⟨w.heap.size, 1, none⟩) rfl (qV _ _ _ _ [.int .i64 n, .slice Ad dp.length cd, .string a, .slice Ao os.length co] _ (HCH.out _ HW0.out) Tryz.underlying37 rfl (by kernel_rfl))) ?_))
      refine (noChange_any (n, dp, a, os) _ _ W0 ((HCI.out.keep (HT0.out.mono hB)).more (qT hB HT0.out.size))).mono ?_
      rintro e W1 ⟨hb, rfl⟩
      rw [Q1.out]
      have HW1 := Lib.hid (HW0.out.trans (hb.mono HW0.out.size))
      have HT1 := Lib.hid (HT0.out.trans (hb.mono HT0.out.size))
      clear hb
      go_wp2_with (first
        | (with_reducible refine at_load ?_
           refine wp_val (by rfl) (ex_load 68 _ rfl (p := ⟨w.heap.size, 5, none⟩) rfl (qV _ _ _ _ [.slice Ap p.length cp, .slice Ac s.length cc, .string a2, .string m, .int .i64 x] _ (HCM.out _ HW1.out) Tryz.underlying68 rfl (by kernel_rfl))) ?_))
      refine (rightCommit_any (p, s, a2, m, x) _ _ W1 ((HMI.out.keep (HT1.out.mono hB)).more (qT hB HT1.out.size)) (qR _) h3 h4).mono ?_
      rintro e W2 ⟨hb, rfl⟩
      rw [Q2.out]
      have HW2 := Lib.hid (HW1.out.trans (hb.mono HW1.out.size))
      have HT2 := Lib.hid (HT1.out.trans (hb.mono HT1.out.size))
      clear hb
      go_wp2_with fail
      go_ret
      exact ⟨HT2.out, by rw [HE.out]; rfl⟩
    · have HE : Hid (rightB (2, (n, dp, a, os), (p, s, a2, m, x)) = false) := Lib.hid (by rw [HRB.out, hq1, hq2]; rfl)
      have Q1 := Lib.hid hq1; have Q2 := Lib.hid hq2
      clear hq1 hq2
      go_wp2_with (first
        | (with_reducible refine at_load ?_
           refine wp_val (by rfl) (ex_load 37 _ rfl (p := ⟨w.heap.size, 1, none⟩) rfl (qV _ _ _ _ [.int .i64 n, .slice Ad dp.length cd, .string a, .slice Ao os.length co] _ (HCH.out _ HW0.out) Tryz.underlying37 rfl (by kernel_rfl))) ?_))
      refine (noChange_any (n, dp, a, os) _ _ W0 ((HCI.out.keep (HT0.out.mono hB)).more (qT hB HT0.out.size))).mono ?_
      rintro e W1 ⟨hb, rfl⟩
      rw [Q1.out]
      have HW1 := Lib.hid (HW0.out.trans (hb.mono HW0.out.size))
      have HT1 := Lib.hid (HT0.out.trans (hb.mono HT0.out.size))
      clear hb
      go_wp2_with (first
        | (with_reducible refine at_load ?_
           refine wp_val (by rfl) (ex_load 68 _ rfl (p := ⟨w.heap.size, 5, none⟩) rfl (qV _ _ _ _ [.slice Ap p.length cp, .slice Ac s.length cc, .string a2, .string m, .int .i64 x] _ (HCM.out _ HW1.out) Tryz.underlying68 rfl (by kernel_rfl))) ?_))
      refine (rightCommit_any (p, s, a2, m, x) _ _ W1 ((HMI.out.keep (HT1.out.mono hB)).more (qT hB HT1.out.size)) (qR _) h3 h4).mono ?_
      rintro e W2 ⟨hb, rfl⟩
      rw [Q2.out]
      have HW2 := Lib.hid (HW1.out.trans (hb.mono HW1.out.size))
      have HT2 := Lib.hid (HT1.out.trans (hb.mono HT1.out.size))
      clear hb
      go_wp2_with fail
      go_ret
      exact ⟨HT2.out, by rw [HE.out]; rfl⟩
  have HE : Hid (rightB (k, (n, dp, a, os), (p, s, a2, m, x)) = false) := Lib.hid (by unfold rightB; dsimp only; rw [if_neg hk1, if_neg hk2])
  have e1 : ((k.toNat : Int) == 1) = false := by
    rw [beq_eq_false_iff_ne]; intro h; exact hk1 (by apply UInt8.toNat_inj.1; show k.toNat = 1; omega)
  have e2 : ((k.toNat : Int) == 2) = false := by
    rw [beq_eq_false_iff_ne]; intro h; exact hk2 (by apply UInt8.toNat_inj.1; show k.toNat = 2; omega)
  clear hk1 hk2
  go_enter Tryz.func148, Tryz.ntmps148
  go_upto_region 1 with (first
    | (with_reducible refine at_box ?_
       refine wp_boxM (by rfl) 70 _ rfl [.int .u8 (k.toNat : Int), .int .i64 n, .slice Ad dp.length cd, .string a, .slice Ao os.length co, .slice Ap p.length cp, .slice Ac s.length cc, .string a2, .string m, .int .i64 x] _ rfl rfl (by kernel_rfl) ?_
       intro W0 hb0 hy0 hs0
       have HB0 := Lib.hid hb0; have HY0 := Lib.hid hy0
       clear hb0 hy0 hs0
       simp only [Act.put, List.setIfInBounds_toArray, List.set_cons_zero, List.set_cons_succ]))
  have hx0 : w.heap.size < W0.heap.size := (qX HY0.out)
  have b0 : W0.cell? ⟨w.heap.size, 0, none⟩ = some (.int .u8 (k.toNat : Int)) := cells_at0 HY0.out 0
  have HCH := Lib.hid (fun (u : World) (hu : Below W0.heap.size W0 u) => (show u.rangeAt w.heap.size 1 [.int .i64 n, .slice Ad dp.length cd, .string a, .slice Ao os.length co] from fun j y hj => (hu.cell (p := ⟨w.heap.size, 1 + j, none⟩) hx0).trans ((cells_at0 HY0.out (1 + j)).trans (mid1 hj))))
  have HCM := Lib.hid (fun (u : World) (hu : Below W0.heap.size W0 u) => (show u.rangeAt w.heap.size 5 [.slice Ap p.length cp, .slice Ac s.length cc, .string a2, .string m, .int .i64 x] from fun j y hj => (hu.cell (p := ⟨w.heap.size, 5 + j, none⟩) hx0).trans ((cells_at0 HY0.out (5 + j)).trans (mid5 hj))))
  have HT0 := HB0
  have HW0 := Lib.hid (qB W0.heap.size W0)
  go_wp2_with fail
  go_ret
  exact ⟨HT0.out, by rw [HE.out]; rfl⟩
end Go.Proofs.YtdgbjhfkmembdaaGreatDoor
