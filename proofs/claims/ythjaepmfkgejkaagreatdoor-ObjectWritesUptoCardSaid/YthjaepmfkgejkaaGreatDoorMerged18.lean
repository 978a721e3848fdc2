/-
  What Right says of an object. Conditions: as it says.
  What the deferred call of Decode does. Conditions: as each says.
  The reader's object: what stands while it is read. Conditions: as each says.
-/
import Derived.Test.YthjaepmfkgejkaaGreatDoorMerged1
import Derived.Test.YthjaepmfkgejkaaGreatDoorObjRight2
import Derived.Test.YthjaepmfkgejkaaGreatDoorMerged12
import Derived.Test.YthjaepmfkgejkaaGreatDoorMerged13
import Derived.Defers
import Derived.Recover
import Derived.Test.YthjaepmfkgejkaaGreatDoorMerged17
set_option linter.unusedVariables false
set_option linter.unusedSimpArgs false
set_option maxHeartbeats 4000000
set_option maxRecDepth 100000
namespace Go.Proofs.YthjaepmfkgejkaaGreatDoor
open Lib (hid)
open Go.RowKit Go.Maps
theorem vV {v0 v1 v2 v3 v4 v5 v6 v7 v8 v9 : Value} {j : Nat} {y : Value} (h : [v1, v2, v3, v4][j]? = some y) : [v0, v1, v2, v3, v4, v5, v6, v7, v8, v9][1 + j]? = some y := by
  rcases j with _ | _ | _ | _ | j <;> simp_all
theorem uU {v0 v1 v2 v3 v4 v5 v6 v7 v8 v9 : Value} {j : Nat} {y : Value} (h : [v5, v6, v7, v8, v9][j]? = some y) : [v0, v1, v2, v3, v4, v5, v6, v7, v8, v9][5 + j]? = some y := by
  rcases j with _ | _ | _ | _ | _ | j <;> simp_all
theorem Jh (o : zR) (v : Value) (B : Nat) (w : World) (h : ObjIn w B v o) (hB : B ≤ w.heap.size) (hl1 : o.2.1.2.1.length ≤ 1099511627776) (hl2 : o.2.1.2.2.2.length ≤ 1099511627776) (hl3 : o.2.2.1.length ≤ 1099511627776) (hl4 : o.2.2.2.1.length ≤ 1099511627776) (hg : Glob w) : Calls Tryz.prog 15 #[v] w fun e w' => Below w.heap.size w w' ∧ e = .returned (.bool (kD o)) := by
  obtain ⟨ho, hop, ha, ha2, hm, Ad, cd, Ao, co, Ap, cp, Ac, cc, rfl, sd, so, sp, sc⟩ := h
  obtain ⟨k, ⟨n, dp, a, os⟩, ⟨p, s, a2, m, x⟩⟩ := o
  dsimp only at *
  have HCI : Hid (ChIn w B (.agg [.int .i64 n, .slice Ad dp.length cd, .string a, .slice Ao os.length co].toArray) (n, dp, a, os)) := hid ⟨ho.1, hop, ha, Ad, cd, Ao, co, rfl, sd, so⟩
  have HMI : Hid (CmIn w B (.agg [.slice Ap p.length cp, .slice Ac s.length cc, .string a2, .string m, .int .i64 x].toArray) (p, s, a2, m, x)) := hid ⟨ho.2, ha2, hm, Ap, cp, Ac, cc, rfl, sp, sc⟩
  have h1 : dp.length ≤ 1099511627776 := hl1
  have h2 : os.length ≤ 1099511627776 := hl2
  have h3 : p.length ≤ 1099511627776 := hl3
  have h4 : s.length ≤ 1099511627776 := hl4
  have HG := hid hg
  clear ho hop ha ha2 hm sd so sp sc hl1 hl2 hl3 hl4 hg
  by_cases hk1 : k = 1
  ·
   subst hk1
   have HRB : Hid (kD (1, (n, dp, a, os), (p, s, a2, m, x)) = (jf (p, s, a2, m, x) && kK (n, dp, a, os))) := hid rfl
   rcases Bool.eq_false_or_eq_true (jf (p, s, a2, m, x)) with hq1 | hq1
   rotate_left
   ·
    have HE : Hid (kD (1, (n, dp, a, os), (p, s, a2, m, x)) = false) := hid (by rw [HRB.out, hq1]; rfl)
    have Q1 := hid hq1
    clear hq1
    go_enter Tryz.func15, Tryz.ntmps15
    go_upto_region 1 with (first
      | (with_reducible refine kz ?_
         refine ko (by rfl) 30 _ rfl [.int .u8 1, .int .i64 n, .slice Ad dp.length cd, .string a, .slice Ao os.length co, .slice Ap p.length cp, .slice Ac s.length cc, .string a2, .string m, .int .i64 x] _ rfl rfl (by kernel_rfl) ?_
         intro W0 hb0 hy0 hs0
         have HB0 := hid hb0; have HY0 := hid hy0
         clear hb0 hy0 hs0
         go_frame))
    have hx0 : w.heap.size < W0.heap.size := (qX HY0.out)
    have b0 : W0.cell? ⟨w.heap.size, 0, none⟩ = some (.int .u8 1) := k5 HY0.out 0
    have HCH := hid (fun (u : World) (hu : Below W0.heap.size W0 u) => (show u.rangeAt w.heap.size 1 [.int .i64 n, .slice Ad dp.length cd, .string a, .slice Ao os.length co] from fun j y hj => (hu.cell (p := ⟨w.heap.size, 1 + j, none⟩) hx0).trans ((k5 HY0.out (1 + j)).trans (vV hj))))
    have HCM := hid (fun (u : World) (hu : Below W0.heap.size W0 u) => (show u.rangeAt w.heap.size 5 [.slice Ap p.length cp, .slice Ac s.length cc, .string a2, .string m, .int .i64 x] from fun j y hj => (hu.cell (p := ⟨w.heap.size, 5 + j, none⟩) hx0).trans ((k5 HY0.out (5 + j)).trans (uU hj))))
    have HT0 := HB0
    have HW0 := hid (qB W0.heap.size W0)
    go_wp2_with (first
      | (with_reducible refine k7 ?_
         refine k6 (by rfl) (k9 28 _ rfl (p := ⟨w.heap.size, 5, none⟩) rfl (qV _ _ _ _ [.slice Ap p.length cp, .slice Ac s.length cc, .string a2, .string m, .int .i64 x] _ (HCM.out _ HW0.out) Tryz.underlying28 rfl (by kernel_rfl))) ?_))
    refine (uB (p, s, a2, m, x) _ _ W0 ((HMI.out.keep (HT0.out.mono hB)).more (qT hB HT0.out.size))).mono ?_
    rintro e W1 ⟨hb, rfl⟩
    rw [Q1.out]
    have HW1 := hid (HW0.out.trans (hb.mono HW0.out.size))
    have HT1 := hid (HT0.out.trans (hb.mono HT0.out.size))
    clear hb
    go_wp2_with fail
    go_ret
    exact ⟨HT1.out, by rw [HE.out]; rfl⟩
   go_enter Tryz.func15, Tryz.ntmps15
   go_upto_region 1 with (first
     | (with_reducible refine kz ?_
        refine ko (by rfl) 30 _ rfl [.int .u8 1, .int .i64 n, .slice Ad dp.length cd, .string a, .slice Ao os.length co, .slice Ap p.length cp, .slice Ac s.length cc, .string a2, .string m, .int .i64 x] _ rfl rfl (by kernel_rfl) ?_
        intro W0 hb0 hy0 hs0
        have HB0 := hid hb0; have HY0 := hid hy0
        clear hb0 hy0 hs0
        go_frame))
   have hx0 : w.heap.size < W0.heap.size := (qX HY0.out)
   have b0 : W0.cell? ⟨w.heap.size, 0, none⟩ = some (.int .u8 1) := k5 HY0.out 0
   have HCH := hid (fun (u : World) (hu : Below W0.heap.size W0 u) => (show u.rangeAt w.heap.size 1 [.int .i64 n, .slice Ad dp.length cd, .string a, .slice Ao os.length co] from fun j y hj => (hu.cell (p := ⟨w.heap.size, 1 + j, none⟩) hx0).trans ((k5 HY0.out (1 + j)).trans (vV hj))))
   have HCM := hid (fun (u : World) (hu : Below W0.heap.size W0 u) => (show u.rangeAt w.heap.size 5 [.slice Ap p.length cp, .slice Ac s.length cc, .string a2, .string m, .int .i64 x] from fun j y hj => (hu.cell (p := ⟨w.heap.size, 5 + j, none⟩) hx0).trans ((k5 HY0.out (5 + j)).trans (uU hj))))
   have HT0 := HB0
   have HW0 := hid (qB W0.heap.size W0)
   rcases Bool.eq_false_or_eq_true (kK (n, dp, a, os)) with hq2 | hq2
   focus
     have HE : Hid (kD (1, (n, dp, a, os), (p, s, a2, m, x)) = true) := hid (by rw [HRB.out, hq1, hq2]; rfl)
   rotate_left
   focus
     have HE : Hid (kD (1, (n, dp, a, os), (p, s, a2, m, x)) = false) := hid (by rw [HRB.out, hq1, hq2]; rfl)
   all_goals
     have Q1 := hid hq1; have Q2 := hid hq2
     clear hq1 hq2
     go_wp2_with (first
       | (with_reducible refine k7 ?_
          refine k6 (by rfl) (k9 28 _ rfl (p := ⟨w.heap.size, 5, none⟩) rfl (qV _ _ _ _ [.slice Ap p.length cp, .slice Ac s.length cc, .string a2, .string m, .int .i64 x] _ (HCM.out _ HW0.out) Tryz.underlying28 rfl (by kernel_rfl))) ?_))
     refine (uB (p, s, a2, m, x) _ _ W0 ((HMI.out.keep (HT0.out.mono hB)).more (qT hB HT0.out.size))).mono ?_
     rintro e W1 ⟨hb, rfl⟩
     rw [Q1.out]
     have HW1 := hid (HW0.out.trans (hb.mono HW0.out.size))
     have HT1 := hid (HT0.out.trans (hb.mono HT0.out.size))
     clear hb
     go_wp2_with (first
       | (with_reducible refine k7 ?_
          refine k6 (by rfl) (k9 26 _ rfl (p := ⟨w.heap.size, 1, none⟩) rfl (qV _ _ _ _ [.int .i64 n, .slice Ad dp.length cd, .string a, .slice Ao os.length co] _ (HCH.out _ HW1.out) Tryz.underlying26 rfl (by kernel_rfl))) ?_))
     refine (Ul (n, dp, a, os) _ _ W1 ((HCI.out.keep (HT1.out.mono hB)).more (qT hB HT1.out.size)) (qR _) h1 h2 (HG.out.next HT1.out)).mono ?_
     rintro e W2 ⟨hb, rfl⟩
     rw [Q2.out]
     have HW2 := hid (HW1.out.trans (hb.mono HW1.out.size))
     have HT2 := hid (HT1.out.trans (hb.mono HT1.out.size))
     clear hb
     go_wp2_with fail
     go_ret
     exact ⟨HT2.out, by rw [HE.out]; rfl⟩
  by_cases hk2 : k = 2
  ·
   subst hk2
   have HRB : Hid (kD (2, (n, dp, a, os), (p, s, a2, m, x)) = (jr (n, dp, a, os) && kO (p, s, a2, m, x))) := hid rfl
   rcases Bool.eq_false_or_eq_true (jr (n, dp, a, os)) with hq1 | hq1
   rotate_left
   ·
    have HE : Hid (kD (2, (n, dp, a, os), (p, s, a2, m, x)) = false) := hid (by rw [HRB.out, hq1]; rfl)
    have Q1 := hid hq1
    clear hq1
    go_enter Tryz.func15, Tryz.ntmps15
    go_upto_region 1 with (first
      | (with_reducible refine kz ?_
         refine ko (by rfl) 30 _ rfl [.int .u8 2, .int .i64 n, .slice Ad dp.length cd, .string a, .slice Ao os.length co, .slice Ap p.length cp, .slice Ac s.length cc, .string a2, .string m, .int .i64 x] _ rfl rfl (by kernel_rfl) ?_
         intro W0 hb0 hy0 hs0
         have HB0 := hid hb0; have HY0 := hid hy0
         clear hb0 hy0 hs0
         go_frame))
    have hx0 : w.heap.size < W0.heap.size := (qX HY0.out)
    have b0 : W0.cell? ⟨w.heap.size, 0, none⟩ = some (.int .u8 2) := k5 HY0.out 0
    have HCH := hid (fun (u : World) (hu : Below W0.heap.size W0 u) => (show u.rangeAt w.heap.size 1 [.int .i64 n, .slice Ad dp.length cd, .string a, .slice Ao os.length co] from fun j y hj => (hu.cell (p := ⟨w.heap.size, 1 + j, none⟩) hx0).trans ((k5 HY0.out (1 + j)).trans (vV hj))))
    have HCM := hid (fun (u : World) (hu : Below W0.heap.size W0 u) => (show u.rangeAt w.heap.size 5 [.slice Ap p.length cp, .slice Ac s.length cc, .string a2, .string m, .int .i64 x] from fun j y hj => (hu.cell (p := ⟨w.heap.size, 5 + j, none⟩) hx0).trans ((k5 HY0.out (5 + j)).trans (uU hj))))
    have HT0 := HB0
    have HW0 := hid (qB W0.heap.size W0)
    go_wp2_with (first
      | (with_reducible refine k7 ?_
         refine k6 (by rfl) (k9 26 _ rfl (p := ⟨w.heap.size, 1, none⟩) rfl (qV _ _ _ _ [.int .i64 n, .slice Ad dp.length cd, .string a, .slice Ao os.length co] _ (HCH.out _ HW0.out) Tryz.underlying26 rfl (by kernel_rfl))) ?_))
    refine (uA (n, dp, a, os) _ _ W0 ((HCI.out.keep (HT0.out.mono hB)).more (qT hB HT0.out.size))).mono ?_
    rintro e W1 ⟨hb, rfl⟩
    rw [Q1.out]
    have HW1 := hid (HW0.out.trans (hb.mono HW0.out.size))
    have HT1 := hid (HT0.out.trans (hb.mono HT0.out.size))
    clear hb
    go_wp2_with fail
    go_ret
    exact ⟨HT1.out, by rw [HE.out]; rfl⟩
   go_enter Tryz.func15, Tryz.ntmps15
   go_upto_region 1 with (first
     | (with_reducible refine kz ?_
        refine ko (by rfl) 30 _ rfl [.int .u8 2, .int .i64 n, .slice Ad dp.length cd, .string a, .slice Ao os.length co, .slice Ap p.length cp, .slice Ac s.length cc, .string a2, .string m, .int .i64 x] _ rfl rfl (by kernel_rfl) ?_
        intro W0 hb0 hy0 hs0
        have HB0 := hid hb0; have HY0 := hid hy0
        clear hb0 hy0 hs0
        go_frame))
   have hx0 : w.heap.size < W0.heap.size := (qX HY0.out)
   have b0 : W0.cell? ⟨w.heap.size, 0, none⟩ = some (.int .u8 2) := k5 HY0.out 0
   have HCH := hid (fun (u : World) (hu : Below W0.heap.size W0 u) => (show u.rangeAt w.heap.size 1 [.int .i64 n, .slice Ad dp.length cd, .string a, .slice Ao os.length co] from fun j y hj => (hu.cell (p := ⟨w.heap.size, 1 + j, none⟩) hx0).trans ((k5 HY0.out (1 + j)).trans (vV hj))))
   have HCM := hid (fun (u : World) (hu : Below W0.heap.size W0 u) => (show u.rangeAt w.heap.size 5 [.slice Ap p.length cp, .slice Ac s.length cc, .string a2, .string m, .int .i64 x] from fun j y hj => (hu.cell (p := ⟨w.heap.size, 5 + j, none⟩) hx0).trans ((k5 HY0.out (5 + j)).trans (uU hj))))
   have HT0 := HB0
   have HW0 := hid (qB W0.heap.size W0)
   rcases Bool.eq_false_or_eq_true (kO (p, s, a2, m, x)) with hq2 | hq2
   focus
     have HE : Hid (kD (2, (n, dp, a, os), (p, s, a2, m, x)) = true) := hid (by rw [HRB.out, hq1, hq2]; rfl)
   rotate_left
   focus
     have HE : Hid (kD (2, (n, dp, a, os), (p, s, a2, m, x)) = false) := hid (by rw [HRB.out, hq1, hq2]; rfl)
   all_goals
     have Q1 := hid hq1; have Q2 := hid hq2
     clear hq1 hq2
     go_wp2_with (first
       | (with_reducible refine k7 ?_
          refine k6 (by rfl) (k9 26 _ rfl (p := ⟨w.heap.size, 1, none⟩) rfl (qV _ _ _ _ [.int .i64 n, .slice Ad dp.length cd, .string a, .slice Ao os.length co] _ (HCH.out _ HW0.out) Tryz.underlying26 rfl (by kernel_rfl))) ?_))
     refine (uA (n, dp, a, os) _ _ W0 ((HCI.out.keep (HT0.out.mono hB)).more (qT hB HT0.out.size))).mono ?_
     rintro e W1 ⟨hb, rfl⟩
     rw [Q1.out]
     have HW1 := hid (HW0.out.trans (hb.mono HW0.out.size))
     have HT1 := hid (HT0.out.trans (hb.mono HT0.out.size))
     clear hb
     go_wp2_with (first
       | (with_reducible refine k7 ?_
          refine k6 (by rfl) (k9 28 _ rfl (p := ⟨w.heap.size, 5, none⟩) rfl (qV _ _ _ _ [.slice Ap p.length cp, .slice Ac s.length cc, .string a2, .string m, .int .i64 x] _ (HCM.out _ HW1.out) Tryz.underlying28 rfl (by kernel_rfl))) ?_))
     refine (Uk (p, s, a2, m, x) _ _ W1 ((HMI.out.keep (HT1.out.mono hB)).more (qT hB HT1.out.size)) (qR _) h3 h4).mono ?_
     rintro e W2 ⟨hb, rfl⟩
     rw [Q2.out]
     have HW2 := hid (HW1.out.trans (hb.mono HW1.out.size))
     have HT2 := hid (HT1.out.trans (hb.mono HT1.out.size))
     clear hb
     go_wp2_with fail
     go_ret
     exact ⟨HT2.out, by rw [HE.out]; rfl⟩
  have HE : Hid (kD (k, (n, dp, a, os), (p, s, a2, m, x)) = false) := hid (by unfold kD; dsimp only; rw [if_neg hk1, if_neg hk2])
  have e1 : ((k.toNat : Int) == 1) = false := by
    rw [beq_eq_false_iff_ne]; intro h; exact hk1 (by apply UInt8.toNat_inj.1; show k.toNat = 1; omega)
  have e2 : ((k.toNat : Int) == 2) = false := by
    rw [beq_eq_false_iff_ne]; intro h; exact hk2 (by apply UInt8.toNat_inj.1; show k.toNat = 2; omega)
  clear hk1 hk2
  go_enter Tryz.func15, Tryz.ntmps15
  go_upto_region 1 with (first
    | (with_reducible refine kz ?_
       refine ko (by rfl) 30 _ rfl [.int .u8 (k.toNat : Int), .int .i64 n, .slice Ad dp.length cd, .string a, .slice Ao os.length co, .slice Ap p.length cp, .slice Ac s.length cc, .string a2, .string m, .int .i64 x] _ rfl rfl (by kernel_rfl) ?_
       intro W0 hb0 hy0 hs0
       have HB0 := hid hb0; have HY0 := hid hy0
       clear hb0 hy0 hs0
       go_frame))
  have hx0 : w.heap.size < W0.heap.size := (qX HY0.out)
  have b0 : W0.cell? ⟨w.heap.size, 0, none⟩ = some (.int .u8 (k.toNat : Int)) := k5 HY0.out 0
  have HCH := hid (fun (u : World) (hu : Below W0.heap.size W0 u) => (show u.rangeAt w.heap.size 1 [.int .i64 n, .slice Ad dp.length cd, .string a, .slice Ao os.length co] from fun j y hj => (hu.cell (p := ⟨w.heap.size, 1 + j, none⟩) hx0).trans ((k5 HY0.out (1 + j)).trans (vV hj))))
  have HCM := hid (fun (u : World) (hu : Below W0.heap.size W0 u) => (show u.rangeAt w.heap.size 5 [.slice Ap p.length cp, .slice Ac s.length cc, .string a2, .string m, .int .i64 x] from fun j y hj => (hu.cell (p := ⟨w.heap.size, 5 + j, none⟩) hx0).trans ((k5 HY0.out (5 + j)).trans (uU hj))))
  have HT0 := HB0
  have HW0 := hid (qB W0.heap.size W0)
  go_wp2_with fail
  go_ret
  exact ⟨HT0.out, by rw [HE.out]; rfl⟩
end Go.Proofs.YthjaepmfkgejkaaGreatDoor
namespace Go.Proofs.YthjaepmfkgejkaaGreatDoor
open Lib (hid)
open Go.RowKit Go.Maps
theorem dec_idle (p q : Addr) (w : World) :
    CallsD Tryz.prog 23 #[.pointer (some p), .pointer (some q)] .returning w fun e u' w' => e = .returned (.tuple #[]) ∧ u' = .returning ∧ w' = w := by
  have hnn : ∀ w : World, (binOp .neq 20 .nilIface .nilIface).run Tryz.prog w = .ok (.bool false) w := fun w => by kernel_rfl
  refine callsD_of_wpS Tryz.func23 rfl fun c₀ cs hu => ?_
  apply wpS_seq
  apply wpS_region
  simp [wpOpsS, go_sem, recoverD, hu, Tryz.ntmps23, Exit.thenS]
  apply wpS_seq
  apply wpS_region
  simp [wpOpsS, go_sem, hnn, Exit.thenS]
  refine wpS_cond (t := false) (by simp [Act.eval, Array.replicate]) ?_
  simp only [Bool.false_eq_true, if_false]
  refine wpS_of_wp (wp_skip ?_)
  cases c₀
  simp_all [bodyPostS, results, Tryz.results23]
def objZ : List Value := [.int .u8 0, .int .i64 0, .slice none 0 0, .string kc, .slice none 0 0, .slice none 0 0, .slice none 0 0, .string kc, .string kc, .int .i64 0]
theorem UY (w : World) : (Instr.build 30 #[]).run Tryz.prog w = .ok (.agg objZ.toArray) w := by kernel_rfl
theorem dec_wrong (zo ze : Nat) (co ce : List Value) (w : World) (ho : w.heap[zo]? = some (.cells co.toArray 30 (0, 0))) (hl : co.length = 10) (he : w.heap[ze]? = some (.cells ce.toArray 31 (0, 0))) (hl2 : ce.length = 1) (hne : zo ≠ ze) :
    CallsD Tryz.prog 23 #[.pointer (some ⟨zo, 0, none⟩), .pointer (some ⟨ze, 0, none⟩)] (.panicking Kl) w fun e u' w' => e = .returned (.tuple #[]) ∧ settle u' = .returning ∧
      w'.heap[zo]? = some (.cells objZ.toArray 30 (0, 0)) ∧ w'.heap[ze]? = some (.cells [Value.int .i64 6].toArray 31 (0, 0)) ∧ But (fun k => k = zo ∨ k = ze) w w' := by
  have hnn : ∀ w : World, (binOp .neq 20 (.iface 55 (.agg #[])) .nilIface).run Tryz.prog w = .ok (.bool true) w := fun w => by kernel_rfl
  have hta : ∀ w : World, (Instr.typeAssert (.iface 55 (.agg #[])) 20 55 true).run Tryz.prog w = .ok (.tuple #[.agg #[], .bool true]) w := fun w => by kernel_rfl
  have HB := hid UY
  refine callsD_of_wpS Tryz.func23 rfl fun c₀ cs hu => ?_
  apply wpS_seq
  apply wpS_region
  simp [wpOpsS, go_sem, recoverD, hu, Kl, Tryz.ntmps23, Exit.thenS]
  refine wpS_of_wp ?_
  simp only [Array.replicate_succ, Array.replicate_zero, List.push_toArray, List.append_toArray, List.nil_append, List.cons_append, List.setIfInBounds_toArray, List.set_cons_zero, List.set_cons_succ]
  have hzw : ∀ u : World, (zeroValue 55).run Tryz.prog u = .ok (.agg ([] : List Value).toArray) u := fun u => by kernel_rfl
  have HO := hid ho; have HE := hid he
  clear ho he
  go_wp2_with (first
    | (with_reducible refine kw ?_
       refine ku (by rfl) 55 rfl [] (hzw _) ?_
       intro W1 hb1 hz1 hs1
       have HO1 := hid ((hb1.block zo (qX HO.out)).trans HO.out)
       have HE1 := hid ((hb1.block ze (qX HE.out)).trans HE.out)
       have HB1 := hid (But.of_below (X := fun k => k = zo ∨ k = ze) hb1); have HZ1 := hid hz1
       clear hb1 hz1 hs1)
    | (with_reducible refine ks ?_
       refine km (by rfl) 55 _ _ rfl w.heap.size 0 [] [] [] [] 55 (.agg #[]) rfl rfl rfl rfl HZ1.out rfl (by kernel_rfl) (by intro u hu; cases hu) ?_
       intro W2 hb2 hy2 hs2
       have HLz := (qX HO.out)
       have HLe := (qX HE.out)
       have HO2 := hid ((hb2.block zo (qX HO1.out) (by omega)).trans HO1.out)
       have HE2 := hid ((hb2.block ze (qX HE1.out) (by omega)).trans HE1.out)
       have HB2 := hid (HB1.out.trans hb2 fun i hi e => absurd hi (by omega))
       clear hb2 hy2 hs2 HLz HLe)
    | (with_reducible refine kQ ?_
       refine k6 (by rfl) (kB 30 _ rfl (HB.out _)) ?_)
    | (with_reducible refine ks ?_
       refine km (by rfl) 30 _ _ rfl zo 0 [] co [] objZ 30 (.agg objZ.toArray) rfl rfl rfl rfl (by simpa using HO2.out) hl (by kernel_rfl) (by unfold objZ; intro u hu; simp only [List.mem_cons, List.not_mem_nil, or_false] at hu; rcases hu with rfl | rfl | rfl | rfl | rfl | rfl | rfl | rfl | rfl | rfl <;> rfl) ?_
       intro W3 hb3 hy3 hs3
       have HE3 := hid ((hb3.block ze (qX HE2.out) (fun e => hne e.symm)).trans HE2.out)
       have HO3 : Hid (W3.heap[zo]? = some (.cells objZ.toArray 30 (0, 0))) := hid (by simpa using hy3)
       have HB3 := hid (HB2.out.trans hb3 fun i hi e => .inl e)
       clear hb3 hy3 hs3)
    | (with_reducible refine ks ?_
       refine km (by rfl) 31 _ _ rfl ze 0 [] ce [] [.int .i64 6] 31 (.int .i64 6) rfl rfl rfl rfl (by simpa using HE3.out) hl2 (by kernel_rfl) (by intro u hu; simp only [List.mem_singleton] at hu; subst hu; rfl) ?_
       intro W4 hb4 hy4 hs4
       have HO4 := hid ((hb4.block zo (qX HO3.out) (fun e => hne e)).trans HO3.out)
       have HE4 : Hid (W4.heap[ze]? = some (.cells [Value.int .i64 6].toArray 31 (0, 0))) := hid (by simpa using hy4)
       have HB4 := hid (HB3.out.trans hb4 fun i hi e => .inr e)
       clear hb4 hy4 hs4))
  exact ⟨rfl, _, rfl, _, results_none rfl _ _ _, rfl, rfl, HO4.out, HE4.out, HB4.out⟩
end Go.Proofs.YthjaepmfkgejkaaGreatDoor
namespace Go.Proofs.YthjaepmfkgejkaaGreatDoor
open Go.RowKit Go.Maps
structure ObjSt (w0 : World) (g b off c : Nat) (l : List UInt8) (rb zo a : Nat) (cs : List Value) (w : World) : Prop where
  rd : RdAt w g b off c l a
  but : But (fun k => k = g) w0 w
  rbox : w.heap[rb]? = some (.cells [Value.pointer (some ⟨g, 0, none⟩)].toArray 57 (0, 0))
  obj : w.heap[zo]? = some (.cells cs.toArray 30 (0, 0))
structure ObjZ (w0 : World) (g rb zo : Nat) : Prop where
  low : g < w0.heap.size
  zr : w0.heap.size ≤ rb
  zz : w0.heap.size ≤ zo
  nr : zo ≠ rb
section
variable {w0 w wy : World} {g b off c : Nat} {l : List UInt8} {rb zo a a2 : Nat} {cs cs' : List Value}
theorem ObjSt.lo (h : ObjSt w0 g b off c l rb zo a cs w) : zo < w.heap.size := (Array.getElem?_eq_some_iff.1 h.obj).1
theorem ObjSt.lr (h : ObjSt w0 g b off c l rb zo a cs w) : rb < w.heap.size := (Array.getElem?_eq_some_iff.1 h.rbox).1
theorem ObjSt.read (h : ObjSt w0 g b off c l rb zo a cs w) (hz : ObjZ w0 g rb zo) (hr : RdAt wy g b off c l a2) (hb : But (fun k => k = g) w wy) : ObjSt w0 g b off c l rb zo a2 cs wy := by
  have h1 := hz.low; have h2 := hz.zr; have h3 := hz.zz
  exact ⟨hr, h.but.trans hb fun _ _ q => q, (hb.block rb h.lr (by omega)).trans h.rbox, (hb.block zo h.lo (by omega)).trans h.obj⟩
theorem ObjSt.keep (h : ObjSt w0 g b off c l rb zo a cs w) (hb : Below w.heap.size w wy) : ObjSt w0 g b off c l rb zo a cs wy :=
  ⟨h.rd.keep hb, h.but.andBelow hb, (hb.block rb h.lr).trans h.rbox, (hb.block zo h.lo).trans h.obj⟩
theorem ObjSt.put (h : ObjSt w0 g b off c l rb zo a cs w) (hz : ObjZ w0 g rb zo) (hb : But (fun k => k = zo) w wy) (hy : wy.heap[zo]? = some (.cells cs'.toArray 30 (0, 0))) : ObjSt w0 g b off c l rb zo a cs' wy := by
  have h1 := hz.low; have h2 := hz.zr; have h3 := hz.zz; have h4 := hz.nr
  exact ⟨h.rd.but hb fun k hk e => by omega, h.but.trans hb fun i hi e => by omega, (hb.block rb h.lr (by omega)).trans h.rbox, hy⟩
end
def ObjGives (g : Nat) (l : List UInt8) (w : World) (e : Ending) (w' : World) : Prop :=
  match zk l with
  | some o => ∃ v, e = .returned v ∧ But (fun k => k = g) w w' ∧ ObjIn w' w'.heap.size v o
  | none => e = .panicked Kl ∧ But (fun k => k = g) w w'
theorem ObjGives.no {g : Nat} {l : List UInt8} {w w' : World} {e : Ending} (h : zk l = none) (he : e = .panicked Kl) (hb : But (fun k => k = g) w w') : ObjGives g l w e w' := by
  unfold ObjGives; rw [h]; exact ⟨he, hb⟩
theorem ObjGives.yes {g : Nat} {l : List UInt8} {w w' : World} {e : Ending} {o : zR} {v : Value} (h : zk l = some o) (he : e = .returned v) (hb : But (fun k => k = g) w w') (hv : ObjIn w' w'.heap.size v o) : ObjGives g l w e w' := by
  unfold ObjGives; rw [h]; exact ⟨v, he, hb, hv⟩
theorem UZ {l : List UInt8} (h : Z3 l = none) : zk l = none := by
  unfold zk pObj kP; rw [h]
theorem readS_kind {l r : List UInt8} {k : UInt8} (h : Z3 l = some (k, r)) (h1 : k ≠ 67) (h2 : k ≠ 75) : zk l = none := by
  unfold zk pObj; rw [kF h, if_neg h1, if_neg h2]
theorem readS_ch {l r : List UInt8} (h : Z3 l = some (67, r)) : zk l = match Kq r with
  | some (c, q) => if q = [] ∧ kD (1, c, ju) = true then some (1, c, ju) else none
  | none => none := by
  unfold zk pObj; rw [kF h, if_pos rfl]
  unfold kP
  rcases Kq r with _ | ⟨c, q⟩ <;> rfl
theorem readS_cm {l r : List UInt8} (h : Z3 l = some (75, r)) : zk l = match zW r with
  | some (c, q) => if q = [] ∧ kD (2, jq, c) = true then some (2, jq, c) else none
  | none => none := by
  unfold zk pObj; rw [kF h, if_neg (by decide), if_pos rfl]
  unfold kP
  rcases zW r with _ | ⟨c, q⟩ <;> rfl
end Go.Proofs.YthjaepmfkgejkaaGreatDoor
