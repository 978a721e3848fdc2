/-
  What a right change is. Conditions: as it says.
-/
import Derived.Test.YtdgbjhfkmembdaaGreatDoorShort0
import Derived.Test.YtdgbjhfkmembdaaGreatDoorShort8
import Derived.Test.YtdgbjhfkmembdaaGreatDoorObjRight1
import Derived.Test.YtdgbjhfkmembdaaGreatDoorRight08S
import Derived.Test.YtdgbjhfkmembdaaGreatDoorIdCells
namespace Go.Proofs.YtdgbjhfkmembdaaGreatDoor
open Go.RowKit Go.Maps
set_option linter.unusedVariables false
set_option linter.unusedSimpArgs false

theorem madeL_ok {l : List OpD} (h : ∀ x ∈ l, OpIn x) : ∀ m ∈ madeL l, MadeOk m := by
  intro m hm
  unfold madeL at hm
  obtain ⟨x, hx, hm⟩ := List.mem_flatMap.1 hm
  unfold madeB at hm
  split at hm
  · rw [List.mem_singleton.1 hm]; exact zeroRef_ok
  · split at hm
    · rw [List.eq_of_mem_replicate hm]; exact (h x hx).1.1
    · cases hm
set_option maxHeartbeats 4000000 in
set_option maxRecDepth 100000 in
theorem rightChange_any (c : ChangeD) (v : Value) (B : Nat) (w : World) (h : ChIn w B v c) (hB : B ≤ w.heap.size) (hl1 : c.2.1.length ≤ 1099511627776) (hl2 : c.2.2.2.length ≤ 1099511627776) (hg : Glob w) : Calls Tryz.prog 189 #[v] w fun e w' => Below w.heap.size w w' ∧ e = .returned (.bool (changeB c)) := by
  obtain ⟨ho, hop, ha, Ad, cd, Ao, co, rfl, sd, so⟩ := h
  obtain ⟨n, dp, a, os⟩ := c
  have HO := Lib.hid ho; have HS := Lib.hid sd; have HSO := Lib.hid so; have HOP := Lib.hid hop; have HG := Lib.hid hg
  replace hd : dp.length ≤ 1099511627776 := hl1
  replace hl : os.length ≤ 1099511627776 := hl2
  replace ha : a.size ≤ maxLen := ha
  clear ho sd so hop hg hl1 hl2
  dsimp only at HO HS HSO HOP ⊢
  by_cases h0 : n < 1
  · have d0 : decide (n < 1) = true := dT (by omega)
    have HE : Hid (changeB (n, dp, a, os) = false) := Lib.hid (by unfold changeB; dsimp only; rw [dF (show ¬ (1 : Int) ≤ n by omega)]; simp)
    clear h0
    go_enter Tryz.func189, Tryz.ntmps189
    go_upto_region 1 with (first
      | (with_reducible refine at_box ?_
         refine wp_boxM (by rfl) 37 _ rfl [.int .i64 n, .slice Ad dp.length cd, .string a, .slice Ao os.length co] _ rfl rfl (by kernel_rfl) ?_
         intro W0 hb0 hy0 hs0
         have HB0 := Lib.hid hb0; have HY0 := Lib.hid hy0
         clear hb0 hy0 hs0
         simp only [Act.put, List.setIfInBounds_toArray, List.set_cons_zero, List.set_cons_succ]))
    have hx0 : w.heap.size < W0.heap.size := (qX HY0.out)
    have HC := Lib.hid (fun (u : World) (hu : Below W0.heap.size W0 u) => (show u.cell? ⟨w.heap.size, 0, none⟩ = some (.int .i64 n) ∧ u.cell? ⟨w.heap.size, 1, none⟩ = some (.slice Ad dp.length cd) ∧ u.cell? ⟨w.heap.size, 2, none⟩ = some (.string a) ∧ u.cell? ⟨w.heap.size, 3, none⟩ = some (.slice Ao os.length co) from
      ⟨(hu.cell (p := ⟨w.heap.size, 0, none⟩) hx0).trans (cells_at0 HY0.out 0), (hu.cell (p := ⟨w.heap.size, 1, none⟩) hx0).trans (cells_at0 HY0.out 1), (hu.cell (p := ⟨w.heap.size, 2, none⟩) hx0).trans (cells_at0 HY0.out 2), (hu.cell (p := ⟨w.heap.size, 3, none⟩) hx0).trans (cells_at0 HY0.out 3)⟩))
    have HW0 := Lib.hid (qB W0.heap.size W0)
    obtain ⟨b0, b1, b2, b3⟩ := HC.out _ HW0.out
    have HT0 := HB0
    go_wp2_with fail
    go_ret
    exact ⟨HT0.out, by rw [HE.out]; rfl⟩
  by_cases h1 : 1099511627776 < n
  · have d0 : decide (n < 1) = false := dF (by omega)
    have d1 : decide (1099511627776 < n) = true := dT (by omega)
    have HE : Hid (changeB (n, dp, a, os) = false) := Lib.hid (by unfold changeB; dsimp only; rw [dT (show (1 : Int) ≤ n by omega), dF (show ¬ n ≤ 1099511627776 by omega)]; simp)
    clear h0 h1
    go_enter Tryz.func189, Tryz.ntmps189
    go_upto_region 1 with (first
      | (with_reducible refine at_box ?_
         refine wp_boxM (by rfl) 37 _ rfl [.int .i64 n, .slice Ad dp.length cd, .string a, .slice Ao os.length co] _ rfl rfl (by kernel_rfl) ?_
         intro W0 hb0 hy0 hs0
         have HB0 := Lib.hid hb0; have HY0 := Lib.hid hy0
         clear hb0 hy0 hs0
         simp only [Act.put, List.setIfInBounds_toArray, List.set_cons_zero, List.set_cons_succ]))
    have hx0 : w.heap.size < W0.heap.size := (qX HY0.out)
    have HC := Lib.hid (fun (u : World) (hu : Below W0.heap.size W0 u) => (show u.cell? ⟨w.heap.size, 0, none⟩ = some (.int .i64 n) ∧ u.cell? ⟨w.heap.size, 1, none⟩ = some (.slice Ad dp.length cd) ∧ u.cell? ⟨w.heap.size, 2, none⟩ = some (.string a) ∧ u.cell? ⟨w.heap.size, 3, none⟩ = some (.slice Ao os.length co) from
      ⟨(hu.cell (p := ⟨w.heap.size, 0, none⟩) hx0).trans (cells_at0 HY0.out 0), (hu.cell (p := ⟨w.heap.size, 1, none⟩) hx0).trans (cells_at0 HY0.out 1), (hu.cell (p := ⟨w.heap.size, 2, none⟩) hx0).trans (cells_at0 HY0.out 2), (hu.cell (p := ⟨w.heap.size, 3, none⟩) hx0).trans (cells_at0 HY0.out 3)⟩))
    have HW0 := Lib.hid (qB W0.heap.size W0)
    obtain ⟨b0, b1, b2, b3⟩ := HC.out _ HW0.out
    have HT0 := HB0
    go_wp2_with fail
    go_ret
    exact ⟨HT0.out, by rw [HE.out]; rfl⟩
  rcases Bool.eq_false_or_eq_true (idsB dp 4096) with h2 | h2
  rotate_left
  · have d0 : decide (n < 1) = false := dF (by omega)
    have d1 : decide (1099511627776 < n) = false := dF (by omega)
    have HE : Hid (changeB (n, dp, a, os) = false) := Lib.hid (by unfold changeB; dsimp only; rw [dT (show (1 : Int) ≤ n by omega), dT (show n ≤ 1099511627776 by omega), h2]; simp)
    have H2 := Lib.hid h2; clear h2
    clear h0 h1
    go_enter Tryz.func189, Tryz.ntmps189
    go_upto_region 1 with (first
      | (with_reducible refine at_box ?_
         refine wp_boxM (by rfl) 37 _ rfl [.int .i64 n, .slice Ad dp.length cd, .string a, .slice Ao os.length co] _ rfl rfl (by kernel_rfl) ?_
         intro W0 hb0 hy0 hs0
         have HB0 := Lib.hid hb0; have HY0 := Lib.hid hy0
         clear hb0 hy0 hs0
         simp only [Act.put, List.setIfInBounds_toArray, List.set_cons_zero, List.set_cons_succ]))
    have hx0 : w.heap.size < W0.heap.size := (qX HY0.out)
    have HC := Lib.hid (fun (u : World) (hu : Below W0.heap.size W0 u) => (show u.cell? ⟨w.heap.size, 0, none⟩ = some (.int .i64 n) ∧ u.cell? ⟨w.heap.size, 1, none⟩ = some (.slice Ad dp.length cd) ∧ u.cell? ⟨w.heap.size, 2, none⟩ = some (.string a) ∧ u.cell? ⟨w.heap.size, 3, none⟩ = some (.slice Ao os.length co) from
      ⟨(hu.cell (p := ⟨w.heap.size, 0, none⟩) hx0).trans (cells_at0 HY0.out 0), (hu.cell (p := ⟨w.heap.size, 1, none⟩) hx0).trans (cells_at0 HY0.out 1), (hu.cell (p := ⟨w.heap.size, 2, none⟩) hx0).trans (cells_at0 HY0.out 2), (hu.cell (p := ⟨w.heap.size, 3, none⟩) hx0).trans (cells_at0 HY0.out 3)⟩))
    have HW0 := Lib.hid (qB W0.heap.size W0)
    obtain ⟨b0, b1, b2, b3⟩ := HC.out _ HW0.out
    have HT0 := HB0
    go_wp2_with fail
    refine (ids_any dp Ad cd 4096 W0 hd (by decide) HO.out.2.1 ((HS.out.keep (HT0.out.mono hB)).more (qT hB HT0.out.size))).mono ?_
    rintro e W1 ⟨hb, rfl⟩
    rw [H2.out]
    have HW1 := Lib.hid (HW0.out.trans (hb.mono HW0.out.size))
    have HT1 := Lib.hid (HT0.out.trans (hb.mono HT0.out.size))
    clear hb b0 b1 b2 b3
    obtain ⟨b0, b1, b2, b3⟩ := HC.out _ HW1.out
    go_wp2_with fail
    go_ret
    exact ⟨HT1.out, by rw [HE.out]; rfl⟩
  rcases Bool.eq_false_or_eq_true (authorB a) with h3 | h3
  rotate_left
  · have d0 : decide (n < 1) = false := dF (by omega)
    have d1 : decide (1099511627776 < n) = false := dF (by omega)
    have HE : Hid (changeB (n, dp, a, os) = false) := Lib.hid (by unfold changeB; dsimp only; rw [dT (show (1 : Int) ≤ n by omega), dT (show n ≤ 1099511627776 by omega), h2, h3]; simp)
    have H2 := Lib.hid h2; clear h2
    have H3 := Lib.hid h3; clear h3
    clear h0 h1
    go_enter Tryz.func189, Tryz.ntmps189
    go_upto_region 1 with (first
      | (with_reducible refine at_box ?_
         refine wp_boxM (by rfl) 37 _ rfl [.int .i64 n, .slice Ad dp.length cd, .string a, .slice Ao os.length co] _ rfl rfl (by kernel_rfl) ?_
         intro W0 hb0 hy0 hs0
         have HB0 := Lib.hid hb0; have HY0 := Lib.hid hy0
         clear hb0 hy0 hs0
         simp only [Act.put, List.setIfInBounds_toArray, List.set_cons_zero, List.set_cons_succ]))
    have hx0 : w.heap.size < W0.heap.size := (qX HY0.out)
    have HC := Lib.hid (fun (u : World) (hu : Below W0.heap.size W0 u) => (show u.cell? ⟨w.heap.size, 0, none⟩ = some (.int .i64 n) ∧ u.cell? ⟨w.heap.size, 1, none⟩ = some (.slice Ad dp.length cd) ∧ u.cell? ⟨w.heap.size, 2, none⟩ = some (.string a) ∧ u.cell? ⟨w.heap.size, 3, none⟩ = some (.slice Ao os.length co) from
      ⟨(hu.cell (p := ⟨w.heap.size, 0, none⟩) hx0).trans (cells_at0 HY0.out 0), (hu.cell (p := ⟨w.heap.size, 1, none⟩) hx0).trans (cells_at0 HY0.out 1), (hu.cell (p := ⟨w.heap.size, 2, none⟩) hx0).trans (cells_at0 HY0.out 2), (hu.cell (p := ⟨w.heap.size, 3, none⟩) hx0).trans (cells_at0 HY0.out 3)⟩))
    have HW0 := Lib.hid (qB W0.heap.size W0)
    obtain ⟨b0, b1, b2, b3⟩ := HC.out _ HW0.out
    have HT0 := HB0
    go_wp2_with fail
    refine (ids_any dp Ad cd 4096 W0 hd (by decide) HO.out.2.1 ((HS.out.keep (HT0.out.mono hB)).more (qT hB HT0.out.size))).mono ?_
    rintro e W1 ⟨hb, rfl⟩
    rw [H2.out]
    have HW1 := Lib.hid (HW0.out.trans (hb.mono HW0.out.size))
    have HT1 := Lib.hid (HT0.out.trans (hb.mono HT0.out.size))
    clear hb b0 b1 b2 b3
    obtain ⟨b0, b1, b2, b3⟩ := HC.out _ HW1.out
    go_wp2_with fail
    refine (author_any a W1 ha).mono ?_
    rintro e W2 ⟨hb, rfl⟩
    rw [H3.out]
    have HW2 := Lib.hid (HW1.out.trans (hb.mono HW1.out.size))
    have HT2 := Lib.hid (HT1.out.trans (hb.mono HT1.out.size))
    clear hb b0 b1 b2 b3
    obtain ⟨b0, b1, b2, b3⟩ := HC.out _ HW2.out
    go_wp2_with fail
    go_ret
    exact ⟨HT2.out, by rw [HE.out]; rfl⟩
  by_cases h4 : os.length < 1
  · have d0 : decide (n < 1) = false := dF (by omega)
    have d1 : decide (1099511627776 < n) = false := dF (by omega)
    have d4 : decide ((os.length : Int) < 1) = true := dT (by omega)
    have d4' : decide (os.length < 1) = true := dT (by omega)
    have HE : Hid (changeB (n, dp, a, os) = false) := Lib.hid (by unfold changeB; dsimp only; rw [dT (show (1 : Int) ≤ n by omega), dT (show n ≤ 1099511627776 by omega), h2, h3, dF (show ¬ 1 ≤ os.length by omega)]; simp)
    have H2 := Lib.hid h2; clear h2
    have H3 := Lib.hid h3; clear h3
    clear h0 h1 h4
    go_enter Tryz.func189, Tryz.ntmps189
    go_upto_region 1 with (first
      | (with_reducible refine at_box ?_
         refine wp_boxM (by rfl) 37 _ rfl [.int .i64 n, .slice Ad dp.length cd, .string a, .slice Ao os.length co] _ rfl rfl (by kernel_rfl) ?_
         intro W0 hb0 hy0 hs0
         have HB0 := Lib.hid hb0; have HY0 := Lib.hid hy0
         clear hb0 hy0 hs0
         simp only [Act.put, List.setIfInBounds_toArray, List.set_cons_zero, List.set_cons_succ]))
    have hx0 : w.heap.size < W0.heap.size := (qX HY0.out)
    have HC := Lib.hid (fun (u : World) (hu : Below W0.heap.size W0 u) => (show u.cell? ⟨w.heap.size, 0, none⟩ = some (.int .i64 n) ∧ u.cell? ⟨w.heap.size, 1, none⟩ = some (.slice Ad dp.length cd) ∧ u.cell? ⟨w.heap.size, 2, none⟩ = some (.string a) ∧ u.cell? ⟨w.heap.size, 3, none⟩ = some (.slice Ao os.length co) from
      ⟨(hu.cell (p := ⟨w.heap.size, 0, none⟩) hx0).trans (cells_at0 HY0.out 0), (hu.cell (p := ⟨w.heap.size, 1, none⟩) hx0).trans (cells_at0 HY0.out 1), (hu.cell (p := ⟨w.heap.size, 2, none⟩) hx0).trans (cells_at0 HY0.out 2), (hu.cell (p := ⟨w.heap.size, 3, none⟩) hx0).trans (cells_at0 HY0.out 3)⟩))
    have HW0 := Lib.hid (qB W0.heap.size W0)
    obtain ⟨b0, b1, b2, b3⟩ := HC.out _ HW0.out
    have HT0 := HB0
    go_wp2_with fail
    refine (ids_any dp Ad cd 4096 W0 hd (by decide) HO.out.2.1 ((HS.out.keep (HT0.out.mono hB)).more (qT hB HT0.out.size))).mono ?_
    rintro e W1 ⟨hb, rfl⟩
    rw [H2.out]
    have HW1 := Lib.hid (HW0.out.trans (hb.mono HW0.out.size))
    have HT1 := Lib.hid (HT0.out.trans (hb.mono HT0.out.size))
    clear hb b0 b1 b2 b3
    obtain ⟨b0, b1, b2, b3⟩ := HC.out _ HW1.out
    go_wp2_with fail
    refine (author_any a W1 ha).mono ?_
    rintro e W2 ⟨hb, rfl⟩
    rw [H3.out]
    have HW2 := Lib.hid (HW1.out.trans (hb.mono HW1.out.size))
    have HT2 := Lib.hid (HT1.out.trans (hb.mono HT1.out.size))
    clear hb b0 b1 b2 b3
    obtain ⟨b0, b1, b2, b3⟩ := HC.out _ HW2.out
    go_wp2_with fail
    go_ret
    exact ⟨HT2.out, by rw [HE.out]; rfl⟩
  by_cases h5 : 4096 < os.length
  · have d0 : decide (n < 1) = false := dF (by omega)
    have d1 : decide (1099511627776 < n) = false := dF (by omega)
    have d4 : decide ((os.length : Int) < 1) = false := dF (by omega)
    have d4' : decide (os.length < 1) = false := dF (by omega)
    have d5 : decide (4096 < (os.length : Int)) = true := dT (by omega)
    have d5' : decide (4096 < os.length) = true := dT (by omega)
    have HE : Hid (changeB (n, dp, a, os) = false) := Lib.hid (by unfold changeB; dsimp only; rw [dT (show (1 : Int) ≤ n by omega), dT (show n ≤ 1099511627776 by omega), h2, h3, dT (show 1 ≤ os.length by omega), dF (show ¬ os.length ≤ 4096 by omega)]; simp)
    have H2 := Lib.hid h2; clear h2
    have H3 := Lib.hid h3; clear h3
    clear h0 h1 h4
    clear h5
    go_enter Tryz.func189, Tryz.ntmps189
    go_upto_region 1 with (first
      | (with_reducible refine at_box ?_
         refine wp_boxM (by rfl) 37 _ rfl [.int .i64 n, .slice Ad dp.length cd, .string a, .slice Ao os.length co] _ rfl rfl (by kernel_rfl) ?_
         intro W0 hb0 hy0 hs0
         have HB0 := Lib.hid hb0; have HY0 := Lib.hid hy0
         clear hb0 hy0 hs0
         simp only [Act.put, List.setIfInBounds_toArray, List.set_cons_zero, List.set_cons_succ]))
    have hx0 : w.heap.size < W0.heap.size := (qX HY0.out)
    have HC := Lib.hid (fun (u : World) (hu : Below W0.heap.size W0 u) => (show u.cell? ⟨w.heap.size, 0, none⟩ = some (.int .i64 n) ∧ u.cell? ⟨w.heap.size, 1, none⟩ = some (.slice Ad dp.length cd) ∧ u.cell? ⟨w.heap.size, 2, none⟩ = some (.string a) ∧ u.cell? ⟨w.heap.size, 3, none⟩ = some (.slice Ao os.length co) from
      ⟨(hu.cell (p := ⟨w.heap.size, 0, none⟩) hx0).trans (cells_at0 HY0.out 0), (hu.cell (p := ⟨w.heap.size, 1, none⟩) hx0).trans (cells_at0 HY0.out 1), (hu.cell (p := ⟨w.heap.size, 2, none⟩) hx0).trans (cells_at0 HY0.out 2), (hu.cell (p := ⟨w.heap.size, 3, none⟩) hx0).trans (cells_at0 HY0.out 3)⟩))
    have HW0 := Lib.hid (qB W0.heap.size W0)
    obtain ⟨b0, b1, b2, b3⟩ := HC.out _ HW0.out
    have HT0 := HB0
    go_wp2_with fail
    refine (ids_any dp Ad cd 4096 W0 hd (by decide) HO.out.2.1 ((HS.out.keep (HT0.out.mono hB)).more (qT hB HT0.out.size))).mono ?_
    rintro e W1 ⟨hb, rfl⟩
    rw [H2.out]
    have HW1 := Lib.hid (HW0.out.trans (hb.mono HW0.out.size))
    have HT1 := Lib.hid (HT0.out.trans (hb.mono HT0.out.size))
    clear hb b0 b1 b2 b3
    obtain ⟨b0, b1, b2, b3⟩ := HC.out _ HW1.out
    go_wp2_with fail
    refine (author_any a W1 ha).mono ?_
    rintro e W2 ⟨hb, rfl⟩
    rw [H3.out]
    have HW2 := Lib.hid (HW1.out.trans (hb.mono HW1.out.size))
    have HT2 := Lib.hid (HT1.out.trans (hb.mono HT1.out.size))
    clear hb b0 b1 b2 b3
    obtain ⟨b0, b1, b2, b3⟩ := HC.out _ HW2.out
    go_wp2_with fail
    go_ret
    exact ⟨HT2.out, by rw [HE.out]; rfl⟩
  replace h5 : os.length ≤ 4096 := by omega
  have d0 : decide (n < 1) = false := dF (by omega)
  have d1 : decide (1099511627776 < n) = false := dF (by omega)
  have d4 : decide ((os.length : Int) < 1) = false := dF (by omega)
  have d4' : decide (os.length < 1) = false := dF (by omega)
  have d5 : decide (4096 < (os.length : Int)) = false := dF (by omega)
  have d5' : decide (4096 < os.length) = false := dF (by omega)
  have HE : Hid (changeB (n, dp, a, os) = opsB dp [] os) := Lib.hid (by unfold changeB; dsimp only; rw [dT (show (1 : Int) ≤ n by omega), dT (show n ≤ 1099511627776 by omega), h2, h3, dT (show 1 ≤ os.length by omega), dT (show os.length ≤ 4096 by omega)]; rfl)
  have H2 := Lib.hid h2; clear h2
  have H3 := Lib.hid h3; clear h3
  clear h0 h1 h4
  have h46 : os.length ≤ 4096 := h5
  clear h5
  go_enter Tryz.func189, Tryz.ntmps189
  go_upto_region 1 with (first
    | (with_reducible refine at_box ?_
       refine wp_boxM (by rfl) 37 _ rfl [.int .i64 n, .slice Ad dp.length cd, .string a, .slice Ao os.length co] _ rfl rfl (by kernel_rfl) ?_
       intro W0 hb0 hy0 hs0
       have HB0 := Lib.hid hb0; have HY0 := Lib.hid hy0
       clear hb0 hy0 hs0
       simp only [Act.put, List.setIfInBounds_toArray, List.set_cons_zero, List.set_cons_succ]))
  have hx0 : w.heap.size < W0.heap.size := (qX HY0.out)
  have HC := Lib.hid (fun (u : World) (hu : Below W0.heap.size W0 u) => (show u.cell? ⟨w.heap.size, 0, none⟩ = some (.int .i64 n) ∧ u.cell? ⟨w.heap.size, 1, none⟩ = some (.slice Ad dp.length cd) ∧ u.cell? ⟨w.heap.size, 2, none⟩ = some (.string a) ∧ u.cell? ⟨w.heap.size, 3, none⟩ = some (.slice Ao os.length co) from
    ⟨(hu.cell (p := ⟨w.heap.size, 0, none⟩) hx0).trans (cells_at0 HY0.out 0), (hu.cell (p := ⟨w.heap.size, 1, none⟩) hx0).trans (cells_at0 HY0.out 1), (hu.cell (p := ⟨w.heap.size, 2, none⟩) hx0).trans (cells_at0 HY0.out 2), (hu.cell (p := ⟨w.heap.size, 3, none⟩) hx0).trans (cells_at0 HY0.out 3)⟩))
  have HW0 := Lib.hid (qB W0.heap.size W0)
  obtain ⟨b0, b1, b2, b3⟩ := HC.out _ HW0.out
  have HT0 := HB0
  go_wp2_with fail
  refine (ids_any dp Ad cd 4096 W0 hd (by decide) HO.out.2.1 ((HS.out.keep (HT0.out.mono hB)).more (qT hB HT0.out.size))).mono ?_
  rintro e W1 ⟨hb, rfl⟩
  rw [H2.out]
  have HW1 := Lib.hid (HW0.out.trans (hb.mono HW0.out.size))
  have HT1 := Lib.hid (HT0.out.trans (hb.mono HT0.out.size))
  clear hb b0 b1 b2 b3
  obtain ⟨b0, b1, b2, b3⟩ := HC.out _ HW1.out
  go_wp2_with fail
  refine (author_any a W1 ha).mono ?_
  rintro e W2 ⟨hb, rfl⟩
  rw [H3.out]
  have HW2 := Lib.hid (HW1.out.trans (hb.mono HW1.out.size))
  have HT2 := Lib.hid (HT1.out.trans (hb.mono HT1.out.size))
  clear hb b0 b1 b2 b3
  obtain ⟨b0, b1, b2, b3⟩ := HC.out _ HW2.out
  go_upto_region 4 with (first
    | (with_reducible refine at_build ?_
       refine wp_val (by rfl) (ex_build 349 _ rfl (by kernel_rfl : (Instr.build 349 #[(0, .slice Ad dp.length cd)]).run Tryz.prog _ = .ok (.agg #[.slice Ad dp.length cd, .slice none 0 0]) _)) ?_)
    | (with_reducible refine at_box ?_
       refine wp_boxM (by rfl) 349 _ rfl [.slice Ad dp.length cd, .slice none 0 0] _ rfl rfl (by kernel_rfl) ?_
       intro W4 hb4 hy4 hs4
       have HB4 := Lib.hid hb4; have HY4 := Lib.hid hy4
       clear hb4 hy4 hs4
       simp only [Act.put, List.setIfInBounds_toArray, List.set_cons_zero, List.set_cons_succ]))
  have hzy : W2.heap.size < W4.heap.size := (qX HY4.out)
  obtain ⟨b0, b1, b2, b3⟩ := HC.out _ (HW2.out.trans (HB4.out.mono HW2.out.size))
  have hlg : w.heap.size ≤ W2.heap.size := HT2.out.size
  obtain ⟨g, hg0⟩ : ∃ g, W2.heap.size = g := ⟨_, rfl⟩
  rw [hg0] at HY4 hzy HB4 hlg
  have HT4 : Hid (Below w.heap.size w W4) := Lib.hid (HT2.out.trans (HB4.out.mono hlg))
  have HGW := Lib.hid (HG.out.next HT4.out)
  have HCK4 : Hid (CkAt W4 g dp []) := Lib.hid ⟨Ad, cd, _, HY4.out, (HS.out.keep (HT4.out.mono hB)).more (qT hB hlg), World.ownsRow_nil _ _ _ _⟩
  have HSO4 : Hid (Sl W4 g Ao os.length 70 (rowsV opV os)) := Lib.hid ((HSO.out.keep (HT4.out.mono hB)).more (qT hB hlg))
  try rw [hg0]
  go_wp2_with fail
  go_loopw [45] (fun v wr => ∃ i : Nat, i ≤ os.length ∧ v = .int .i64 (i : Int) ∧ Hid (opsB dp [] (os.take i) = true) ∧ Hid (CkAt wr g dp (madeL (os.take i))) ∧ Hid (Below g W4 wr)) (fun v _ => os.length - (intOf v).toNat)
  case atStart => exact ⟨0, Nat.zero_le _, rfl, Lib.hid rfl, HCK4, Lib.hid (qB _ _)⟩
  case round =>
    obtain ⟨i, hi, rfl, HOI, HKR, HBR⟩ := hrel
    by_cases hlt : i < os.length
    · obtain ⟨b, off, rfl, hbl, hcl⟩ := (HSO4.out.keep HBR.out).2 (by omega)
      have i0 : (0 : Int) ≤ (i : Int) := by omega
      have i1 : (i : Int) < (os.length : Int) := by omega
      have HROW := Lib.hid (Sl.row (fun x hx => opV_length (HOP.out x hx)) hcl hlt)
      have HX := Lib.hid (HOP.out _ (List.getElem_mem hlt))
      have HNX := Lib.hid (opsB_next (deps := dp) hlt)
      have HSP := Lib.hid (fun h => opsB_stop (deps := dp) hlt h)
      have HMN := Lib.hid (madeL_next hlt)
      have htk : (os.take i).length ≤ 4096 := qT (by rw [List.length_take]; exact Nat.min_le_left _ _) (qT hi h46)
      have hmi : (madeL (os.take i)).length ≤ 1000000000 := qT (madeL_len HOI.out) (by omega)
      clear htk
      have HMI := Lib.hid (madeL_ok (l := os.take i) (fun x hx => HOP.out x (List.mem_of_mem_take hx)))
      have HGR := Lib.hid (HGW.out.keep HBR.out (qL HG.out.lt hlg))
      clear hcl hbl
      generalize os[i] = x at *
      obtain ⟨mi, hmi0⟩ : ∃ mi, madeL (os.take i) = mi := ⟨_, rfl⟩
      rw [hmi0] at HKR HNX HSP HMN hmi HMI
      clear hmi0
      go_upto_region 7 with (first
        | (with_reducible refine at_load ?_
           refine wp_loadN rfl 112 _ rfl b _ rfl (opV x) _ HROW.out Tryz.underlying112 rfl (by rw [opV_length HX.out]; exact sizeOp70) ?_)
        | (with_reducible refine at_alloc ?_
           refine wp_allocM (by rfl) 112 rfl (opV zeroOp) (zeroOp_run _) ?_
           intro W6 hb6 hy6 hs6
           have HB6 := Lib.hid hb6; have HY6 := Lib.hid hy6; have HS6 := Lib.hid hs6
           clear hb6 hy6 hs6)
        | (with_reducible refine at_store ?_
           refine wp_storeM (by rfl) 112 _ _ rfl wr.heap.size 0 [] (opV zeroOp) [] (opV x) 112 _ rfl rfl rfl rfl (by simpa using HY6.out) (by rw [opV_length HX.out]; exact opV_length (zeroOp_in 0)) (by rw [opV_length HX.out]; exact sizeOp70) (opV_one _) ?_
           intro W7 hb7 hy7 hs7
           have HB7 := Lib.hid hb7
           have HY7 : Hid (W7.heap[wr.heap.size]? = some (.cells (opV x).toArray 112 (0, 0))) := Lib.hid (by simpa using hy7)
           clear hb7 hy7 hs7))
      have HBR7 : Hid (Below wr.heap.size wr W7) := Lib.hid (HB6.out.trans (HB7.out.below (by have := HS6.out; omega) (fun k hk e => by omega)))
      rcases Bool.eq_false_or_eq_true (opB dp mi x) with hox | hox
      · have HOX := Lib.hid hox
        have HO2 : Hid (opsB dp [] (os.take (i + 1)) = true) := Lib.hid (by rw [HNX.out, HOI.out, hox]; rfl)
        clear hox
        go_wp2_with (first
          | (with_reducible refine at_load ?_
             refine wp_val (by rfl) (ldO (b := wr.heap.size) (f := 0) (y := x) HX.out (fun j u hj => by rw [qZ]; exact (cells_at0 HY7.out j).trans hj)) ?_)
          | (go_at_call 227; refine (ckop_any g dp mi x W7 (HKR.out.keep HBR7.out) HO.out.2.1 hd hmi HMI.out HX.out (HGR.out.next HBR7.out)).mono ?_; rintro e W8 ⟨hb8, rfl, hk8⟩
             rw [HOX.out]
             have HB8 := Lib.hid (HBR.out.trans ((below_g (Nat.le_of_lt HKR.out.lt) HBR7.out).trans hb8))
             have HK8 := Lib.hid (hk8 HOX.out)
             clear hb8 hk8))
        go_roundw
        case rel => exact ⟨i + 1, by omega, by go_num, HO2, Lib.hid (by rw [HMN.out]; exact HK8.out), HB8⟩
        case measure => (simp [intOf]) <;> omega
      · have HOX := Lib.hid hox
        have HE2 : Hid (changeB (n, dp, a, os) = false) := Lib.hid (by rw [HE.out]; exact HSP.out hox)
        clear hox
        go_wp2_with (first
          | (with_reducible refine at_load ?_
             refine wp_val (by rfl) (ldO (b := wr.heap.size) (f := 0) (y := x) HX.out (fun j u hj => by rw [qZ]; exact (cells_at0 HY7.out j).trans hj)) ?_)
          | (go_at_call 227; refine (ckop_any g dp mi x W7 (HKR.out.keep HBR7.out) HO.out.2.1 hd hmi HMI.out HX.out (HGR.out.next HBR7.out)).mono ?_; rintro e W8 ⟨hb8, rfl, hk8⟩
             rw [HOX.out]
             have HB8 := Lib.hid (HBR.out.trans ((below_g (Nat.le_of_lt HKR.out.lt) HBR7.out).trans hb8))
             clear hb8 hk8))
        go_ret
        exact ⟨HT4.out.trans (HB8.out.mono hlg), by rw [HE2.out]; rfl⟩
    · have HE2 : Hid (changeB (n, dp, a, os) = true) := Lib.hid (by rw [HE.out, ← HOI.out, List.take_of_length_le (by omega)])
      go_wp2_with fail
      go_ret
      exact ⟨HT4.out.trans (HBR.out.mono hlg), by rw [HE2.out]; rfl⟩
end Go.Proofs.YtdgbjhfkmembdaaGreatDoor
