/-
  What the document's Moves gives: the script of least cost. Conditions: rows of at most 4096 numbers.
-/
import Derived.Test.YthjaepmfkgejkaaDoorRefCostsW23
import Derived.Test.YthjaepmfkgejkaaDoorMoves23
namespace Go.Proofs.YthjaepmfkgejkaaDoor
open Go.RowKit Go.Maps Go.Shelf
set_option linter.unusedVariables false
set_option linter.unusedSimpArgs false

theorem Tab.row {w : World} {base O : Nat} {a b : List Int} (h : Tab w base O a b 0) (k : Nat) (hk : k ≤ a.length) : ∃ R, w.cell? ⟨O, k, none⟩ = some (.slice (some ⟨R, 0, none⟩) (b.length + 1) (b.length + 1)) ∧ R < w.heap.size ∧ O < w.heap.size ∧ ∀ j, j ≤ b.length → w.cell? ⟨R, j, none⟩ = some (.int .i64 (C a b k j : Int)) := by
  obtain ⟨_, outs, G, g1, g2, g3⟩ := h
  obtain ⟨q1, q2, q3, q4⟩ := g3 k (Nat.zero_le _) hk
  exact ⟨G k, (cells_box g2 _).trans q1, (Array.getElem?_eq_some_iff.1 q4).1, (Array.getElem?_eq_some_iff.1 g2).1, fun j hj => (cells_box q4 j).trans (rowC_get a b _ j hj)⟩
theorem u8V_one (l : List Nat) (x : Nat) : u8V (l ++ [x]) = u8V l ++ [.int .u8 (x : Int)] := by simp [u8V]
theorem mvAll (a b : List Int) : mv a b 0 0 = movesS a b := by simp [mv]
/-- The script so far. -/
def MvAt (a b : List Int) (w1 : World) (i j : Nat) (v : Value) (pre : List Nat) (wr : World) : Prop := movesS a b = pre ++ mv a b i j ∧ wr.ownsRow w1.heap.size 5 1 v pre.length (u8V pre) ∧ Below w1.heap.size w1 wr ∧ pre.length ≤ i + j
set_option maxHeartbeats 16000000 in
set_option maxRecDepth 100000 in
theorem refMoves_any (a b : List Int) (A A' : Option Addr) (ca cb : Nat) (w : World) (hsa : Sl w w.heap.size A a.length 1 (i32V a)) (hsb : Sl w w.heap.size A' b.length 1 (i32V b)) (hn : a.length ≤ 4096) (hm : b.length ≤ 4096) :
    Calls Tryd.prog 78 #[.slice A a.length ca, .slice A' b.length cb] w (MovesGive a b w) := by
  have n1 : ¬ (4096 : Int) < (a.length : Int) := by omega
  have n2 : ¬ (4096 : Int) < (b.length : Int) := by omega
  have hco := refCosts_any a b A A' ca cb w hsa hsb hn hm
  have HSA := Lib.hid hsa; have HSB := Lib.hid hsb; have HCO := Lib.hid hco
  clear hsa hsb hco
  go_enter Tryd.func78, Tryd.ntmps78
  go_wp2_with (go_at_call 116; refine HCO.out.mono ?_; rintro e w1 ⟨hb1, O, rfl, ht⟩)
  have HB1 := Lib.hid hb1; have HT := Lib.hid ht
  have HSA1 := Lib.hid ((HSA.out.keep hb1).more hb1.size)
  have HSB1 := Lib.hid ((HSB.out.keep hb1).more hb1.size)
  clear hb1 ht n1 n2 HCO HSA HSB
  go_loopw [7, 8, 9] (fun t7 t8 t9 wr => ∃ (i j : Nat) (pre : List Nat), i ≤ a.length ∧ j ≤ b.length ∧ t8 = .int .i64 (i : Int) ∧ t9 = .int .i64 (j : Int) ∧ Hid (MvAt a b w1 i j t7 pre wr)) (fun _ t8 t9 _ => (a.length - (intOf t8).toNat) + (b.length - (intOf t9).toNat))
  case atStart => exact ⟨0, 0, [], Nat.zero_le _, Nat.zero_le _, rfl, rfl, Lib.hid ⟨by rw [mvAll]; rfl, World.ownsRow_nil _ _ _ _, Below.refl _ _, Nat.zero_le _⟩⟩
  case round =>
    obtain ⟨i, j, pre, hi, hj, rfl, rfl, HC⟩ := hrel
    have hpl : pre.length ≤ i + j := HC.out.2.2.2
    obtain ⟨tA, tc, htv⟩ := own_shape23 HC.out.2.1
    subst htv
    obtain ⟨tv, htv⟩ : ∃ tv, Value.slice tA pre.length tc = tv := ⟨_, rfl⟩
    rw [htv] at HC ⊢
    clear htv
    have i0 : (0 : Int) ≤ (i : Int) := by omega
    have j0 : (0 : Int) ≤ (j : Int) := by omega
    have HBR := Lib.hid HC.out.2.2.1
    by_cases hil : i < a.length
    · have i1 : (i : Int) < (a.length : Int) := by omega
      have i2 : decide ((i : Int) < (a.length : Int)) = true := decide_eq_true i1
      have i3 : decide (i < a.length) = true := decide_eq_true hil
      obtain ⟨ba, oa, rfl, hba, hca⟩ := (HSA1.out.keep HBR.out).2 (by omega)
      have ca1 := hca i (.int .i32 a[i]) (by simp [i32V, hil])
      have CA := Wg.cell ca1 (Nat.lt_of_lt_of_le hba HBR.out.size)
      by_cases hjl : j < b.length
      · have j1 : (j : Int) < (b.length : Int) := by omega
        have j2 : decide ((j : Int) < (b.length : Int)) = true := decide_eq_true j1
        have j3 : decide (j < b.length) = true := decide_eq_true hjl
        have j4 : ((j : Int) == (b.length : Int)) = false := by rw [beq_eq_false_iff_ne]; omega
        obtain ⟨bb, ob, rfl, hbb, hcb⟩ := (HSB1.out.keep HBR.out).2 (by omega)
        have cb1 := hcb j (.int .i32 b[j]) (by simp [i32V, hjl])
        have CB := Wg.cell cb1 (Nat.lt_of_lt_of_le hbb HBR.out.size)
        have HME : Hid (a[i] = b[j] → mv a b i j = 1 :: mv a b (i + 1) (j + 1)) := Lib.hid fun h => (mv_keep hil hjl h).1
        have HMD : Hid (a[i] ≠ b[j] → C a b (i + 1) j ≤ C a b i (j + 1) → mv a b i j = 2 :: mv a b (i + 1) j) := Lib.hid fun h hle => (mv_drop hil hj (by rw [List.getElem?_eq_getElem hil, List.getElem?_eq_getElem hjl]; exact fun e => h (Option.some.inj e)) (.inr hle)).1
        have HMA : Hid (a[i] ≠ b[j] → ¬ C a b (i + 1) j ≤ C a b i (j + 1) → mv a b i j = 3 :: mv a b i (j + 1)) := Lib.hid fun h hle => (mv_add hi hjl (by rw [List.getElem?_eq_getElem hil, List.getElem?_eq_getElem hjl]; exact fun e => h (Option.some.inj e)) (.inr hle)).1
        generalize a[i] = va at *
        generalize b[j] = vb at *
        clear hca hcb ca1 cb1
        go_upto_region 7 with fail
        by_cases hab : va = vb
        · subst hab
          have kv : (va == va) = true := beq_self_eq_true _
          have HMV := Lib.hid (HME.out rfl)
          refine wp_region_wr (by kernel_rfl) (by kernel_rfl) ?_
          repeat (first
            | go_big_quiet_skip
            | (go_big_quiet_want
               first
                 | (go_big_quiet_op
                    first
                      | go_big_quiet_on
                      | go_big_quiet_call (first | (fail)))))
          refine wpQuiet_nil ?_
          rintro w' ⟨kk, rfl⟩
          have hk10 := kk.2
          generalize kk.val = w10 at *
          clear kk
          have HC8 : Hid (MvAt a b w1 i j tv pre w10) := Lib.hid ⟨HC.out.1, own_kept HC.out.2.1 hk10.below, HC.out.2.2.1.trans (hk10.below.mono HC.out.2.2.1.size), HC.out.2.2.2⟩
          have hbz8 : w1.heap.size ≤ w10.heap.size := HC8.out.2.2.1.size
          clear CA CB kv i2 i3 j2 j3 j4
          go_wp2_with (at_builtin; refine wp_app1 rfl _ _ 30 rfl w1.heap.size 5 (.int .u8 0) 1 Tryd.underlying30 u8Info rfl _ pre.length _ rfl HC8.out.2.1 (.int .u8 (1 : Int)) 5 rfl rfl (by unfold maxLen; omega) (by omega) hbz8 ?_; intro t8' w9 hown9 hb9)
          go_roundw
          case rel => exact ⟨i + 1, j + 1, pre ++ [1], by omega, by omega, by first | rfl | go_num, by first | rfl | go_num, Lib.hid ⟨by rw [List.append_assoc, HC.out.1]; exact congrArg _ HMV.out, by rw [u8V_one, List.length_append, List.length_singleton]; exact hown9, hb9 _ _ (Nat.le_refl _) HC8.out.2.2.1, by rw [List.length_append, List.length_singleton]; omega⟩⟩
          case measure => (simp [intOf]) <;> omega
        · have kv : (va == vb) = false := by rw [beq_eq_false_iff_ne]; exact hab
          refine wp_region_wr (by kernel_rfl) (by kernel_rfl) ?_
          repeat (first
            | go_big_quiet_skip
            | (go_big_quiet_want
               first
                 | (go_big_quiet_op
                    first
                      | go_big_quiet_on
                      | go_big_quiet_call (first | (fail)))))
          refine wpQuiet_nil ?_
          rintro w' ⟨kk, rfl⟩
          have hk10 := kk.2
          generalize kk.val = w10 at *
          clear kk
          have HC8 : Hid (MvAt a b w1 i j tv pre w10) := Lib.hid ⟨HC.out.1, own_kept HC.out.2.1 hk10.below, HC.out.2.2.1.trans (hk10.below.mono HC.out.2.2.1.size), HC.out.2.2.2⟩
          have hbz8 : w1.heap.size ≤ w10.heap.size := HC8.out.2.2.1.size
          obtain ⟨R1, r1, r2, hOz, r3⟩ := HT.out.row (i + 1) (by omega)
          obtain ⟨R0, s1, s2, _, s3⟩ := HT.out.row i (by omega)
          have hb8 : Below w1.heap.size w1 w10 := HC8.out.2.2.1
          have F1 := Wg.cell ((hb8.cell (p := ⟨O, i + 1, none⟩) hOz).trans r1) (by omega)
          have F2 := Wg.cell ((hb8.cell (p := ⟨O, i, none⟩) hOz).trans s1) (by omega)
          have F3 := Wg.cell ((hb8.cell (p := ⟨R1, j, none⟩) r2).trans (r3 j (by omega))) (by omega)
          have F4 := Wg.cell ((hb8.cell (p := ⟨R0, j + 1, none⟩) s2).trans (s3 (j + 1) (by omega))) (by omega)
          have HMD2 := Lib.hid (HMD.out hab); have HMA2 := Lib.hid (HMA.out hab)
          generalize (C a b (i + 1) j : Nat) = p1 at *
          generalize (C a b i (j + 1) : Nat) = p2 at *
          have i4 : (i : Int) + 1 < (a.length : Int) + 1 := by omega
          have i5 : (0 : Int) ≤ (i : Int) + 1 := by omega
          have i6 : (i : Int) < (a.length : Int) + 1 := by omega
          have j5 : (j : Int) + 1 < (b.length : Int) + 1 := by omega
          have j6 : (0 : Int) ≤ (j : Int) + 1 := by omega
          have j7 : (j : Int) < (b.length : Int) + 1 := by omega
          clear CA CB kv r1 r3 s1 s3 hab hb8
          go_upto_region 11 with fail
          by_cases hle : p1 ≤ p2
          · have q1 : (p1 : Int) ≤ (p2 : Int) := by omega
            have q2 : decide ((p1 : Int) ≤ (p2 : Int)) = true := decide_eq_true q1
            have q3 : decide (p1 ≤ p2) = true := decide_eq_true hle
            have HMV := Lib.hid (HMD2.out hle)
            have HC0 := HC
            clear HC
            have HC := HC8
            clear HC8 hbz8
            refine wp_region_wr (by kernel_rfl) (by kernel_rfl) ?_
            repeat (first
              | go_big_quiet_skip
              | (go_big_quiet_want
                 first
                   | (go_big_quiet_op
                      first
                        | go_big_quiet_on
                        | go_big_quiet_call (first | (fail)))))
            refine wpQuiet_nil ?_
            rintro w' ⟨kk, rfl⟩
            have hk11 := kk.2
            generalize kk.val = w11 at *
            clear kk
            have HC8 : Hid (MvAt a b w1 i j tv pre w11) := Lib.hid ⟨HC.out.1, own_kept HC.out.2.1 hk11.below, HC.out.2.2.1.trans (hk11.below.mono HC.out.2.2.1.size), HC.out.2.2.2⟩
            have hbz8 : w1.heap.size ≤ w11.heap.size := HC8.out.2.2.1.size
            clear F1 F2 F3 F4 q1 q2 q3 hle i2 i3 j2 j3 j4
            go_wp2_with (at_builtin; refine wp_app1 rfl _ _ 30 rfl w1.heap.size 5 (.int .u8 0) 1 Tryd.underlying30 u8Info rfl _ pre.length _ rfl HC8.out.2.1 (.int .u8 (2 : Int)) 5 rfl rfl (by unfold maxLen; omega) (by omega) hbz8 ?_; intro t8' w9 hown9 hb9)
            go_roundw
            case rel => exact ⟨i + 1, j, pre ++ [2], by omega, by omega, by first | rfl | go_num, by first | rfl | go_num, Lib.hid ⟨by rw [List.append_assoc, HC.out.1]; exact congrArg _ HMV.out, by rw [u8V_one, List.length_append, List.length_singleton]; exact hown9, hb9 _ _ (Nat.le_refl _) HC8.out.2.2.1, by rw [List.length_append, List.length_singleton]; omega⟩⟩
            case measure => (simp [intOf]) <;> omega
          · have q1 : ¬ (p1 : Int) ≤ (p2 : Int) := by omega
            have q2 : decide ((p1 : Int) ≤ (p2 : Int)) = false := decide_eq_false q1
            have q3 : decide (p1 ≤ p2) = false := decide_eq_false hle
            have HMV := Lib.hid (HMA2.out hle)
            have HC0 := HC
            clear HC
            have HC := HC8
            clear HC8 hbz8
            refine wp_region_wr (by kernel_rfl) (by kernel_rfl) ?_
            repeat (first
              | go_big_quiet_skip
              | (go_big_quiet_want
                 first
                   | (go_big_quiet_op
                      first
                        | go_big_quiet_on
                        | go_big_quiet_call (first | (fail)))))
            refine wpQuiet_nil ?_
            rintro w' ⟨kk, rfl⟩
            have hk11 := kk.2
            generalize kk.val = w11 at *
            clear kk
            have HC8 : Hid (MvAt a b w1 i j tv pre w11) := Lib.hid ⟨HC.out.1, own_kept HC.out.2.1 hk11.below, HC.out.2.2.1.trans (hk11.below.mono HC.out.2.2.1.size), HC.out.2.2.2⟩
            have hbz8 : w1.heap.size ≤ w11.heap.size := HC8.out.2.2.1.size
            clear F1 F2 F3 F4 q1 q2 q3 hle i2 i3 j2 j3 j4
            go_wp2_with (at_builtin; refine wp_app1 rfl _ _ 30 rfl w1.heap.size 5 (.int .u8 0) 1 Tryd.underlying30 u8Info rfl _ pre.length _ rfl HC8.out.2.1 (.int .u8 (3 : Int)) 5 rfl rfl (by unfold maxLen; omega) (by omega) hbz8 ?_; intro t8' w9 hown9 hb9)
            go_roundw
            case rel => exact ⟨i, j + 1, pre ++ [3], by omega, by omega, by first | rfl | go_num, by first | rfl | go_num, Lib.hid ⟨by rw [List.append_assoc, HC.out.1]; exact congrArg _ HMV.out, by rw [u8V_one, List.length_append, List.length_singleton]; exact hown9, hb9 _ _ (Nat.le_refl _) HC8.out.2.2.1, by rw [List.length_append, List.length_singleton]; omega⟩⟩
            case measure => (simp [intOf]) <;> omega
      · have hje : j = b.length := by omega
        have j1 : ¬ (j : Int) < (b.length : Int) := by omega
        have j2 : decide ((j : Int) < (b.length : Int)) = false := decide_eq_false j1
        have j3 : decide (j < b.length) = false := decide_eq_false hjl
        have j4 : ((j : Int) == (b.length : Int)) = true := by rw [hje]; exact beq_self_eq_true _
        have HMV := Lib.hid (mv_drop hil hj (by rw [List.getElem?_eq_getElem hil, List.getElem?_eq_none (by omega)]; simp) (.inl hje)).1
        clear hje hca ca1
        go_upto_region 7 with fail
        refine wp_region_wr (by kernel_rfl) (by kernel_rfl) ?_
        repeat (first
          | go_big_quiet_skip
          | (go_big_quiet_want
             first
               | (go_big_quiet_op
                  first
                    | go_big_quiet_on
                    | go_big_quiet_call (first | (fail)))))
        refine wpQuiet_nil ?_
        rintro w' ⟨kk, rfl⟩
        have hk10 := kk.2
        generalize kk.val = w10 at *
        clear kk
        have HC8 : Hid (MvAt a b w1 i j tv pre w10) := Lib.hid ⟨HC.out.1, own_kept HC.out.2.1 hk10.below, HC.out.2.2.1.trans (hk10.below.mono HC.out.2.2.1.size), HC.out.2.2.2⟩
        have hbz8 : w1.heap.size ≤ w10.heap.size := HC8.out.2.2.1.size
        clear CA
        go_upto_region 11 with fail
        have HC0 := HC
        clear HC
        have HC := HC8
        clear HC8 hbz8
        refine wp_region_wr (by kernel_rfl) (by kernel_rfl) ?_
        repeat (first
          | go_big_quiet_skip
          | (go_big_quiet_want
             first
               | (go_big_quiet_op
                  first
                    | go_big_quiet_on
                    | go_big_quiet_call (first | (fail)))))
        refine wpQuiet_nil ?_
        rintro w' ⟨kk, rfl⟩
        have hk11 := kk.2
        generalize kk.val = w11 at *
        clear kk
        have HC8 : Hid (MvAt a b w1 i j tv pre w11) := Lib.hid ⟨HC.out.1, own_kept HC.out.2.1 hk11.below, HC.out.2.2.1.trans (hk11.below.mono HC.out.2.2.1.size), HC.out.2.2.2⟩
        have hbz8 : w1.heap.size ≤ w11.heap.size := HC8.out.2.2.1.size
        clear i2 i3 j2 j3 j4
        go_wp2_with (at_builtin; refine wp_app1 rfl _ _ 30 rfl w1.heap.size 5 (.int .u8 0) 1 Tryd.underlying30 u8Info rfl _ pre.length _ rfl HC8.out.2.1 (.int .u8 (2 : Int)) 5 rfl rfl (by unfold maxLen; omega) (by omega) hbz8 ?_; intro t8' w9 hown9 hb9)
        go_roundw
        case rel => exact ⟨i + 1, j, pre ++ [2], by omega, by omega, by first | rfl | go_num, by first | rfl | go_num, Lib.hid ⟨by rw [List.append_assoc, HC.out.1]; exact congrArg _ HMV.out, by rw [u8V_one, List.length_append, List.length_singleton]; exact hown9, hb9 _ _ (Nat.le_refl _) HC8.out.2.2.1, by rw [List.length_append, List.length_singleton]; omega⟩⟩
        case measure => (simp [intOf]) <;> omega
    · have hie : i = a.length := by omega
      have i1 : ¬ (i : Int) < (a.length : Int) := by omega
      have i2 : decide ((i : Int) < (a.length : Int)) = false := decide_eq_false i1
      have i3 : decide (i < a.length) = false := decide_eq_false hil
      by_cases hjl : j < b.length
      · have j1 : (j : Int) < (b.length : Int) := by omega
        have j2 : decide ((j : Int) < (b.length : Int)) = true := decide_eq_true j1
        have j3 : decide (j < b.length) = true := decide_eq_true hjl
        have j4 : ((j : Int) == (b.length : Int)) = false := by rw [beq_eq_false_iff_ne]; omega
        have HMV := Lib.hid (mv_add hi hjl (by rw [List.getElem?_eq_none (by omega), List.getElem?_eq_getElem hjl]; simp) (.inl hie)).1
        clear hie
        go_upto_region 7 with fail
        refine wp_region_wr (by kernel_rfl) (by kernel_rfl) ?_
        repeat (first
          | go_big_quiet_skip
          | (go_big_quiet_want
             first
               | (go_big_quiet_op
                  first
                    | go_big_quiet_on
                    | go_big_quiet_call (first | (fail)))))
        refine wpQuiet_nil ?_
        rintro w' ⟨kk, rfl⟩
        have hk10 := kk.2
        generalize kk.val = w10 at *
        clear kk
        have HC8 : Hid (MvAt a b w1 i j tv pre w10) := Lib.hid ⟨HC.out.1, own_kept HC.out.2.1 hk10.below, HC.out.2.2.1.trans (hk10.below.mono HC.out.2.2.1.size), HC.out.2.2.2⟩
        have hbz8 : w1.heap.size ≤ w10.heap.size := HC8.out.2.2.1.size
        go_upto_region 11 with fail
        have HC0 := HC
        clear HC
        have HC := HC8
        clear HC8 hbz8
        refine wp_region_wr (by kernel_rfl) (by kernel_rfl) ?_
        repeat (first
          | go_big_quiet_skip
          | (go_big_quiet_want
             first
               | (go_big_quiet_op
                  first
                    | go_big_quiet_on
                    | go_big_quiet_call (first | (fail)))))
        refine wpQuiet_nil ?_
        rintro w' ⟨kk, rfl⟩
        have hk11 := kk.2
        generalize kk.val = w11 at *
        clear kk
        have HC8 : Hid (MvAt a b w1 i j tv pre w11) := Lib.hid ⟨HC.out.1, own_kept HC.out.2.1 hk11.below, HC.out.2.2.1.trans (hk11.below.mono HC.out.2.2.1.size), HC.out.2.2.2⟩
        have hbz8 : w1.heap.size ≤ w11.heap.size := HC8.out.2.2.1.size
        clear i2 i3 j2 j3 j4
        go_wp2_with (at_builtin; refine wp_app1 rfl _ _ 30 rfl w1.heap.size 5 (.int .u8 0) 1 Tryd.underlying30 u8Info rfl _ pre.length _ rfl HC8.out.2.1 (.int .u8 (3 : Int)) 5 rfl rfl (by unfold maxLen; omega) (by omega) hbz8 ?_; intro t8' w9 hown9 hb9)
        go_roundw
        case rel => exact ⟨i, j + 1, pre ++ [3], by omega, by omega, by first | rfl | go_num, by first | rfl | go_num, Lib.hid ⟨by rw [List.append_assoc, HC.out.1]; exact congrArg _ HMV.out, by rw [u8V_one, List.length_append, List.length_singleton]; exact hown9, hb9 _ _ (Nat.le_refl _) HC8.out.2.2.1, by rw [List.length_append, List.length_singleton]; omega⟩⟩
        case measure => (simp [intOf]) <;> omega
      · have hje : j = b.length := by omega
        have j1 : ¬ (j : Int) < (b.length : Int) := by omega
        have HEND : Hid (movesS a b = pre) := Lib.hid (by rw [HC.out.1, (mv_end hie hje).1, List.append_nil])
        have HOW := Lib.hid HC.out.2.1
        obtain ⟨A9, c9, rfl⟩ := own_shape23 HC.out.2.1
        clear hie hje hil hjl i2 i3
        go_wp2_with fail
        go_ret2
        refine ⟨HB1.out.trans (HBR.out.mono HB1.out.size), A9, c9, ?_, ?_⟩
        · rw [HEND.out]; rfl
        · have h := Sl.of_own HOW.out
          rw [← HEND.out] at h
          exact h
end Go.Proofs.YthjaepmfkgejkaaDoor
