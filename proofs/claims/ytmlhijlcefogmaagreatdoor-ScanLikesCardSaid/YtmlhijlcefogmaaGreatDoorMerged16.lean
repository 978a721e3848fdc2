/-
  What the document's Moves gives: the script of least cost. Conditions: rows of at most 4096 numbers.
  Steps of a region taken by hand, in fewer words. Conditions: none.
  Where a walk stands: at an operation of a kind. Each law gives back its goal; taken 'with_reducible' it serves as a test ahead of a law that is dear where it does not fit. Over any program.
  Stores into a part of a block, the block named by its cells; a new variable's block; results that lie in blocks. Over any program; conditions as each says.
-/
import Derived.Test.YtmlhijlcefogmaaGreatDoorMerged15
import Derived.Test.YtmlhijlcefogmaaGreatDoorMoves23
import Derived.Shelf.Abstract
import Derived.Test.YtmlhijlcefogmaaGreatDoorMerged12
import Derived.Test.YtmlhijlcefogmaaGreatDoorMerged2
import Derived.Test.YtmlhijlcefogmaaGreatDoorMerged14
import Derived.Test.YtmlhijlcefogmaaGreatDoorMerged8
import Derived.Test.YtmlhijlcefogmaaGreatDoorMerged11
import Derived.Deep.MidRow
set_option linter.unusedVariables false
set_option linter.unusedSimpArgs false
set_option maxHeartbeats 4000000
set_option maxRecDepth 100000
namespace Go.Proofs.YtmlhijlcefogmaaGreatDoor
open Go.RowKit Go.Maps Go.Shelf

theorem Tab.row {w : World} {base O : Nat} {a b : List Int} (h : Tab w base O a b 0) (k : Nat) (hk : k ≤ a.length) : ∃ R, w.cell? ⟨O, k, none⟩ = some (.slice (some ⟨R, 0, none⟩) (b.length + 1) (b.length + 1)) ∧ R < w.heap.size ∧ O < w.heap.size ∧ ∀ j, j ≤ b.length → w.cell? ⟨R, j, none⟩ = some (.int .i64 (C a b k j : Int)) := by
  obtain ⟨_, outs, G, g1, g2, g3⟩ := h
  obtain ⟨q1, q2, q3, q4⟩ := g3 k (Nat.zero_le _) hk
  exact ⟨G k, (cells_box g2 _).trans q1, (Array.getElem?_eq_some_iff.1 q4).1, (Array.getElem?_eq_some_iff.1 g2).1, fun j hj => (cells_box q4 j).trans (rowC_get a b _ j hj)⟩
theorem u8V_one (l : List Nat) (x : Nat) : u8V (l ++ [x]) = u8V l ++ [.int .u8 (x : Int)] := by simp [u8V]
theorem mvAll (a b : List Int) : mv a b 0 0 = movesS a b := by simp [mv]
/-- The script so far. -/
def MvAt (a b : List Int) (w1 : World) (i j : Nat) (v : Value) (pre : List Nat) (wr : World) : Prop := movesS a b = pre ++ mv a b i j ∧ wr.ownsRow w1.heap.size 5 1 v pre.length (u8V pre) ∧ Below w1.heap.size w1 wr ∧ pre.length ≤ i + j
theorem refMoves_any (a b : List Int) (A A' : Option Addr) (ca cb : Nat) (w : World) (hsa : Sl w w.heap.size A a.length 1 (i32V a)) (hsb : Sl w w.heap.size A' b.length 1 (i32V b)) (hn : a.length ≤ 4096) (hm : b.length ≤ 4096) :
    Calls Tryz.prog 31 #[.slice A a.length ca, .slice A' b.length cb] w (MovesGive a b w) := by
  have n1 : ¬ (4096 : Int) < (a.length : Int) := by omega
  have n2 : ¬ (4096 : Int) < (b.length : Int) := by omega
  have hco := refCosts_any a b A A' ca cb w hsa hsb hn hm
  have HSA := Lib.hid hsa; have HSB := Lib.hid hsb; have HCO := Lib.hid hco
  clear hsa hsb hco
  go_enter Tryz.func31, Tryz.ntmps31
  go_wp2_with (go_at_call 54; refine HCO.out.mono ?_; rintro e w1 ⟨hb1, O, rfl, ht⟩)
  have HB1 := Lib.hid hb1; have HT := Lib.hid ht
  have HSA1 := Lib.hid ((HSA.out.keep hb1).more hb1.size)
  have HSB1 := Lib.hid ((HSB.out.keep hb1).more hb1.size)
  clear hb1 ht n1 n2 HCO HSA HSB
  go_loopw [7, 8, 9] (fun t7 t8 t9 wr => ∃ (i j : Nat) (pre : List Nat), i ≤ a.length ∧ j ≤ b.length ∧ t8 = .int .i64 (i : Int) ∧ t9 = .int .i64 (j : Int) ∧ Hid (MvAt a b w1 i j t7 pre wr)) (fun _ t8 t9 _ => (a.length - (intOf t8).toNat) + (b.length - (intOf t9).toNat))
  case atStart => exact ⟨0, 0, [], Nat.zero_le _, Nat.zero_le _, rfl, rfl, Lib.hid ⟨by rw [mvAll]; rfl, World.ownsRow_nil _ _ _ _, Below.refl _ _, Nat.zero_le _⟩⟩
  case round =>
    obtain ⟨i, j, pre, hi, hj, rfl, rfl, HC⟩ := hrel
    have hpl : pre.length ≤ i + j := HC.out.2.2.2
    obtain ⟨tA, tc, htv⟩ := own_shape23 HC.out.2.1
    subst htv
    obtain ⟨tv, htv⟩ : ∃ tv, Value.slice tA pre.length tc = tv := ⟨_, rfl⟩
    rw [htv] at HC ⊢
    clear htv
    have i0 : (0 : Int) ≤ (i : Int) := by omega
    have j0 : (0 : Int) ≤ (j : Int) := by omega
    have HBR := Lib.hid HC.out.2.2.1
    by_cases hil : i < a.length
    · have i1 : (i : Int) < (a.length : Int) := by omega
      have i2 : decide ((i : Int) < (a.length : Int)) = true := decide_eq_true i1
      have i3 : decide (i < a.length) = true := decide_eq_true hil
      obtain ⟨ba, oa, rfl, hba, hca⟩ := (HSA1.out.keep HBR.out).2 (by omega)
      have ca1 := hca i (.int .i32 a[i]) (by simp [i32V, hil])
      have CA := Wg.cell ca1 (Nat.lt_of_lt_of_le hba HBR.out.size)
      by_cases hjl : j < b.length
      · have j1 : (j : Int) < (b.length : Int) := by omega
        have j2 : decide ((j : Int) < (b.length : Int)) = true := decide_eq_true j1
        have j3 : decide (j < b.length) = true := decide_eq_true hjl
        have j4 : ((j : Int) == (b.length : Int)) = false := by rw [beq_eq_false_iff_ne]; omega
        obtain ⟨bb, ob, rfl, hbb, hcb⟩ := (HSB1.out.keep HBR.out).2 (by omega)
        have cb1 := hcb j (.int .i32 b[j]) (by simp [i32V, hjl])
        have CB := Wg.cell cb1 (Nat.lt_of_lt_of_le hbb HBR.out.size)
        have HME : Hid (a[i] = b[j] → mv a b i j = 1 :: mv a b (i + 1) (j + 1)) := Lib.hid fun h => (mv_keep hil hjl h).1
        have HMD : Hid (a[i] ≠ b[j] → C a b (i + 1) j ≤ C a b i (j + 1) → mv a b i j = 2 :: mv a b (i + 1) j) := Lib.hid fun h hle => (mv_drop hil hj (by rw [List.getElem?_eq_getElem hil, List.getElem?_eq_getElem hjl]; exact fun e => h (Option.some.inj e)) (.inr hle)).1
        have HMA : Hid (a[i] ≠ b[j] → ¬ C a b (i + 1) j ≤ C a b i (j + 1) → mv a b i j = 3 :: mv a b i (j + 1)) := Lib.hid fun h hle => (mv_add hi hjl (by rw [List.getElem?_eq_getElem hil, List.getElem?_eq_getElem hjl]; exact fun e => h (Option.some.inj e)) (.inr hle)).1
        generalize a[i] = va at *
        generalize b[j] = vb at *
        clear hca hcb ca1 cb1
        go_upto_region 7 with fail
        by_cases hab : va = vb
        · subst hab
          have kv : (va == va) = true := beq_self_eq_true _
          have HMV := Lib.hid (HME.out rfl)
          refine wp_region_wr (by kernel_rfl) (by kernel_rfl) ?_
          repeat (first
            | go_big_quiet_skip
            | (go_big_quiet_want
               first
                 | (go_big_quiet_op
                    first
                      | go_big_quiet_on
                      | go_big_quiet_call (first | (fail)))))
          refine wpQuiet_nil ?_
          rintro w' ⟨kk, rfl⟩
          have hk10 := kk.2
          generalize kk.val = w10 at *
          clear kk
          have HC8 : Hid (MvAt a b w1 i j tv pre w10) := Lib.hid ⟨HC.out.1, own_kept HC.out.2.1 hk10.below, HC.out.2.2.1.trans (hk10.below.mono HC.out.2.2.1.size), HC.out.2.2.2⟩
          have hbz8 : w1.heap.size ≤ w10.heap.size := HC8.out.2.2.1.size
          clear CA CB kv i2 i3 j2 j3 j4
          go_wp2_with (at_builtin; refine wp_app1 rfl _ _ 78 rfl w1.heap.size 5 (.int .u8 0) 1 Tryz.underlying78 u8Info rfl _ pre.length _ rfl HC8.out.2.1 (.int .u8 (1 : Int)) 5 rfl rfl (by unfold maxLen; omega) (by omega) hbz8 ?_; intro t8' w9 hown9 hb9)
          go_roundw
          case rel => exact ⟨i + 1, j + 1, pre ++ [1], by omega, by omega, by first | rfl | go_num, by first | rfl | go_num, Lib.hid ⟨by rw [List.append_assoc, HC.out.1]; exact congrArg _ HMV.out, by rw [u8V_one, List.length_append, List.length_singleton]; exact hown9, hb9 _ _ (Nat.le_refl _) HC8.out.2.2.1, by rw [List.length_append, List.length_singleton]; omega⟩⟩
          case measure => (simp [intOf]) <;> omega
        · have kv : (va == vb) = false := by rw [beq_eq_false_iff_ne]; exact hab
          refine wp_region_wr (by kernel_rfl) (by kernel_rfl) ?_
          repeat (first
            | go_big_quiet_skip
            | (go_big_quiet_want
               first
                 | (go_big_quiet_op
                    first
                      | go_big_quiet_on
                      | go_big_quiet_call (first | (fail)))))
          refine wpQuiet_nil ?_
          rintro w' ⟨kk, rfl⟩
          have hk10 := kk.2
          generalize kk.val = w10 at *
          clear kk
          have HC8 : Hid (MvAt a b w1 i j tv pre w10) := Lib.hid ⟨HC.out.1, own_kept HC.out.2.1 hk10.below, HC.out.2.2.1.trans (hk10.below.mono HC.out.2.2.1.size), HC.out.2.2.2⟩
          have hbz8 : w1.heap.size ≤ w10.heap.size := HC8.out.2.2.1.size
          obtain ⟨R1, r1, r2, hOz, r3⟩ := HT.out.row (i + 1) (by omega)
          obtain ⟨R0, s1, s2, _, s3⟩ := HT.out.row i (by omega)
          have hb8 : Below w1.heap.size w1 w10 := HC8.out.2.2.1
          have F1 := Wg.cell ((hb8.cell (p := ⟨O, i + 1, none⟩) hOz).trans r1) (by omega)
          have F2 := Wg.cell ((hb8.cell (p := ⟨O, i, none⟩) hOz).trans s1) (by omega)
          have F3 := Wg.cell ((hb8.cell (p := ⟨R1, j, none⟩) r2).trans (r3 j (by omega))) (by omega)
          have F4 := Wg.cell ((hb8.cell (p := ⟨R0, j + 1, none⟩) s2).trans (s3 (j + 1) (by omega))) (by omega)
          have HMD2 := Lib.hid (HMD.out hab); have HMA2 := Lib.hid (HMA.out hab)
          generalize (C a b (i + 1) j : Nat) = p1 at *
          generalize (C a b i (j + 1) : Nat) = p2 at *
          have i4 : (i : Int) + 1 < (a.length : Int) + 1 := by omega
          have i5 : (0 : Int) ≤ (i : Int) + 1 := by omega
          have i6 : (i : Int) < (a.length : Int) + 1 := by omega
          have j5 : (j : Int) + 1 < (b.length : Int) + 1 := by omega
          have j6 : (0 : Int) ≤ (j : Int) + 1 := by omega
          have j7 : (j : Int) < (b.length : Int) + 1 := by omega
          clear CA CB kv r1 r3 s1 s3 hab hb8
          go_upto_region 11 with fail
          by_cases hle : p1 ≤ p2
          · have q1 : (p1 : Int) ≤ (p2 : Int) := by omega
            have q2 : decide ((p1 : Int) ≤ (p2 : Int)) = true := decide_eq_true q1
            have q3 : decide (p1 ≤ p2) = true := decide_eq_true hle
            have HMV := Lib.hid (HMD2.out hle)
            have HC0 := HC
            clear HC
            have HC := HC8
            clear HC8 hbz8
            refine wp_region_wr (by kernel_rfl) (by kernel_rfl) ?_
            repeat (first
              | go_big_quiet_skip
              | (go_big_quiet_want
                 first
                   | (go_big_quiet_op
                      first
                        | go_big_quiet_on
                        | go_big_quiet_call (first | (fail)))))
            refine wpQuiet_nil ?_
            rintro w' ⟨kk, rfl⟩
            have hk11 := kk.2
            generalize kk.val = w11 at *
            clear kk
            have HC8 : Hid (MvAt a b w1 i j tv pre w11) := Lib.hid ⟨HC.out.1, own_kept HC.out.2.1 hk11.below, HC.out.2.2.1.trans (hk11.below.mono HC.out.2.2.1.size), HC.out.2.2.2⟩
            have hbz8 : w1.heap.size ≤ w11.heap.size := HC8.out.2.2.1.size
            clear F1 F2 F3 F4 q1 q2 q3 hle i2 i3 j2 j3 j4
            go_wp2_with (at_builtin; refine wp_app1 rfl _ _ 78 rfl w1.heap.size 5 (.int .u8 0) 1 Tryz.underlying78 u8Info rfl _ pre.length _ rfl HC8.out.2.1 (.int .u8 (2 : Int)) 5 rfl rfl (by unfold maxLen; omega) (by omega) hbz8 ?_; intro t8' w9 hown9 hb9)
            go_roundw
            case rel => exact ⟨i + 1, j, pre ++ [2], by omega, by omega, by first | rfl | go_num, by first | rfl | go_num, Lib.hid ⟨by rw [List.append_assoc, HC.out.1]; exact congrArg _ HMV.out, by rw [u8V_one, List.length_append, List.length_singleton]; exact hown9, hb9 _ _ (Nat.le_refl _) HC8.out.2.2.1, by rw [List.length_append, List.length_singleton]; omega⟩⟩
            case measure => (simp [intOf]) <;> omega
          · have q1 : ¬ (p1 : Int) ≤ (p2 : Int) := by omega
            have q2 : decide ((p1 : Int) ≤ (p2 : Int)) = false := decide_eq_false q1
            have q3 : decide (p1 ≤ p2) = false := decide_eq_false hle
            have HMV := Lib.hid (HMA2.out hle)
            have HC0 := HC
            clear HC
            have HC := HC8
            clear HC8 hbz8
            refine wp_region_wr (by kernel_rfl) (by kernel_rfl) ?_
            repeat (first
              | go_big_quiet_skip
              | (go_big_quiet_want
                 first
                   | (go_big_quiet_op
                      first
                        | go_big_quiet_on
                        | go_big_quiet_call (first | (fail)))))
            refine wpQuiet_nil ?_
            rintro w' ⟨kk, rfl⟩
            have hk11 := kk.2
            generalize kk.val = w11 at *
            clear kk
            have HC8 : Hid (MvAt a b w1 i j tv pre w11) := Lib.hid ⟨HC.out.1, own_kept HC.out.2.1 hk11.below, HC.out.2.2.1.trans (hk11.below.mono HC.out.2.2.1.size), HC.out.2.2.2⟩
            have hbz8 : w1.heap.size ≤ w11.heap.size := HC8.out.2.2.1.size
            clear F1 F2 F3 F4 q1 q2 q3 hle i2 i3 j2 j3 j4
            go_wp2_with (at_builtin; refine wp_app1 rfl _ _ 78 rfl w1.heap.size 5 (.int .u8 0) 1 Tryz.underlying78 u8Info rfl _ pre.length _ rfl HC8.out.2.1 (.int .u8 (3 : Int)) 5 rfl rfl (by unfold maxLen; omega) (by omega) hbz8 ?_; intro t8' w9 hown9 hb9)
            go_roundw
            case rel => exact ⟨i, j + 1, pre ++ [3], by omega, by omega, by first | rfl | go_num, by first | rfl | go_num, Lib.hid ⟨by rw [List.append_assoc, HC.out.1]; exact congrArg _ HMV.out, by rw [u8V_one, List.length_append, List.length_singleton]; exact hown9, hb9 _ _ (Nat.le_refl _) HC8.out.2.2.1, by rw [List.length_append, List.length_singleton]; omega⟩⟩
            case measure => (simp [intOf]) <;> omega
      · have hje : j = b.length := by omega
        have j1 : ¬ (j : Int) < (b.length : Int) := by omega
        have j2 : decide ((j : Int) < (b.length : Int)) = false := decide_eq_false j1
        have j3 : decide (j < b.length) = false := decide_eq_false hjl
        have j4 : ((j : Int) == (b.length : Int)) = true := by rw [hje]; exact beq_self_eq_true _
        have HMV := Lib.hid (mv_drop hil hj (by rw [List.getElem?_eq_getElem hil, List.getElem?_eq_none (by omega)]; simp) (.inl hje)).1
        clear hje hca ca1
        go_upto_region 7 with fail
        refine wp_region_wr (by kernel_rfl) (by kernel_rfl) ?_
        repeat (first
          | go_big_quiet_skip
          | (go_big_quiet_want
             first
               | (go_big_quiet_op
                  first
                    | go_big_quiet_on
                    | go_big_quiet_call (first | (fail)))))
        refine wpQuiet_nil ?_
        rintro w' ⟨kk, rfl⟩
        have hk10 := kk.2
        generalize kk.val = w10 at *
        clear kk
        have HC8 : Hid (MvAt a b w1 i j tv pre w10) := Lib.hid ⟨HC.out.1, own_kept HC.out.2.1 hk10.below, HC.out.2.2.1.trans (hk10.below.mono HC.out.2.2.1.size), HC.out.2.2.2⟩
        have hbz8 : w1.heap.size ≤ w10.heap.size := HC8.out.2.2.1.size
        clear CA
        go_upto_region 11 with fail
        have HC0 := HC
        clear HC
        have HC := HC8
        clear HC8 hbz8
        refine wp_region_wr (by kernel_rfl) (by kernel_rfl) ?_
        repeat (first
          | go_big_quiet_skip
          | (go_big_quiet_want
             first
               | (go_big_quiet_op
                  first
                    | go_big_quiet_on
                    | go_big_quiet_call (first | (fail)))))
        refine wpQuiet_nil ?_
        rintro w' ⟨kk, rfl⟩
        have hk11 := kk.2
        generalize kk.val = w11 at *
        clear kk
        have HC8 : Hid (MvAt a b w1 i j tv pre w11) := Lib.hid ⟨HC.out.1, own_kept HC.out.2.1 hk11.below, HC.out.2.2.1.trans (hk11.below.mono HC.out.2.2.1.size), HC.out.2.2.2⟩
        have hbz8 : w1.heap.size ≤ w11.heap.size := HC8.out.2.2.1.size
        clear i2 i3 j2 j3 j4
        go_wp2_with (at_builtin; refine wp_app1 rfl _ _ 78 rfl w1.heap.size 5 (.int .u8 0) 1 Tryz.underlying78 u8Info rfl _ pre.length _ rfl HC8.out.2.1 (.int .u8 (2 : Int)) 5 rfl rfl (by unfold maxLen; omega) (by omega) hbz8 ?_; intro t8' w9 hown9 hb9)
        go_roundw
        case rel => exact ⟨i + 1, j, pre ++ [2], by omega, by omega, by first | rfl | go_num, by first | rfl | go_num, Lib.hid ⟨by rw [List.append_assoc, HC.out.1]; exact congrArg _ HMV.out, by rw [u8V_one, List.length_append, List.length_singleton]; exact hown9, hb9 _ _ (Nat.le_refl _) HC8.out.2.2.1, by rw [List.length_append, List.length_singleton]; omega⟩⟩
        case measure => (simp [intOf]) <;> omega
    · have hie : i = a.length := by omega
      have i1 : ¬ (i : Int) < (a.length : Int) := by omega
      have i2 : decide ((i : Int) < (a.length : Int)) = false := decide_eq_false i1
      have i3 : decide (i < a.length) = false := decide_eq_false hil
      by_cases hjl : j < b.length
      · have j1 : (j : Int) < (b.length : Int) := by omega
        have j2 : decide ((j : Int) < (b.length : Int)) = true := decide_eq_true j1
        have j3 : decide (j < b.length) = true := decide_eq_true hjl
        have j4 : ((j : Int) == (b.length : Int)) = false := by rw [beq_eq_false_iff_ne]; omega
        have HMV := Lib.hid (mv_add hi hjl (by rw [List.getElem?_eq_none (by omega), List.getElem?_eq_getElem hjl]; simp) (.inl hie)).1
        clear hie
        go_upto_region 7 with fail
        refine wp_region_wr (by kernel_rfl) (by kernel_rfl) ?_
        repeat (first
          | go_big_quiet_skip
          | (go_big_quiet_want
             first
               | (go_big_quiet_op
                  first
                    | go_big_quiet_on
                    | go_big_quiet_call (first | (fail)))))
        refine wpQuiet_nil ?_
        rintro w' ⟨kk, rfl⟩
        have hk10 := kk.2
        generalize kk.val = w10 at *
        clear kk
        have HC8 : Hid (MvAt a b w1 i j tv pre w10) := Lib.hid ⟨HC.out.1, own_kept HC.out.2.1 hk10.below, HC.out.2.2.1.trans (hk10.below.mono HC.out.2.2.1.size), HC.out.2.2.2⟩
        have hbz8 : w1.heap.size ≤ w10.heap.size := HC8.out.2.2.1.size
        go_upto_region 11 with fail
        have HC0 := HC
        clear HC
        have HC := HC8
        clear HC8 hbz8
        refine wp_region_wr (by kernel_rfl) (by kernel_rfl) ?_
        repeat (first
          | go_big_quiet_skip
          | (go_big_quiet_want
             first
               | (go_big_quiet_op
                  first
                    | go_big_quiet_on
                    | go_big_quiet_call (first | (fail)))))
        refine wpQuiet_nil ?_
        rintro w' ⟨kk, rfl⟩
        have hk11 := kk.2
        generalize kk.val = w11 at *
        clear kk
        have HC8 : Hid (MvAt a b w1 i j tv pre w11) := Lib.hid ⟨HC.out.1, own_kept HC.out.2.1 hk11.below, HC.out.2.2.1.trans (hk11.below.mono HC.out.2.2.1.size), HC.out.2.2.2⟩
        have hbz8 : w1.heap.size ≤ w11.heap.size := HC8.out.2.2.1.size
        clear i2 i3 j2 j3 j4
        go_wp2_with (at_builtin; refine wp_app1 rfl _ _ 78 rfl w1.heap.size 5 (.int .u8 0) 1 Tryz.underlying78 u8Info rfl _ pre.length _ rfl HC8.out.2.1 (.int .u8 (3 : Int)) 5 rfl rfl (by unfold maxLen; omega) (by omega) hbz8 ?_; intro t8' w9 hown9 hb9)
        go_roundw
        case rel => exact ⟨i, j + 1, pre ++ [3], by omega, by omega, by first | rfl | go_num, by first | rfl | go_num, Lib.hid ⟨by rw [List.append_assoc, HC.out.1]; exact congrArg _ HMV.out, by rw [u8V_one, List.length_append, List.length_singleton]; exact hown9, hb9 _ _ (Nat.le_refl _) HC8.out.2.2.1, by rw [List.length_append, List.length_singleton]; omega⟩⟩
        case measure => (simp [intOf]) <;> omega
      · have hje : j = b.length := by omega
        have j1 : ¬ (j : Int) < (b.length : Int) := by omega
        have HEND : Hid (movesS a b = pre) := Lib.hid (by rw [HC.out.1, (mv_end hie hje).1, List.append_nil])
        have HOW := Lib.hid HC.out.2.1
        obtain ⟨A9, c9, rfl⟩ := own_shape23 HC.out.2.1
        clear hie hje hil hjl i2 i3
        go_wp2_with fail
        go_ret2
        refine ⟨HB1.out.trans (HBR.out.mono HB1.out.size), A9, c9, ?_, ?_⟩
        · rw [HEND.out]; rfl
        · have h := Sl.of_own HOW.out
          rw [← HEND.out] at h
          exact h
end Go.Proofs.YtmlhijlcefogmaaGreatDoor
namespace Go.Proofs.YtmlhijlcefogmaaGreatDoor
open Go.RowKit

section
variable {P : Program} {md : Region.Mode} {ops : Array Oper} {Q : Exit → Act → World → Prop} {n : Nat} {F : World → Prop}
theorem tk (i : Nat) (v : Value) {oi : Oper} {fuel : Nat} {listed : Array Bool} {a : Act} {w : World} (hi : opAt ops.toList i = some oi) (hv : ∀ w' : World, True → (execOp a.eval oi).run P w' = .ok (.value v) w')
    (h : wpAnyN P md ops Q n F fuel (listed.setIfInBounds i true) (a.put oi.dst v) w) (hB : tkB md ops listed i = true := by kernel_rfl) (hQ : ∀ c a w, Q (.panic c) (a.put oi.dst v) w → Q (.panic c) a w := by exact fun _ _ _ h => h)
    (hw : Region.wanted oi (yielded ops a.tmps) = true := by rfl) : wpAnyN P md ops Q n F (fuel + 1) listed a w := tkW i v hB hi hQ hw hv h
theorem tl (i : Nat) (v : Value) {oi : Oper} {fuel : Nat} {listed : Array Bool} {a : Act} {w : World} (hi : opAt ops.toList i = some oi) (hF : F w) (hv : ∀ w' : World, F w' → (execOp a.eval oi).run P w' = .ok (.value v) w')
    (h : wpAnyN P md ops Q n F fuel (listed.setIfInBounds i true) (a.put oi.dst v) w) (hB : (lateB md ops n i && tkB md ops listed i) = true := by kernel_rfl) (hQ : ∀ c a w, Q (.panic c) (a.put oi.dst v) w → Q (.panic c) a w := by exact fun _ _ _ h => h)
    (hw : Region.wanted oi (yielded ops a.tmps) = true := by rfl) : wpAnyN P md ops Q n F (fuel + 1) listed a w := tkF i v hB hi hQ hw hF hv h
theorem tc {i : Nat} {K : Act → World → Prop} {a : Act} {w : World} {f : FuncId} {o : Oper} {xs : Array Operand} {ts : Array TypeId} (args : Array Value) (hE : ∀ (u : World) (args : Array Value), (callFunc f args).run P u = .ok (.enter f args) u) (hi : opAt ops.toList i = some o)
    (hc : Calls P f args w fun e w' => ∃ v, e = .returned v ∧ K (a.put o.dst v) w') (ho : o.op = .call { callee := .value (.func f), args := xs, argTypes := ts } := by rfl) (hf : a.eval (.func f) = .func (.func f) #[] #[] := by rfl)
    (hw : Region.wanted o (yielded ops a.tmps) = true := by kernel_rfl) (ha : xs.map a.eval = args := by simp only [List.map_toArray, List.map_cons, List.map_nil]; rfl) : wpOp P ops Q i K a w :=
  wpOp_call o hi hw (ex_callFn ho hf (fun args w => hE w args) ha) hc
end
theorem l1 {P : Program} {ρ : Operand → Value} {o : Oper} {w : World} {ty : TypeId} {x : Operand} {p : Addr} {d : TypeDesc} {v : Value} (hu : P.underlying ty = some d) (hc : w.cell? p = some v) (ho : o.op = .load ty x := by rfl) (hx : ρ x = .pointer (some p) := by rfl) (hd : (match d with | .struct _ | .array _ _ => true | _ => false) = false := by rfl) : (execOp ρ o).run P w = .ok (.value v) w := ex_load1 ty x ho hx hu hd hc
theorem rN {P : Program} {ops : Array Oper} {Q : Exit → Act → World → Prop} {id : Nat} {a : Act} {w : World} (n : Nat) (F : World → Prop) (hF : F w.drew) (h : F w.drew → wpAnyN P .any ops Q n F ops.size (Array.replicate ops.size false) a w.drew) (hm : P.follows .mixedOrders = true := by kernel_rfl) : (Code.region id ops true).wp P Q a w := wp_region_N n F hm (h hF)
theorem nTF : (!true) = false ∧ (!false) = true := ⟨rfl, rfl⟩
theorem enE {P : Program} {f : FuncId} {fn : Func} {c : Code} (hf : P.funcs[f]? = some fn) (hb : fn.body = some c) (hn : (fn.name == "runtime.NumGoroutine") = false := by kernel_rfl) : ∀ (u : World) (args : Array Value), (callFunc f args).run P u = .ok (.enter f args) u := fun u args => enters_of hf hn hb args u
theorem ex_indexG {P : Program} {ρ : Operand → Value} {o : Oper} {w : World} (t : TypeId) (x y : Operand) (ho : o.op = .indexAddr t x y) {b off n c q size : Nat} (hx : ρ x = .slice (some ⟨b, off, none⟩) n c) (hy : ρ y = .int .i64 (q : Int)) (hq : q < n) {e : TypeId} (ht : P.underlying t = some (.slice e)) (hi : (P.info? e).map (·.size) = some size) :
    (execOp ρ o).run P w = .ok (.value (.pointer (some ⟨b, off + q * size, none⟩))) w := by
  cases hp : P.info? e with
  | none => simp [hp] at hi
  | some i =>
    have hs : i.size = size := by simpa [hp] using hi
    unfold execOp
    simp [ho, hx, hy, Instr.indexAt, asIntOf, run_underlying ht, sizeOf, typeInfo, hp, hs, Sem.run_bind, Result.andThen, hq, Addr.add]
    try omega
end Go.Proofs.YtmlhijlcefogmaaGreatDoor
namespace Go.Proofs.YtmlhijlcefogmaaGreatDoor

section
variable {P : Program} {ops : Array Oper} {Q : Exit → Act → World → Prop} {rest : List Oper} {a : Act} {w : World} {d : Option Tmp} {t : TypeId} {p : String} {af : Array Edge} {g : Option (Nat × Bool)}
theorem at_load {ty : TypeId} {x : Operand} (h : wpList P ops Q ({ dst := d, op := .load ty x, type := t, pos := p, after := af, guard := g } :: rest) a w) : wpList P ops Q ({ dst := d, op := .load ty x, type := t, pos := p, after := af, guard := g } :: rest) a w := h
theorem at_store {ty : TypeId} {x y : Operand} (h : wpList P ops Q ({ dst := d, op := .store ty x y, type := t, pos := p, after := af, guard := g } :: rest) a w) : wpList P ops Q ({ dst := d, op := .store ty x y, type := t, pos := p, after := af, guard := g } :: rest) a w := h
theorem at_alloc {ty : TypeId} (h : wpList P ops Q ({ dst := d, op := .alloc ty, type := t, pos := p, after := af, guard := g } :: rest) a w) : wpList P ops Q ({ dst := d, op := .alloc ty, type := t, pos := p, after := af, guard := g } :: rest) a w := h
theorem at_box {ty : TypeId} {x : Operand} (h : wpList P ops Q ({ dst := d, op := .box ty x, type := t, pos := p, after := af, guard := g } :: rest) a w) : wpList P ops Q ({ dst := d, op := .box ty x, type := t, pos := p, after := af, guard := g } :: rest) a w := h
theorem at_build {ty : TypeId} {xs : Array (Nat × Operand)} (h : wpList P ops Q ({ dst := d, op := .build ty xs, type := t, pos := p, after := af, guard := g } :: rest) a w) : wpList P ops Q ({ dst := d, op := .build ty xs, type := t, pos := p, after := af, guard := g } :: rest) a w := h
end
end Go.Proofs.YtmlhijlcefogmaaGreatDoor
namespace Go.Proofs.YtmlhijlcefogmaaGreatDoor
open Go.RowKit

theorem setCells_heap {T : TypeId} {fr : Nat × Nat} {g : Nat} : ∀ (cs pre mid post : List Value) (w : World), mid.length = cs.length → w.heap[g]? = some (.cells (pre ++ (mid ++ post)).toArray T fr) → (w.setCells g pre.length cs).heap[g]? = some (.cells (pre ++ (cs ++ post)).toArray T fr)
  | [], pre, mid, post, w, hl, hg => by
    obtain rfl : mid = [] := List.eq_nil_of_length_eq_zero hl
    exact hg
  | v :: cs, pre, [], post, w, hl, hg => by cases hl
  | v :: cs, pre, u :: mid, post, w, hl, hg => by
    have h1 : (w.setCell ⟨g, pre.length, none⟩ v).heap[g]? = some (.cells ((pre ++ [v]) ++ (mid ++ post)).toArray T fr) := by
      simp [World.setCell, Array.getElem?_modify, hg]
    have h2 := setCells_heap cs (pre ++ [v]) mid post _ (by simpa using hl) h1
    rw [World.setCells]
    have e : (pre ++ [v]).length = pre.length + 1 := by simp
    rw [e] at h2
    rw [h2]
    simp
theorem setCells_but {X : Nat → Prop} {g : Nat} (hX : X g) : ∀ (cs : List Value) (o : Nat) (w : World), But X w (w.setCells g o cs)
  | [], _, _ => But.refl _ _
  | v :: cs, o, w => (But.setCell (X := X) (But.refl X w) (p := ⟨g, o, none⟩) (fun _ => hX) v).trans (setCells_but hX cs (o + 1) _) fun _ _ h => h
theorem setCells_size {g : Nat} : ∀ (cs : List Value) (o : Nat) (w : World), (w.setCells g o cs).heap.size = w.heap.size
  | [], _, _ => rfl
  | v :: cs, o, w => (setCells_size cs (o + 1) _).trans (by simp [World.setCell])
section
variable {P : Program} {o : Oper} {w : World}
theorem ex_storeM {ρ : Operand → Value} (ty : TypeId) (x y : Operand) (ho : o.op = .store ty x y) (g k : Nat) (pre mid post cs : List Value) (T : TypeId) (V : Value) (hx : ρ x = .pointer (some ⟨g, k, none⟩)) (hk : k = pre.length) (hy : ρ y = V) (hV : V.cells = cs.toArray)
    (hg : w.heap[g]? = some (.cells (pre ++ (mid ++ post)).toArray T (0, 0))) (hl : mid.length = cs.length) (hi : (P.info? ty).map (·.size) = some cs.length) (h1 : ∀ u ∈ cs, u.oneCell' = true) : (execOp ρ o).run P w = .ok .skip (w.setCells g pre.length cs) := by
  subst hk
  have hcell : ∀ j, j < cs.length → (w.cell? ⟨g, pre.length + 0 + j, none⟩).isSome = true := fun j hj => by
    rw [cells_at0 hg]
    have : pre.length + 0 + j < (pre ++ (mid ++ post)).length := by simp; omega
    rw [List.getElem?_eq_getElem this]; rfl
  have hfr : ∀ j, j < cs.length → w.frozen? ⟨g, pre.length + 0 + j, none⟩ = false := fun j _ => by simp [World.frozen?, hg]
  have h := run_storeCells_cells (P := P) g pre.length cs 0 w hcell hfr h1
  unfold execOp
  cases hq : P.info? ty with
  | none => simp [hq] at hi
  | some i =>
    have hs : i.size = cs.length := by simpa [hq] using hi
    simp only [ho, hx, hy, Instr.storeAt, Instr.sureAddr, Sem.run_bind, Sem.run_pure, Result.andThen_ok]
    simp [storeVar, sizeOf, typeInfo, hq, hV, hs, h]
theorem wp_storeM {ops : Array Oper} {rest : List Oper} {a : Act} {Q : Exit → Act → World → Prop} (hw : Region.wanted o (yielded ops a.tmps) = true) (ty : TypeId) (x y : Operand) (ho : o.op = .store ty x y) (g k : Nat) (pre mid post cs : List Value) (T : TypeId) (V : Value) (hx : a.eval x = .pointer (some ⟨g, k, none⟩)) (hk : k = pre.length) (hy : a.eval y = V) (hV : V.cells = cs.toArray)
    (hg : w.heap[g]? = some (.cells (pre ++ (mid ++ post)).toArray T (0, 0))) (hl : mid.length = cs.length) (hi : (P.info? ty).map (·.size) = some cs.length) (h1 : ∀ u ∈ cs, u.oneCell' = true)
    (h : ∀ W : World, But (fun k => k = g) w W → W.heap[g]? = some (.cells (pre ++ (cs ++ post)).toArray T (0, 0)) → W.heap.size = w.heap.size → wpList P ops Q rest (a.put o.dst undef) W) : wpList P ops Q (o :: rest) a w := by
  refine BigFrame.wpList_want hw fun K hK => ?_
  have h2 := ex_storeM (P := P) ty x y ho g k pre mid post cs T V hx hk hy hV hg hl hi h1
  unfold Oper.wp
  rw [h2]
  exact hK _ _ (h _ (setCells_but (X := fun k => k = g) rfl _ _ _) (setCells_heap cs pre mid post w hl hg) (setCells_size _ _ _))
/-- A new variable: its block, named by its cells. -/
theorem wp_allocM {ops : Array Oper} {rest : List Oper} {a : Act} {Q : Exit → Act → World → Prop} (hw : Region.wanted o (yielded ops a.tmps) = true) (t : TypeId) (ho : o.op = .alloc t) (cs : List Value) (hz : (zeroValue t).run P w = .ok (.agg cs.toArray) w)
    (h : ∀ W : World, Below w.heap.size w W → W.heap[w.heap.size]? = some (.cells cs.toArray t (0, 0)) → W.heap.size = w.heap.size + 1 → wpList P ops Q rest (a.put o.dst (.pointer (some ⟨w.heap.size, 0, none⟩))) W) : wpList P ops Q (o :: rest) a w := by
  refine BigFrame.wpList_want hw fun K hK => ?_
  have h2 : (execOp a.eval o).run P w = .ok (.value (.pointer (some ⟨w.heap.size, 0, none⟩))) (w.alloc (.cells cs.toArray t)) := by
    unfold execOp
    simp [ho, Instr.alloc, newVar, newRow, hz, Result.andThen, Sem.run_bind, Value.cells]
  unfold Oper.wp
  rw [h2]
  exact hK _ _ (h _ ((Below.refl _ _).alloc (Nat.le_refl _) _) (heap_alloc_new _ _) (by simp))
/-- A value laid in a new variable. -/
theorem wp_boxM {ops : Array Oper} {rest : List Oper} {a : Act} {Q : Exit → Act → World → Prop} (hw : Region.wanted o (yielded ops a.tmps) = true) (t : TypeId) (x : Operand) (ho : o.op = .box t x) (cs : List Value) (V : Value) (hx : a.eval x = V) (hV : V.cells = cs.toArray) (hi : (P.info? t).map (·.size) = some cs.length)
    (h : ∀ W : World, Below w.heap.size w W → W.heap[w.heap.size]? = some (.cells cs.toArray t (0, 0)) → W.heap.size = w.heap.size + 1 → wpList P ops Q rest (a.put o.dst (.pointer (some ⟨w.heap.size, 0, none⟩))) W) : wpList P ops Q (o :: rest) a w := by
  refine BigFrame.wpList_want hw fun K hK => ?_
  have h2 : (execOp a.eval o).run P w = .ok (.value (.pointer (some ⟨w.heap.size, 0, none⟩))) (w.alloc (.cells cs.toArray t)) := by
    unfold execOp
    cases hq : P.info? t with
    | none => simp [hq] at hi
    | some i =>
      have hs : i.size = cs.length := by simpa [hq] using hi
      simp [ho, hx, Instr.box, newVar, newRow, hV, Result.andThen]
  unfold Oper.wp
  rw [h2]
  exact hK _ _ (h _ ((Below.refl _ _).alloc (Nat.le_refl _) _) (heap_alloc_new _ _) (by simp))
end
/-- The same at a step taken by hand. -/
theorem wpOp_storeM {P : Program} {ops : Array Oper} {Q : Exit → Act → World → Prop} {i : Nat} {K : Act → World → Prop} {a : Act} {w : World} (o : Oper) (hi : opAt ops.toList i = some o) (hw : Region.wanted o (yielded ops a.tmps) = true)
    (ty : TypeId) (x y : Operand) (ho : o.op = .store ty x y) (g k : Nat) (pre mid post cs : List Value) (T : TypeId) (V : Value) (hx : a.eval x = .pointer (some ⟨g, k, none⟩)) (hk : k = pre.length) (hy : a.eval y = V) (hV : V.cells = cs.toArray)
    (hg : w.heap[g]? = some (.cells (pre ++ (mid ++ post)).toArray T (0, 0))) (hl : mid.length = cs.length) (hi2 : (P.info? ty).map (·.size) = some cs.length) (h1 : ∀ u ∈ cs, u.oneCell' = true)
    (h : ∀ W : World, But (fun k => k = g) w W → W.heap[g]? = some (.cells (pre ++ (cs ++ post)).toArray T (0, 0)) → W.heap.size = w.heap.size → K (a.put o.dst undef) W) : wpOp P ops Q i K a w :=
  wpOp_skip o hi hw (ex_storeM ty x y ho g k pre mid post cs T V hx hk hy hV hg hl hi2 h1) (h _ (setCells_but (X := fun k => k = g) rfl _ _ _) (setCells_heap cs pre mid post w hl hg) (setCells_size _ _ _))
/-- One result, which lies in a block. -/
theorem results_one {P : Program} {fn : Func} {p : Tmp} {ty : TypeId} (h : fn.results = #[.cell p ty]) (tmps : Array Value) (w : World) {a : Addr} {r : Value} (hp : tmps.getD p undef = .pointer (some a)) (hl : (loadVar ty a).run P w = .ok r w) : (results fn tmps).run P w = .ok r w := by
  have hp' : tmps[p]?.getD undef = .pointer (some a) := by simpa using hp
  simp only [results, h]
  simp [hp', asAddr, hl]
end Go.Proofs.YtmlhijlcefogmaaGreatDoor
