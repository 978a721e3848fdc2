/-
  What myers.Moves gives: the script of least cost. Conditions: rows of at most 4096 numbers.
-/
import Derived.Test.YtmlhijlcefogmaaGreatDoorMerged13
set_option linter.unusedVariables false
set_option linter.unusedSimpArgs false
set_option maxHeartbeats 4000000
set_option maxRecDepth 100000
namespace Go.Proofs.YtmlhijlcefogmaaGreatDoor
open Go.RowKit Go.Maps Go.Shelf

theorem moves_any (a b : List Int) (A A' : Option Addr) (ca cb : Nat) (w : World) (hsa : Sl w w.heap.size A a.length 1 (i32V a)) (hsb : Sl w w.heap.size A' b.length 1 (i32V b)) (hn : a.length ≤ 4096) (hm : b.length ≤ 4096) :
    Calls Tryz.prog 52 #[.slice A a.length ca, .slice A' b.length cb] w (MovesGive a b w) := by
  have hmm := @run_makeMap Tryz.prog
  have n1 : ¬ (4096 : Int) < (a.length : Int) := by omega
  have n2 : ¬ (4096 : Int) < (b.length : Int) := by omega
  have hDb : C a b 0 0 ≤ 8192 := by
    have h1 := C_zero_i (a := a) (b := b) a.length (Nat.le_refl _)
    have h2 := C_end (a := a) (b := b) (i := a.length) (j := 0) rfl
    omega
  have HCB := Lib.hid hDb
  have HSA0 := Lib.hid hsa; have HSB0 := Lib.hid hsb
  have hB1 : Below w.heap.size w (w.alloc (.map #[] 0)) := (Below.refl _ _).alloc (Nat.le_refl _) _
  have hB2 : Below w.heap.size w ((w.alloc (.map #[] 0)).alloc (.cells #[.slice A a.length ca, .slice A' b.length cb, .map (some w.heap.size), .slice none 0 0, .int .i64 0] 176)) := hB1.alloc hB1.size _
  have hsz1 : (w.alloc (.map #[] 0)).heap.size = w.heap.size + 1 := by simp
  have hbox0 : ((w.alloc (.map #[] 0)).alloc (.cells #[.slice A a.length ca, .slice A' b.length cb, .map (some w.heap.size), .slice none 0 0, .int .i64 0] 176)).heap[(w.alloc (.map #[] 0)).heap.size]? = some (.cells #[.slice A a.length ca, .slice A' b.length cb, .map (some w.heap.size), .slice none 0 0, .int .i64 0] 176 (0, 0)) := heap_alloc_new _ _
  rw [hsz1] at hbox0
  have hmp := (MapC.made w Tryz.prog 3 IntOk intL).view.below ((Below.refl _ _).alloc (Nat.le_refl _) (.cells #[.slice A a.length ca, .slice A' b.length cb, .map (some w.heap.size), .slice none 0 0, .int .i64 0] 176))
  have HB2 := Lib.hid hB2; have HBOX0 := Lib.hid hbox0; have HMP := Lib.hid hmp
  clear hsa hsb hB1 hB2 hbox0 hsz1 hmp hDb
  go_enter Tryz.func52, Tryz.ntmps52
  go_upto_region 4 with fail
  obtain ⟨W, hW⟩ : ∃ W, (w.alloc (.map #[] 0)).alloc (.cells #[.slice A a.length ca, .slice A' b.length cb, .map (some w.heap.size), .slice none 0 0, .int .i64 0] 176) = W := ⟨_, rfl⟩
  rw [hW] at HB2 HBOX0 HMP ⊢
  clear hW hmm n1 n2
  obtain ⟨base, hbase⟩ : ∃ base, w.heap.size = base := ⟨_, rfl⟩
  have HBASE := Lib.hid hbase
  have HSA : Hid (Sl W base A a.length 1 (i32V a)) := by have := HSA0.out.keep HB2.out; rwa [hbase] at this
  have HSB : Hid (Sl W base A' b.length 1 (i32V b)) := by have := HSB0.out.keep HB2.out; rwa [hbase] at this
  rw [hbase] at HB2 HBOX0 HMP ⊢
  obtain ⟨M, hM⟩ : ∃ M, base = M := ⟨_, rfl⟩
  obtain ⟨B, hBe⟩ : ∃ B, base + 1 = B := ⟨_, rfl⟩
  have HSAB : Hid (Sl w base A a.length 1 (i32V a)) := by have := HSA0.out; rwa [hbase] at this
  have HSBB : Hid (Sl w base A' b.length 1 (i32V b)) := by have := HSB0.out; rwa [hbase] at this
  have hzW : base ≤ W.heap.size := by have := HB2.out.size; omega
  have hBb : base ≤ B := by omega
  have hMb : base ≤ M := by omega
  have hBM : B ≠ M := by omega
  have hC0 : CostAt a b B M base A A' ca cb (.slice none 0 0) (.int .i64 ((0 : Nat) : Int)) W 0 W := by
    refine ⟨Below.refl _ _, ?_, ⟨0, fun _ => none, Nat.le_refl _, ?_, fun j hj => absurd hj (by omega)⟩, HSA.out.more hzW, HSB.out.more hzW⟩
    · have h := HBOX0.out
      rw [hBe] at h
      rw [← hM]
      exact h
    · rw [← hM]; exact HMP.out
  have hco := cost_any a b B M base A A' ca cb (.slice none 0 0) (.int .i64 ((0 : Nat) : Int)) W hC0 hzW hBb hMb hBM (by omega) (by omega)
  rw [hBe]
  have hbw0 : base ≤ w.heap.size := by omega
  have HBE := Lib.hid hBe; have HM := Lib.hid hM
  clear hBe hM hC0 hbase HMP HBOX0
  go_wp2_with (go_at_call 83; refine hco.mono ?_; rintro e w2 ⟨rfl, hC2⟩)
  have hbl2 : Below base w w2 := HB2.out.trans hC2.bel
  have hblk2 : BlkAt a b B M base A A' ca cb W w2 := .inl hC2
  have HBL2 := Lib.hid hbl2; have HBK2 := Lib.hid hblk2
  clear hC2 hbl2 hblk2 hco
  go_loopw [7, 8, 9, 10] (fun t7 t8 t9 t10 wr => ∃ i j l, i ≤ a.length ∧ j ≤ b.length ∧ t9 = .int .i64 ((i : Nat) : Int) ∧ t10 = .int .i64 ((j : Nat) : Int) ∧ t7 = .int .i64 ((C a b i j : Nat) : Int) ∧ Hid (Gone a b l i j) ∧ Hid (Below base w wr) ∧ Hid (BlkAt a b B M base A A' ca cb W wr) ∧ Hid (wr.ownsRow base 5 1 t8 l.length (u8V l)) ∧ Hid (l = [] → t8 = .slice none 0 0)) (fun _ _ t9 t10 _ => a.length - (intOf t9).toNat + (b.length - (intOf t10).toNat))
  case atStart => exact ⟨0, 0, [], Nat.zero_le _, Nat.zero_le _, rfl, rfl, rfl, Lib.hid (gone_start a b), HBL2, HBK2, Lib.hid (World.ownsRow_nil _ _ _ _), Lib.hid fun _ => rfl⟩
  case round =>
    obtain ⟨i, j, l, hi, hj, rfl, rfl, rfl, HG, HBL, HB, HO, HL0⟩ := hrel
    have hzr : base ≤ wr.heap.size := Nat.le_trans hbw0 HBL.out.size
    have hll : l.length ≤ 8192 := by
      have h1 := congrArg List.length HG.out.1
      have h2 := moves_length _ a b (Nat.le_refl _)
      rw [List.length_append] at h1
      omega
    by_cases hin : i < a.length
    · have k1 : (i : Int) < (a.length : Int) := by omega
      by_cases hjm : j < b.length
      · have k2 : (j : Int) < (b.length : Int) := by omega
        have q0 : (0 : Int) ≤ (i : Int) := by omega
        have q1 : (i : Int) < (a.length : Int) := by omega
        have j0 : (0 : Int) ≤ (j : Int) := by omega
        have j1 : (j : Int) < (b.length : Int) := by omega
        obtain ⟨ba, oa, rfl, hba, hca⟩ := (HSAB.out.keep HBL.out).2 (by omega)
        have ca' := Wg.cell (w := wr) (hca i (.int .i32 a[i]) (by simp [i32V, hin])) (Nat.lt_of_lt_of_le hba hzr)
        obtain ⟨bb, ob, rfl, hbb, hcb⟩ := (HSBB.out.keep HBL.out).2 (by omega)
        have cb' := Wg.cell (w := wr) (hcb j (.int .i32 b[j]) (by simp [i32V, hjm])) (Nat.lt_of_lt_of_le hbb hzr)
        clear hca hcb hba hbb
        by_cases he : a[i] = b[j]
        · have hv : (a[i] == b[j]) = true := by rw [he]; exact beq_self_eq_true _
          obtain ⟨gone, gc⟩ := gone_keep HG.out hin hjm he
          have HGN := Lib.hid gone; have HGC0 := Lib.hid gc
          clear gone gc he
          generalize a[i] = u at *
          generalize b[j] = v at *
          go_upto_region 10 with fail
          refine wp_region_wr (by kernel_rfl) (by kernel_rfl) ?_
          repeat (first
            | go_big_quiet_skip
            | (go_big_quiet_want
               first
                 | (go_big_quiet_op
                    first
                      | go_big_quiet_on
                      | go_big_quiet_call (first | (fail)))))
          refine wpQuiet_nil ?_
          rintro w' ⟨kk, rfl⟩
          have hkk := kk.2
          generalize kk.val = w11 at *


          have B11 := Lib.hid (HB.out.below hzr hkk.below)
          have O11 := Lib.hid (own_kept HO.out hkk.below)
          have hz11 : base ≤ w11.heap.size := Nat.le_trans hzr hkk.below.size
          have BL11 : Hid (Below base w w11) := HBL.out.trans (hkk.below.mono hzr)
          clear ca' cb' hv
          go_wp2_with (refine wp_app1g rfl _ _ 78 rfl base 5 (.int .u8 0) 1 Tryz.underlying78 u8Info rfl _ l.length (u8V l) rfl O11.out (.int .u8 1) 5 rfl rfl (by unfold maxLen; omega) (by omega) hz11 ?_; intro t8' w8 hown8 hb8 hk8)
          have hbel8 : Below base w11 w8 := hb8 base w11 (Nat.le_refl _) (Below.refl _ _)
          have B8 := Lib.hid (B11.out.app hMb HSA.out HSB.out O11.out HL0.out hz11 hbel8 hk8)
          have O8 : Hid (w8.ownsRow base 5 1 t8' (l ++ [1]).length (u8V (l ++ [1]))) := by rw [u8V_snoc, List.length_append, List.length_singleton]; exact hown8
          have HBL8 : Hid (Below base w w8) := BL11.out.trans hbel8
          have HG8 := Lib.hid HGN.out
          have HGC := Lib.hid HGC0.out
          clear hbel8 hown8 hb8 hk8

          go_roundw
          case rel => exact ⟨i + 1, j + 1, l ++ [1], by omega, by omega, by first | go_num | rfl, by first | go_num | rfl, by rw [HGC.out], HG8, HBL8, B8, O8, Lib.hid fun h => absurd h (by simp)⟩
          case measure => simp [intOf]; omega



        · have hv : (a[i] == b[j]) = false := by rw [beq_eq_false_iff_ne]; exact he
          have hne : a[i]? ≠ b[j]? := by rw [List.getElem?_eq_getElem hin, List.getElem?_eq_getElem hjm]; exact fun q => he (Option.some.inj q)
          have HNE := Lib.hid hne
          clear he hne
          generalize a[i] = u at *
          generalize b[j] = v at *
          go_upto_region 10 with fail
          refine wp_region_wr (by kernel_rfl) (by kernel_rfl) ?_
          repeat (first
            | go_big_quiet_skip
            | (go_big_quiet_want
               first
                 | (go_big_quiet_op
                    first
                      | go_big_quiet_on
                      | go_big_quiet_call (first | (fail)))))
          refine wpQuiet_nil ?_
          rintro w' ⟨kk, rfl⟩
          have hkk := kk.2
          generalize kk.val = w11 at *


          have B11 := Lib.hid (HB.out.below hzr hkk.below)
          have O11 := Lib.hid (own_kept HO.out hkk.below)
          have hz11 : base ≤ w11.heap.size := Nat.le_trans hzr hkk.below.size
          have BL11 : Hid (Below base w w11) := HBL.out.trans (hkk.below.mono hzr)
          clear ca' cb' hv
          have hne' := HNE.out
          have hpos : 1 ≤ C a b i j := by
            by_cases hc : j = b.length ∨ C a b (i + 1) j ≤ C a b i (j + 1)
            · have := (gone_drop HG.out hin hj hne' hc).2; omega
            · have := (gone_add HG.out hi (by omega) hne' (.inr (fun q => hc (.inr q)))).2; omega
          have htst := gone_test HG.out (by unfold never; omega) hin hj hne'
          obtain ⟨d, hd⟩ : ∃ d, C a b i j - 1 = d := ⟨_, rfl⟩
          rw [hd] at htst
          have hdC : d ≤ C a b 0 0 := by obtain ⟨_, s, h2, _⟩ := HG.out; omega
          have hdb : d ≤ 10000 := by have := HCB.out; omega
          have hrb : C a b i j ≤ 10000 := by have := HCB.out; obtain ⟨_, s, h2, _⟩ := HG.out; omega
          have e1 : IntKind.i64.wrap ((C a b i j : Int) - 1) = (d : Int) := by rw [IntWalk.i64_in _ (by omega)]; omega
          have e2 : IntKind.i64.wrap ((i : Int) + 1) = (i : Int) + 1 := IntWalk.i64_in _ (by omega)
          have e3 : IntKind.i64.wrap ((i : Int) + 1 - (j : Int)) = (i : Int) + 1 - j := IntWalk.i64_in _ (by omega)
          have hli := list_any a b B M base _ _ ca cb d W w11 hz11 hBb hMb hBM HSA.out HSB.out (by omega) (by omega) hdC B11.out
          have HTST := Lib.hid htst; have HDC := Lib.hid hd
          clear hpos htst hne' hdC hd hrb
          by_cases hc : j = b.length ∨ C a b (i + 1) j ≤ C a b i (j + 1)
          · have hgn := gone_drop HG.out hin hj HNE.out hc
            have HGN := Lib.hid hgn.1; have HGC0 := Lib.hid hgn.2; have HCC := Lib.hid hc
            clear hgn hc
            go_wp2_with (first
              | (go_at_call 85; refine hli.mono ?_; rintro r w12 ⟨gl, cl, rfl, blk12, sl12, fk12, bel12⟩
                 have B12 := Lib.hid blk12; have S12 := Lib.hid sl12
                 have BL12 : Hid (Below base w w12) := BL11.out.trans bel12
                 have O12 := Lib.hid (fk12.row O11.out (by decide) (own_ne_box B11.out (by decide) O11.out))
                 have hz12 : base ≤ w12.heap.size := Nat.le_trans hz11 bel12.size
                 obtain ⟨v3', v4', hbox12⟩ := B12.out.box
                 have hrr := B12.out.rows
                 have hle := least_any a b B _ _ (some ⟨gl, 0, none⟩) ca cb cl d (lst a b d) ((i : Int) + 1 - j) w12 (Array.getElem?_eq_some_iff.1 hbox12).1 (cells_box hbox12 0) (cells_box hbox12 1) (by rw [lst_length]; exact S12.out) (by rw [lst_length]; omega) (lst_never (by unfold never; omega) d) (by omega) (by omega) (by omega) (by omega)
                 rw [lst_length] at hle
                 obtain ⟨lv, hlv⟩ : ∃ lv, leastS a b d (lst a b d) ((i : Int) + 1 - j) = lv := ⟨_, rfl⟩
                 have htt := HTST.out
                 rw [hlv] at hle htt
                 have hlv1 : lv ≤ i + 1 := htt.2 HCC.out
                 have hlv2 : (lv : Int) ≤ (i : Int) + 1 := by omega

                 have HLE := Lib.hid hle
                 clear hlv hbox12 htt hle blk12 sl12 fk12 bel12 hrr hli)
              | (go_at_call 84; refine HLE.out.mono ?_; rintro r w13 ⟨rfl, hg13⟩
                 have B13 := Lib.hid (B12.out.below hz12 hg13.below)
                 have O13 := Lib.hid (own_kept O12.out hg13.below)
                 have hz13 : base ≤ w13.heap.size := Nat.le_trans hz12 hg13.below.size
                 have BL13 : Hid (Below base w w13) := BL12.out.trans (hg13.below.mono hz12)
                 clear hg13)
              | (refine wp_app1g rfl _ _ 78 rfl base 5 (.int .u8 0) 1 Tryz.underlying78 u8Info rfl _ l.length (u8V l) rfl O13.out (.int .u8 2) 5 rfl rfl (by unfold maxLen; omega) (by omega) hz13 ?_; intro t8' w8 hown8 hb8 hk8))
            have hbel8 : Below base w13 w8 := hb8 base w13 (Nat.le_refl _) (Below.refl _ _)
            have B8 := Lib.hid (B13.out.app hMb HSA.out HSB.out O13.out HL0.out hz13 hbel8 hk8)
            have O8 : Hid (w8.ownsRow base 5 1 t8' (l ++ [2]).length (u8V (l ++ [2]))) := by rw [u8V_snoc, List.length_append, List.length_singleton]; exact hown8
            have HBL8 : Hid (Below base w w8) := BL13.out.trans hbel8
            have HG8 := Lib.hid HGN.out
            have HGC := Lib.hid (show d = C a b (i + 1) (j) by have h1 := HGC0.out; have h2 := HDC.out; omega)
            clear hbel8 hown8 hb8 hk8
            go_roundw
            case rel => exact ⟨i + 1, j, l ++ [2], by omega, by omega, by first | go_num | rfl, by first | go_num | rfl, by rw [← HGC.out], HG8, HBL8, B8, O8, Lib.hid fun h => absurd h (by simp)⟩
            case measure => simp [intOf]; omega

          · have hgn := gone_add HG.out hi (by omega) HNE.out (.inr (fun q => hc (.inr q)))
            have HGN := Lib.hid hgn.1; have HGC0 := Lib.hid hgn.2; have HCC := Lib.hid hc
            clear hgn hc
            go_wp2_with (first
              | (go_at_call 85; refine hli.mono ?_; rintro r w12 ⟨gl, cl, rfl, blk12, sl12, fk12, bel12⟩
                 have B12 := Lib.hid blk12; have S12 := Lib.hid sl12
                 have BL12 : Hid (Below base w w12) := BL11.out.trans bel12
                 have O12 := Lib.hid (fk12.row O11.out (by decide) (own_ne_box B11.out (by decide) O11.out))
                 have hz12 : base ≤ w12.heap.size := Nat.le_trans hz11 bel12.size
                 obtain ⟨v3', v4', hbox12⟩ := B12.out.box
                 have hrr := B12.out.rows
                 have hle := least_any a b B _ _ (some ⟨gl, 0, none⟩) ca cb cl d (lst a b d) ((i : Int) + 1 - j) w12 (Array.getElem?_eq_some_iff.1 hbox12).1 (cells_box hbox12 0) (cells_box hbox12 1) (by rw [lst_length]; exact S12.out) (by rw [lst_length]; omega) (lst_never (by unfold never; omega) d) (by omega) (by omega) (by omega) (by omega)
                 rw [lst_length] at hle
                 obtain ⟨lv, hlv⟩ : ∃ lv, leastS a b d (lst a b d) ((i : Int) + 1 - j) = lv := ⟨_, rfl⟩
                 have htt := HTST.out
                 rw [hlv] at hle htt
                 have hlv1 : ¬ lv ≤ i + 1 := fun q => HCC.out (htt.1 q)
                 have hlv2 : ¬ (lv : Int) ≤ (i : Int) + 1 := by omega

                 have HLE := Lib.hid hle
                 clear hlv hbox12 htt hle blk12 sl12 fk12 bel12 hrr hli)
              | (go_at_call 84; refine HLE.out.mono ?_; rintro r w13 ⟨rfl, hg13⟩
                 have B13 := Lib.hid (B12.out.below hz12 hg13.below)
                 have O13 := Lib.hid (own_kept O12.out hg13.below)
                 have hz13 : base ≤ w13.heap.size := Nat.le_trans hz12 hg13.below.size
                 have BL13 : Hid (Below base w w13) := BL12.out.trans (hg13.below.mono hz12)
                 clear hg13)
              | (refine wp_app1g rfl _ _ 78 rfl base 5 (.int .u8 0) 1 Tryz.underlying78 u8Info rfl _ l.length (u8V l) rfl O13.out (.int .u8 3) 5 rfl rfl (by unfold maxLen; omega) (by omega) hz13 ?_; intro t8' w8 hown8 hb8 hk8))
            have hbel8 : Below base w13 w8 := hb8 base w13 (Nat.le_refl _) (Below.refl _ _)
            have B8 := Lib.hid (B13.out.app hMb HSA.out HSB.out O13.out HL0.out hz13 hbel8 hk8)
            have O8 : Hid (w8.ownsRow base 5 1 t8' (l ++ [3]).length (u8V (l ++ [3]))) := by rw [u8V_snoc, List.length_append, List.length_singleton]; exact hown8
            have HBL8 : Hid (Below base w w8) := BL13.out.trans hbel8
            have HG8 := Lib.hid HGN.out
            have HGC := Lib.hid (show d = C a b (i) (j + 1) by have h1 := HGC0.out; have h2 := HDC.out; omega)
            clear hbel8 hown8 hb8 hk8
            go_roundw
            case rel => exact ⟨i, j + 1, l ++ [3], by omega, by omega, by first | go_num | rfl, by first | go_num | rfl, by rw [← HGC.out], HG8, HBL8, B8, O8, Lib.hid fun h => absurd h (by simp)⟩
            case measure => simp [intOf]; omega





      · have hje : j = b.length := by omega
        have hne : a[i]? ≠ b[j]? := by rw [List.getElem?_eq_none (l := b) (by omega), List.getElem?_eq_getElem hin]; exact fun q => by cases q
        have HNE := Lib.hid hne
        have d1 : ¬ (j : Int) < (b.length : Int) := by omega
        have d2 : decide (j < b.length) = false := by rw [decide_eq_false_iff_not]; omega
        clear hne hje
        go_upto_region 10 with fail
        refine wp_region_wr (by kernel_rfl) (by kernel_rfl) ?_
        repeat (first
          | go_big_quiet_skip
          | (go_big_quiet_want
             first
               | (go_big_quiet_op
                  first
                    | go_big_quiet_on
                    | go_big_quiet_call (first | (fail)))))
        refine wpQuiet_nil ?_
        rintro w' ⟨kk, rfl⟩
        have hkk := kk.2
        generalize kk.val = w11 at *

        have B11 := Lib.hid (HB.out.below hzr hkk.below)
        have O11 := Lib.hid (own_kept HO.out hkk.below)
        have hz11 : base ≤ w11.heap.size := Nat.le_trans hzr hkk.below.size
        have BL11 : Hid (Below base w w11) := HBL.out.trans (hkk.below.mono hzr)
        have hne' := HNE.out
        have hpos : 1 ≤ C a b i j := by
          by_cases hc : j = b.length ∨ C a b (i + 1) j ≤ C a b i (j + 1)
          · have := (gone_drop HG.out hin hj hne' hc).2; omega
          · have := (gone_add HG.out hi (by omega) hne' (.inr (fun q => hc (.inr q)))).2; omega
        have htst := gone_test HG.out (by unfold never; omega) hin hj hne'
        obtain ⟨d, hd⟩ : ∃ d, C a b i j - 1 = d := ⟨_, rfl⟩
        rw [hd] at htst
        have hdC : d ≤ C a b 0 0 := by obtain ⟨_, s, h2, _⟩ := HG.out; omega
        have hdb : d ≤ 10000 := by have := HCB.out; omega
        have hrb : C a b i j ≤ 10000 := by have := HCB.out; obtain ⟨_, s, h2, _⟩ := HG.out; omega
        have e1 : IntKind.i64.wrap ((C a b i j : Int) - 1) = (d : Int) := by rw [IntWalk.i64_in _ (by omega)]; omega
        have e2 : IntKind.i64.wrap ((i : Int) + 1) = (i : Int) + 1 := IntWalk.i64_in _ (by omega)
        have e3 : IntKind.i64.wrap ((i : Int) + 1 - (j : Int)) = (i : Int) + 1 - j := IntWalk.i64_in _ (by omega)
        have hli := list_any a b B M base _ _ ca cb d W w11 hz11 hBb hMb hBM HSA.out HSB.out (by omega) (by omega) hdC B11.out
        have HTST := Lib.hid htst; have HDC := Lib.hid hd
        clear hpos htst hne' hdC hd hrb
        by_cases hc : j = b.length ∨ C a b (i + 1) j ≤ C a b i (j + 1)
        · have hgn := gone_drop HG.out hin hj HNE.out hc
          have HGN := Lib.hid hgn.1; have HGC0 := Lib.hid hgn.2; have HCC := Lib.hid hc
          clear hgn hc
          go_wp2_with (first
            | (go_at_call 85; refine hli.mono ?_; rintro r w12 ⟨gl, cl, rfl, blk12, sl12, fk12, bel12⟩
               have B12 := Lib.hid blk12; have S12 := Lib.hid sl12
               have BL12 : Hid (Below base w w12) := BL11.out.trans bel12
               have O12 := Lib.hid (fk12.row O11.out (by decide) (own_ne_box B11.out (by decide) O11.out))
               have hz12 : base ≤ w12.heap.size := Nat.le_trans hz11 bel12.size
               obtain ⟨v3', v4', hbox12⟩ := B12.out.box
               have hrr := B12.out.rows
               have hle := least_any a b B _ _ (some ⟨gl, 0, none⟩) ca cb cl d (lst a b d) ((i : Int) + 1 - j) w12 (Array.getElem?_eq_some_iff.1 hbox12).1 (cells_box hbox12 0) (cells_box hbox12 1) (by rw [lst_length]; exact S12.out) (by rw [lst_length]; omega) (lst_never (by unfold never; omega) d) (by omega) (by omega) (by omega) (by omega)
               rw [lst_length] at hle
               obtain ⟨lv, hlv⟩ : ∃ lv, leastS a b d (lst a b d) ((i : Int) + 1 - j) = lv := ⟨_, rfl⟩
               have htt := HTST.out
               rw [hlv] at hle htt
               have hlv1 : lv ≤ i + 1 := htt.2 HCC.out
               have hlv2 : (lv : Int) ≤ (i : Int) + 1 := by omega

               have HLE := Lib.hid hle
               clear hlv hbox12 htt hle blk12 sl12 fk12 bel12 hrr hli)
            | (go_at_call 84; refine HLE.out.mono ?_; rintro r w13 ⟨rfl, hg13⟩
               have B13 := Lib.hid (B12.out.below hz12 hg13.below)
               have O13 := Lib.hid (own_kept O12.out hg13.below)
               have hz13 : base ≤ w13.heap.size := Nat.le_trans hz12 hg13.below.size
               have BL13 : Hid (Below base w w13) := BL12.out.trans (hg13.below.mono hz12)
               clear hg13)
            | (refine wp_app1g rfl _ _ 78 rfl base 5 (.int .u8 0) 1 Tryz.underlying78 u8Info rfl _ l.length (u8V l) rfl O13.out (.int .u8 2) 5 rfl rfl (by unfold maxLen; omega) (by omega) hz13 ?_; intro t8' w8 hown8 hb8 hk8))
          have hbel8 : Below base w13 w8 := hb8 base w13 (Nat.le_refl _) (Below.refl _ _)
          have B8 := Lib.hid (B13.out.app hMb HSA.out HSB.out O13.out HL0.out hz13 hbel8 hk8)
          have O8 : Hid (w8.ownsRow base 5 1 t8' (l ++ [2]).length (u8V (l ++ [2]))) := by rw [u8V_snoc, List.length_append, List.length_singleton]; exact hown8
          have HBL8 : Hid (Below base w w8) := BL13.out.trans hbel8
          have HG8 := Lib.hid HGN.out
          have HGC := Lib.hid (show d = C a b (i + 1) (j) by have h1 := HGC0.out; have h2 := HDC.out; omega)
          clear hbel8 hown8 hb8 hk8
          go_roundw
          case rel => exact ⟨i + 1, j, l ++ [2], by omega, by omega, by first | go_num | rfl, by first | go_num | rfl, by rw [← HGC.out], HG8, HBL8, B8, O8, Lib.hid fun h => absurd h (by simp)⟩
          case measure => simp [intOf]; omega

        · exact absurd (.inl (by omega)) hc


    · by_cases hjm : j < b.length
      · have hie : i = a.length := by omega
        have hne : a[i]? ≠ b[j]? := by rw [List.getElem?_eq_none (by omega), List.getElem?_eq_getElem hjm]; exact fun q => by cases q
        have d1 : ¬ (i : Int) < (a.length : Int) := by omega
        have d2 : decide (i < a.length) = false := by rw [decide_eq_false_iff_not]; omega
        have hgn := gone_add HG.out hi hjm hne (.inl hie)
        have hpos : 1 ≤ C a b i j := by have := hgn.2; omega
        have hrb : C a b i j ≤ 10000 := by have := HCB.out; obtain ⟨_, s, h2, _⟩ := HG.out; omega
        obtain ⟨d, hd⟩ : ∃ d, C a b i j - 1 = d := ⟨_, rfl⟩
        have e1 : IntKind.i64.wrap ((C a b i j : Int) - 1) = (d : Int) := by rw [IntWalk.i64_in _ (by omega)]; omega
        have HGN := Lib.hid hgn.1; have HGC0 := Lib.hid (show d = C a b i (j + 1) by have := hgn.2; omega)
        clear hne hie hgn hpos hrb hd
        go_upto_region 10 with fail
        refine wp_region_wr (by kernel_rfl) (by kernel_rfl) ?_
        repeat (first
          | go_big_quiet_skip
          | (go_big_quiet_want
             first
               | (go_big_quiet_op
                  first
                    | go_big_quiet_on
                    | go_big_quiet_call (first | (fail)))))
        refine wpQuiet_nil ?_
        rintro w' ⟨kk, rfl⟩
        have hkk := kk.2
        generalize kk.val = w11 at *

        have B11 := Lib.hid (HB.out.below hzr hkk.below)
        have O11 := Lib.hid (own_kept HO.out hkk.below)
        have hz11 : base ≤ w11.heap.size := Nat.le_trans hzr hkk.below.size
        have BL11 : Hid (Below base w w11) := HBL.out.trans (hkk.below.mono hzr)
        go_wp2_with (refine wp_app1g rfl _ _ 78 rfl base 5 (.int .u8 0) 1 Tryz.underlying78 u8Info rfl _ l.length (u8V l) rfl O11.out (.int .u8 3) 5 rfl rfl (by unfold maxLen; omega) (by omega) hz11 ?_; intro t8' w8 hown8 hb8 hk8)
        have hbel8 : Below base w11 w8 := hb8 base w11 (Nat.le_refl _) (Below.refl _ _)
        have B8 := Lib.hid (B11.out.app hMb HSA.out HSB.out O11.out HL0.out hz11 hbel8 hk8)
        have O8 : Hid (w8.ownsRow base 5 1 t8' (l ++ [3]).length (u8V (l ++ [3]))) := by rw [u8V_snoc, List.length_append, List.length_singleton]; exact hown8
        have HBL8 : Hid (Below base w w8) := BL11.out.trans hbel8
        have HG8 := Lib.hid HGN.out
        have HGC := Lib.hid HGC0.out
        clear hbel8 hown8 hb8 hk8
        go_roundw
        case rel => exact ⟨i, j + 1, l ++ [3], by omega, by omega, by first | go_num | rfl, by first | go_num | rfl, by rw [← HGC.out], HG8, HBL8, B8, O8, Lib.hid fun h => absurd h (by simp)⟩
        case measure => simp [intOf]; omega

      · have hie : i = a.length := by omega
        have hje : j = b.length := by omega
        have hfin : l = movesS a b := by
          have h := HG.out.1
          rw [(mv_end hie hje).1, List.append_nil] at h
          exact h
        have d1 : ¬ (i : Int) < (a.length : Int) := by omega
        have d3 : ¬ (j : Int) < (b.length : Int) := by omega
        obtain ⟨A2, c2, rfl⟩ := own_shape23 HO.out
        have HF := Lib.hid hfin
        clear hie hje hfin
        go_wp2_with fail
        go_ret2
        refine ⟨by rw [HBASE.out]; exact HBL.out, A2, c2, ?_, ?_⟩
        · rw [← HF.out]; rfl
        · rw [← HF.out]; exact Sl.of_own HO.out
end Go.Proofs.YtmlhijlcefogmaaGreatDoor
