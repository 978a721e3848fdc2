/-
  What the document's Costs gives. Conditions: rows of at most 4096 numbers.
-/
import Derived.Test.YthjaepmfkgejkaaDoorRefCosts23
import Derived.Test.YthjaepmfkgejkaaDoorMerged1
namespace Go.Proofs.YthjaepmfkgejkaaDoor
open Go.RowKit Go.Maps Go.Shelf
set_option linter.unusedVariables false
set_option linter.unusedSimpArgs false

set_option maxHeartbeats 16000000 in
set_option maxRecDepth 100000 in
theorem refCosts_any (a b : List Int) (A A' : Option Addr) (ca cb : Nat) (w : World) (hsa : Sl w w.heap.size A a.length 1 (i32V a)) (hsb : Sl w w.heap.size A' b.length 1 (i32V b)) (hn : a.length ≤ 4096) (hm : b.length ≤ 4096) :
    Calls Tryd.prog 116 #[.slice A a.length ca, .slice A' b.length cb] w fun e w' => Below w.heap.size w w' ∧ ∃ O, e = .returned (.slice (some ⟨O, 0, none⟩) (a.length + 1) (a.length + 1)) ∧ Tab w' w.heap.size O a b 0 := by
  obtain ⟨ip, hpi, hp0, hp1, hp2⟩ := info_parts intsInfo23
  obtain ⟨iq, hqi, hq0, hq1, hq2⟩ := info_parts intInfo23
  have HSA := Lib.hid hsa; have HSB := Lib.hid hsb
  clear hsa hsb
  go_enter Tryd.func116, Tryd.ntmps116
  go_upto_region 3 with (refine wpList_make_full _ rfl _ _ 189 rfl w.heap.size 191 ip (.slice none 0 0) 1 Tryd.underlying189 hpi hp0 hp1 .i64 .i64 _ _ (a.length + 1) rfl rfl (by omega) (by omega) (by rw [hp2]; omega) (by unfold maxLen; omega) (Nat.le_refl _) ?_; intro w1 hown1 hg1)
  have HB1 := Lib.hid (show Below w.heap.size w w1 from (Below.refl _ _).grown hg1 (Nat.le_refl _) (fun k e => by cases e))
  have HT1 := Lib.hid (Tab.start (a := a) (b := b) (Nat.le_refl w.heap.size) (by simpa using hown1.1) (own_full hown1))
  clear hown1 hg1
  go_wp2_with fail
  go_loopw [8] (fun t8 wr => ∃ (r : Nat) (ti : Int), r ≤ a.length + 1 ∧ t8 = .int .i64 ti ∧ ti + 1 = (r : Int) ∧ Hid (Tab wr w.heap.size w.heap.size a b r) ∧ Hid (Below w.heap.size w wr)) (fun t8 _ => (intOf t8 + 1).toNat)
  case atStart => exact ⟨a.length + 1, (a.length : Int), Nat.le_refl _, rfl, by omega, HT1, HB1⟩
  case round =>
    obtain ⟨r, ti, hr, rfl, hti, HT, HBW⟩ := hrel
    by_cases hneg : ti < 0
    · obtain rfl : r = 0 := by omega
      have n0 : ¬ (0 : Int) ≤ ti := by omega
      go_wp2_with fail
      go_ret
      exact ⟨HBW.out, _, rfl, HT.out⟩
    · obtain ⟨i, rfl⟩ : ∃ i : Nat, ti = (i : Int) := ⟨ti.toNat, by omega⟩
      obtain rfl : r = i + 1 := by omega
      have hia : i ≤ a.length := by omega
      have i0 : (0 : Int) ≤ (i : Int) := by omega
      have i1 : (i : Int) < (a.length : Int) + 1 := by omega
      have i2 : i < a.length + 1 := by omega
      have hbz : w.heap.size ≤ wr.heap.size := HBW.out.size
      obtain ⟨cO, fO, hOz⟩ : (∃ u, wr.cell? ⟨w.heap.size, i, none⟩ = some u) ∧ wr.frozen? ⟨w.heap.size, i, none⟩ = false ∧ w.heap.size < wr.heap.size := by
        obtain ⟨_, outs, G, g1, g2, _⟩ := HT.out
        exact ⟨⟨_, (cells_box g2 i).trans (List.getElem?_eq_getElem (by omega))⟩, frozen_of_row _ _ _ _ _ g2, (Array.getElem?_eq_some_iff.1 g2).1⟩
      obtain ⟨uO, cO⟩ := cO
      obtain ⟨outs, hobx⟩ : ∃ cs : Array Value, wr.heap[w.heap.size]? = some (.cells cs 191 (0, 0)) := by
        obtain ⟨_, outs, G, g1, g2, _⟩ := HT.out
        exact ⟨_, g2⟩
      have HOB := Lib.hid hobx
      clear hneg hti hobx fO
      go_upto_region 7 with (refine wpList_make_full _ rfl _ _ 191 rfl wr.heap.size 3 iq (.int .i64 0) 1 Tryd.underlying191 hqi hq0 hq1 .i64 .i64 _ _ (b.length + 1) rfl rfl (by omega) (by omega) (by rw [hq2]; omega) (by unfold maxLen; omega) (Nat.le_refl _) ?_; intro w2 hown2 hg2
                             have hb2 : Below wr.heap.size wr w2 := (Below.refl _ _).grown hg2 (Nat.le_refl _) (fun k e => by cases e)
                             have hob2 := (hb2.block _ hOz).trans HOB.out
                             have cO2 : w2.cell? ⟨w.heap.size, i, none⟩ = some uO := (hb2.cell (p := ⟨w.heap.size, i, none⟩) hOz).trans cO
                             have fO2 : w2.frozen? ⟨w.heap.size, i, none⟩ = false := frozen_of_row _ _ _ _ _ hob2
                             have HB2 := Lib.hid hb2
                             have HN2 := Lib.hid (own_full hown2)
                             have HL2 := Lib.hid hown2.1
                             clear hown2 hg2 hb2 hob2 cO)
      have hopn := Tab.opened (w2 := w2.setCell ⟨w.heap.size, i, none⟩ (slI wr.heap.size b.length)) HT.out hia HB2.out rfl hbz (by simpa using HL2.out) HN2.out rfl
      have hbel2 : Below w.heap.size w (w2.setCell ⟨w.heap.size, i, none⟩ (slI wr.heap.size b.length)) := (HBW.out.trans (HB2.out.mono hbz)).setCell (Nat.le_refl _) _
      have HRW := Lib.hid hopn; have HBR0 := Lib.hid hbel2
      obtain ⟨W, hW⟩ : ∃ W, w2.setCell ⟨w.heap.size, i, none⟩ (.slice (some ⟨wr.heap.size, 0, none⟩) (b.length + 1) (b.length + 1)) = W := ⟨_, rfl⟩
      rw [show w2.setCell ⟨w.heap.size, i, none⟩ (slI wr.heap.size b.length) = W from hW] at HRW HBR0
      rw [hW]
      clear hopn hbel2 hW cO2 fO2 HT HBW HB2 HN2 HL2 HOB
      go_wp2_with fail
      go_loopw [9] (fun t9 wr => ∃ (s : Nat) (tj : Int), s ≤ b.length + 1 ∧ t9 = .int .i64 tj ∧ tj + 1 = (s : Int) ∧ Hid (Row wr w.heap.size w.heap.size a b i s) ∧ Hid (Below w.heap.size w wr)) (fun t9 _ => (intOf t9 + 1).toNat)
      case atStart => exact ⟨b.length + 1, (b.length : Int), Nat.le_refl _, rfl, by omega, HRW, HBR0⟩
      case round =>
        obtain ⟨s, tj, hs, rfl, htj, HR, HBR⟩ := hrel
        by_cases hneg : tj < 0
        · obtain rfl : s = 0 := by omega
          have n0 : ¬ (0 : Int) ≤ tj := by omega
          have HD := Lib.hid HR.out.done
          clear hneg htj
          go_wp2_with fail
          go_roundw
          case rel => exact ⟨i, (i : Int) - 1, by omega, by first | rfl | go_num, by omega, HD, HBR⟩
          case measure => (simp [intOf]) <;> omega
        · obtain ⟨j, rfl⟩ : ∃ j : Nat, tj = (j : Int) := ⟨tj.toNat, by omega⟩
          obtain rfl : s = j + 1 := by omega
          have hjm : j ≤ b.length := by omega
          have j0 : (0 : Int) ≤ (j : Int) := by omega
          have j1 : (j : Int) < (b.length : Int) + 1 := by omega
          have j2 : j < b.length + 1 := by omega
          obtain ⟨R, cR, hRb, hRz, hOz2, hRc, hst⟩ := HR.out.here hia
          have HRB := Lib.hid hRb; have HST := Lib.hid hst; have HRC := Lib.hid hRc
          unfold slI at cR
          clear hneg htj hRb hst hRc
          by_cases hin : i = a.length
          · have k1 : ((i : Int) == (a.length : Int)) = true := by rw [hin]; exact beq_self_eq_true _
            have HV : Hid ((b.length : Int) - (j : Int) = (C a b i j : Int)) := Lib.hid (by rw [C_end hin]; omega)
            clear hin
            obtain ⟨⟨u8, cu8⟩, fu8, hst8⟩ := HST.out _ (Below.refl _ _) j hjm
            have HS8 := Lib.hid (hst8 rfl)
            clear hst8
            go_wp2_with fail
            go_roundw
            case rel => exact ⟨j, (j : Int) - 1, by omega, by first | rfl | go_num, by omega, Lib.hid (HS8.out _ HV.out), Lib.hid (HBR.out.setCell HRB.out _)⟩
            case measure => (simp [intOf]) <;> omega
          have il : i < a.length := by omega
          have k1 : ((i : Int) == (a.length : Int)) = false := by rw [beq_eq_false_iff_ne]; omega
          obtain ⟨N, cN, hNz, hNc⟩ := HR.out.next (by omega)
          unfold slI at cN
          by_cases hjb : j = b.length
          · have k2 : ((j : Int) == (b.length : Int)) = true := by rw [hjb]; exact beq_self_eq_true _
            have HV : Hid ((a.length : Int) - (i : Int) = (C a b i j : Int)) := Lib.hid (by rw [C_end' hjb]; omega)
            clear hjb hin cN hNc
            obtain ⟨⟨u8, cu8⟩, fu8, hst8⟩ := HST.out _ (Below.refl _ _) j hjm
            have HS8 := Lib.hid (hst8 rfl)
            clear hst8
            go_wp2_with fail
            go_roundw
            case rel => exact ⟨j, (j : Int) - 1, by omega, by first | rfl | go_num, by omega, Lib.hid (HS8.out _ HV.out), Lib.hid (HBR.out.setCell HRB.out _)⟩
            case measure => (simp [intOf]) <;> omega
          have jl : j < b.length := by omega
          have k2 : ((j : Int) == (b.length : Int)) = false := by rw [beq_eq_false_iff_ne]; omega
          have i3 : (i : Int) < (a.length : Int) := by omega
          have j3 : (j : Int) < (b.length : Int) := by omega
          have i4 : (i : Int) + 1 < (a.length : Int) + 1 := by omega
          have j4 : (j : Int) + 1 < (b.length : Int) + 1 := by omega
          have i5 : (0 : Int) ≤ (i : Int) + 1 := by omega
          have j5 : (0 : Int) ≤ (j : Int) + 1 := by omega
          obtain ⟨ba, oa, rfl, hba, hca⟩ := (HSA.out.keep HBR.out).2 (by omega)
          obtain ⟨bb, ob, rfl, hbb, hcb⟩ := (HSB.out.keep HBR.out).2 (by omega)
          have ca1 := hca i (.int .i32 a[i]) (by simp [i32V, il])
          have cb1 := hcb j (.int .i32 b[j]) (by simp [i32V, jl])
          have CA := Wg.cell ca1 (Nat.lt_of_lt_of_le hba HBR.out.size)
          have CB := Wg.cell cb1 (Nat.lt_of_lt_of_le hbb HBR.out.size)
          have HME : Hid (a[i] = b[j] → (C a b (i + 1) (j + 1) : Int) = (C a b i j : Int)) := Lib.hid fun h => by rw [C_match il jl h]
          have HNE : Hid (a[i] ≠ b[j] → (C a b i j : Int) = 1 + min (C a b (i + 1) j : Int) (C a b i (j + 1) : Int)) := Lib.hid fun h => by rw [C_ne il jl h]; omega
          have c3 := hNc (j + 1) (by omega)
          have c1 := hNc j (by omega)
          have c2 := HRC.out (j + 1) (by omega) (by omega)
          generalize a[i] = va at *
          generalize b[j] = vb at *
          clear hca hcb ca1 cb1 hNc hin hjb
          go_upto_region 14 with fail
          by_cases hab : va = vb
          · subst hab
            have kv : (va == va) = true := beq_self_eq_true _
            refine wp_region_wr (by kernel_rfl) (by kernel_rfl) ?_
            repeat (first
              | go_big_quiet_skip
              | (go_big_quiet_want
                 first
                   | (go_big_quiet_op
                      first
                        | go_big_quiet_on
                        | go_big_quiet_call (first | (fail)))))
            refine wpQuiet_nil ?_
            rintro w' ⟨kk, rfl⟩
            have hk10 := kk.2
            generalize kk.val = w10 at *
            clear kk
            have cR10 := (hk10.below.cell (p := ⟨w.heap.size, i, none⟩) hOz2).trans cR
            have cN10 := (hk10.below.cell (p := ⟨w.heap.size, i + 1, none⟩) hOz2).trans cN
            have c310 := (hk10.below.cell (p := ⟨N, j + 1, none⟩) hNz).trans c3
            have hz10 := hk10.below.size
            have FR := Wg.cell cR10 (by omega)
            have FN := Wg.cell cN10 (by omega)
            have F3 := Wg.cell c310 (by omega)
            have HK10 := Lib.hid hk10
            have HV := Lib.hid (HME.out rfl)
            clear CA CB cR10 cN10 c310 hk10 kv c1 c2 c3 cR cN
            go_upto_region 15 with fail
            refine wp_region_tail_wg 15 (by kernel_rfl) (by kernel_rfl) (by kernel_rfl) (by kernel_rfl) (by kernel_rfl) ?_
            simp only [List.take_succ_cons, List.take_zero, List.drop_succ_cons, List.drop_zero]
            repeat (first
              | go_big_quiet_skip
              | (go_big_quiet_want
                 first
                   | (go_big_quiet_op
                      first
                        | go_big_quiet_on
                        | go_big_quiet_call (first | (fail)))))
            refine wpQuiet_nil ?_
            rintro w' ⟨kk, rfl⟩
            have hk8 := kk.2
            generalize kk.val = w8 at *
            clear kk
            clear FR FN F3
            obtain ⟨⟨u8, cu8⟩, fu8, hst8⟩ := HST.out _ (HK10.out.trans hk8).below j hjm
            have HS8 := Lib.hid (hst8 rfl)
            have HBX := Lib.hid (HBR.out.trans (((HK10.out.trans hk8).below).mono HBR.out.size))
            clear hst8
            go_wp2_with fail
            go_roundw
            case rel => exact ⟨j, (j : Int) - 1, by omega, by first | rfl | go_num, by omega, Lib.hid (HS8.out _ HV.out), Lib.hid (HBX.out.setCell HRB.out _)⟩
            case measure => (simp [intOf]) <;> omega
          · have kv : (va == vb) = false := by rw [beq_eq_false_iff_ne]; exact hab
            have hne := HNE.out hab
            have b1 := C_le a b (i + 1) j
            have b2 := C_le a b i (j + 1)
            generalize (C a b (i + 1) j : Nat) = p1 at *
            generalize (C a b i (j + 1) : Nat) = p2 at *
            refine wp_region_wr (by kernel_rfl) (by kernel_rfl) ?_
            repeat (first
              | go_big_quiet_skip
              | (go_big_quiet_want
                 first
                   | (go_big_quiet_op
                      first
                        | go_big_quiet_on
                        | go_big_quiet_call (first | (fail)))))
            refine wpQuiet_nil ?_
            rintro w' ⟨kk, rfl⟩
            have hk10 := kk.2
            generalize kk.val = w10 at *
            clear kk
            have cR10 := (hk10.below.cell (p := ⟨w.heap.size, i, none⟩) hOz2).trans cR
            have cN10 := (hk10.below.cell (p := ⟨w.heap.size, i + 1, none⟩) hOz2).trans cN
            have c110 := (hk10.below.cell (p := ⟨N, j, none⟩) hNz).trans c1
            have c210 := (hk10.below.cell (p := ⟨R, j + 1, none⟩) hRz).trans c2
            have hz10 := hk10.below.size
            have FR := Wg.cell cR10 (by omega)
            have FN := Wg.cell cN10 (by omega)
            have F1 := Wg.cell c110 (by omega)
            have F2 := Wg.cell c210 (by omega)
            have HNE2 := Lib.hid hne
            clear CA CB kv c1 c2 c3 cR cN hab hne
            go_upto_region 16 with fail
            rcases Nat.lt_or_ge p1 p2 with hlt | hge
            · have q1 : (p1 : Int) < (p2 : Int) := by omega
              have q2 : decide ((p1 : Int) < (p2 : Int)) = true := decide_eq_true q1
              have q3 : decide (p1 < p2) = true := decide_eq_true hlt
              have HV : Hid (1 + (p1 : Int) = (C a b i j : Int)) := Lib.hid (by have := HNE2.out; omega)
              refine wp_region_wr (by kernel_rfl) (by kernel_rfl) ?_
              repeat (first
                | go_big_quiet_skip
                | (go_big_quiet_want
                   first
                     | (go_big_quiet_op
                        first
                          | go_big_quiet_on
                          | go_big_quiet_call (first | (fail)))))
              refine wpQuiet_nil ?_
              rintro w' ⟨kk, rfl⟩
              have hk11 := kk.2
              generalize kk.val = w11 at *
              clear kk
              have hk1011 := hk10.trans hk11
              have hz11 := hk11.below.size
              have GR := Wg.cell ((hk11.below.cell (p := ⟨w.heap.size, i, none⟩) (show w.heap.size < w10.heap.size by omega)).trans cR10) (by omega)
              have GN := Wg.cell ((hk11.below.cell (p := ⟨w.heap.size, i + 1, none⟩) (show w.heap.size < w10.heap.size by omega)).trans cN10) (by omega)
              have G1 := Wg.cell ((hk11.below.cell (p := ⟨N, j, none⟩) (show N < w10.heap.size by omega)).trans c110) (by omega)
              clear FR FN F1 F2 cR10 cN10 c110 c210 q1 q2 q3 hlt
              go_upto_region 17 with fail
              refine wp_region_tail_wg 15 (by kernel_rfl) (by kernel_rfl) (by kernel_rfl) (by kernel_rfl) (by kernel_rfl) ?_
              simp only [List.take_succ_cons, List.take_zero, List.drop_succ_cons, List.drop_zero]
              repeat (first
                | go_big_quiet_skip
                | (go_big_quiet_want
                   first
                     | (go_big_quiet_op
                        first
                          | go_big_quiet_on
                          | go_big_quiet_call (first | (fail)))))
              refine wpQuiet_nil ?_
              rintro w' ⟨kk, rfl⟩
              have hk8 := kk.2
              generalize kk.val = w8 at *
              clear kk
              clear GR GN G1
              obtain ⟨⟨u8, cu8⟩, fu8, hst8⟩ := HST.out _ (hk1011.trans hk8).below j hjm
              have HS8 := Lib.hid (hst8 rfl)
              have HBX := Lib.hid (HBR.out.trans (((hk1011.trans hk8).below).mono HBR.out.size))
              clear hst8
              go_wp2_with fail
              go_roundw
              case rel => exact ⟨j, (j : Int) - 1, by omega, by first | rfl | go_num, by omega, Lib.hid (HS8.out _ HV.out), Lib.hid (HBX.out.setCell HRB.out _)⟩
              case measure => (simp [intOf]) <;> omega
            · have q1 : ¬ (p1 : Int) < (p2 : Int) := by omega
              have q2 : decide ((p1 : Int) < (p2 : Int)) = false := decide_eq_false q1
              have q3 : decide (p1 < p2) = false := decide_eq_false (by omega)
              have HV : Hid (1 + (p2 : Int) = (C a b i j : Int)) := Lib.hid (by have := HNE2.out; omega)
              refine wp_region_wr (by kernel_rfl) (by kernel_rfl) ?_
              repeat (first
                | go_big_quiet_skip
                | (go_big_quiet_want
                   first
                     | (go_big_quiet_op
                        first
                          | go_big_quiet_on
                          | go_big_quiet_call (first | (fail)))))
              refine wpQuiet_nil ?_
              rintro w' ⟨kk, rfl⟩
              have hk11 := kk.2
              generalize kk.val = w11 at *
              clear kk
              have hk1011 := hk10.trans hk11
              have hz11 := hk11.below.size
              have GR := Wg.cell ((hk11.below.cell (p := ⟨w.heap.size, i, none⟩) (show w.heap.size < w10.heap.size by omega)).trans cR10) (by omega)
              have G2 := Wg.cell ((hk11.below.cell (p := ⟨R, j + 1, none⟩) (show R < w10.heap.size by omega)).trans c210) (by omega)
              clear FR FN F1 F2 cR10 cN10 c110 c210 q1 q2 q3 hge
              go_upto_region 18 with fail
              refine wp_region_tail_wg 15 (by kernel_rfl) (by kernel_rfl) (by kernel_rfl) (by kernel_rfl) (by kernel_rfl) ?_
              simp only [List.take_succ_cons, List.take_zero, List.drop_succ_cons, List.drop_zero]
              repeat (first
                | go_big_quiet_skip
                | (go_big_quiet_want
                   first
                     | (go_big_quiet_op
                        first
                          | go_big_quiet_on
                          | go_big_quiet_call (first | (fail)))))
              refine wpQuiet_nil ?_
              rintro w' ⟨kk, rfl⟩
              have hk8 := kk.2
              generalize kk.val = w8 at *
              clear kk
              clear GR G2
              obtain ⟨⟨u8, cu8⟩, fu8, hst8⟩ := HST.out _ (hk1011.trans hk8).below j hjm
              have HS8 := Lib.hid (hst8 rfl)
              have HBX := Lib.hid (HBR.out.trans (((hk1011.trans hk8).below).mono HBR.out.size))
              clear hst8
              go_wp2_with fail
              go_roundw
              case rel => exact ⟨j, (j : Int) - 1, by omega, by first | rfl | go_num, by omega, Lib.hid (HS8.out _ HV.out), Lib.hid (HBX.out.setCell HRB.out _)⟩
              case measure => (simp [intOf]) <;> omega
end Go.Proofs.YthjaepmfkgejkaaDoor
