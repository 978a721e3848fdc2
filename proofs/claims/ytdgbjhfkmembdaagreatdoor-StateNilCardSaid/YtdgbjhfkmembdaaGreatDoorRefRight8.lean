/-
  The document's Change and Commit. Conditions: as each says.
-/
import Derived.Test.YtdgbjhfkmembdaaGreatDoorShort0
import Derived.Test.YtdgbjhfkmembdaaGreatDoorShort9
import Derived.Test.YtdgbjhfkmembdaaGreatDoorShort8
import Derived.Test.YtdgbjhfkmembdaaGreatDoorRefOp8
import Derived.Test.YtdgbjhfkmembdaaGreatDoorRefIn8
import Derived.Test.YtdgbjhfkmembdaaGreatDoorRefPath
import Derived.Test.YtdgbjhfkmembdaaGreatDoorObjRight2
import Derived.Test.YtdgbjhfkmembdaaGreatDoorHandN
namespace Go.Proofs.YtdgbjhfkmembdaaGreatDoor
open Go.RowKit Go.Maps
set_option linter.unusedVariables false
set_option linter.unusedSimpArgs false

set_option maxHeartbeats 4000000 in
set_option maxRecDepth 100000 in
theorem refChange_any (c : ChangeD) (v : Value) (w : World) (h : ChIn w w.heap.size v c) (hl1 : c.2.1.length ≤ 1099511627776) (hl2 : c.2.2.2.length ≤ 1099511627776) :
    Calls Tryz.prog 200 #[v] w fun e w' => Below w.heap.size w w' ∧ e = .returned (.bool (changeB c)) := by
  obtain ⟨ok, hop, ha, Ad, cd, Ao, co, rfl, sd, so⟩ := h
  obtain ⟨n, ds, au, os⟩ := c
  dsimp only at *
  have HSD := Lib.hid sd; have HSO := Lib.hid so; have HOP := Lib.hid hop; have HIDS := Lib.hid ok.2.1; have HAUS := Lib.hid ha
  clear ok hop ha sd so
  have HDSC := Lib.hid (fun (u : World) (g1 : Sl u u.heap.size Ad ds.length 32 (idsV ds)) => (show Calls Tryz.prog 235 #[.slice Ad ds.length cd, .int .i64 4096] u fun e w' => Below u.heap.size u w' ∧ e = .returned (.bool (idsB ds 4096)) from refIds_any ds Ad cd 4096 u (by decide) hl1 HIDS.out g1))
  go_enter Tryz.func200, Tryz.ntmps200
  go_upto_region 1 with (first
    | (with_reducible refine at_box ?_
       refine wp_boxM (by rfl) 37 _ rfl [.int .i64 n, .slice Ad ds.length cd, .string au, .slice Ao os.length co] _ rfl rfl (by kernel_rfl) ?_
       intro W0 hb0 hz0 hs0
       have HB0 := Lib.hid hb0; have HZ0 := Lib.hid hz0
       clear hb0 hz0 hs0))
  obtain ⟨z, hz⟩ : ∃ z, w.heap.size = z := ⟨_, rfl⟩
  have HZL := Lib.hid (show z < W0.heap.size by rw [← hz]; exact (qX HZ0.out))
  rw [hz] at HZ0 ⊢
  try simp only [Act.put, List.setIfInBounds_toArray, List.set_cons_zero, List.set_cons_succ]
  clear hz
  have HCELL := Lib.hid (fun (u : World) (hu : Below W0.heap.size W0 u) => (show u.cell? ⟨z, 0, none⟩ = some (.int .i64 n) ∧ u.cell? ⟨z, 1, none⟩ = some (.slice Ad ds.length cd) ∧ u.cell? ⟨z, 2, none⟩ = some (.string au) ∧ u.cell? ⟨z, 3, none⟩ = some (.slice Ao os.length co) from ⟨(hu.cell (p := ⟨z, 0, none⟩) HZL.out).trans (cells_at0 HZ0.out 0), (hu.cell (p := ⟨z, 1, none⟩) HZL.out).trans (cells_at0 HZ0.out 1), (hu.cell (p := ⟨z, 2, none⟩) HZL.out).trans (cells_at0 HZ0.out 2), (hu.cell (p := ⟨z, 3, none⟩) HZL.out).trans (cells_at0 HZ0.out 3)⟩))
  have HC := Lib.hid (qB W0.heap.size W0)
  obtain ⟨c0, c1, c2, c3⟩ := HCELL.out _ HC.out
  by_cases ht1 : n < 1
  · have e1 : decide (n < 1) = true := dT ht1
    have HE : Hid (changeB (n, ds, au, os) = false) := Lib.hid (by
      rw [Bool.eq_false_iff]
      intro hch
      simp only [changeB, Bool.and_eq_true, decide_eq_true_eq] at hch
      obtain ⟨⟨⟨⟨⟨⟨g1, g2⟩, g3⟩, g4⟩, g5⟩, g6⟩, _⟩ := hch
      first | omega | exact absurd g3 ht1 | exact absurd g4 ht1)
    clear ht1
    go_wp2_with (first
      | (go_at_call 235; with_reducible refine (HDSC.out _ ((HSD.out.keep (HB0.out.trans (HC.out.mono HB0.out.size))).more (qT HB0.out.size HC.out.size))).mono ?_; rintro e u1 ⟨hb1, rfl⟩
         rw [HID.out]
         have HC := Lib.hid (HC.out.trans (hb1.mono HC.out.size))
         obtain ⟨c0, c1, c2, c3⟩ := HCELL.out _ HC.out
         clear hb1)
      | (go_at_call 236; refine (refAuthor_any au _ HAUS.out).mono ?_; rintro e u2 ⟨hb2, rfl⟩
         rw [HAU.out]
         have HC := Lib.hid (HC.out.trans (hb2.mono HC.out.size))
         obtain ⟨c0, c1, c2, c3⟩ := HCELL.out _ HC.out
         clear hb2))
    go_ret
    exact ⟨HB0.out.trans (HC.out.mono HB0.out.size), by rw [HE.out]; rfl⟩
  · by_cases ht2 : 1099511627776 < n
    · have e1 : decide (n < 1) = false := dF ht1
      have e2 : decide (1099511627776 < n) = true := dT ht2
      have HE : Hid (changeB (n, ds, au, os) = false) := Lib.hid (by
        rw [Bool.eq_false_iff]
        intro hch
        simp only [changeB, Bool.and_eq_true, decide_eq_true_eq] at hch
        obtain ⟨⟨⟨⟨⟨⟨g1, g2⟩, g3⟩, g4⟩, g5⟩, g6⟩, _⟩ := hch
        first | omega | exact absurd g3 ht2 | exact absurd g4 ht2)
      clear ht1 ht2
      go_wp2_with (first
        | (go_at_call 235; with_reducible refine (HDSC.out _ ((HSD.out.keep (HB0.out.trans (HC.out.mono HB0.out.size))).more (qT HB0.out.size HC.out.size))).mono ?_; rintro e u1 ⟨hb1, rfl⟩
           rw [HID.out]
           have HC := Lib.hid (HC.out.trans (hb1.mono HC.out.size))
           obtain ⟨c0, c1, c2, c3⟩ := HCELL.out _ HC.out
           clear hb1)
        | (go_at_call 236; refine (refAuthor_any au _ HAUS.out).mono ?_; rintro e u2 ⟨hb2, rfl⟩
           rw [HAU.out]
           have HC := Lib.hid (HC.out.trans (hb2.mono HC.out.size))
           obtain ⟨c0, c1, c2, c3⟩ := HCELL.out _ HC.out
           clear hb2))
      go_ret
      exact ⟨HB0.out.trans (HC.out.mono HB0.out.size), by rw [HE.out]; rfl⟩
    · have e1 : decide (n < 1) = false := dF ht1
      have e2 : decide (1099511627776 < n) = false := dF ht2
      by_cases hids : idsB ds 4096 = true
      · have HID := Lib.hid hids
        by_cases hau : authorB au = true
        · have HAU := Lib.hid hau
          by_cases ho1 : os.length < 1
          · have e3 : decide ((os.length : Int) < 1) = true := dT (by omega)
            have HE : Hid (changeB (n, ds, au, os) = false) := Lib.hid (by
              rw [Bool.eq_false_iff]
              intro hch
              simp only [changeB, Bool.and_eq_true, decide_eq_true_eq] at hch
              obtain ⟨⟨⟨⟨⟨⟨g1, g2⟩, g3⟩, g4⟩, g5⟩, g6⟩, _⟩ := hch
              first | omega | exact absurd g3 ho1 | exact absurd g4 ho1)
            clear ht1 ht2 hids hau ho1
            go_wp2_with (first
              | (go_at_call 235; with_reducible refine (HDSC.out _ ((HSD.out.keep (HB0.out.trans (HC.out.mono HB0.out.size))).more (qT HB0.out.size HC.out.size))).mono ?_; rintro e u1 ⟨hb1, rfl⟩
                 rw [HID.out]
                 have HC := Lib.hid (HC.out.trans (hb1.mono HC.out.size))
                 obtain ⟨c0, c1, c2, c3⟩ := HCELL.out _ HC.out
                 clear hb1)
              | (go_at_call 236; refine (refAuthor_any au _ HAUS.out).mono ?_; rintro e u2 ⟨hb2, rfl⟩
                 rw [HAU.out]
                 have HC := Lib.hid (HC.out.trans (hb2.mono HC.out.size))
                 obtain ⟨c0, c1, c2, c3⟩ := HCELL.out _ HC.out
                 clear hb2))
            go_ret
            exact ⟨HB0.out.trans (HC.out.mono HB0.out.size), by rw [HE.out]; rfl⟩
          · have e3 : decide ((os.length : Int) < 1) = false := dF (by omega)
            by_cases ho2 : 4096 < os.length
            · have e4 : decide ((4096 : Int) < (os.length : Int)) = true := dT (by omega)
              have HE : Hid (changeB (n, ds, au, os) = false) := Lib.hid (by
                rw [Bool.eq_false_iff]
                intro hch
                simp only [changeB, Bool.and_eq_true, decide_eq_true_eq] at hch
                obtain ⟨⟨⟨⟨⟨⟨g1, g2⟩, g3⟩, g4⟩, g5⟩, g6⟩, _⟩ := hch
                first | omega | exact absurd g3 ho2 | exact absurd g4 ho2)
              clear ht1 ht2 hids hau ho1 ho2
              go_wp2_with (first
                | (go_at_call 235; with_reducible refine (HDSC.out _ ((HSD.out.keep (HB0.out.trans (HC.out.mono HB0.out.size))).more (qT HB0.out.size HC.out.size))).mono ?_; rintro e u1 ⟨hb1, rfl⟩
                   rw [HID.out]
                   have HC := Lib.hid (HC.out.trans (hb1.mono HC.out.size))
                   obtain ⟨c0, c1, c2, c3⟩ := HCELL.out _ HC.out
                   clear hb1)
                | (go_at_call 236; refine (refAuthor_any au _ HAUS.out).mono ?_; rintro e u2 ⟨hb2, rfl⟩
                   rw [HAU.out]
                   have HC := Lib.hid (HC.out.trans (hb2.mono HC.out.size))
                   obtain ⟨c0, c1, c2, c3⟩ := HCELL.out _ HC.out
                   clear hb2))
              go_ret
              exact ⟨HB0.out.trans (HC.out.mono HB0.out.size), by rw [HE.out]; rfl⟩
            · have e4 : decide ((4096 : Int) < (os.length : Int)) = false := dF (by omega)
              have HSET := Lib.hid (show isSetB ds = true from (idsB_zero hids HIDS.out).2.1)
              have HCH : Hid (∀ b, opsB ds [] os = b → changeB (n, ds, au, os) = b) := Lib.hid (fun b hb => by
                unfold changeB
                simp only
                rw [hb, hids, hau, dT (show 1 ≤ n by omega), dT (show n ≤ 1099511627776 by omega), dT (show 1 ≤ os.length by omega), dT (show os.length ≤ 4096 by omega)]
                rfl)
              have HL4 := Lib.hid (show os.length ≤ 4096 by omega)
              clear ht1 ht2 hids hau ho1 ho2
              go_upto_region 4 with (first
                | (go_at_call 235; with_reducible refine (HDSC.out _ ((HSD.out.keep (HB0.out.trans (HC.out.mono HB0.out.size))).more (qT HB0.out.size HC.out.size))).mono ?_; rintro e u1 ⟨hb1, rfl⟩
                   rw [HID.out]
                   have HC := Lib.hid (HC.out.trans (hb1.mono HC.out.size))
                   obtain ⟨c0, c1, c2, c3⟩ := HCELL.out _ HC.out
                   clear hb1)
                | (go_at_call 236; refine (refAuthor_any au _ HAUS.out).mono ?_; rintro e u2 ⟨hb2, rfl⟩
                   rw [HAU.out]
                   have HC := Lib.hid (HC.out.trans (hb2.mono HC.out.size))
                   obtain ⟨c0, c1, c2, c3⟩ := HCELL.out _ HC.out
                   clear hb2))
              go_wp2_with fail
              go_loopw [3, 4] (fun t3 t4 wr => ∃ (i : Nat) (Am : Option Addr) (cm : Nat), i ≤ os.length ∧ t4 = .int .i64 (i : Int) ∧ t3 = .slice Am (madeL (os.take i)).length cm ∧ Hid (Below W0.heap.size W0 wr) ∧ Hid (opsB ds [] (os.take i) = true) ∧ Hid (wr.ownsRow W0.heap.size 383 34 (.slice Am (madeL (os.take i)).length cm) (madeL (os.take i)).length (rowsV madeV (madeL (os.take i))))) (fun _ t4 _ => os.length - (intOf t4).toNat)
              case atStart => exact ⟨0, none, 0, Nat.zero_le _, rfl, rfl, HC, Lib.hid rfl, Lib.hid (World.ownsRow_nil _ _ _ _)⟩
              case round =>
                clear c0 c1 c2 c3
                obtain ⟨i, Am, cm, hi, rfl, rfl, HBR, HOK, HOWR⟩ := hrel
                obtain ⟨-, c1, -, c3⟩ := HCELL.out wr HBR.out
                by_cases hlt : i < os.length
                · have i0 : (0 : Int) ≤ (i : Int) := by omega
                  have i1 : (i : Int) < (os.length : Int) := by omega
                  obtain ⟨b, off, rfl, hbl, hcl⟩ := ((HSO.out.keep HB0.out).keep (HBR.out.mono HB0.out.size)).2 (by omega)
                  have HROW := Lib.hid (Sl.row (fun x hx => opV_length (HOP.out x hx)) hcl hlt)
                  have HX := Lib.hid (HOP.out _ (List.getElem_mem hlt))
                  have HNX := Lib.hid (opsB_next (deps := ds) hlt)
                  have HST := Lib.hid (fun h => opsB_stop (deps := ds) hlt h)
                  have HMN := Lib.hid (madeL_next hlt)
                  have hmk : (madeL (os.take i)).length ≤ 1000000000 := by
                    have h1 := madeL_len HOK.out
                    rw [List.length_take] at h1
                    have h2 := HL4.out
                    have h3 : min i os.length ≤ 4096 := by omega
                    omega
                  have HMK := Lib.hid (madeL_ok (l := os.take i) fun x hx => HOP.out x (List.mem_of_mem_take hx))
                  have hbl2 : b < wr.heap.size := qL hbl (qT HB0.out.size HBR.out.size)
                  clear hcl
                  obtain ⟨x, hx⟩ : ∃ x, os[i] = x := ⟨_, rfl⟩
                  rw [hx] at HROW HX HNX HMN
                  have HST2 : Hid (opB ds (madeL (os.take i)) x = false → opsB ds [] os = false) := Lib.hid (fun h => HST.out (by rw [hx]; exact h))
                  clear hx HST
                  go_upto_region 7 with fail
                  have hE1 := enE Tryz.func237 rfl
                  have HBD := Lib.hid (show Below wr.heap.size wr wr.drew from (qD _ _))
                  have HB2 := Lib.hid (HBR.out.trans (HBD.out.mono HBR.out.size))
                  have HF1 := Lib.hid (HCELL.out wr.drew HB2.out).2.1
                  have HF3 := Lib.hid (HCELL.out wr.drew HB2.out).2.2.2
                  have HFR := Lib.hid (show wr.drew.rangeAt b (off + i * 70) (opV x) from fun j v hj => (HBD.out.cell (p := ⟨b, off + i * 70 + j, none⟩) hbl2).trans (HROW.out j v hj))
                  have HSDI := Lib.hid ((HSD.out.keep (HB0.out.trans (HB2.out.mono HB0.out.size))).more (qT HB0.out.size HB2.out.size))
                  have HOWI := Lib.hid ((But.of_below (X := NoB) HBD.out).own HOWR.out fun _ _ q => q)
                  have HWI := Lib.hid HB2.out.size
                  refine rN 8 (fun u => u.cell? ⟨z, 1, none⟩ = some (.slice Ad ds.length cd) ∧ u.cell? ⟨z, 3, none⟩ = some (.slice (some ⟨b, off, none⟩) os.length co) ∧ u.rangeAt b (off + i * 70) (opV x)) (⟨HF1.out, HF3.out, HFR.out⟩) fun hF0 => ?_
                  refine tw 0 (.pointer (some ⟨z, 1, none⟩)) ?_
                  go_frame
                  refine tl 1 (.slice Ad ds.length cd) rfl hF0 (fun w' hw' => l1 Tryz.underlying34 hw'.1) ?_
                  go_frame
                  refine tw 2 (.slice Am (madeL (os.take i)).length cm) ?_
                  go_frame
                  refine tw 3 (.pointer (some ⟨z, 3, none⟩)) ?_
                  go_frame
                  refine tl 4 (.slice (some ⟨b, off, none⟩) os.length co) rfl hF0 (fun w' hw' => l1 Tryz.underlying35 hw'.2.1) ?_
                  go_frame
                  refine tw 5 (.int .i64 (i : Int)) ?_
                  go_frame
                  refine tk 6 (.pointer (some ⟨b, off + i * 70, none⟩)) rfl (fun w' hw' => ex_indexG 35 _ _ rfl rfl rfl hlt Tryz.underlying35 sizeOp70) ?_
                  go_frame
                  refine tl 7 (.agg (opV x).toArray) rfl hF0 (fun w' hw' => ldO HX.out hw'.2.2) ?_
                  go_frame
                  refine ta 8 ?_
                  refine tc #[.slice Ad ds.length cd, .slice Am (madeL (os.take i)).length cm, .agg (opV x).toArray] hE1 rfl ?_
                  refine (refOp_any W0.heap.size ds (madeL (os.take i)) x Ad cd Am cm wr.drew hl1 hmk HIDS.out HMK.out HX.out HSET.out HSDI.out HOWI.out HWI.out).mono ?_
                  rintro e w3 ⟨hb3, hg0, hg1⟩
                  have HB3 := Lib.hid (HB2.out.trans hb3)
                  by_cases hop : opB ds (madeL (os.take i)) x = true
                  · have HOPB := Lib.hid hop
                    clear hop
                    obtain ⟨A3, c3', rfl, ho3⟩ := hg1 HOPB.out
                    have HO3 := Lib.hid ho3
                    clear ho3
                    clear hg0 hg1 hb3
                    refine ⟨_, rfl, fun h => absurd h (by decide), ?_⟩
                    go_frame
                    refine tw 9 (.tuple #[.slice A3 ((madeL (os.take i)).length + (madeB x).length) c3', .bool true]) ?_
                    go_frame
                    refine tw 10 (.slice A3 ((madeL (os.take i)).length + (madeB x).length) c3') ?_
                    go_frame
                    refine tw 11 (.bool true) ?_
                    go_frame
                    refine tw 12 (.slice A3 ((madeL (os.take i)).length + (madeB x).length) c3') ?_
                    go_frame
                    refine tw 13 (.bool true) ?_
                    go_frame
                    refine wpAnyN_done (by kernel_rfl) ?_ _
                    go_wp2_with fail
                    have HON := Lib.hid (show opsB ds [] (os.take (i + 1)) = true by rw [HNX.out, HOK.out, HOPB.out]; rfl)
                    have HLM := Lib.hid (show (madeL (os.take (i + 1))).length = (madeL (os.take i)).length + (madeB x).length by rw [HMN.out, List.length_append])
                    go_roundw
                    case rel => exact ⟨i + 1, A3, c3', by omega, by go_num, by rw [HLM.out], HB3, HON, Lib.hid (by rw [HLM.out, HMN.out]; exact HO3.out)⟩
                    case measure => (simp [intOf]) <;> omega
                  · have HOPB := Lib.hid (Bool.eq_false_iff.2 hop)
                    clear hop
                    obtain ⟨v3, rfl⟩ := hg0 HOPB.out
                    clear hg0 hg1 hb3
                    refine ⟨_, rfl, fun h => absurd h (by decide), ?_⟩
                    go_frame
                    refine tw 9 (.tuple #[v3, .bool false]) ?_
                    go_frame
                    refine tw 10 (v3) ?_
                    go_frame
                    refine tw 11 (.bool false) ?_
                    go_frame
                    refine tw 12 (v3) ?_
                    go_frame
                    refine tw 13 (.bool false) ?_
                    go_frame
                    refine wpAnyN_done (by kernel_rfl) ?_ _
                    go_wp2_with fail
                    go_ret
                    exact ⟨HB0.out.trans (HB3.out.mono HB0.out.size), by rw [HCH.out _ (HST2.out HOPB.out)]; rfl⟩
                · have i1 : ¬ (i : Int) < (os.length : Int) := by omega
                  have HALL := Lib.hid (show opsB ds [] os = true by have h := HOK.out; rwa [List.take_of_length_le (by omega)] at h)
                  go_wp2_with fail
                  go_ret
                  exact ⟨HB0.out.trans (HBR.out.mono HB0.out.size), by rw [HCH.out _ HALL.out]; rfl⟩
        · have HAU := Lib.hid (Bool.eq_false_iff.2 hau)
          have HE : Hid (changeB (n, ds, au, os) = false) := Lib.hid (by
            rw [Bool.eq_false_iff]
            intro hch
            simp only [changeB, Bool.and_eq_true, decide_eq_true_eq] at hch
            obtain ⟨⟨⟨⟨⟨⟨g1, g2⟩, g3⟩, g4⟩, g5⟩, g6⟩, _⟩ := hch
            first | omega | exact absurd g3 hau | exact absurd g4 hau)
          clear ht1 ht2 hids hau
          go_wp2_with (first
            | (go_at_call 235; with_reducible refine (HDSC.out _ ((HSD.out.keep (HB0.out.trans (HC.out.mono HB0.out.size))).more (qT HB0.out.size HC.out.size))).mono ?_; rintro e u1 ⟨hb1, rfl⟩
               rw [HID.out]
               have HC := Lib.hid (HC.out.trans (hb1.mono HC.out.size))
               obtain ⟨c0, c1, c2, c3⟩ := HCELL.out _ HC.out
               clear hb1)
            | (go_at_call 236; refine (refAuthor_any au _ HAUS.out).mono ?_; rintro e u2 ⟨hb2, rfl⟩
               rw [HAU.out]
               have HC := Lib.hid (HC.out.trans (hb2.mono HC.out.size))
               obtain ⟨c0, c1, c2, c3⟩ := HCELL.out _ HC.out
               clear hb2))
          go_ret
          exact ⟨HB0.out.trans (HC.out.mono HB0.out.size), by rw [HE.out]; rfl⟩
      · have HID := Lib.hid (Bool.eq_false_iff.2 hids)
        have HE : Hid (changeB (n, ds, au, os) = false) := Lib.hid (by
          rw [Bool.eq_false_iff]
          intro hch
          simp only [changeB, Bool.and_eq_true, decide_eq_true_eq] at hch
          obtain ⟨⟨⟨⟨⟨⟨g1, g2⟩, g3⟩, g4⟩, g5⟩, g6⟩, _⟩ := hch
          first | omega | exact absurd g3 hids | exact absurd g4 hids)
        clear ht1 ht2 hids
        go_wp2_with (first
          | (go_at_call 235; with_reducible refine (HDSC.out _ ((HSD.out.keep (HB0.out.trans (HC.out.mono HB0.out.size))).more (qT HB0.out.size HC.out.size))).mono ?_; rintro e u1 ⟨hb1, rfl⟩
             rw [HID.out]
             have HC := Lib.hid (HC.out.trans (hb1.mono HC.out.size))
             obtain ⟨c0, c1, c2, c3⟩ := HCELL.out _ HC.out
             clear hb1)
          | (go_at_call 236; refine (refAuthor_any au _ HAUS.out).mono ?_; rintro e u2 ⟨hb2, rfl⟩
             rw [HAU.out]
             have HC := Lib.hid (HC.out.trans (hb2.mono HC.out.size))
             obtain ⟨c0, c1, c2, c3⟩ := HCELL.out _ HC.out
             clear hb2))
        go_ret
        exact ⟨HB0.out.trans (HC.out.mono HB0.out.size), by rw [HE.out]; rfl⟩
set_option maxHeartbeats 4000000 in
set_option maxRecDepth 100000 in
theorem refCommit_any (c : CommitD) (v : Value) (w : World) (h : CmIn w w.heap.size v c) (hl1 : c.1.length ≤ 1099511627776) (hl2 : c.2.1.length ≤ 1099511627776) :
    Calls Tryz.prog 201 #[v] w fun e w' => Below w.heap.size w w' ∧ e = .returned (.bool (commitB c)) := by
  obtain ⟨ok, ha, hm, Ap, cp, Ac, cc, rfl, sp, sc⟩ := h
  obtain ⟨ps, cs, a2, ms, st⟩ := c
  dsimp only at *
  have HSP := Lib.hid sp; have HSC := Lib.hid sc; have HIP := Lib.hid ok.1; have HIC := Lib.hid ok.2.1; have HAUS := Lib.hid ha; have HNOS := Lib.hid hm
  clear ok ha hm sp sc
  have HPSC := Lib.hid (fun (u : World) (g1 : Sl u u.heap.size Ap ps.length 32 (idsV ps)) => (show Calls Tryz.prog 235 #[.slice Ap ps.length cp, .int .i64 2] u fun e w' => Below u.heap.size u w' ∧ e = .returned (.bool (idsB ps 2)) from refIds_any ps Ap cp 2 u (by decide) hl1 HIP.out g1))
  have HCSC := Lib.hid (fun (u : World) (g1 : Sl u u.heap.size Ac cs.length 32 (idsV cs)) => (show Calls Tryz.prog 235 #[.slice Ac cs.length cc, .int .i64 4096] u fun e w' => Below u.heap.size u w' ∧ e = .returned (.bool (idsB cs 4096)) from refIds_any cs Ac cc 4096 u (by decide) hl2 HIC.out g1))
  go_enter Tryz.func201, Tryz.ntmps201
  go_upto_region 1 with (first
    | (with_reducible refine at_box ?_
       refine wp_boxM (by rfl) 68 _ rfl [.slice Ap ps.length cp, .slice Ac cs.length cc, .string a2, .string ms, .int .i64 st] _ rfl rfl (by kernel_rfl) ?_
       intro W0 hb0 hz0 hs0
       have HB0 := Lib.hid hb0; have HZ0 := Lib.hid hz0
       clear hb0 hz0 hs0))
  obtain ⟨z, hz⟩ : ∃ z, w.heap.size = z := ⟨_, rfl⟩
  have HZL := Lib.hid (show z < W0.heap.size by rw [← hz]; exact (qX HZ0.out))
  rw [hz] at HZ0 ⊢
  try simp only [Act.put, List.setIfInBounds_toArray, List.set_cons_zero, List.set_cons_succ]
  clear hz
  have HCELL := Lib.hid (fun (u : World) (hu : Below W0.heap.size W0 u) => (show u.cell? ⟨z, 0, none⟩ = some (.slice Ap ps.length cp) ∧ u.cell? ⟨z, 1, none⟩ = some (.slice Ac cs.length cc) ∧ u.cell? ⟨z, 2, none⟩ = some (.string a2) ∧ u.cell? ⟨z, 3, none⟩ = some (.string ms) ∧ u.cell? ⟨z, 4, none⟩ = some (.int .i64 st) from ⟨(hu.cell (p := ⟨z, 0, none⟩) HZL.out).trans (cells_at0 HZ0.out 0), (hu.cell (p := ⟨z, 1, none⟩) HZL.out).trans (cells_at0 HZ0.out 1), (hu.cell (p := ⟨z, 2, none⟩) HZL.out).trans (cells_at0 HZ0.out 2), (hu.cell (p := ⟨z, 3, none⟩) HZL.out).trans (cells_at0 HZ0.out 3), (hu.cell (p := ⟨z, 4, none⟩) HZL.out).trans (cells_at0 HZ0.out 4)⟩))
  have HC := Lib.hid (qB W0.heap.size W0)
  obtain ⟨c0, c1, c2, c3, c4⟩ := HCELL.out _ HC.out
  by_cases hps : idsB ps 2 = true
  · have HPS := Lib.hid hps
    clear hps
    by_cases hcs : idsB cs 4096 = true
    · have HCS := Lib.hid hcs
      clear hcs
      by_cases hau : authorB a2 = true
      · have HAU := Lib.hid hau
        clear hau
        by_cases hno : noteB ms = true
        · have HNO := Lib.hid hno
          clear hno
          rcases (by omega : st < 0 ∨ (0 ≤ st ∧ 1099511627776 < st) ∨ (0 ≤ st ∧ st ≤ 1099511627776)) with q | ⟨q, q2⟩ | ⟨q, q2⟩
          · have d1 : decide ((0 : Int) ≤ st) = false := dF (by omega)
            have HE : Hid (commitB (ps, cs, a2, ms, st) = false) := Lib.hid (by
              unfold commitB
              simp only
              rw [HPS.out, HCS.out, HAU.out, HNO.out]
              simp only [Bool.true_and, Bool.and_true]
              simp; try omega)
            go_wp2_with (first
              | (go_at_call 235; with_reducible refine (HPSC.out _ ((HSP.out.keep (HB0.out.trans (HC.out.mono HB0.out.size))).more (qT HB0.out.size HC.out.size))).mono ?_; rintro e u1 ⟨hb1, rfl⟩
                 rw [HPS.out]
                 have HC := Lib.hid (HC.out.trans (hb1.mono HC.out.size))
                 obtain ⟨c0, c1, c2, c3, c4⟩ := HCELL.out _ HC.out
                 clear hb1)
              | (go_at_call 235; with_reducible refine (HCSC.out _ ((HSC.out.keep (HB0.out.trans (HC.out.mono HB0.out.size))).more (qT HB0.out.size HC.out.size))).mono ?_; rintro e u1 ⟨hb1, rfl⟩
                 rw [HCS.out]
                 have HC := Lib.hid (HC.out.trans (hb1.mono HC.out.size))
                 obtain ⟨c0, c1, c2, c3, c4⟩ := HCELL.out _ HC.out
                 clear hb1)
              | (go_at_call 236; refine (refAuthor_any a2 _ HAUS.out).mono ?_; rintro e u2 ⟨hb2, rfl⟩
                 rw [HAU.out]
                 have HC := Lib.hid (HC.out.trans (hb2.mono HC.out.size))
                 obtain ⟨c0, c1, c2, c3, c4⟩ := HCELL.out _ HC.out
                 clear hb2)
              | (go_at_call 238; refine (refNote_any ms _ HNOS.out).mono ?_; rintro e u2 ⟨hb2, rfl⟩
                 rw [HNO.out]
                 have HC := Lib.hid (HC.out.trans (hb2.mono HC.out.size))
                 obtain ⟨c0, c1, c2, c3, c4⟩ := HCELL.out _ HC.out
                 clear hb2))
            go_ret
            exact ⟨HB0.out.trans (HC.out.mono HB0.out.size), by rw [HE.out]; rfl⟩
          · have d1 : decide ((0 : Int) ≤ st) = true := dT q
            have d2 : decide (st ≤ 1099511627776) = false := dF (by omega)
            have HE : Hid (commitB (ps, cs, a2, ms, st) = false) := Lib.hid (by
              unfold commitB
              simp only
              rw [HPS.out, HCS.out, HAU.out, HNO.out]
              simp only [Bool.true_and, Bool.and_true]
              simp; try omega)
            go_wp2_with (first
              | (go_at_call 235; with_reducible refine (HPSC.out _ ((HSP.out.keep (HB0.out.trans (HC.out.mono HB0.out.size))).more (qT HB0.out.size HC.out.size))).mono ?_; rintro e u1 ⟨hb1, rfl⟩
                 rw [HPS.out]
                 have HC := Lib.hid (HC.out.trans (hb1.mono HC.out.size))
                 obtain ⟨c0, c1, c2, c3, c4⟩ := HCELL.out _ HC.out
                 clear hb1)
              | (go_at_call 235; with_reducible refine (HCSC.out _ ((HSC.out.keep (HB0.out.trans (HC.out.mono HB0.out.size))).more (qT HB0.out.size HC.out.size))).mono ?_; rintro e u1 ⟨hb1, rfl⟩
                 rw [HCS.out]
                 have HC := Lib.hid (HC.out.trans (hb1.mono HC.out.size))
                 obtain ⟨c0, c1, c2, c3, c4⟩ := HCELL.out _ HC.out
                 clear hb1)
              | (go_at_call 236; refine (refAuthor_any a2 _ HAUS.out).mono ?_; rintro e u2 ⟨hb2, rfl⟩
                 rw [HAU.out]
                 have HC := Lib.hid (HC.out.trans (hb2.mono HC.out.size))
                 obtain ⟨c0, c1, c2, c3, c4⟩ := HCELL.out _ HC.out
                 clear hb2)
              | (go_at_call 238; refine (refNote_any ms _ HNOS.out).mono ?_; rintro e u2 ⟨hb2, rfl⟩
                 rw [HNO.out]
                 have HC := Lib.hid (HC.out.trans (hb2.mono HC.out.size))
                 obtain ⟨c0, c1, c2, c3, c4⟩ := HCELL.out _ HC.out
                 clear hb2))
            go_ret
            exact ⟨HB0.out.trans (HC.out.mono HB0.out.size), by rw [HE.out]; rfl⟩
          · have d1 : decide ((0 : Int) ≤ st) = true := dT q
            have d2 : decide (st ≤ 1099511627776) = true := dT q2
            have HE : Hid (commitB (ps, cs, a2, ms, st) = true) := Lib.hid (by
              unfold commitB
              simp only
              rw [HPS.out, HCS.out, HAU.out, HNO.out]
              simp only [Bool.true_and, Bool.and_true]
              simp; omega)
            go_wp2_with (first
              | (go_at_call 235; with_reducible refine (HPSC.out _ ((HSP.out.keep (HB0.out.trans (HC.out.mono HB0.out.size))).more (qT HB0.out.size HC.out.size))).mono ?_; rintro e u1 ⟨hb1, rfl⟩
                 rw [HPS.out]
                 have HC := Lib.hid (HC.out.trans (hb1.mono HC.out.size))
                 obtain ⟨c0, c1, c2, c3, c4⟩ := HCELL.out _ HC.out
                 clear hb1)
              | (go_at_call 235; with_reducible refine (HCSC.out _ ((HSC.out.keep (HB0.out.trans (HC.out.mono HB0.out.size))).more (qT HB0.out.size HC.out.size))).mono ?_; rintro e u1 ⟨hb1, rfl⟩
                 rw [HCS.out]
                 have HC := Lib.hid (HC.out.trans (hb1.mono HC.out.size))
                 obtain ⟨c0, c1, c2, c3, c4⟩ := HCELL.out _ HC.out
                 clear hb1)
              | (go_at_call 236; refine (refAuthor_any a2 _ HAUS.out).mono ?_; rintro e u2 ⟨hb2, rfl⟩
                 rw [HAU.out]
                 have HC := Lib.hid (HC.out.trans (hb2.mono HC.out.size))
                 obtain ⟨c0, c1, c2, c3, c4⟩ := HCELL.out _ HC.out
                 clear hb2)
              | (go_at_call 238; refine (refNote_any ms _ HNOS.out).mono ?_; rintro e u2 ⟨hb2, rfl⟩
                 rw [HNO.out]
                 have HC := Lib.hid (HC.out.trans (hb2.mono HC.out.size))
                 obtain ⟨c0, c1, c2, c3, c4⟩ := HCELL.out _ HC.out
                 clear hb2))
            go_ret
            exact ⟨HB0.out.trans (HC.out.mono HB0.out.size), by rw [HE.out]; rfl⟩
        · have HNO := Lib.hid (Bool.eq_false_iff.2 hno)
          have HE : Hid (commitB (ps, cs, a2, ms, st) = false) := Lib.hid (by
            rw [Bool.eq_false_iff]
            intro hch
            simp only [commitB, Bool.and_eq_true, decide_eq_true_eq] at hch
            obtain ⟨⟨⟨⟨⟨g1, g2⟩, g3⟩, g4⟩, g5⟩, g6⟩ := hch
            exact hno g4)
          clear hno
          go_wp2_with (first
            | (go_at_call 235; with_reducible refine (HPSC.out _ ((HSP.out.keep (HB0.out.trans (HC.out.mono HB0.out.size))).more (qT HB0.out.size HC.out.size))).mono ?_; rintro e u1 ⟨hb1, rfl⟩
               rw [HPS.out]
               have HC := Lib.hid (HC.out.trans (hb1.mono HC.out.size))
               obtain ⟨c0, c1, c2, c3, c4⟩ := HCELL.out _ HC.out
               clear hb1)
            | (go_at_call 235; with_reducible refine (HCSC.out _ ((HSC.out.keep (HB0.out.trans (HC.out.mono HB0.out.size))).more (qT HB0.out.size HC.out.size))).mono ?_; rintro e u1 ⟨hb1, rfl⟩
               rw [HCS.out]
               have HC := Lib.hid (HC.out.trans (hb1.mono HC.out.size))
               obtain ⟨c0, c1, c2, c3, c4⟩ := HCELL.out _ HC.out
               clear hb1)
            | (go_at_call 236; refine (refAuthor_any a2 _ HAUS.out).mono ?_; rintro e u2 ⟨hb2, rfl⟩
               rw [HAU.out]
               have HC := Lib.hid (HC.out.trans (hb2.mono HC.out.size))
               obtain ⟨c0, c1, c2, c3, c4⟩ := HCELL.out _ HC.out
               clear hb2)
            | (go_at_call 238; refine (refNote_any ms _ HNOS.out).mono ?_; rintro e u2 ⟨hb2, rfl⟩
               rw [HNO.out]
               have HC := Lib.hid (HC.out.trans (hb2.mono HC.out.size))
               obtain ⟨c0, c1, c2, c3, c4⟩ := HCELL.out _ HC.out
               clear hb2))
          go_ret
          exact ⟨HB0.out.trans (HC.out.mono HB0.out.size), by rw [HE.out]; rfl⟩
      · have HAU := Lib.hid (Bool.eq_false_iff.2 hau)
        have HE : Hid (commitB (ps, cs, a2, ms, st) = false) := Lib.hid (by
          rw [Bool.eq_false_iff]
          intro hch
          simp only [commitB, Bool.and_eq_true, decide_eq_true_eq] at hch
          obtain ⟨⟨⟨⟨⟨g1, g2⟩, g3⟩, g4⟩, g5⟩, g6⟩ := hch
          exact hau g3)
        clear hau
        go_wp2_with (first
          | (go_at_call 235; with_reducible refine (HPSC.out _ ((HSP.out.keep (HB0.out.trans (HC.out.mono HB0.out.size))).more (qT HB0.out.size HC.out.size))).mono ?_; rintro e u1 ⟨hb1, rfl⟩
             rw [HPS.out]
             have HC := Lib.hid (HC.out.trans (hb1.mono HC.out.size))
             obtain ⟨c0, c1, c2, c3, c4⟩ := HCELL.out _ HC.out
             clear hb1)
          | (go_at_call 235; with_reducible refine (HCSC.out _ ((HSC.out.keep (HB0.out.trans (HC.out.mono HB0.out.size))).more (qT HB0.out.size HC.out.size))).mono ?_; rintro e u1 ⟨hb1, rfl⟩
             rw [HCS.out]
             have HC := Lib.hid (HC.out.trans (hb1.mono HC.out.size))
             obtain ⟨c0, c1, c2, c3, c4⟩ := HCELL.out _ HC.out
             clear hb1)
          | (go_at_call 236; refine (refAuthor_any a2 _ HAUS.out).mono ?_; rintro e u2 ⟨hb2, rfl⟩
             rw [HAU.out]
             have HC := Lib.hid (HC.out.trans (hb2.mono HC.out.size))
             obtain ⟨c0, c1, c2, c3, c4⟩ := HCELL.out _ HC.out
             clear hb2)
          | (go_at_call 238; refine (refNote_any ms _ HNOS.out).mono ?_; rintro e u2 ⟨hb2, rfl⟩
             rw [HNO.out]
             have HC := Lib.hid (HC.out.trans (hb2.mono HC.out.size))
             obtain ⟨c0, c1, c2, c3, c4⟩ := HCELL.out _ HC.out
             clear hb2))
        go_ret
        exact ⟨HB0.out.trans (HC.out.mono HB0.out.size), by rw [HE.out]; rfl⟩
    · have HCS := Lib.hid (Bool.eq_false_iff.2 hcs)
      have HE : Hid (commitB (ps, cs, a2, ms, st) = false) := Lib.hid (by
        rw [Bool.eq_false_iff]
        intro hch
        simp only [commitB, Bool.and_eq_true, decide_eq_true_eq] at hch
        obtain ⟨⟨⟨⟨⟨g1, g2⟩, g3⟩, g4⟩, g5⟩, g6⟩ := hch
        exact hcs g2)
      clear hcs
      go_wp2_with (first
        | (go_at_call 235; with_reducible refine (HPSC.out _ ((HSP.out.keep (HB0.out.trans (HC.out.mono HB0.out.size))).more (qT HB0.out.size HC.out.size))).mono ?_; rintro e u1 ⟨hb1, rfl⟩
           rw [HPS.out]
           have HC := Lib.hid (HC.out.trans (hb1.mono HC.out.size))
           obtain ⟨c0, c1, c2, c3, c4⟩ := HCELL.out _ HC.out
           clear hb1)
        | (go_at_call 235; with_reducible refine (HCSC.out _ ((HSC.out.keep (HB0.out.trans (HC.out.mono HB0.out.size))).more (qT HB0.out.size HC.out.size))).mono ?_; rintro e u1 ⟨hb1, rfl⟩
           rw [HCS.out]
           have HC := Lib.hid (HC.out.trans (hb1.mono HC.out.size))
           obtain ⟨c0, c1, c2, c3, c4⟩ := HCELL.out _ HC.out
           clear hb1)
        | (go_at_call 236; refine (refAuthor_any a2 _ HAUS.out).mono ?_; rintro e u2 ⟨hb2, rfl⟩
           rw [HAU.out]
           have HC := Lib.hid (HC.out.trans (hb2.mono HC.out.size))
           obtain ⟨c0, c1, c2, c3, c4⟩ := HCELL.out _ HC.out
           clear hb2)
        | (go_at_call 238; refine (refNote_any ms _ HNOS.out).mono ?_; rintro e u2 ⟨hb2, rfl⟩
           rw [HNO.out]
           have HC := Lib.hid (HC.out.trans (hb2.mono HC.out.size))
           obtain ⟨c0, c1, c2, c3, c4⟩ := HCELL.out _ HC.out
           clear hb2))
      go_ret
      exact ⟨HB0.out.trans (HC.out.mono HB0.out.size), by rw [HE.out]; rfl⟩
  · have HPS := Lib.hid (Bool.eq_false_iff.2 hps)
    have HE : Hid (commitB (ps, cs, a2, ms, st) = false) := Lib.hid (by
      rw [Bool.eq_false_iff]
      intro hch
      simp only [commitB, Bool.and_eq_true, decide_eq_true_eq] at hch
      obtain ⟨⟨⟨⟨⟨g1, g2⟩, g3⟩, g4⟩, g5⟩, g6⟩ := hch
      exact hps g1)
    clear hps
    go_wp2_with (first
      | (go_at_call 235; with_reducible refine (HPSC.out _ ((HSP.out.keep (HB0.out.trans (HC.out.mono HB0.out.size))).more (qT HB0.out.size HC.out.size))).mono ?_; rintro e u1 ⟨hb1, rfl⟩
         rw [HPS.out]
         have HC := Lib.hid (HC.out.trans (hb1.mono HC.out.size))
         obtain ⟨c0, c1, c2, c3, c4⟩ := HCELL.out _ HC.out
         clear hb1)
      | (go_at_call 235; with_reducible refine (HCSC.out _ ((HSC.out.keep (HB0.out.trans (HC.out.mono HB0.out.size))).more (qT HB0.out.size HC.out.size))).mono ?_; rintro e u1 ⟨hb1, rfl⟩
         rw [HCS.out]
         have HC := Lib.hid (HC.out.trans (hb1.mono HC.out.size))
         obtain ⟨c0, c1, c2, c3, c4⟩ := HCELL.out _ HC.out
         clear hb1)
      | (go_at_call 236; refine (refAuthor_any a2 _ HAUS.out).mono ?_; rintro e u2 ⟨hb2, rfl⟩
         rw [HAU.out]
         have HC := Lib.hid (HC.out.trans (hb2.mono HC.out.size))
         obtain ⟨c0, c1, c2, c3, c4⟩ := HCELL.out _ HC.out
         clear hb2)
      | (go_at_call 238; refine (refNote_any ms _ HNOS.out).mono ?_; rintro e u2 ⟨hb2, rfl⟩
         rw [HNO.out]
         have HC := Lib.hid (HC.out.trans (hb2.mono HC.out.size))
         obtain ⟨c0, c1, c2, c3, c4⟩ := HCELL.out _ HC.out
         clear hb2))
    go_ret
    exact ⟨HB0.out.trans (HC.out.mono HB0.out.size), by rw [HE.out]; rfl⟩
end Go.Proofs.YtdgbjhfkmembdaaGreatDoor
