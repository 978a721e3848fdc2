/-
  The document's Change and Commit. Conditions: as each says.
-/
import Derived.Test.YthjaepmfkgejkaaGreatDoorMerged1
import Derived.Test.YthjaepmfkgejkaaGreatDoorMerged4
import Derived.Test.YthjaepmfkgejkaaGreatDoorMerged13
import Derived.Test.YthjaepmfkgejkaaGreatDoorRefOp8
import Derived.Test.YthjaepmfkgejkaaGreatDoorMerged22
import Derived.Test.YthjaepmfkgejkaaGreatDoorMerged24
import Derived.Test.YthjaepmfkgejkaaGreatDoorObjRight2
import Derived.Test.YthjaepmfkgejkaaGreatDoorMerged3
set_option linter.unusedVariables false
set_option linter.unusedSimpArgs false
set_option maxHeartbeats 4000000
set_option maxRecDepth 100000
namespace Go.Proofs.YthjaepmfkgejkaaGreatDoor
open Lib (hid)
open Go.RowKit Go.Maps
theorem ex_indexG {P : Program} {ρ : Operand → Value} {o : Oper} {w : World} (t : TypeId) (x y : Operand) (ho : o.op = .indexAddr t x y) {b off n c q size : Nat} (hx : ρ x = .slice (some ⟨b, off, none⟩) n c) (hy : ρ y = .int .i64 (q : Int)) (hq : q < n) {e : TypeId} (ht : P.underlying t = some (.slice e)) (hi : (P.info? e).map (·.size) = some size) :
    (execOp ρ o).run P w = .ok (.value (.pointer (some ⟨b, off + q * size, none⟩))) w := by
  cases hp : P.info? e with
  | none => simp [hp] at hi
  | some i =>
    have hs : i.size = size := by simpa [hp] using hi
    unfold execOp
    simp [ho, hx, hy, Instr.indexAt, asIntOf, run_underlying ht, sizeOf, typeInfo, hp, hs, Sem.run_bind, Result.andThen, hq, Addr.add]
    try omega
theorem K7 (c : zL) (v : Value) (w : World) (h : ChIn w w.heap.size v c) (hl1 : c.2.1.length ≤ 1099511627776) (hl2 : c.2.2.2.length ≤ 1099511627776) :
    Calls Tryz.prog 39 #[v] w fun e w' => Below w.heap.size w w' ∧ e = .returned (.bool (kK c)) := by
  obtain ⟨ok, hop, ha, Ad, cd, Ao, co, rfl, sd, so⟩ := h
  obtain ⟨n, ds, au, os⟩ := c
  dsimp only at *
  have HSD := hid sd; have HSO := hid so; have HOP := hid hop; have HIDS := hid ok.2.1; have HAUS := hid ha
  clear ok hop ha sd so
  have HDSC := hid (fun (u : World) (g1 : Sl u u.heap.size Ad ds.length 32 (kr ds)) => (show Calls Tryz.prog 78 #[.slice Ad ds.length cd, .int .i64 4096] u fun e w' => Below u.heap.size u w' ∧ e = .returned (.bool (KA ds 4096)) from vY ds Ad cd 4096 u (by decide) hl1 HIDS.out g1))
  go_enter Tryz.func39, Tryz.ntmps39
  go_upto_region 1 with (first
    | (with_reducible refine kz ?_
       refine ko (by rfl) 26 _ rfl [.int .i64 n, .slice Ad ds.length cd, .string au, .slice Ao os.length co] _ rfl rfl (by kernel_rfl) ?_
       intro W0 hb0 hz0 hs0
       have HB0 := hid hb0; have HZ0 := hid hz0
       clear hb0 hz0 hs0))
  obtain ⟨z, hz⟩ : ∃ z, w.heap.size = z := ⟨_, rfl⟩
  have HZL := hid (show z < W0.heap.size by rw [← hz]; exact (qX HZ0.out))
  rw [hz] at HZ0 ⊢
  try go_frame
  clear hz
  have HCELL := hid (fun (u : World) (hu : Below W0.heap.size W0 u) => (show u.cell? ⟨z, 0, none⟩ = some (.int .i64 n) ∧ u.cell? ⟨z, 1, none⟩ = some (.slice Ad ds.length cd) ∧ u.cell? ⟨z, 2, none⟩ = some (.string au) ∧ u.cell? ⟨z, 3, none⟩ = some (.slice Ao os.length co) from ⟨(hu.cell (p := ⟨z, 0, none⟩) HZL.out).trans (k5 HZ0.out 0), (hu.cell (p := ⟨z, 1, none⟩) HZL.out).trans (k5 HZ0.out 1), (hu.cell (p := ⟨z, 2, none⟩) HZL.out).trans (k5 HZ0.out 2), (hu.cell (p := ⟨z, 3, none⟩) HZL.out).trans (k5 HZ0.out 3)⟩))
  have HC := hid (qB W0.heap.size W0)
  obtain ⟨c0, c1, c2, c3⟩ := HCELL.out _ HC.out
  by_cases ht1 : n < 1
  ·
   have e1 : decide (n < 1) = true := dT ht1
   have HE : Hid (kK (n, ds, au, os) = false) := hid (by
     rw [Bool.eq_false_iff]
     intro hch
     simp only [kK, Bool.and_eq_true, decide_eq_true_eq] at hch
     obtain ⟨⟨⟨⟨⟨⟨g1, g2⟩, g3⟩, g4⟩, g5⟩, g6⟩, _⟩ := hch
     first | omega | exact absurd g3 ht1 | exact absurd g4 ht1)
   clear ht1
   go_wp2_with (first
     | (go_at_call 78; with_reducible refine (HDSC.out _ ((HSD.out.keep (HB0.out.trans (HC.out.mono HB0.out.size))).more (qT HB0.out.size HC.out.size))).mono ?_; rintro e u1 ⟨hb1, rfl⟩
        rw [HID.out]
        have HC := hid (HC.out.trans (hb1.mono HC.out.size))
        obtain ⟨c0, c1, c2, c3⟩ := HCELL.out _ HC.out
        clear hb1)
     | (go_at_call 79; refine (jp au _ HAUS.out).mono ?_; rintro e u2 ⟨hb2, rfl⟩
        rw [HAU.out]
        have HC := hid (HC.out.trans (hb2.mono HC.out.size))
        obtain ⟨c0, c1, c2, c3⟩ := HCELL.out _ HC.out
        clear hb2))
   go_ret
   exact ⟨HB0.out.trans (HC.out.mono HB0.out.size), by rw [HE.out]; rfl⟩
  ·
   by_cases ht2 : 1099511627776 < n
   ·
    have e1 : decide (n < 1) = false := dF ht1
    have e2 : decide (1099511627776 < n) = true := dT ht2
    have HE : Hid (kK (n, ds, au, os) = false) := hid (by
      rw [Bool.eq_false_iff]
      intro hch
      simp only [kK, Bool.and_eq_true, decide_eq_true_eq] at hch
      obtain ⟨⟨⟨⟨⟨⟨g1, g2⟩, g3⟩, g4⟩, g5⟩, g6⟩, _⟩ := hch
      first | omega | exact absurd g3 ht2 | exact absurd g4 ht2)
    clear ht1 ht2
    go_wp2_with (first
      | (go_at_call 78; with_reducible refine (HDSC.out _ ((HSD.out.keep (HB0.out.trans (HC.out.mono HB0.out.size))).more (qT HB0.out.size HC.out.size))).mono ?_; rintro e u1 ⟨hb1, rfl⟩
         rw [HID.out]
         have HC := hid (HC.out.trans (hb1.mono HC.out.size))
         obtain ⟨c0, c1, c2, c3⟩ := HCELL.out _ HC.out
         clear hb1)
      | (go_at_call 79; refine (jp au _ HAUS.out).mono ?_; rintro e u2 ⟨hb2, rfl⟩
         rw [HAU.out]
         have HC := hid (HC.out.trans (hb2.mono HC.out.size))
         obtain ⟨c0, c1, c2, c3⟩ := HCELL.out _ HC.out
         clear hb2))
    go_ret
    exact ⟨HB0.out.trans (HC.out.mono HB0.out.size), by rw [HE.out]; rfl⟩
   ·
    have e1 : decide (n < 1) = false := dF ht1
    have e2 : decide (1099511627776 < n) = false := dF ht2
    by_cases hids : KA ds 4096 = true
    ·
     have HID := hid hids
     by_cases hau : jM au = true
     ·
      have HAU := hid hau
      by_cases ho1 : os.length < 1
      ·
       have e3 : decide ((os.length : Int) < 1) = true := dT (by omega)
       have HE : Hid (kK (n, ds, au, os) = false) := hid (by
         rw [Bool.eq_false_iff]
         intro hch
         simp only [kK, Bool.and_eq_true, decide_eq_true_eq] at hch
         obtain ⟨⟨⟨⟨⟨⟨g1, g2⟩, g3⟩, g4⟩, g5⟩, g6⟩, _⟩ := hch
         first | omega | exact absurd g3 ho1 | exact absurd g4 ho1)
       clear ht1 ht2 hids hau ho1
       go_wp2_with (first
         | (go_at_call 78; with_reducible refine (HDSC.out _ ((HSD.out.keep (HB0.out.trans (HC.out.mono HB0.out.size))).more (qT HB0.out.size HC.out.size))).mono ?_; rintro e u1 ⟨hb1, rfl⟩
            rw [HID.out]
            have HC := hid (HC.out.trans (hb1.mono HC.out.size))
            obtain ⟨c0, c1, c2, c3⟩ := HCELL.out _ HC.out
            clear hb1)
         | (go_at_call 79; refine (jp au _ HAUS.out).mono ?_; rintro e u2 ⟨hb2, rfl⟩
            rw [HAU.out]
            have HC := hid (HC.out.trans (hb2.mono HC.out.size))
            obtain ⟨c0, c1, c2, c3⟩ := HCELL.out _ HC.out
            clear hb2))
       go_ret
       exact ⟨HB0.out.trans (HC.out.mono HB0.out.size), by rw [HE.out]; rfl⟩
      ·
       have e3 : decide ((os.length : Int) < 1) = false := dF (by omega)
       by_cases ho2 : 4096 < os.length
       ·
        have e4 : decide ((4096 : Int) < (os.length : Int)) = true := dT (by omega)
        have HE : Hid (kK (n, ds, au, os) = false) := hid (by
          rw [Bool.eq_false_iff]
          intro hch
          simp only [kK, Bool.and_eq_true, decide_eq_true_eq] at hch
          obtain ⟨⟨⟨⟨⟨⟨g1, g2⟩, g3⟩, g4⟩, g5⟩, g6⟩, _⟩ := hch
          first | omega | exact absurd g3 ho2 | exact absurd g4 ho2)
        clear ht1 ht2 hids hau ho1 ho2
        go_wp2_with (first
          | (go_at_call 78; with_reducible refine (HDSC.out _ ((HSD.out.keep (HB0.out.trans (HC.out.mono HB0.out.size))).more (qT HB0.out.size HC.out.size))).mono ?_; rintro e u1 ⟨hb1, rfl⟩
             rw [HID.out]
             have HC := hid (HC.out.trans (hb1.mono HC.out.size))
             obtain ⟨c0, c1, c2, c3⟩ := HCELL.out _ HC.out
             clear hb1)
          | (go_at_call 79; refine (jp au _ HAUS.out).mono ?_; rintro e u2 ⟨hb2, rfl⟩
             rw [HAU.out]
             have HC := hid (HC.out.trans (hb2.mono HC.out.size))
             obtain ⟨c0, c1, c2, c3⟩ := HCELL.out _ HC.out
             clear hb2))
        go_ret
        exact ⟨HB0.out.trans (HC.out.mono HB0.out.size), by rw [HE.out]; rfl⟩
       ·
        have e4 : decide ((4096 : Int) < (os.length : Int)) = false := dF (by omega)
        have HSET := hid (show kI ds = true from (vw hids HIDS.out).2.1)
        have HCH : Hid (∀ b, Jr ds [] os = b → kK (n, ds, au, os) = b) := hid (fun b hb => by
          unfold kK
          simp only
          rw [hb, hids, hau, dT (show 1 ≤ n by omega), dT (show n ≤ 1099511627776 by omega), dT (show 1 ≤ os.length by omega), dT (show os.length ≤ 4096 by omega)]
          rfl)
        have HL4 := hid (show os.length ≤ 4096 by omega)
        clear ht1 ht2 hids hau ho1 ho2
        go_upto_region 4 with (first
          | (go_at_call 78; with_reducible refine (HDSC.out _ ((HSD.out.keep (HB0.out.trans (HC.out.mono HB0.out.size))).more (qT HB0.out.size HC.out.size))).mono ?_; rintro e u1 ⟨hb1, rfl⟩
             rw [HID.out]
             have HC := hid (HC.out.trans (hb1.mono HC.out.size))
             obtain ⟨c0, c1, c2, c3⟩ := HCELL.out _ HC.out
             clear hb1)
          | (go_at_call 79; refine (jp au _ HAUS.out).mono ?_; rintro e u2 ⟨hb2, rfl⟩
             rw [HAU.out]
             have HC := hid (HC.out.trans (hb2.mono HC.out.size))
             obtain ⟨c0, c1, c2, c3⟩ := HCELL.out _ HC.out
             clear hb2))
        go_wp2_with fail
        go_loopw [3, 4] (fun t3 t4 wr => ∃ (i : Nat) (Am : Option Addr) (cm : Nat), i ≤ os.length ∧ t4 = .int .i64 (i : Int) ∧ t3 = .slice Am (zy (os.take i)).length cm ∧ Hid (Below W0.heap.size W0 wr) ∧ Hid (Jr ds [] (os.take i) = true) ∧ Hid (wr.ownsRow W0.heap.size 166 34 (.slice Am (zy (os.take i)).length cm) (zy (os.take i)).length (jb kE (zy (os.take i))))) (fun _ t4 _ => os.length - (intOf t4).toNat)
        case atStart => exact ⟨0, none, 0, Nat.zero_le _, rfl, rfl, HC, hid rfl, hid (World.ownsRow_nil _ _ _ _)⟩
        case round =>
          clear c0 c1 c2 c3
          obtain ⟨i, Am, cm, hi, rfl, rfl, HBR, HOK, HOWR⟩ := hrel
          obtain ⟨-, c1, -, c3⟩ := HCELL.out wr HBR.out
          by_cases hlt : i < os.length
          ·
           have i0 : (0 : Int) ≤ (i : Int) := by omega
           have i1 : (i : Int) < (os.length : Int) := by omega
           obtain ⟨b, off, rfl, hbl, hcl⟩ := ((HSO.out.keep HB0.out).keep (HBR.out.mono HB0.out.size)).2 (by omega)
           have HROW := hid (Sl.row (fun x hx => kq (HOP.out x hx)) hcl hlt)
           have HX := hid (HOP.out _ (List.getElem_mem hlt))
           have HNX := hid (uS (deps := ds) hlt)
           have HST := hid (fun h => qW (deps := ds) hlt h)
           have HMN := hid (UX hlt)
           have hmk : (zy (os.take i)).length ≤ 1000000000 := by
             have h1 := uT HOK.out
             rw [List.length_take] at h1
             have h2 := HL4.out
             have h3 : min i os.length ≤ 4096 := by omega
             omega
           have HMK := hid (madeL_ok (l := os.take i) fun x hx => HOP.out x (List.mem_of_mem_take hx))
           have hbl2 : b < wr.heap.size := qL hbl (qT HB0.out.size HBR.out.size)
           clear hcl
           obtain ⟨x, hx⟩ : ∃ x, os[i] = x := ⟨_, rfl⟩
           rw [hx] at HROW HX HNX HMN
           have HST2 : Hid (opB ds (zy (os.take i)) x = false → Jr ds [] os = false) := hid (fun h => HST.out (by rw [hx]; exact h))
           clear hx HST
           go_upto_region 7 with fail
           have hE1 := enE Tryz.func80 rfl
           have HBD := hid (show Below wr.heap.size wr wr.drew from (qD _ _))
           have HB2 := hid (HBR.out.trans (HBD.out.mono HBR.out.size))
           have HF1 := hid (HCELL.out wr.drew HB2.out).2.1
           have HF3 := hid (HCELL.out wr.drew HB2.out).2.2.2
           have HFR := hid (show wr.drew.rangeAt b (off + i * 70) (opV x) from fun j v hj => (HBD.out.cell (p := ⟨b, off + i * 70 + j, none⟩) hbl2).trans (HROW.out j v hj))
           have HSDI := hid ((HSD.out.keep (HB0.out.trans (HB2.out.mono HB0.out.size))).more (qT HB0.out.size HB2.out.size))
           have HOWI := hid ((But.of_below (X := NoB) HBD.out).own HOWR.out fun _ _ q => q)
           have HWI := hid HB2.out.size
           refine rN 8 (fun u => u.cell? ⟨z, 1, none⟩ = some (.slice Ad ds.length cd) ∧ u.cell? ⟨z, 3, none⟩ = some (.slice (some ⟨b, off, none⟩) os.length co) ∧ u.rangeAt b (off + i * 70) (opV x)) (⟨HF1.out, HF3.out, HFR.out⟩) fun hF0 => ?_
           refine tw 0 (.pointer (some ⟨z, 1, none⟩)) ?_
           go_frame
           refine tl 1 (.slice Ad ds.length cd) rfl hF0 (fun w' hw' => l1 Tryz.underlying23 hw'.1) ?_
           go_frame
           refine tw 2 (.slice Am (zy (os.take i)).length cm) ?_
           go_frame
           refine tw 3 (.pointer (some ⟨z, 3, none⟩)) ?_
           go_frame
           refine tl 4 (.slice (some ⟨b, off, none⟩) os.length co) rfl hF0 (fun w' hw' => l1 Tryz.underlying24 hw'.2.1) ?_
           go_frame
           refine tw 5 (.int .i64 (i : Int)) ?_
           go_frame
           refine tk 6 (.pointer (some ⟨b, off + i * 70, none⟩)) rfl (fun w' hw' => ex_indexG 24 _ _ rfl rfl rfl hlt Tryz.underlying24 js) ?_
           go_frame
           refine tl 7 (.agg (opV x).toArray) rfl hF0 (fun w' hw' => ldO HX.out hw'.2.2) ?_
           go_frame
           refine ta 8 ?_
           refine tc #[.slice Ad ds.length cd, .slice Am (zy (os.take i)).length cm, .agg (opV x).toArray] hE1 rfl ?_
           refine (refOp_any W0.heap.size ds (zy (os.take i)) x Ad cd Am cm wr.drew hl1 hmk HIDS.out HMK.out HX.out HSET.out HSDI.out HOWI.out HWI.out).mono ?_
           rintro e w3 ⟨hb3, hg0, hg1⟩
           have HB3 := hid (HB2.out.trans hb3)
           by_cases hop : opB ds (zy (os.take i)) x = true
           ·
            have HOPB := hid hop
            clear hop
            obtain ⟨A3, c3', rfl, ho3⟩ := hg1 HOPB.out
            have HO3 := hid ho3
            clear ho3
            clear hg0 hg1 hb3
            refine ⟨_, rfl, fun h => absurd h (by decide), ?_⟩
            go_frame
            refine tw 9 (.tuple #[.slice A3 ((zy (os.take i)).length + (zj x).length) c3', .bool true]) ?_
            go_frame
            refine tw 10 (.slice A3 ((zy (os.take i)).length + (zj x).length) c3') ?_
            go_frame
            refine tw 11 (.bool true) ?_
            go_frame
            refine tw 12 (.slice A3 ((zy (os.take i)).length + (zj x).length) c3') ?_
            go_frame
            refine tw 13 (.bool true) ?_
            go_frame
            refine kv (by kernel_rfl) ?_ _
            go_wp2_with fail
            have HON := hid (show Jr ds [] (os.take (i + 1)) = true by rw [HNX.out, HOK.out, HOPB.out]; rfl)
            have HLM := hid (show (zy (os.take (i + 1))).length = (zy (os.take i)).length + (zj x).length by rw [HMN.out, List.length_append])
            go_roundw
            case rel => exact ⟨i + 1, A3, c3', by omega, by go_num, by rw [HLM.out], HB3, HON, hid (by rw [HLM.out, HMN.out]; exact HO3.out)⟩
            case measure => (simp [intOf]) <;> omega
           ·
            have HOPB := hid (Bool.eq_false_iff.2 hop)
            clear hop
            obtain ⟨v3, rfl⟩ := hg0 HOPB.out
            clear hg0 hg1 hb3
            refine ⟨_, rfl, fun h => absurd h (by decide), ?_⟩
            go_frame
            refine tw 9 (.tuple #[v3, .bool false]) ?_
            go_frame
            refine tw 10 (v3) ?_
            go_frame
            refine tw 11 (.bool false) ?_
            go_frame
            refine tw 12 (v3) ?_
            go_frame
            refine tw 13 (.bool false) ?_
            go_frame
            refine kv (by kernel_rfl) ?_ _
            go_wp2_with fail
            go_ret
            exact ⟨HB0.out.trans (HB3.out.mono HB0.out.size), by rw [HCH.out _ (HST2.out HOPB.out)]; rfl⟩
          ·
           have i1 : ¬ (i : Int) < (os.length : Int) := by omega
           have HALL := hid (show Jr ds [] os = true by have h := HOK.out; rwa [List.take_of_length_le (by omega)] at h)
           go_wp2_with fail
           go_ret
           exact ⟨HB0.out.trans (HBR.out.mono HB0.out.size), by rw [HCH.out _ HALL.out]; rfl⟩
     ·
      have HAU := hid (Bool.eq_false_iff.2 hau)
      have HE : Hid (kK (n, ds, au, os) = false) := hid (by
        rw [Bool.eq_false_iff]
        intro hch
        simp only [kK, Bool.and_eq_true, decide_eq_true_eq] at hch
        obtain ⟨⟨⟨⟨⟨⟨g1, g2⟩, g3⟩, g4⟩, g5⟩, g6⟩, _⟩ := hch
        first | omega | exact absurd g3 hau | exact absurd g4 hau)
      clear ht1 ht2 hids hau
      go_wp2_with (first
        | (go_at_call 78; with_reducible refine (HDSC.out _ ((HSD.out.keep (HB0.out.trans (HC.out.mono HB0.out.size))).more (qT HB0.out.size HC.out.size))).mono ?_; rintro e u1 ⟨hb1, rfl⟩
           rw [HID.out]
           have HC := hid (HC.out.trans (hb1.mono HC.out.size))
           obtain ⟨c0, c1, c2, c3⟩ := HCELL.out _ HC.out
           clear hb1)
        | (go_at_call 79; refine (jp au _ HAUS.out).mono ?_; rintro e u2 ⟨hb2, rfl⟩
           rw [HAU.out]
           have HC := hid (HC.out.trans (hb2.mono HC.out.size))
           obtain ⟨c0, c1, c2, c3⟩ := HCELL.out _ HC.out
           clear hb2))
      go_ret
      exact ⟨HB0.out.trans (HC.out.mono HB0.out.size), by rw [HE.out]; rfl⟩
    ·
     have HID := hid (Bool.eq_false_iff.2 hids)
     have HE : Hid (kK (n, ds, au, os) = false) := hid (by
       rw [Bool.eq_false_iff]
       intro hch
       simp only [kK, Bool.and_eq_true, decide_eq_true_eq] at hch
       obtain ⟨⟨⟨⟨⟨⟨g1, g2⟩, g3⟩, g4⟩, g5⟩, g6⟩, _⟩ := hch
       first | omega | exact absurd g3 hids | exact absurd g4 hids)
     clear ht1 ht2 hids
     go_wp2_with (first
       | (go_at_call 78; with_reducible refine (HDSC.out _ ((HSD.out.keep (HB0.out.trans (HC.out.mono HB0.out.size))).more (qT HB0.out.size HC.out.size))).mono ?_; rintro e u1 ⟨hb1, rfl⟩
          rw [HID.out]
          have HC := hid (HC.out.trans (hb1.mono HC.out.size))
          obtain ⟨c0, c1, c2, c3⟩ := HCELL.out _ HC.out
          clear hb1)
       | (go_at_call 79; refine (jp au _ HAUS.out).mono ?_; rintro e u2 ⟨hb2, rfl⟩
          rw [HAU.out]
          have HC := hid (HC.out.trans (hb2.mono HC.out.size))
          obtain ⟨c0, c1, c2, c3⟩ := HCELL.out _ HC.out
          clear hb2))
     go_ret
     exact ⟨HB0.out.trans (HC.out.mono HB0.out.size), by rw [HE.out]; rfl⟩
theorem KC (c : zV) (v : Value) (w : World) (h : CmIn w w.heap.size v c) (hl1 : c.1.length ≤ 1099511627776) (hl2 : c.2.1.length ≤ 1099511627776) :
    Calls Tryz.prog 40 #[v] w fun e w' => Below w.heap.size w w' ∧ e = .returned (.bool (kO c)) := by
  obtain ⟨ok, ha, hm, Ap, cp, Ac, cc, rfl, sp, sc⟩ := h
  obtain ⟨ps, cs, a2, ms, st⟩ := c
  dsimp only at *
  have HSP := hid sp; have HSC := hid sc; have HIP := hid ok.1; have HIC := hid ok.2.1; have HAUS := hid ha; have HNOS := hid hm
  clear ok ha hm sp sc
  have HPSC := hid (fun (u : World) (g1 : Sl u u.heap.size Ap ps.length 32 (kr ps)) => (show Calls Tryz.prog 78 #[.slice Ap ps.length cp, .int .i64 2] u fun e w' => Below u.heap.size u w' ∧ e = .returned (.bool (KA ps 2)) from vY ps Ap cp 2 u (by decide) hl1 HIP.out g1))
  have HCSC := hid (fun (u : World) (g1 : Sl u u.heap.size Ac cs.length 32 (kr cs)) => (show Calls Tryz.prog 78 #[.slice Ac cs.length cc, .int .i64 4096] u fun e w' => Below u.heap.size u w' ∧ e = .returned (.bool (KA cs 4096)) from vY cs Ac cc 4096 u (by decide) hl2 HIC.out g1))
  go_enter Tryz.func40, Tryz.ntmps40
  go_upto_region 1 with (first
    | (with_reducible refine kz ?_
       refine ko (by rfl) 28 _ rfl [.slice Ap ps.length cp, .slice Ac cs.length cc, .string a2, .string ms, .int .i64 st] _ rfl rfl (by kernel_rfl) ?_
       intro W0 hb0 hz0 hs0
       have HB0 := hid hb0; have HZ0 := hid hz0
       clear hb0 hz0 hs0))
  obtain ⟨z, hz⟩ : ∃ z, w.heap.size = z := ⟨_, rfl⟩
  have HZL := hid (show z < W0.heap.size by rw [← hz]; exact (qX HZ0.out))
  rw [hz] at HZ0 ⊢
  try go_frame
  clear hz
  have HCELL := hid (fun (u : World) (hu : Below W0.heap.size W0 u) => (show u.cell? ⟨z, 0, none⟩ = some (.slice Ap ps.length cp) ∧ u.cell? ⟨z, 1, none⟩ = some (.slice Ac cs.length cc) ∧ u.cell? ⟨z, 2, none⟩ = some (.string a2) ∧ u.cell? ⟨z, 3, none⟩ = some (.string ms) ∧ u.cell? ⟨z, 4, none⟩ = some (.int .i64 st) from ⟨(hu.cell (p := ⟨z, 0, none⟩) HZL.out).trans (k5 HZ0.out 0), (hu.cell (p := ⟨z, 1, none⟩) HZL.out).trans (k5 HZ0.out 1), (hu.cell (p := ⟨z, 2, none⟩) HZL.out).trans (k5 HZ0.out 2), (hu.cell (p := ⟨z, 3, none⟩) HZL.out).trans (k5 HZ0.out 3), (hu.cell (p := ⟨z, 4, none⟩) HZL.out).trans (k5 HZ0.out 4)⟩))
  have HC := hid (qB W0.heap.size W0)
  obtain ⟨c0, c1, c2, c3, c4⟩ := HCELL.out _ HC.out
  by_cases hps : KA ps 2 = true
  ·
   have HPS := hid hps
   clear hps
   by_cases hcs : KA cs 4096 = true
   ·
    have HCS := hid hcs
    clear hcs
    by_cases hau : jM a2 = true
    ·
     have HAU := hid hau
     clear hau
     by_cases hno : JQ ms = true
     ·
      have HNO := hid hno
      clear hno
      rcases (by omega : st < 0 ∨ (0 ≤ st ∧ 1099511627776 < st) ∨ (0 ≤ st ∧ st ≤ 1099511627776)) with q | ⟨q, q2⟩ | ⟨q, q2⟩
      focus
        have d1 : decide ((0 : Int) ≤ st) = false := dF (by omega)
        have HE : Hid (kO (ps, cs, a2, ms, st) = false) := hid (by
          unfold kO
          simp only
          rw [HPS.out, HCS.out, HAU.out, HNO.out]
          simp only [Bool.true_and, Bool.and_true]
          simp; try omega)
      rotate_left
      focus
        have d1 : decide ((0 : Int) ≤ st) = true := dT q
        have d2 : decide (st ≤ 1099511627776) = false := dF (by omega)
        have HE : Hid (kO (ps, cs, a2, ms, st) = false) := hid (by
          unfold kO
          simp only
          rw [HPS.out, HCS.out, HAU.out, HNO.out]
          simp only [Bool.true_and, Bool.and_true]
          simp; try omega)
      rotate_left
      focus
        have d1 : decide ((0 : Int) ≤ st) = true := dT q
        have d2 : decide (st ≤ 1099511627776) = true := dT q2
        have HE : Hid (kO (ps, cs, a2, ms, st) = true) := hid (by
          unfold kO
          simp only
          rw [HPS.out, HCS.out, HAU.out, HNO.out]
          simp only [Bool.true_and, Bool.and_true]
          simp; omega)
      all_goals
        go_wp2_with (first
          | (go_at_call 78; with_reducible refine (HPSC.out _ ((HSP.out.keep (HB0.out.trans (HC.out.mono HB0.out.size))).more (qT HB0.out.size HC.out.size))).mono ?_; rintro e u1 ⟨hb1, rfl⟩
             rw [HPS.out]
             have HC := hid (HC.out.trans (hb1.mono HC.out.size))
             obtain ⟨c0, c1, c2, c3, c4⟩ := HCELL.out _ HC.out
             clear hb1)
          | (go_at_call 78; with_reducible refine (HCSC.out _ ((HSC.out.keep (HB0.out.trans (HC.out.mono HB0.out.size))).more (qT HB0.out.size HC.out.size))).mono ?_; rintro e u1 ⟨hb1, rfl⟩
             rw [HCS.out]
             have HC := hid (HC.out.trans (hb1.mono HC.out.size))
             obtain ⟨c0, c1, c2, c3, c4⟩ := HCELL.out _ HC.out
             clear hb1)
          | (go_at_call 79; refine (jp a2 _ HAUS.out).mono ?_; rintro e u2 ⟨hb2, rfl⟩
             rw [HAU.out]
             have HC := hid (HC.out.trans (hb2.mono HC.out.size))
             obtain ⟨c0, c1, c2, c3, c4⟩ := HCELL.out _ HC.out
             clear hb2)
          | (go_at_call 81; refine (Ju ms _ HNOS.out).mono ?_; rintro e u2 ⟨hb2, rfl⟩
             rw [HNO.out]
             have HC := hid (HC.out.trans (hb2.mono HC.out.size))
             obtain ⟨c0, c1, c2, c3, c4⟩ := HCELL.out _ HC.out
             clear hb2))
        go_ret
        exact ⟨HB0.out.trans (HC.out.mono HB0.out.size), by rw [HE.out]; rfl⟩
     ·
      have HNO := hid (Bool.eq_false_iff.2 hno)
      have HE : Hid (kO (ps, cs, a2, ms, st) = false) := hid (by
        rw [Bool.eq_false_iff]
        intro hch
        simp only [kO, Bool.and_eq_true, decide_eq_true_eq] at hch
        obtain ⟨⟨⟨⟨⟨g1, g2⟩, g3⟩, g4⟩, g5⟩, g6⟩ := hch
        exact hno g4)
      clear hno
      go_wp2_with (first
        | (go_at_call 78; with_reducible refine (HPSC.out _ ((HSP.out.keep (HB0.out.trans (HC.out.mono HB0.out.size))).more (qT HB0.out.size HC.out.size))).mono ?_; rintro e u1 ⟨hb1, rfl⟩
           rw [HPS.out]
           have HC := hid (HC.out.trans (hb1.mono HC.out.size))
           obtain ⟨c0, c1, c2, c3, c4⟩ := HCELL.out _ HC.out
           clear hb1)
        | (go_at_call 78; with_reducible refine (HCSC.out _ ((HSC.out.keep (HB0.out.trans (HC.out.mono HB0.out.size))).more (qT HB0.out.size HC.out.size))).mono ?_; rintro e u1 ⟨hb1, rfl⟩
           rw [HCS.out]
           have HC := hid (HC.out.trans (hb1.mono HC.out.size))
           obtain ⟨c0, c1, c2, c3, c4⟩ := HCELL.out _ HC.out
           clear hb1)
        | (go_at_call 79; refine (jp a2 _ HAUS.out).mono ?_; rintro e u2 ⟨hb2, rfl⟩
           rw [HAU.out]
           have HC := hid (HC.out.trans (hb2.mono HC.out.size))
           obtain ⟨c0, c1, c2, c3, c4⟩ := HCELL.out _ HC.out
           clear hb2)
        | (go_at_call 81; refine (Ju ms _ HNOS.out).mono ?_; rintro e u2 ⟨hb2, rfl⟩
           rw [HNO.out]
           have HC := hid (HC.out.trans (hb2.mono HC.out.size))
           obtain ⟨c0, c1, c2, c3, c4⟩ := HCELL.out _ HC.out
           clear hb2))
      go_ret
      exact ⟨HB0.out.trans (HC.out.mono HB0.out.size), by rw [HE.out]; rfl⟩
    ·
     have HAU := hid (Bool.eq_false_iff.2 hau)
     have HE : Hid (kO (ps, cs, a2, ms, st) = false) := hid (by
       rw [Bool.eq_false_iff]
       intro hch
       simp only [kO, Bool.and_eq_true, decide_eq_true_eq] at hch
       obtain ⟨⟨⟨⟨⟨g1, g2⟩, g3⟩, g4⟩, g5⟩, g6⟩ := hch
       exact hau g3)
     clear hau
     go_wp2_with (first
       | (go_at_call 78; with_reducible refine (HPSC.out _ ((HSP.out.keep (HB0.out.trans (HC.out.mono HB0.out.size))).more (qT HB0.out.size HC.out.size))).mono ?_; rintro e u1 ⟨hb1, rfl⟩
          rw [HPS.out]
          have HC := hid (HC.out.trans (hb1.mono HC.out.size))
          obtain ⟨c0, c1, c2, c3, c4⟩ := HCELL.out _ HC.out
          clear hb1)
       | (go_at_call 78; with_reducible refine (HCSC.out _ ((HSC.out.keep (HB0.out.trans (HC.out.mono HB0.out.size))).more (qT HB0.out.size HC.out.size))).mono ?_; rintro e u1 ⟨hb1, rfl⟩
          rw [HCS.out]
          have HC := hid (HC.out.trans (hb1.mono HC.out.size))
          obtain ⟨c0, c1, c2, c3, c4⟩ := HCELL.out _ HC.out
          clear hb1)
       | (go_at_call 79; refine (jp a2 _ HAUS.out).mono ?_; rintro e u2 ⟨hb2, rfl⟩
          rw [HAU.out]
          have HC := hid (HC.out.trans (hb2.mono HC.out.size))
          obtain ⟨c0, c1, c2, c3, c4⟩ := HCELL.out _ HC.out
          clear hb2)
       | (go_at_call 81; refine (Ju ms _ HNOS.out).mono ?_; rintro e u2 ⟨hb2, rfl⟩
          rw [HNO.out]
          have HC := hid (HC.out.trans (hb2.mono HC.out.size))
          obtain ⟨c0, c1, c2, c3, c4⟩ := HCELL.out _ HC.out
          clear hb2))
     go_ret
     exact ⟨HB0.out.trans (HC.out.mono HB0.out.size), by rw [HE.out]; rfl⟩
   ·
    have HCS := hid (Bool.eq_false_iff.2 hcs)
    have HE : Hid (kO (ps, cs, a2, ms, st) = false) := hid (by
      rw [Bool.eq_false_iff]
      intro hch
      simp only [kO, Bool.and_eq_true, decide_eq_true_eq] at hch
      obtain ⟨⟨⟨⟨⟨g1, g2⟩, g3⟩, g4⟩, g5⟩, g6⟩ := hch
      exact hcs g2)
    clear hcs
    go_wp2_with (first
      | (go_at_call 78; with_reducible refine (HPSC.out _ ((HSP.out.keep (HB0.out.trans (HC.out.mono HB0.out.size))).more (qT HB0.out.size HC.out.size))).mono ?_; rintro e u1 ⟨hb1, rfl⟩
         rw [HPS.out]
         have HC := hid (HC.out.trans (hb1.mono HC.out.size))
         obtain ⟨c0, c1, c2, c3, c4⟩ := HCELL.out _ HC.out
         clear hb1)
      | (go_at_call 78; with_reducible refine (HCSC.out _ ((HSC.out.keep (HB0.out.trans (HC.out.mono HB0.out.size))).more (qT HB0.out.size HC.out.size))).mono ?_; rintro e u1 ⟨hb1, rfl⟩
         rw [HCS.out]
         have HC := hid (HC.out.trans (hb1.mono HC.out.size))
         obtain ⟨c0, c1, c2, c3, c4⟩ := HCELL.out _ HC.out
         clear hb1)
      | (go_at_call 79; refine (jp a2 _ HAUS.out).mono ?_; rintro e u2 ⟨hb2, rfl⟩
         rw [HAU.out]
         have HC := hid (HC.out.trans (hb2.mono HC.out.size))
         obtain ⟨c0, c1, c2, c3, c4⟩ := HCELL.out _ HC.out
         clear hb2)
      | (go_at_call 81; refine (Ju ms _ HNOS.out).mono ?_; rintro e u2 ⟨hb2, rfl⟩
         rw [HNO.out]
         have HC := hid (HC.out.trans (hb2.mono HC.out.size))
         obtain ⟨c0, c1, c2, c3, c4⟩ := HCELL.out _ HC.out
         clear hb2))
    go_ret
    exact ⟨HB0.out.trans (HC.out.mono HB0.out.size), by rw [HE.out]; rfl⟩
  ·
   have HPS := hid (Bool.eq_false_iff.2 hps)
   have HE : Hid (kO (ps, cs, a2, ms, st) = false) := hid (by
     rw [Bool.eq_false_iff]
     intro hch
     simp only [kO, Bool.and_eq_true, decide_eq_true_eq] at hch
     obtain ⟨⟨⟨⟨⟨g1, g2⟩, g3⟩, g4⟩, g5⟩, g6⟩ := hch
     exact hps g1)
   clear hps
   go_wp2_with (first
     | (go_at_call 78; with_reducible refine (HPSC.out _ ((HSP.out.keep (HB0.out.trans (HC.out.mono HB0.out.size))).more (qT HB0.out.size HC.out.size))).mono ?_; rintro e u1 ⟨hb1, rfl⟩
        rw [HPS.out]
        have HC := hid (HC.out.trans (hb1.mono HC.out.size))
        obtain ⟨c0, c1, c2, c3, c4⟩ := HCELL.out _ HC.out
        clear hb1)
     | (go_at_call 78; with_reducible refine (HCSC.out _ ((HSC.out.keep (HB0.out.trans (HC.out.mono HB0.out.size))).more (qT HB0.out.size HC.out.size))).mono ?_; rintro e u1 ⟨hb1, rfl⟩
        rw [HCS.out]
        have HC := hid (HC.out.trans (hb1.mono HC.out.size))
        obtain ⟨c0, c1, c2, c3, c4⟩ := HCELL.out _ HC.out
        clear hb1)
     | (go_at_call 79; refine (jp a2 _ HAUS.out).mono ?_; rintro e u2 ⟨hb2, rfl⟩
        rw [HAU.out]
        have HC := hid (HC.out.trans (hb2.mono HC.out.size))
        obtain ⟨c0, c1, c2, c3, c4⟩ := HCELL.out _ HC.out
        clear hb2)
     | (go_at_call 81; refine (Ju ms _ HNOS.out).mono ?_; rintro e u2 ⟨hb2, rfl⟩
        rw [HNO.out]
        have HC := hid (HC.out.trans (hb2.mono HC.out.size))
        obtain ⟨c0, c1, c2, c3, c4⟩ := HCELL.out _ HC.out
        clear hb2))
   go_ret
   exact ⟨HB0.out.trans (HC.out.mono HB0.out.size), by rw [HE.out]; rfl⟩
end Go.Proofs.YthjaepmfkgejkaaGreatDoor
