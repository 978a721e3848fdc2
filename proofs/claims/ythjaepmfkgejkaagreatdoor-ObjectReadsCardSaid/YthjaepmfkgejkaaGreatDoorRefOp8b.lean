/-
  What the document's op gives: all other kinds. Conditions: ids of 32 bytes; at most 2^40 of them; the changes hung on are a set; what was made lies in a row of the call's own.
-/
import Derived.Test.YthjaepmfkgejkaaGreatDoorRefOp8
namespace Go.Proofs.YthjaepmfkgejkaaGreatDoor
open Go.RowKit Go.Maps
set_option linter.unusedVariables false
set_option linter.unusedSimpArgs false

set_option maxHeartbeats 4000000 in
set_option maxRecDepth 100000 in
theorem refOp_2 (base : Nat) (deps : List (List UInt8)) (mk : List MadeD) (d a : RefD) (t : ByteArray) (n : Int) (q : ByteArray) (A : Option Addr) (c : Nat) (Am : Option Addr) (cm : Nat) (w : World) (hn : deps.length ≤ 1099511627776) (hmn : mk.length ≤ 1000000000) (ho : IdsOk deps) (hm : ∀ m ∈ mk, MadeOk m) (hx : OpIn (2, d, a, t, n, q)) (hset : isSetB deps = true) (hs : Sl w w.heap.size A deps.length 32 (idsV deps)) (how : w.ownsRow base 166 34 (.slice Am mk.length cm) mk.length (rowsV madeV mk)) (hbs : base ≤ w.heap.size) :
    Calls Tryz.prog 80 #[.slice A deps.length c, .slice Am mk.length cm, .agg (opV (2, d, a, t, n, q)).toArray] w (OpGives base deps mk (2, d, a, t, n, q) w) := by
  have HO := Lib.hid ho; have HS := Lib.hid hs; have HM := Lib.hid hm; have HX := Lib.hid hx; have HOW := Lib.hid how; have HSM := Lib.hid (Sl.of_own how)
  have hmn : mk.length ≤ 1099511627776 := by omega
  clear ho hs hm hx how
  go_enter Tryz.func80, Tryz.ntmps80
  go_upto_region 2 with (first
    | (with_reducible refine at_box ?_
       refine wp_boxM (by rfl) 70 _ rfl (opV (2, d, a, t, n, q)) _ rfl rfl (by rw [opV_length HX.out]; exact sizeOp70) ?_
       intro W0 hb0 hy0 hs0
       have HB0 := Lib.hid hb0; have HY0 := Lib.hid hy0
       clear hb0 hy0 hs0)
    | (with_reducible refine at_build ?_
       refine wp_val (by rfl) (ex_build 68 #[] rfl (zeroRef_built8 _)) ?_)
    | (with_reducible refine at_alloc ?_
       refine wp_allocM (by rfl) 68 rfl (refV zeroRef) (zeroRef_run8 _) ?_
       intro Wa hba hya hsa
       have HBa := Lib.hid hba; have HYa := Lib.hid hya
       clear hba hya hsa)
    | (with_reducible refine at_store ?_
       refine wp_storeM (by rfl) 68 _ _ rfl W0.heap.size 0 [] (refV zeroRef) [] (refV zeroRef) 68 _ rfl rfl rfl rfl (by simpa using HYa.out) rfl (by kernel_rfl) (refV_one _) ?_
       intro W1 hbb hyb hsb
       have HB1 := Lib.hid (HBa.out.trans (hbb.below HBa.out.size (fun k hk e => by have e' : k = W0.heap.size := e; omega)))
       have HY1 : Hid (W1.heap[W0.heap.size]? = some (.cells (refV zeroRef).toArray 68 (0, 0))) := Lib.hid (by simpa using hyb)
       clear hbb hyb hsb))
  obtain ⟨zx, hzx⟩ : ∃ z, w.heap.size = z := ⟨_, rfl⟩
  obtain ⟨z8, hz8⟩ : ∃ z, W0.heap.size = z := ⟨_, rfl⟩
  have l0 := (Array.getElem?_eq_some_iff.1 HY0.out).1
  have HYX := Lib.hid ((HB1.out.block _ l0).trans HY0.out)
  have HLX := Lib.hid (show zx < W1.heap.size by rw [← hzx]; exact Nat.lt_of_lt_of_le l0 HB1.out.size)
  have HL8 := Lib.hid (show z8 < W1.heap.size by rw [← hz8]; exact (Array.getElem?_eq_some_iff.1 HY1.out).1)
  have HBW := Lib.hid (HB0.out.trans (HB1.out.mono HB0.out.size))
  rw [hzx] at HYX ⊢
  rw [hz8] at HY1 ⊢
  try simp only [Act.put, List.setIfInBounds_toArray, List.set_cons_zero, List.set_cons_succ]
  have hzxw : Hid (w.heap.size = zx) := Lib.hid hzx
  clear hzx hz8 l0 HY0 HB0 HB1 HBa HYa
  have HCELL := Lib.hid (fun (u : World) (hu : Below W1.heap.size W1 u) => (show u.cell? ⟨zx, 0, none⟩ = some (.int .u8 (2 : Int)) ∧ u.cell? ⟨zx, 67, none⟩ = some (.string t) ∧ u.cell? ⟨zx, 68, none⟩ = some (.int .i64 n) ∧ u.cell? ⟨zx, 69, none⟩ = some (.string q) from
    ⟨(hu.cell (p := ⟨zx, 0, none⟩) HLX.out).trans (cells_at0 HYX.out 0), (hu.cell (p := ⟨zx, 67, none⟩) HLX.out).trans ((cells_at0 HYX.out 67).trans (op_cells HX.out).2.2.2.1), (hu.cell (p := ⟨zx, 68, none⟩) HLX.out).trans ((cells_at0 HYX.out 68).trans (op_cells HX.out).2.2.2.2.1), (hu.cell (p := ⟨zx, 69, none⟩) HLX.out).trans ((cells_at0 HYX.out 69).trans (op_cells HX.out).2.2.2.2.2)⟩))
  have HD1 := Lib.hid (fun (u : World) (hu : Below W1.heap.size W1 u) => (show u.rangeAt zx 1 (refV d) from fun j v hj => (hu.cell (p := ⟨zx, 1 + j, none⟩) HLX.out).trans ((cells_at0 HYX.out (1 + j)).trans ((op_cells HX.out).2.1 j v hj))))
  have HA34 := Lib.hid (fun (u : World) (hu : Below W1.heap.size W1 u) => (show u.rangeAt zx 34 (refV a) from fun j v hj => (hu.cell (p := ⟨zx, 34 + j, none⟩) HLX.out).trans ((cells_at0 HYX.out (34 + j)).trans ((op_cells HX.out).2.2.1 j v hj))))
  have HZ8 := Lib.hid (fun (u : World) (hu : Below W1.heap.size W1 u) => (show u.rangeAt z8 0 (refV zeroRef) from fun j v hj => by rw [Nat.zero_add]; exact ((hu.cell (p := ⟨z8, j, none⟩) HL8.out).trans (cells_at0 HY1.out j)).trans hj))
  have HSD := Lib.hid (fun (u : World) (hu : Below W1.heap.size W1 u) => (HS.out.keep (HBW.out.trans (hu.mono HBW.out.size))).more (Nat.le_trans HBW.out.size hu.size))
  have HSK := Lib.hid (fun (u : World) (hu : Below W1.heap.size W1 u) => (HSM.out.keep (HBW.out.trans (hu.mono HBW.out.size))).more (Nat.le_trans HBW.out.size hu.size))
  have HC := Lib.hid (Below.refl W1.heap.size W1)
  obtain ⟨y0, y3, y4, y5⟩ := HCELL.out _ HC.out
  clear HYX HY1
  by_cases hdoc : docB deps mk d = true
  · by_cases ht : t = noneS
    · by_cases hq : q = noneS
      · by_cases hc1 : 1 ≤ n
        · by_cases hc2 : n ≤ 4096
          · by_cases hel : elemsB deps mk a d n = true
            all_goals
              have HDOC := Lib.hid hdoc
              have et : t.toList.isEmpty = true := by rw [isEmpty8]; exact decide_eq_true ht
              have eq : q.toList.isEmpty = true := by rw [isEmpty8]; exact decide_eq_true hq
              have ec1 : decide (1 ≤ n) = true := decide_eq_true hc1
              have ec2 : decide (n ≤ 4096) = true := decide_eq_true hc2
            · have HEL := Lib.hid hel
              have HE : Hid (opB deps mk (2, d, a, t, n, q) = true) := Lib.hid (by unfold opB; rw [show partsOf (2 : UInt8) = some (true, true, false, true, false) from rfl]; simp [absentB, hdoc, ht, hq, hc1, hc2, hel])
              have HELC := Lib.hid (fun (u : World) (g1 : Sl u u.heap.size A deps.length 32 (idsV deps)) (g2 : Sl u u.heap.size Am mk.length 34 (rowsV madeV mk)) => (show Calls Tryz.prog 109 #[.slice A deps.length c, .slice Am mk.length cm, .agg (refV a).toArray, .agg (refV d).toArray, .int .i64 n] u fun e w' => Below u.heap.size u w' ∧ e = .returned (.bool (elemsB deps mk a d n)) from by
                obtain ⟨n', hnn⟩ : ∃ n' : Nat, n = (n' : Int) := ⟨n.toNat, by omega⟩
                rw [hnn]
                exact refElems_any deps mk a d n' A c Am cm u (by omega) (by omega) hn hmn HO.out HM.out HX.out.1.2.1 HX.out.1.1 hset g1 g2))
              clear hdoc ht hq hc1 hc2 hel
              go_wp2_with (first
                | (with_reducible refine at_load ?_
                   refine wp_val (by rfl) (ex_load 68 _ rfl (p := ⟨zx, 1, none⟩) rfl (run_loadVar_mid _ _ _ _ (refV d) _ (HD1.out _ HC.out) Tryz.underlying68 rfl (by rw [refV_length HX.out.1.1]; exact sizeRef8))) ?_)
                | (with_reducible refine at_load ?_
                   refine wp_val (by rfl) (ex_load 68 _ rfl (p := ⟨zx, 34, none⟩) rfl (run_loadVar_mid _ _ _ _ (refV a) _ (HA34.out _ HC.out) Tryz.underlying68 rfl (by rw [refV_length HX.out.1.2.1]; exact sizeRef8))) ?_)
                | (with_reducible refine at_load ?_
                   refine wp_val (by rfl) (ex_load 68 _ rfl (p := ⟨z8, 0, none⟩) rfl (run_loadVar_mid _ _ _ _ (refV zeroRef) _ (HZ8.out _ HC.out) Tryz.underlying68 rfl (by rw [refV_length zeroRef_ok]; exact sizeRef8))) ?_)
                | (go_at_call 107; refine (refDoc_any deps mk d A c Am cm _ hn hmn HO.out HM.out HX.out.1.1 hset (HSD.out _ HC.out) (HSK.out _ HC.out)).mono ?_; rintro e w2 ⟨hb2, rfl⟩
                   rw [HDOC.out]
                   have HC := Lib.hid (HC.out.trans (hb2.mono HC.out.size))
                   obtain ⟨y0, y3, y4, y5⟩ := HCELL.out _ HC.out
                   clear hb2)
                | (go_at_call 109; refine (HELC.out _ (HSD.out _ HC.out) (HSK.out _ HC.out)).mono ?_; rintro e w3 ⟨hb3, rfl⟩
                   rw [HEL.out]
                   have HC := Lib.hid (HC.out.trans (hb3.mono HC.out.size))
                   obtain ⟨y0, y3, y4, y5⟩ := HCELL.out _ HC.out
                   clear hb3))
              go_ret2
              have HMLN : Hid (madeB (2, d, a, t, n, q) = []) := Lib.hid rfl
              have HML : Hid (mk.length + (madeB (2, d, a, t, n, q)).length = mk.length) := Lib.hid rfl
              exact ⟨(HBW.out.mono hbs).trans (HC.out.mono (Nat.le_trans hbs HBW.out.size)), fun h => absurd (HE.out.symm.trans h) (by decide), fun _ => ⟨Am, cm, by rw [HML.out]; rfl, by rw [HML.out, HMLN.out, List.append_nil]; exact (But.of_below (X := NoB) (HBW.out.trans (HC.out.mono HBW.out.size))).own HOW.out fun _ _ q => q⟩⟩
            · have HEL := Lib.hid (Bool.eq_false_iff.2 hel)
              have HE : Hid (opB deps mk (2, d, a, t, n, q) = false) := Lib.hid (by unfold opB; rw [show partsOf (2 : UInt8) = some (true, true, false, true, false) from rfl]; simp [absentB, hdoc, ht, hq, hc1, hc2, hel])
              have HELC := Lib.hid (fun (u : World) (g1 : Sl u u.heap.size A deps.length 32 (idsV deps)) (g2 : Sl u u.heap.size Am mk.length 34 (rowsV madeV mk)) => (show Calls Tryz.prog 109 #[.slice A deps.length c, .slice Am mk.length cm, .agg (refV a).toArray, .agg (refV d).toArray, .int .i64 n] u fun e w' => Below u.heap.size u w' ∧ e = .returned (.bool (elemsB deps mk a d n)) from by
                obtain ⟨n', hnn⟩ : ∃ n' : Nat, n = (n' : Int) := ⟨n.toNat, by omega⟩
                rw [hnn]
                exact refElems_any deps mk a d n' A c Am cm u (by omega) (by omega) hn hmn HO.out HM.out HX.out.1.2.1 HX.out.1.1 hset g1 g2))
              clear hdoc ht hq hc1 hc2 hel
              go_wp2_with (first
                | (with_reducible refine at_load ?_
                   refine wp_val (by rfl) (ex_load 68 _ rfl (p := ⟨zx, 1, none⟩) rfl (run_loadVar_mid _ _ _ _ (refV d) _ (HD1.out _ HC.out) Tryz.underlying68 rfl (by rw [refV_length HX.out.1.1]; exact sizeRef8))) ?_)
                | (with_reducible refine at_load ?_
                   refine wp_val (by rfl) (ex_load 68 _ rfl (p := ⟨zx, 34, none⟩) rfl (run_loadVar_mid _ _ _ _ (refV a) _ (HA34.out _ HC.out) Tryz.underlying68 rfl (by rw [refV_length HX.out.1.2.1]; exact sizeRef8))) ?_)
                | (with_reducible refine at_load ?_
                   refine wp_val (by rfl) (ex_load 68 _ rfl (p := ⟨z8, 0, none⟩) rfl (run_loadVar_mid _ _ _ _ (refV zeroRef) _ (HZ8.out _ HC.out) Tryz.underlying68 rfl (by rw [refV_length zeroRef_ok]; exact sizeRef8))) ?_)
                | (go_at_call 107; refine (refDoc_any deps mk d A c Am cm _ hn hmn HO.out HM.out HX.out.1.1 hset (HSD.out _ HC.out) (HSK.out _ HC.out)).mono ?_; rintro e w2 ⟨hb2, rfl⟩
                   rw [HDOC.out]
                   have HC := Lib.hid (HC.out.trans (hb2.mono HC.out.size))
                   obtain ⟨y0, y3, y4, y5⟩ := HCELL.out _ HC.out
                   clear hb2)
                | (go_at_call 109; refine (HELC.out _ (HSD.out _ HC.out) (HSK.out _ HC.out)).mono ?_; rintro e w3 ⟨hb3, rfl⟩
                   rw [HEL.out]
                   have HC := Lib.hid (HC.out.trans (hb3.mono HC.out.size))
                   obtain ⟨y0, y3, y4, y5⟩ := HCELL.out _ HC.out
                   clear hb3))
              go_ret2
              exact ⟨(HBW.out.mono hbs).trans (HC.out.mono (Nat.le_trans hbs HBW.out.size)), fun _ => ⟨_, rfl⟩, fun h => absurd (HE.out.symm.trans h) (by decide)⟩
          · have HDOC := Lib.hid hdoc
            have et : t.toList.isEmpty = true := by rw [isEmpty8]; exact decide_eq_true ht
            have eq : q.toList.isEmpty = true := by rw [isEmpty8]; exact decide_eq_true hq
            have ec1 : decide (1 ≤ n) = true := decide_eq_true hc1
            have ec2 : decide (n ≤ 4096) = false := decide_eq_false hc2
            have HE : Hid (opB deps mk (2, d, a, t, n, q) = false) := Lib.hid (by unfold opB; rw [show partsOf (2 : UInt8) = some (true, true, false, true, false) from rfl]; simp [absentB, hdoc, ht, hq, hc1, hc2])
            clear hdoc ht hq hc1 hc2
            go_wp2_with (first
              | (with_reducible refine at_load ?_
                 refine wp_val (by rfl) (ex_load 68 _ rfl (p := ⟨zx, 1, none⟩) rfl (run_loadVar_mid _ _ _ _ (refV d) _ (HD1.out _ HC.out) Tryz.underlying68 rfl (by rw [refV_length HX.out.1.1]; exact sizeRef8))) ?_)
              | (with_reducible refine at_load ?_
                 refine wp_val (by rfl) (ex_load 68 _ rfl (p := ⟨zx, 34, none⟩) rfl (run_loadVar_mid _ _ _ _ (refV a) _ (HA34.out _ HC.out) Tryz.underlying68 rfl (by rw [refV_length HX.out.1.2.1]; exact sizeRef8))) ?_)
              | (with_reducible refine at_load ?_
                 refine wp_val (by rfl) (ex_load 68 _ rfl (p := ⟨z8, 0, none⟩) rfl (run_loadVar_mid _ _ _ _ (refV zeroRef) _ (HZ8.out _ HC.out) Tryz.underlying68 rfl (by rw [refV_length zeroRef_ok]; exact sizeRef8))) ?_)
              | (go_at_call 107; refine (refDoc_any deps mk d A c Am cm _ hn hmn HO.out HM.out HX.out.1.1 hset (HSD.out _ HC.out) (HSK.out _ HC.out)).mono ?_; rintro e w2 ⟨hb2, rfl⟩
                 rw [HDOC.out]
                 have HC := Lib.hid (HC.out.trans (hb2.mono HC.out.size))
                 obtain ⟨y0, y3, y4, y5⟩ := HCELL.out _ HC.out
                 clear hb2))
            go_ret2
            exact ⟨(HBW.out.mono hbs).trans (HC.out.mono (Nat.le_trans hbs HBW.out.size)), fun _ => ⟨_, rfl⟩, fun h => absurd (HE.out.symm.trans h) (by decide)⟩
        · have HDOC := Lib.hid hdoc
          have et : t.toList.isEmpty = true := by rw [isEmpty8]; exact decide_eq_true ht
          have eq : q.toList.isEmpty = true := by rw [isEmpty8]; exact decide_eq_true hq
          have ec1 : decide (1 ≤ n) = false := decide_eq_false hc1
          have HE : Hid (opB deps mk (2, d, a, t, n, q) = false) := Lib.hid (by unfold opB; rw [show partsOf (2 : UInt8) = some (true, true, false, true, false) from rfl]; simp [absentB, hdoc, ht, hq, hc1])
          clear hdoc ht hq hc1
          go_wp2_with (first
            | (with_reducible refine at_load ?_
               refine wp_val (by rfl) (ex_load 68 _ rfl (p := ⟨zx, 1, none⟩) rfl (run_loadVar_mid _ _ _ _ (refV d) _ (HD1.out _ HC.out) Tryz.underlying68 rfl (by rw [refV_length HX.out.1.1]; exact sizeRef8))) ?_)
            | (with_reducible refine at_load ?_
               refine wp_val (by rfl) (ex_load 68 _ rfl (p := ⟨zx, 34, none⟩) rfl (run_loadVar_mid _ _ _ _ (refV a) _ (HA34.out _ HC.out) Tryz.underlying68 rfl (by rw [refV_length HX.out.1.2.1]; exact sizeRef8))) ?_)
            | (with_reducible refine at_load ?_
               refine wp_val (by rfl) (ex_load 68 _ rfl (p := ⟨z8, 0, none⟩) rfl (run_loadVar_mid _ _ _ _ (refV zeroRef) _ (HZ8.out _ HC.out) Tryz.underlying68 rfl (by rw [refV_length zeroRef_ok]; exact sizeRef8))) ?_)
            | (go_at_call 107; refine (refDoc_any deps mk d A c Am cm _ hn hmn HO.out HM.out HX.out.1.1 hset (HSD.out _ HC.out) (HSK.out _ HC.out)).mono ?_; rintro e w2 ⟨hb2, rfl⟩
               rw [HDOC.out]
               have HC := Lib.hid (HC.out.trans (hb2.mono HC.out.size))
               obtain ⟨y0, y3, y4, y5⟩ := HCELL.out _ HC.out
               clear hb2))
          go_ret2
          exact ⟨(HBW.out.mono hbs).trans (HC.out.mono (Nat.le_trans hbs HBW.out.size)), fun _ => ⟨_, rfl⟩, fun h => absurd (HE.out.symm.trans h) (by decide)⟩
      · have HDOC := Lib.hid hdoc
        have et : t.toList.isEmpty = true := by rw [isEmpty8]; exact decide_eq_true ht
        have eq : q.toList.isEmpty = false := by rw [isEmpty8]; exact decide_eq_false hq
        have HE : Hid (opB deps mk (2, d, a, t, n, q) = false) := Lib.hid (by unfold opB; rw [show partsOf (2 : UInt8) = some (true, true, false, true, false) from rfl]; simp [absentB, hdoc, ht, hq])
        clear hdoc ht hq
        go_wp2_with (first
          | (with_reducible refine at_load ?_
             refine wp_val (by rfl) (ex_load 68 _ rfl (p := ⟨zx, 1, none⟩) rfl (run_loadVar_mid _ _ _ _ (refV d) _ (HD1.out _ HC.out) Tryz.underlying68 rfl (by rw [refV_length HX.out.1.1]; exact sizeRef8))) ?_)
          | (with_reducible refine at_load ?_
             refine wp_val (by rfl) (ex_load 68 _ rfl (p := ⟨zx, 34, none⟩) rfl (run_loadVar_mid _ _ _ _ (refV a) _ (HA34.out _ HC.out) Tryz.underlying68 rfl (by rw [refV_length HX.out.1.2.1]; exact sizeRef8))) ?_)
          | (with_reducible refine at_load ?_
             refine wp_val (by rfl) (ex_load 68 _ rfl (p := ⟨z8, 0, none⟩) rfl (run_loadVar_mid _ _ _ _ (refV zeroRef) _ (HZ8.out _ HC.out) Tryz.underlying68 rfl (by rw [refV_length zeroRef_ok]; exact sizeRef8))) ?_)
          | (go_at_call 107; refine (refDoc_any deps mk d A c Am cm _ hn hmn HO.out HM.out HX.out.1.1 hset (HSD.out _ HC.out) (HSK.out _ HC.out)).mono ?_; rintro e w2 ⟨hb2, rfl⟩
             rw [HDOC.out]
             have HC := Lib.hid (HC.out.trans (hb2.mono HC.out.size))
             obtain ⟨y0, y3, y4, y5⟩ := HCELL.out _ HC.out
             clear hb2))
        go_ret2
        exact ⟨(HBW.out.mono hbs).trans (HC.out.mono (Nat.le_trans hbs HBW.out.size)), fun _ => ⟨_, rfl⟩, fun h => absurd (HE.out.symm.trans h) (by decide)⟩
    · have HDOC := Lib.hid hdoc
      have et : t.toList.isEmpty = false := by rw [isEmpty8]; exact decide_eq_false ht
      have HE : Hid (opB deps mk (2, d, a, t, n, q) = false) := Lib.hid (by unfold opB; rw [show partsOf (2 : UInt8) = some (true, true, false, true, false) from rfl]; simp [absentB, hdoc, ht])
      clear hdoc ht
      go_wp2_with (first
        | (with_reducible refine at_load ?_
           refine wp_val (by rfl) (ex_load 68 _ rfl (p := ⟨zx, 1, none⟩) rfl (run_loadVar_mid _ _ _ _ (refV d) _ (HD1.out _ HC.out) Tryz.underlying68 rfl (by rw [refV_length HX.out.1.1]; exact sizeRef8))) ?_)
        | (with_reducible refine at_load ?_
           refine wp_val (by rfl) (ex_load 68 _ rfl (p := ⟨zx, 34, none⟩) rfl (run_loadVar_mid _ _ _ _ (refV a) _ (HA34.out _ HC.out) Tryz.underlying68 rfl (by rw [refV_length HX.out.1.2.1]; exact sizeRef8))) ?_)
        | (with_reducible refine at_load ?_
           refine wp_val (by rfl) (ex_load 68 _ rfl (p := ⟨z8, 0, none⟩) rfl (run_loadVar_mid _ _ _ _ (refV zeroRef) _ (HZ8.out _ HC.out) Tryz.underlying68 rfl (by rw [refV_length zeroRef_ok]; exact sizeRef8))) ?_)
        | (go_at_call 107; refine (refDoc_any deps mk d A c Am cm _ hn hmn HO.out HM.out HX.out.1.1 hset (HSD.out _ HC.out) (HSK.out _ HC.out)).mono ?_; rintro e w2 ⟨hb2, rfl⟩
           rw [HDOC.out]
           have HC := Lib.hid (HC.out.trans (hb2.mono HC.out.size))
           obtain ⟨y0, y3, y4, y5⟩ := HCELL.out _ HC.out
           clear hb2))
      go_ret2
      exact ⟨(HBW.out.mono hbs).trans (HC.out.mono (Nat.le_trans hbs HBW.out.size)), fun _ => ⟨_, rfl⟩, fun h => absurd (HE.out.symm.trans h) (by decide)⟩
  · have HDOC := Lib.hid (Bool.eq_false_iff.2 hdoc)
    have HE : Hid (opB deps mk (2, d, a, t, n, q) = false) := Lib.hid (by unfold opB; rw [show partsOf (2 : UInt8) = some (true, true, false, true, false) from rfl]; simp [absentB, hdoc])
    clear hdoc
    go_wp2_with (first
      | (with_reducible refine at_load ?_
         refine wp_val (by rfl) (ex_load 68 _ rfl (p := ⟨zx, 1, none⟩) rfl (run_loadVar_mid _ _ _ _ (refV d) _ (HD1.out _ HC.out) Tryz.underlying68 rfl (by rw [refV_length HX.out.1.1]; exact sizeRef8))) ?_)
      | (with_reducible refine at_load ?_
         refine wp_val (by rfl) (ex_load 68 _ rfl (p := ⟨zx, 34, none⟩) rfl (run_loadVar_mid _ _ _ _ (refV a) _ (HA34.out _ HC.out) Tryz.underlying68 rfl (by rw [refV_length HX.out.1.2.1]; exact sizeRef8))) ?_)
      | (with_reducible refine at_load ?_
         refine wp_val (by rfl) (ex_load 68 _ rfl (p := ⟨z8, 0, none⟩) rfl (run_loadVar_mid _ _ _ _ (refV zeroRef) _ (HZ8.out _ HC.out) Tryz.underlying68 rfl (by rw [refV_length zeroRef_ok]; exact sizeRef8))) ?_)
      | (go_at_call 107; refine (refDoc_any deps mk d A c Am cm _ hn hmn HO.out HM.out HX.out.1.1 hset (HSD.out _ HC.out) (HSK.out _ HC.out)).mono ?_; rintro e w2 ⟨hb2, rfl⟩
         rw [HDOC.out]
         have HC := Lib.hid (HC.out.trans (hb2.mono HC.out.size))
         obtain ⟨y0, y3, y4, y5⟩ := HCELL.out _ HC.out
         clear hb2))
    go_ret2
    exact ⟨(HBW.out.mono hbs).trans (HC.out.mono (Nat.le_trans hbs HBW.out.size)), fun _ => ⟨_, rfl⟩, fun h => absurd (HE.out.symm.trans h) (by decide)⟩
set_option maxHeartbeats 4000000 in
set_option maxRecDepth 100000 in
theorem refOp_3 (base : Nat) (deps : List (List UInt8)) (mk : List MadeD) (d a : RefD) (t : ByteArray) (n : Int) (q : ByteArray) (A : Option Addr) (c : Nat) (Am : Option Addr) (cm : Nat) (w : World) (hn : deps.length ≤ 1099511627776) (hmn : mk.length ≤ 1000000000) (ho : IdsOk deps) (hm : ∀ m ∈ mk, MadeOk m) (hx : OpIn (3, d, a, t, n, q)) (hset : isSetB deps = true) (hs : Sl w w.heap.size A deps.length 32 (idsV deps)) (how : w.ownsRow base 166 34 (.slice Am mk.length cm) mk.length (rowsV madeV mk)) (hbs : base ≤ w.heap.size) :
    Calls Tryz.prog 80 #[.slice A deps.length c, .slice Am mk.length cm, .agg (opV (3, d, a, t, n, q)).toArray] w (OpGives base deps mk (3, d, a, t, n, q) w) := by
  have HO := Lib.hid ho; have HS := Lib.hid hs; have HM := Lib.hid hm; have HX := Lib.hid hx; have HOW := Lib.hid how; have HSM := Lib.hid (Sl.of_own how)
  have hmn : mk.length ≤ 1099511627776 := by omega
  clear ho hs hm hx how
  go_enter Tryz.func80, Tryz.ntmps80
  go_upto_region 2 with (first
    | (with_reducible refine at_box ?_
       refine wp_boxM (by rfl) 70 _ rfl (opV (3, d, a, t, n, q)) _ rfl rfl (by rw [opV_length HX.out]; exact sizeOp70) ?_
       intro W0 hb0 hy0 hs0
       have HB0 := Lib.hid hb0; have HY0 := Lib.hid hy0
       clear hb0 hy0 hs0)
    | (with_reducible refine at_build ?_
       refine wp_val (by rfl) (ex_build 68 #[] rfl (zeroRef_built8 _)) ?_)
    | (with_reducible refine at_alloc ?_
       refine wp_allocM (by rfl) 68 rfl (refV zeroRef) (zeroRef_run8 _) ?_
       intro Wa hba hya hsa
       have HBa := Lib.hid hba; have HYa := Lib.hid hya
       clear hba hya hsa)
    | (with_reducible refine at_store ?_
       refine wp_storeM (by rfl) 68 _ _ rfl W0.heap.size 0 [] (refV zeroRef) [] (refV zeroRef) 68 _ rfl rfl rfl rfl (by simpa using HYa.out) rfl (by kernel_rfl) (refV_one _) ?_
       intro W1 hbb hyb hsb
       have HB1 := Lib.hid (HBa.out.trans (hbb.below HBa.out.size (fun k hk e => by have e' : k = W0.heap.size := e; omega)))
       have HY1 : Hid (W1.heap[W0.heap.size]? = some (.cells (refV zeroRef).toArray 68 (0, 0))) := Lib.hid (by simpa using hyb)
       clear hbb hyb hsb))
  obtain ⟨zx, hzx⟩ : ∃ z, w.heap.size = z := ⟨_, rfl⟩
  obtain ⟨z8, hz8⟩ : ∃ z, W0.heap.size = z := ⟨_, rfl⟩
  have l0 := (Array.getElem?_eq_some_iff.1 HY0.out).1
  have HYX := Lib.hid ((HB1.out.block _ l0).trans HY0.out)
  have HLX := Lib.hid (show zx < W1.heap.size by rw [← hzx]; exact Nat.lt_of_lt_of_le l0 HB1.out.size)
  have HL8 := Lib.hid (show z8 < W1.heap.size by rw [← hz8]; exact (Array.getElem?_eq_some_iff.1 HY1.out).1)
  have HBW := Lib.hid (HB0.out.trans (HB1.out.mono HB0.out.size))
  rw [hzx] at HYX ⊢
  rw [hz8] at HY1 ⊢
  try simp only [Act.put, List.setIfInBounds_toArray, List.set_cons_zero, List.set_cons_succ]
  have hzxw : Hid (w.heap.size = zx) := Lib.hid hzx
  clear hzx hz8 l0 HY0 HB0 HB1 HBa HYa
  have HCELL := Lib.hid (fun (u : World) (hu : Below W1.heap.size W1 u) => (show u.cell? ⟨zx, 0, none⟩ = some (.int .u8 (3 : Int)) ∧ u.cell? ⟨zx, 67, none⟩ = some (.string t) ∧ u.cell? ⟨zx, 68, none⟩ = some (.int .i64 n) ∧ u.cell? ⟨zx, 69, none⟩ = some (.string q) from
    ⟨(hu.cell (p := ⟨zx, 0, none⟩) HLX.out).trans (cells_at0 HYX.out 0), (hu.cell (p := ⟨zx, 67, none⟩) HLX.out).trans ((cells_at0 HYX.out 67).trans (op_cells HX.out).2.2.2.1), (hu.cell (p := ⟨zx, 68, none⟩) HLX.out).trans ((cells_at0 HYX.out 68).trans (op_cells HX.out).2.2.2.2.1), (hu.cell (p := ⟨zx, 69, none⟩) HLX.out).trans ((cells_at0 HYX.out 69).trans (op_cells HX.out).2.2.2.2.2)⟩))
  have HD1 := Lib.hid (fun (u : World) (hu : Below W1.heap.size W1 u) => (show u.rangeAt zx 1 (refV d) from fun j v hj => (hu.cell (p := ⟨zx, 1 + j, none⟩) HLX.out).trans ((cells_at0 HYX.out (1 + j)).trans ((op_cells HX.out).2.1 j v hj))))
  have HA34 := Lib.hid (fun (u : World) (hu : Below W1.heap.size W1 u) => (show u.rangeAt zx 34 (refV a) from fun j v hj => (hu.cell (p := ⟨zx, 34 + j, none⟩) HLX.out).trans ((cells_at0 HYX.out (34 + j)).trans ((op_cells HX.out).2.2.1 j v hj))))
  have HZ8 := Lib.hid (fun (u : World) (hu : Below W1.heap.size W1 u) => (show u.rangeAt z8 0 (refV zeroRef) from fun j v hj => by rw [Nat.zero_add]; exact ((hu.cell (p := ⟨z8, j, none⟩) HL8.out).trans (cells_at0 HY1.out j)).trans hj))
  have HSD := Lib.hid (fun (u : World) (hu : Below W1.heap.size W1 u) => (HS.out.keep (HBW.out.trans (hu.mono HBW.out.size))).more (Nat.le_trans HBW.out.size hu.size))
  have HSK := Lib.hid (fun (u : World) (hu : Below W1.heap.size W1 u) => (HSM.out.keep (HBW.out.trans (hu.mono HBW.out.size))).more (Nat.le_trans HBW.out.size hu.size))
  have HC := Lib.hid (Below.refl W1.heap.size W1)
  obtain ⟨y0, y3, y4, y5⟩ := HCELL.out _ HC.out
  clear HYX HY1
  by_cases hdz : d = zeroRef
  · by_cases ht : t = noneS
    · by_cases hc : n = 0
      · by_cases haz : a = zeroRef
        · by_cases hpath : pathB q = true
          all_goals
            have EQD := Lib.hid (fun (u : World) => (run_eqRef HX.out.1.1 zeroRef_ok u).trans (by rw [decide_eq_true hdz]))
            have et : t.toList.isEmpty = true := by rw [isEmpty8]; exact decide_eq_true ht
            have ec : (n != 0) = false := by rw [hc]; rfl
            have EQA := Lib.hid (fun (u : World) => (run_eqRef HX.out.1.2.1 zeroRef_ok u).trans (by rw [decide_eq_true haz]))
          · have HPATH := Lib.hid hpath
            have HE : Hid (opB deps mk (3, d, a, t, n, q) = true) := Lib.hid (by unfold opB; rw [show partsOf (3 : UInt8) = some (false, false, false, false, true) from rfl]; simp [absentB, hdz, ht, hc, haz, hpath])
            clear hdz ht hc haz hpath
            go_wp2_with (first
              | (with_reducible refine at_load ?_
                 refine wp_val (by rfl) (ex_load 68 _ rfl (p := ⟨zx, 1, none⟩) rfl (run_loadVar_mid _ _ _ _ (refV d) _ (HD1.out _ HC.out) Tryz.underlying68 rfl (by rw [refV_length HX.out.1.1]; exact sizeRef8))) ?_)
              | (with_reducible refine at_load ?_
                 refine wp_val (by rfl) (ex_load 68 _ rfl (p := ⟨zx, 34, none⟩) rfl (run_loadVar_mid _ _ _ _ (refV a) _ (HA34.out _ HC.out) Tryz.underlying68 rfl (by rw [refV_length HX.out.1.2.1]; exact sizeRef8))) ?_)
              | (with_reducible refine at_load ?_
                 refine wp_val (by rfl) (ex_load 68 _ rfl (p := ⟨z8, 0, none⟩) rfl (run_loadVar_mid _ _ _ _ (refV zeroRef) _ (HZ8.out _ HC.out) Tryz.underlying68 rfl (by rw [refV_length zeroRef_ok]; exact sizeRef8))) ?_)
              | (with_reducible refine at_binOp ?_
                 refine wp_val (by rfl) (ex_neq 68 _ _ _ rfl (xs := (refV d).toArray) (ys := (refV zeroRef).toArray) rfl rfl (r := true) eqRef.noGuard (EQD.out _)) ?_
                 simp only [Act.put, List.setIfInBounds_toArray, List.set_cons_zero, List.set_cons_succ, Bool.not_true, Bool.not_false])
              | (with_reducible refine at_binOp ?_
                 refine wp_val (by rfl) (ex_neq 68 _ _ _ rfl (xs := (refV a).toArray) (ys := (refV zeroRef).toArray) rfl rfl (r := true) eqRef.noGuard (EQA.out _)) ?_
                 simp only [Act.put, List.setIfInBounds_toArray, List.set_cons_zero, List.set_cons_succ, Bool.not_true, Bool.not_false])
              | (go_at_call 108; refine (refPath_any q _ HX.out.2.2).mono ?_; rintro e w4 ⟨hb4, rfl⟩
                 rw [HPATH.out]
                 have HC := Lib.hid (HC.out.trans (hb4.mono HC.out.size))
                 obtain ⟨y0, y3, y4, y5⟩ := HCELL.out _ HC.out
                 clear hb4)
              | (with_reducible refine at_build ?_
                 refine wp_val (by rfl) (ex_build 166 #[(0, .const (.bool true))] rfl (madeDoc_built8 _)) ?_)
              | (refine wp_buildSlice1 (by rfl) 131 _ rfl 166 Tryz.underlying131 (.agg (madeV (false, zeroRef)).toArray) 34 48 infoMade8 rfl (by decide) (by decide) (madeV (true, zeroRef)) rfl rfl ?_)
              | (at_builtin; refine wp_appN rfl _ _ 131 rfl base 166 (.agg (madeV (false, zeroRef)).toArray) 34 48 Tryz.underlying131 infoMade8 rfl (by decide) (.slice Am mk.length cm) mk.length (rowsV madeV mk) rfl ((But.of_below (X := NoB) (HBW.out.trans (HC.out.mono HBW.out.size))).own HOW.out fun _ _ q => q) (madeV (true, zeroRef)) 166 rfl rfl (madeV_one _) (by unfold maxLen; omega) (by omega) (Nat.le_trans hbs (Nat.le_trans HBW.out.size HC.out.size)) ?_
                 intro v9 w9 ho9 hgr9
                 obtain ⟨A9, c9, rfl⟩ := own_form' ho9
                 have HO9 := Lib.hid ho9
                 have HB9 := Lib.hid (hgr9 base w (Nat.le_refl _) ((HBW.out.mono hbs).trans (HC.out.mono (Nat.le_trans hbs HBW.out.size))))
                 clear ho9 hgr9))
            go_ret2
            exact ⟨HB9.out, fun h => absurd (HE.out.symm.trans h) (by decide), fun _ => ⟨A9, c9, rfl, by
              rw [show madeB (3, d, a, t, n, q) = [(true, zeroRef)] from rfl, rowsV_app]
              exact HO9.out⟩⟩
          · have HPATH := Lib.hid (Bool.eq_false_iff.2 hpath)
            have HE : Hid (opB deps mk (3, d, a, t, n, q) = false) := Lib.hid (by unfold opB; rw [show partsOf (3 : UInt8) = some (false, false, false, false, true) from rfl]; simp [absentB, hdz, ht, hc, haz, hpath])
            clear hdz ht hc haz hpath
            go_wp2_with (first
              | (with_reducible refine at_load ?_
                 refine wp_val (by rfl) (ex_load 68 _ rfl (p := ⟨zx, 1, none⟩) rfl (run_loadVar_mid _ _ _ _ (refV d) _ (HD1.out _ HC.out) Tryz.underlying68 rfl (by rw [refV_length HX.out.1.1]; exact sizeRef8))) ?_)
              | (with_reducible refine at_load ?_
                 refine wp_val (by rfl) (ex_load 68 _ rfl (p := ⟨zx, 34, none⟩) rfl (run_loadVar_mid _ _ _ _ (refV a) _ (HA34.out _ HC.out) Tryz.underlying68 rfl (by rw [refV_length HX.out.1.2.1]; exact sizeRef8))) ?_)
              | (with_reducible refine at_load ?_
                 refine wp_val (by rfl) (ex_load 68 _ rfl (p := ⟨z8, 0, none⟩) rfl (run_loadVar_mid _ _ _ _ (refV zeroRef) _ (HZ8.out _ HC.out) Tryz.underlying68 rfl (by rw [refV_length zeroRef_ok]; exact sizeRef8))) ?_)
              | (with_reducible refine at_binOp ?_
                 refine wp_val (by rfl) (ex_neq 68 _ _ _ rfl (xs := (refV d).toArray) (ys := (refV zeroRef).toArray) rfl rfl (r := true) eqRef.noGuard (EQD.out _)) ?_
                 simp only [Act.put, List.setIfInBounds_toArray, List.set_cons_zero, List.set_cons_succ, Bool.not_true, Bool.not_false])
              | (with_reducible refine at_binOp ?_
                 refine wp_val (by rfl) (ex_neq 68 _ _ _ rfl (xs := (refV a).toArray) (ys := (refV zeroRef).toArray) rfl rfl (r := true) eqRef.noGuard (EQA.out _)) ?_
                 simp only [Act.put, List.setIfInBounds_toArray, List.set_cons_zero, List.set_cons_succ, Bool.not_true, Bool.not_false])
              | (go_at_call 108; refine (refPath_any q _ HX.out.2.2).mono ?_; rintro e w4 ⟨hb4, rfl⟩
                 rw [HPATH.out]
                 have HC := Lib.hid (HC.out.trans (hb4.mono HC.out.size))
                 obtain ⟨y0, y3, y4, y5⟩ := HCELL.out _ HC.out
                 clear hb4))
            go_ret2
            exact ⟨(HBW.out.mono hbs).trans (HC.out.mono (Nat.le_trans hbs HBW.out.size)), fun _ => ⟨_, rfl⟩, fun h => absurd (HE.out.symm.trans h) (by decide)⟩
        · have EQD := Lib.hid (fun (u : World) => (run_eqRef HX.out.1.1 zeroRef_ok u).trans (by rw [decide_eq_true hdz]))
          have et : t.toList.isEmpty = true := by rw [isEmpty8]; exact decide_eq_true ht
          have ec : (n != 0) = false := by rw [hc]; rfl
          have EQA := Lib.hid (fun (u : World) => (run_eqRef HX.out.1.2.1 zeroRef_ok u).trans (by rw [decide_eq_false haz]))
          have HE : Hid (opB deps mk (3, d, a, t, n, q) = false) := Lib.hid (by unfold opB; rw [show partsOf (3 : UInt8) = some (false, false, false, false, true) from rfl]; simp [absentB, hdz, ht, hc, haz])
          clear hdz ht hc haz
          go_wp2_with (first
            | (with_reducible refine at_load ?_
               refine wp_val (by rfl) (ex_load 68 _ rfl (p := ⟨zx, 1, none⟩) rfl (run_loadVar_mid _ _ _ _ (refV d) _ (HD1.out _ HC.out) Tryz.underlying68 rfl (by rw [refV_length HX.out.1.1]; exact sizeRef8))) ?_)
            | (with_reducible refine at_load ?_
               refine wp_val (by rfl) (ex_load 68 _ rfl (p := ⟨zx, 34, none⟩) rfl (run_loadVar_mid _ _ _ _ (refV a) _ (HA34.out _ HC.out) Tryz.underlying68 rfl (by rw [refV_length HX.out.1.2.1]; exact sizeRef8))) ?_)
            | (with_reducible refine at_load ?_
               refine wp_val (by rfl) (ex_load 68 _ rfl (p := ⟨z8, 0, none⟩) rfl (run_loadVar_mid _ _ _ _ (refV zeroRef) _ (HZ8.out _ HC.out) Tryz.underlying68 rfl (by rw [refV_length zeroRef_ok]; exact sizeRef8))) ?_)
            | (with_reducible refine at_binOp ?_
               refine wp_val (by rfl) (ex_neq 68 _ _ _ rfl (xs := (refV d).toArray) (ys := (refV zeroRef).toArray) rfl rfl (r := true) eqRef.noGuard (EQD.out _)) ?_
               simp only [Act.put, List.setIfInBounds_toArray, List.set_cons_zero, List.set_cons_succ, Bool.not_true, Bool.not_false])
            | (with_reducible refine at_binOp ?_
               refine wp_val (by rfl) (ex_neq 68 _ _ _ rfl (xs := (refV a).toArray) (ys := (refV zeroRef).toArray) rfl rfl (r := false) eqRef.noGuard (EQA.out _)) ?_
               simp only [Act.put, List.setIfInBounds_toArray, List.set_cons_zero, List.set_cons_succ, Bool.not_true, Bool.not_false]))
          go_ret2
          exact ⟨(HBW.out.mono hbs).trans (HC.out.mono (Nat.le_trans hbs HBW.out.size)), fun _ => ⟨_, rfl⟩, fun h => absurd (HE.out.symm.trans h) (by decide)⟩
      · have EQD := Lib.hid (fun (u : World) => (run_eqRef HX.out.1.1 zeroRef_ok u).trans (by rw [decide_eq_true hdz]))
        have et : t.toList.isEmpty = true := by rw [isEmpty8]; exact decide_eq_true ht
        have ec : (n != 0) = true := by simpa [bne, beq_eq_false_iff_ne] using hc
        have HE : Hid (opB deps mk (3, d, a, t, n, q) = false) := Lib.hid (by unfold opB; rw [show partsOf (3 : UInt8) = some (false, false, false, false, true) from rfl]; simp [absentB, hdz, ht, hc])
        clear hdz ht hc
        go_wp2_with (first
          | (with_reducible refine at_load ?_
             refine wp_val (by rfl) (ex_load 68 _ rfl (p := ⟨zx, 1, none⟩) rfl (run_loadVar_mid _ _ _ _ (refV d) _ (HD1.out _ HC.out) Tryz.underlying68 rfl (by rw [refV_length HX.out.1.1]; exact sizeRef8))) ?_)
          | (with_reducible refine at_load ?_
             refine wp_val (by rfl) (ex_load 68 _ rfl (p := ⟨zx, 34, none⟩) rfl (run_loadVar_mid _ _ _ _ (refV a) _ (HA34.out _ HC.out) Tryz.underlying68 rfl (by rw [refV_length HX.out.1.2.1]; exact sizeRef8))) ?_)
          | (with_reducible refine at_load ?_
             refine wp_val (by rfl) (ex_load 68 _ rfl (p := ⟨z8, 0, none⟩) rfl (run_loadVar_mid _ _ _ _ (refV zeroRef) _ (HZ8.out _ HC.out) Tryz.underlying68 rfl (by rw [refV_length zeroRef_ok]; exact sizeRef8))) ?_)
          | (with_reducible refine at_binOp ?_
             refine wp_val (by rfl) (ex_neq 68 _ _ _ rfl (xs := (refV d).toArray) (ys := (refV zeroRef).toArray) rfl rfl (r := true) eqRef.noGuard (EQD.out _)) ?_
             simp only [Act.put, List.setIfInBounds_toArray, List.set_cons_zero, List.set_cons_succ, Bool.not_true, Bool.not_false]))
        go_ret2
        exact ⟨(HBW.out.mono hbs).trans (HC.out.mono (Nat.le_trans hbs HBW.out.size)), fun _ => ⟨_, rfl⟩, fun h => absurd (HE.out.symm.trans h) (by decide)⟩
    · have EQD := Lib.hid (fun (u : World) => (run_eqRef HX.out.1.1 zeroRef_ok u).trans (by rw [decide_eq_true hdz]))
      have et : t.toList.isEmpty = false := by rw [isEmpty8]; exact decide_eq_false ht
      have HE : Hid (opB deps mk (3, d, a, t, n, q) = false) := Lib.hid (by unfold opB; rw [show partsOf (3 : UInt8) = some (false, false, false, false, true) from rfl]; simp [absentB, hdz, ht])
      clear hdz ht
      go_wp2_with (first
        | (with_reducible refine at_load ?_
           refine wp_val (by rfl) (ex_load 68 _ rfl (p := ⟨zx, 1, none⟩) rfl (run_loadVar_mid _ _ _ _ (refV d) _ (HD1.out _ HC.out) Tryz.underlying68 rfl (by rw [refV_length HX.out.1.1]; exact sizeRef8))) ?_)
        | (with_reducible refine at_load ?_
           refine wp_val (by rfl) (ex_load 68 _ rfl (p := ⟨zx, 34, none⟩) rfl (run_loadVar_mid _ _ _ _ (refV a) _ (HA34.out _ HC.out) Tryz.underlying68 rfl (by rw [refV_length HX.out.1.2.1]; exact sizeRef8))) ?_)
        | (with_reducible refine at_load ?_
           refine wp_val (by rfl) (ex_load 68 _ rfl (p := ⟨z8, 0, none⟩) rfl (run_loadVar_mid _ _ _ _ (refV zeroRef) _ (HZ8.out _ HC.out) Tryz.underlying68 rfl (by rw [refV_length zeroRef_ok]; exact sizeRef8))) ?_)
        | (with_reducible refine at_binOp ?_
           refine wp_val (by rfl) (ex_neq 68 _ _ _ rfl (xs := (refV d).toArray) (ys := (refV zeroRef).toArray) rfl rfl (r := true) eqRef.noGuard (EQD.out _)) ?_
           simp only [Act.put, List.setIfInBounds_toArray, List.set_cons_zero, List.set_cons_succ, Bool.not_true, Bool.not_false]))
      go_ret2
      exact ⟨(HBW.out.mono hbs).trans (HC.out.mono (Nat.le_trans hbs HBW.out.size)), fun _ => ⟨_, rfl⟩, fun h => absurd (HE.out.symm.trans h) (by decide)⟩
  · have EQD := Lib.hid (fun (u : World) => (run_eqRef HX.out.1.1 zeroRef_ok u).trans (by rw [decide_eq_false hdz]))
    have HE : Hid (opB deps mk (3, d, a, t, n, q) = false) := Lib.hid (by unfold opB; rw [show partsOf (3 : UInt8) = some (false, false, false, false, true) from rfl]; simp [absentB, hdz])
    clear hdz
    go_wp2_with (first
      | (with_reducible refine at_load ?_
         refine wp_val (by rfl) (ex_load 68 _ rfl (p := ⟨zx, 1, none⟩) rfl (run_loadVar_mid _ _ _ _ (refV d) _ (HD1.out _ HC.out) Tryz.underlying68 rfl (by rw [refV_length HX.out.1.1]; exact sizeRef8))) ?_)
      | (with_reducible refine at_load ?_
         refine wp_val (by rfl) (ex_load 68 _ rfl (p := ⟨zx, 34, none⟩) rfl (run_loadVar_mid _ _ _ _ (refV a) _ (HA34.out _ HC.out) Tryz.underlying68 rfl (by rw [refV_length HX.out.1.2.1]; exact sizeRef8))) ?_)
      | (with_reducible refine at_load ?_
         refine wp_val (by rfl) (ex_load 68 _ rfl (p := ⟨z8, 0, none⟩) rfl (run_loadVar_mid _ _ _ _ (refV zeroRef) _ (HZ8.out _ HC.out) Tryz.underlying68 rfl (by rw [refV_length zeroRef_ok]; exact sizeRef8))) ?_)
      | (with_reducible refine at_binOp ?_
         refine wp_val (by rfl) (ex_neq 68 _ _ _ rfl (xs := (refV d).toArray) (ys := (refV zeroRef).toArray) rfl rfl (r := false) eqRef.noGuard (EQD.out _)) ?_
         simp only [Act.put, List.setIfInBounds_toArray, List.set_cons_zero, List.set_cons_succ, Bool.not_true, Bool.not_false]))
    go_ret2
    exact ⟨(HBW.out.mono hbs).trans (HC.out.mono (Nat.le_trans hbs HBW.out.size)), fun _ => ⟨_, rfl⟩, fun h => absurd (HE.out.symm.trans h) (by decide)⟩
set_option maxHeartbeats 4000000 in
set_option maxRecDepth 100000 in
theorem refOp_4 (base : Nat) (deps : List (List UInt8)) (mk : List MadeD) (d a : RefD) (t : ByteArray) (n : Int) (q : ByteArray) (A : Option Addr) (c : Nat) (Am : Option Addr) (cm : Nat) (w : World) (hn : deps.length ≤ 1099511627776) (hmn : mk.length ≤ 1000000000) (ho : IdsOk deps) (hm : ∀ m ∈ mk, MadeOk m) (hx : OpIn (4, d, a, t, n, q)) (hset : isSetB deps = true) (hs : Sl w w.heap.size A deps.length 32 (idsV deps)) (how : w.ownsRow base 166 34 (.slice Am mk.length cm) mk.length (rowsV madeV mk)) (hbs : base ≤ w.heap.size) :
    Calls Tryz.prog 80 #[.slice A deps.length c, .slice Am mk.length cm, .agg (opV (4, d, a, t, n, q)).toArray] w (OpGives base deps mk (4, d, a, t, n, q) w) := by
  have HO := Lib.hid ho; have HS := Lib.hid hs; have HM := Lib.hid hm; have HX := Lib.hid hx; have HOW := Lib.hid how; have HSM := Lib.hid (Sl.of_own how)
  have hmn : mk.length ≤ 1099511627776 := by omega
  clear ho hs hm hx how
  go_enter Tryz.func80, Tryz.ntmps80
  go_upto_region 2 with (first
    | (with_reducible refine at_box ?_
       refine wp_boxM (by rfl) 70 _ rfl (opV (4, d, a, t, n, q)) _ rfl rfl (by rw [opV_length HX.out]; exact sizeOp70) ?_
       intro W0 hb0 hy0 hs0
       have HB0 := Lib.hid hb0; have HY0 := Lib.hid hy0
       clear hb0 hy0 hs0)
    | (with_reducible refine at_build ?_
       refine wp_val (by rfl) (ex_build 68 #[] rfl (zeroRef_built8 _)) ?_)
    | (with_reducible refine at_alloc ?_
       refine wp_allocM (by rfl) 68 rfl (refV zeroRef) (zeroRef_run8 _) ?_
       intro Wa hba hya hsa
       have HBa := Lib.hid hba; have HYa := Lib.hid hya
       clear hba hya hsa)
    | (with_reducible refine at_store ?_
       refine wp_storeM (by rfl) 68 _ _ rfl W0.heap.size 0 [] (refV zeroRef) [] (refV zeroRef) 68 _ rfl rfl rfl rfl (by simpa using HYa.out) rfl (by kernel_rfl) (refV_one _) ?_
       intro W1 hbb hyb hsb
       have HB1 := Lib.hid (HBa.out.trans (hbb.below HBa.out.size (fun k hk e => by have e' : k = W0.heap.size := e; omega)))
       have HY1 : Hid (W1.heap[W0.heap.size]? = some (.cells (refV zeroRef).toArray 68 (0, 0))) := Lib.hid (by simpa using hyb)
       clear hbb hyb hsb))
  obtain ⟨zx, hzx⟩ : ∃ z, w.heap.size = z := ⟨_, rfl⟩
  obtain ⟨z8, hz8⟩ : ∃ z, W0.heap.size = z := ⟨_, rfl⟩
  have l0 := (Array.getElem?_eq_some_iff.1 HY0.out).1
  have HYX := Lib.hid ((HB1.out.block _ l0).trans HY0.out)
  have HLX := Lib.hid (show zx < W1.heap.size by rw [← hzx]; exact Nat.lt_of_lt_of_le l0 HB1.out.size)
  have HL8 := Lib.hid (show z8 < W1.heap.size by rw [← hz8]; exact (Array.getElem?_eq_some_iff.1 HY1.out).1)
  have HBW := Lib.hid (HB0.out.trans (HB1.out.mono HB0.out.size))
  rw [hzx] at HYX ⊢
  rw [hz8] at HY1 ⊢
  try simp only [Act.put, List.setIfInBounds_toArray, List.set_cons_zero, List.set_cons_succ]
  have hzxw : Hid (w.heap.size = zx) := Lib.hid hzx
  clear hzx hz8 l0 HY0 HB0 HB1 HBa HYa
  have HCELL := Lib.hid (fun (u : World) (hu : Below W1.heap.size W1 u) => (show u.cell? ⟨zx, 0, none⟩ = some (.int .u8 (4 : Int)) ∧ u.cell? ⟨zx, 67, none⟩ = some (.string t) ∧ u.cell? ⟨zx, 68, none⟩ = some (.int .i64 n) ∧ u.cell? ⟨zx, 69, none⟩ = some (.string q) from
    ⟨(hu.cell (p := ⟨zx, 0, none⟩) HLX.out).trans (cells_at0 HYX.out 0), (hu.cell (p := ⟨zx, 67, none⟩) HLX.out).trans ((cells_at0 HYX.out 67).trans (op_cells HX.out).2.2.2.1), (hu.cell (p := ⟨zx, 68, none⟩) HLX.out).trans ((cells_at0 HYX.out 68).trans (op_cells HX.out).2.2.2.2.1), (hu.cell (p := ⟨zx, 69, none⟩) HLX.out).trans ((cells_at0 HYX.out 69).trans (op_cells HX.out).2.2.2.2.2)⟩))
  have HD1 := Lib.hid (fun (u : World) (hu : Below W1.heap.size W1 u) => (show u.rangeAt zx 1 (refV d) from fun j v hj => (hu.cell (p := ⟨zx, 1 + j, none⟩) HLX.out).trans ((cells_at0 HYX.out (1 + j)).trans ((op_cells HX.out).2.1 j v hj))))
  have HA34 := Lib.hid (fun (u : World) (hu : Below W1.heap.size W1 u) => (show u.rangeAt zx 34 (refV a) from fun j v hj => (hu.cell (p := ⟨zx, 34 + j, none⟩) HLX.out).trans ((cells_at0 HYX.out (34 + j)).trans ((op_cells HX.out).2.2.1 j v hj))))
  have HZ8 := Lib.hid (fun (u : World) (hu : Below W1.heap.size W1 u) => (show u.rangeAt z8 0 (refV zeroRef) from fun j v hj => by rw [Nat.zero_add]; exact ((hu.cell (p := ⟨z8, j, none⟩) HL8.out).trans (cells_at0 HY1.out j)).trans hj))
  have HSD := Lib.hid (fun (u : World) (hu : Below W1.heap.size W1 u) => (HS.out.keep (HBW.out.trans (hu.mono HBW.out.size))).more (Nat.le_trans HBW.out.size hu.size))
  have HSK := Lib.hid (fun (u : World) (hu : Below W1.heap.size W1 u) => (HSM.out.keep (HBW.out.trans (hu.mono HBW.out.size))).more (Nat.le_trans HBW.out.size hu.size))
  have HC := Lib.hid (Below.refl W1.heap.size W1)
  obtain ⟨y0, y3, y4, y5⟩ := HCELL.out _ HC.out
  clear HYX HY1
  by_cases hdoc : docB deps mk d = true
  · by_cases ht : t = noneS
    · by_cases hc : n = 0
      · by_cases haz : a = zeroRef
        · by_cases hpath : pathB q = true
          all_goals
            have HDOC := Lib.hid hdoc
            have et : t.toList.isEmpty = true := by rw [isEmpty8]; exact decide_eq_true ht
            have ec : (n != 0) = false := by rw [hc]; rfl
            have EQA := Lib.hid (fun (u : World) => (run_eqRef HX.out.1.2.1 zeroRef_ok u).trans (by rw [decide_eq_true haz]))
          · have HPATH := Lib.hid hpath
            have HE : Hid (opB deps mk (4, d, a, t, n, q) = true) := Lib.hid (by unfold opB; rw [show partsOf (4 : UInt8) = some (true, false, false, false, true) from rfl]; simp [absentB, hdoc, ht, hc, haz, hpath])
            clear hdoc ht hc haz hpath
            go_upto_region 22 with (first
              | (with_reducible refine at_load ?_
                 refine wp_val (by rfl) (ex_load 68 _ rfl (p := ⟨zx, 1, none⟩) rfl (run_loadVar_mid _ _ _ _ (refV d) _ (HD1.out _ HC.out) Tryz.underlying68 rfl (by rw [refV_length HX.out.1.1]; exact sizeRef8))) ?_)
              | (with_reducible refine at_load ?_
                 refine wp_val (by rfl) (ex_load 68 _ rfl (p := ⟨zx, 34, none⟩) rfl (run_loadVar_mid _ _ _ _ (refV a) _ (HA34.out _ HC.out) Tryz.underlying68 rfl (by rw [refV_length HX.out.1.2.1]; exact sizeRef8))) ?_)
              | (with_reducible refine at_load ?_
                 refine wp_val (by rfl) (ex_load 68 _ rfl (p := ⟨z8, 0, none⟩) rfl (run_loadVar_mid _ _ _ _ (refV zeroRef) _ (HZ8.out _ HC.out) Tryz.underlying68 rfl (by rw [refV_length zeroRef_ok]; exact sizeRef8))) ?_)
              | (go_at_call 107; refine (refDoc_any deps mk d A c Am cm _ hn hmn HO.out HM.out HX.out.1.1 hset (HSD.out _ HC.out) (HSK.out _ HC.out)).mono ?_; rintro e w2 ⟨hb2, rfl⟩
                 rw [HDOC.out]
                 have HC := Lib.hid (HC.out.trans (hb2.mono HC.out.size))
                 obtain ⟨y0, y3, y4, y5⟩ := HCELL.out _ HC.out
                 clear hb2)
              | (with_reducible refine at_binOp ?_
                 refine wp_val (by rfl) (ex_neq 68 _ _ _ rfl (xs := (refV a).toArray) (ys := (refV zeroRef).toArray) rfl rfl (r := true) eqRef.noGuard (EQA.out _)) ?_
                 simp only [Act.put, List.setIfInBounds_toArray, List.set_cons_zero, List.set_cons_succ, Bool.not_true, Bool.not_false])
              | (go_at_call 108; refine (refPath_any q _ HX.out.2.2).mono ?_; rintro e w4 ⟨hb4, rfl⟩
                 rw [HPATH.out]
                 have HC := Lib.hid (HC.out.trans (hb4.mono HC.out.size))
                 obtain ⟨y0, y3, y4, y5⟩ := HCELL.out _ HC.out
                 clear hb4))
            have y0w := Wg.cell y0 (Nat.lt_of_lt_of_le HLX.out HC.out.size)
            clear y0 y3 y4 y5
            try simp only [Act.put, List.setIfInBounds_toArray, List.set_cons_zero, List.set_cons_succ]
            refine wp_region_wr (by kernel_rfl) (by kernel_rfl) ?_
            repeat (first
              | go_big_quiet_skip
              | (go_big_quiet_want
                 first
                   | (go_big_quiet_op
                      first
                        | go_big_quiet_on
                        | go_big_quiet_call (first | (fail)))))
            refine wpQuiet_nil ?_
            rintro w' ⟨kk, rfl⟩
            have hk9 := kk.2
            generalize kk.val = w9 at *
            clear kk
            have HC := Lib.hid (HC.out.trans (hk9.below.mono HC.out.size))
            clear hk9
            go_wp2_with fail
            go_ret2
            have HMLN : Hid (madeB (4, d, a, t, n, q) = []) := Lib.hid rfl
            have HML : Hid (mk.length + (madeB (4, d, a, t, n, q)).length = mk.length) := Lib.hid rfl
            exact ⟨(HBW.out.mono hbs).trans (HC.out.mono (Nat.le_trans hbs HBW.out.size)), fun h => absurd (HE.out.symm.trans h) (by decide), fun _ => ⟨Am, cm, by rw [HML.out]; rfl, by rw [HML.out, HMLN.out, List.append_nil]; exact (But.of_below (X := NoB) (HBW.out.trans (HC.out.mono HBW.out.size))).own HOW.out fun _ _ q => q⟩⟩
          · have HPATH := Lib.hid (Bool.eq_false_iff.2 hpath)
            have HE : Hid (opB deps mk (4, d, a, t, n, q) = false) := Lib.hid (by unfold opB; rw [show partsOf (4 : UInt8) = some (true, false, false, false, true) from rfl]; simp [absentB, hdoc, ht, hc, haz, hpath])
            clear hdoc ht hc haz hpath
            go_wp2_with (first
              | (with_reducible refine at_load ?_
                 refine wp_val (by rfl) (ex_load 68 _ rfl (p := ⟨zx, 1, none⟩) rfl (run_loadVar_mid _ _ _ _ (refV d) _ (HD1.out _ HC.out) Tryz.underlying68 rfl (by rw [refV_length HX.out.1.1]; exact sizeRef8))) ?_)
              | (with_reducible refine at_load ?_
                 refine wp_val (by rfl) (ex_load 68 _ rfl (p := ⟨zx, 34, none⟩) rfl (run_loadVar_mid _ _ _ _ (refV a) _ (HA34.out _ HC.out) Tryz.underlying68 rfl (by rw [refV_length HX.out.1.2.1]; exact sizeRef8))) ?_)
              | (with_reducible refine at_load ?_
                 refine wp_val (by rfl) (ex_load 68 _ rfl (p := ⟨z8, 0, none⟩) rfl (run_loadVar_mid _ _ _ _ (refV zeroRef) _ (HZ8.out _ HC.out) Tryz.underlying68 rfl (by rw [refV_length zeroRef_ok]; exact sizeRef8))) ?_)
              | (go_at_call 107; refine (refDoc_any deps mk d A c Am cm _ hn hmn HO.out HM.out HX.out.1.1 hset (HSD.out _ HC.out) (HSK.out _ HC.out)).mono ?_; rintro e w2 ⟨hb2, rfl⟩
                 rw [HDOC.out]
                 have HC := Lib.hid (HC.out.trans (hb2.mono HC.out.size))
                 obtain ⟨y0, y3, y4, y5⟩ := HCELL.out _ HC.out
                 clear hb2)
              | (with_reducible refine at_binOp ?_
                 refine wp_val (by rfl) (ex_neq 68 _ _ _ rfl (xs := (refV a).toArray) (ys := (refV zeroRef).toArray) rfl rfl (r := true) eqRef.noGuard (EQA.out _)) ?_
                 simp only [Act.put, List.setIfInBounds_toArray, List.set_cons_zero, List.set_cons_succ, Bool.not_true, Bool.not_false])
              | (go_at_call 108; refine (refPath_any q _ HX.out.2.2).mono ?_; rintro e w4 ⟨hb4, rfl⟩
                 rw [HPATH.out]
                 have HC := Lib.hid (HC.out.trans (hb4.mono HC.out.size))
                 obtain ⟨y0, y3, y4, y5⟩ := HCELL.out _ HC.out
                 clear hb4))
            go_ret2
            exact ⟨(HBW.out.mono hbs).trans (HC.out.mono (Nat.le_trans hbs HBW.out.size)), fun _ => ⟨_, rfl⟩, fun h => absurd (HE.out.symm.trans h) (by decide)⟩
        · have HDOC := Lib.hid hdoc
          have et : t.toList.isEmpty = true := by rw [isEmpty8]; exact decide_eq_true ht
          have ec : (n != 0) = false := by rw [hc]; rfl
          have EQA := Lib.hid (fun (u : World) => (run_eqRef HX.out.1.2.1 zeroRef_ok u).trans (by rw [decide_eq_false haz]))
          have HE : Hid (opB deps mk (4, d, a, t, n, q) = false) := Lib.hid (by unfold opB; rw [show partsOf (4 : UInt8) = some (true, false, false, false, true) from rfl]; simp [absentB, hdoc, ht, hc, haz])
          clear hdoc ht hc haz
          go_wp2_with (first
            | (with_reducible refine at_load ?_
               refine wp_val (by rfl) (ex_load 68 _ rfl (p := ⟨zx, 1, none⟩) rfl (run_loadVar_mid _ _ _ _ (refV d) _ (HD1.out _ HC.out) Tryz.underlying68 rfl (by rw [refV_length HX.out.1.1]; exact sizeRef8))) ?_)
            | (with_reducible refine at_load ?_
               refine wp_val (by rfl) (ex_load 68 _ rfl (p := ⟨zx, 34, none⟩) rfl (run_loadVar_mid _ _ _ _ (refV a) _ (HA34.out _ HC.out) Tryz.underlying68 rfl (by rw [refV_length HX.out.1.2.1]; exact sizeRef8))) ?_)
            | (with_reducible refine at_load ?_
               refine wp_val (by rfl) (ex_load 68 _ rfl (p := ⟨z8, 0, none⟩) rfl (run_loadVar_mid _ _ _ _ (refV zeroRef) _ (HZ8.out _ HC.out) Tryz.underlying68 rfl (by rw [refV_length zeroRef_ok]; exact sizeRef8))) ?_)
            | (go_at_call 107; refine (refDoc_any deps mk d A c Am cm _ hn hmn HO.out HM.out HX.out.1.1 hset (HSD.out _ HC.out) (HSK.out _ HC.out)).mono ?_; rintro e w2 ⟨hb2, rfl⟩
               rw [HDOC.out]
               have HC := Lib.hid (HC.out.trans (hb2.mono HC.out.size))
               obtain ⟨y0, y3, y4, y5⟩ := HCELL.out _ HC.out
               clear hb2)
            | (with_reducible refine at_binOp ?_
               refine wp_val (by rfl) (ex_neq 68 _ _ _ rfl (xs := (refV a).toArray) (ys := (refV zeroRef).toArray) rfl rfl (r := false) eqRef.noGuard (EQA.out _)) ?_
               simp only [Act.put, List.setIfInBounds_toArray, List.set_cons_zero, List.set_cons_succ, Bool.not_true, Bool.not_false]))
          go_ret2
          exact ⟨(HBW.out.mono hbs).trans (HC.out.mono (Nat.le_trans hbs HBW.out.size)), fun _ => ⟨_, rfl⟩, fun h => absurd (HE.out.symm.trans h) (by decide)⟩
      · have HDOC := Lib.hid hdoc
        have et : t.toList.isEmpty = true := by rw [isEmpty8]; exact decide_eq_true ht
        have ec : (n != 0) = true := by simpa [bne, beq_eq_false_iff_ne] using hc
        have HE : Hid (opB deps mk (4, d, a, t, n, q) = false) := Lib.hid (by unfold opB; rw [show partsOf (4 : UInt8) = some (true, false, false, false, true) from rfl]; simp [absentB, hdoc, ht, hc])
        clear hdoc ht hc
        go_wp2_with (first
          | (with_reducible refine at_load ?_
             refine wp_val (by rfl) (ex_load 68 _ rfl (p := ⟨zx, 1, none⟩) rfl (run_loadVar_mid _ _ _ _ (refV d) _ (HD1.out _ HC.out) Tryz.underlying68 rfl (by rw [refV_length HX.out.1.1]; exact sizeRef8))) ?_)
          | (with_reducible refine at_load ?_
             refine wp_val (by rfl) (ex_load 68 _ rfl (p := ⟨zx, 34, none⟩) rfl (run_loadVar_mid _ _ _ _ (refV a) _ (HA34.out _ HC.out) Tryz.underlying68 rfl (by rw [refV_length HX.out.1.2.1]; exact sizeRef8))) ?_)
          | (with_reducible refine at_load ?_
             refine wp_val (by rfl) (ex_load 68 _ rfl (p := ⟨z8, 0, none⟩) rfl (run_loadVar_mid _ _ _ _ (refV zeroRef) _ (HZ8.out _ HC.out) Tryz.underlying68 rfl (by rw [refV_length zeroRef_ok]; exact sizeRef8))) ?_)
          | (go_at_call 107; refine (refDoc_any deps mk d A c Am cm _ hn hmn HO.out HM.out HX.out.1.1 hset (HSD.out _ HC.out) (HSK.out _ HC.out)).mono ?_; rintro e w2 ⟨hb2, rfl⟩
             rw [HDOC.out]
             have HC := Lib.hid (HC.out.trans (hb2.mono HC.out.size))
             obtain ⟨y0, y3, y4, y5⟩ := HCELL.out _ HC.out
             clear hb2))
        go_ret2
        exact ⟨(HBW.out.mono hbs).trans (HC.out.mono (Nat.le_trans hbs HBW.out.size)), fun _ => ⟨_, rfl⟩, fun h => absurd (HE.out.symm.trans h) (by decide)⟩
    · have HDOC := Lib.hid hdoc
      have et : t.toList.isEmpty = false := by rw [isEmpty8]; exact decide_eq_false ht
      have HE : Hid (opB deps mk (4, d, a, t, n, q) = false) := Lib.hid (by unfold opB; rw [show partsOf (4 : UInt8) = some (true, false, false, false, true) from rfl]; simp [absentB, hdoc, ht])
      clear hdoc ht
      go_wp2_with (first
        | (with_reducible refine at_load ?_
           refine wp_val (by rfl) (ex_load 68 _ rfl (p := ⟨zx, 1, none⟩) rfl (run_loadVar_mid _ _ _ _ (refV d) _ (HD1.out _ HC.out) Tryz.underlying68 rfl (by rw [refV_length HX.out.1.1]; exact sizeRef8))) ?_)
        | (with_reducible refine at_load ?_
           refine wp_val (by rfl) (ex_load 68 _ rfl (p := ⟨zx, 34, none⟩) rfl (run_loadVar_mid _ _ _ _ (refV a) _ (HA34.out _ HC.out) Tryz.underlying68 rfl (by rw [refV_length HX.out.1.2.1]; exact sizeRef8))) ?_)
        | (with_reducible refine at_load ?_
           refine wp_val (by rfl) (ex_load 68 _ rfl (p := ⟨z8, 0, none⟩) rfl (run_loadVar_mid _ _ _ _ (refV zeroRef) _ (HZ8.out _ HC.out) Tryz.underlying68 rfl (by rw [refV_length zeroRef_ok]; exact sizeRef8))) ?_)
        | (go_at_call 107; refine (refDoc_any deps mk d A c Am cm _ hn hmn HO.out HM.out HX.out.1.1 hset (HSD.out _ HC.out) (HSK.out _ HC.out)).mono ?_; rintro e w2 ⟨hb2, rfl⟩
           rw [HDOC.out]
           have HC := Lib.hid (HC.out.trans (hb2.mono HC.out.size))
           obtain ⟨y0, y3, y4, y5⟩ := HCELL.out _ HC.out
           clear hb2))
      go_ret2
      exact ⟨(HBW.out.mono hbs).trans (HC.out.mono (Nat.le_trans hbs HBW.out.size)), fun _ => ⟨_, rfl⟩, fun h => absurd (HE.out.symm.trans h) (by decide)⟩
  · have HDOC := Lib.hid (Bool.eq_false_iff.2 hdoc)
    have HE : Hid (opB deps mk (4, d, a, t, n, q) = false) := Lib.hid (by unfold opB; rw [show partsOf (4 : UInt8) = some (true, false, false, false, true) from rfl]; simp [absentB, hdoc])
    clear hdoc
    go_wp2_with (first
      | (with_reducible refine at_load ?_
         refine wp_val (by rfl) (ex_load 68 _ rfl (p := ⟨zx, 1, none⟩) rfl (run_loadVar_mid _ _ _ _ (refV d) _ (HD1.out _ HC.out) Tryz.underlying68 rfl (by rw [refV_length HX.out.1.1]; exact sizeRef8))) ?_)
      | (with_reducible refine at_load ?_
         refine wp_val (by rfl) (ex_load 68 _ rfl (p := ⟨zx, 34, none⟩) rfl (run_loadVar_mid _ _ _ _ (refV a) _ (HA34.out _ HC.out) Tryz.underlying68 rfl (by rw [refV_length HX.out.1.2.1]; exact sizeRef8))) ?_)
      | (with_reducible refine at_load ?_
         refine wp_val (by rfl) (ex_load 68 _ rfl (p := ⟨z8, 0, none⟩) rfl (run_loadVar_mid _ _ _ _ (refV zeroRef) _ (HZ8.out _ HC.out) Tryz.underlying68 rfl (by rw [refV_length zeroRef_ok]; exact sizeRef8))) ?_)
      | (go_at_call 107; refine (refDoc_any deps mk d A c Am cm _ hn hmn HO.out HM.out HX.out.1.1 hset (HSD.out _ HC.out) (HSK.out _ HC.out)).mono ?_; rintro e w2 ⟨hb2, rfl⟩
         rw [HDOC.out]
         have HC := Lib.hid (HC.out.trans (hb2.mono HC.out.size))
         obtain ⟨y0, y3, y4, y5⟩ := HCELL.out _ HC.out
         clear hb2))
    go_ret2
    exact ⟨(HBW.out.mono hbs).trans (HC.out.mono (Nat.le_trans hbs HBW.out.size)), fun _ => ⟨_, rfl⟩, fun h => absurd (HE.out.symm.trans h) (by decide)⟩
set_option maxHeartbeats 4000000 in
set_option maxRecDepth 100000 in
theorem refOp_5 (base : Nat) (deps : List (List UInt8)) (mk : List MadeD) (d a : RefD) (t : ByteArray) (n : Int) (q : ByteArray) (A : Option Addr) (c : Nat) (Am : Option Addr) (cm : Nat) (w : World) (hn : deps.length ≤ 1099511627776) (hmn : mk.length ≤ 1000000000) (ho : IdsOk deps) (hm : ∀ m ∈ mk, MadeOk m) (hx : OpIn (5, d, a, t, n, q)) (hset : isSetB deps = true) (hs : Sl w w.heap.size A deps.length 32 (idsV deps)) (how : w.ownsRow base 166 34 (.slice Am mk.length cm) mk.length (rowsV madeV mk)) (hbs : base ≤ w.heap.size) :
    Calls Tryz.prog 80 #[.slice A deps.length c, .slice Am mk.length cm, .agg (opV (5, d, a, t, n, q)).toArray] w (OpGives base deps mk (5, d, a, t, n, q) w) := by
  have HO := Lib.hid ho; have HS := Lib.hid hs; have HM := Lib.hid hm; have HX := Lib.hid hx; have HOW := Lib.hid how; have HSM := Lib.hid (Sl.of_own how)
  have hmn : mk.length ≤ 1099511627776 := by omega
  clear ho hs hm hx how
  go_enter Tryz.func80, Tryz.ntmps80
  go_upto_region 2 with (first
    | (with_reducible refine at_box ?_
       refine wp_boxM (by rfl) 70 _ rfl (opV (5, d, a, t, n, q)) _ rfl rfl (by rw [opV_length HX.out]; exact sizeOp70) ?_
       intro W0 hb0 hy0 hs0
       have HB0 := Lib.hid hb0; have HY0 := Lib.hid hy0
       clear hb0 hy0 hs0)
    | (with_reducible refine at_build ?_
       refine wp_val (by rfl) (ex_build 68 #[] rfl (zeroRef_built8 _)) ?_)
    | (with_reducible refine at_alloc ?_
       refine wp_allocM (by rfl) 68 rfl (refV zeroRef) (zeroRef_run8 _) ?_
       intro Wa hba hya hsa
       have HBa := Lib.hid hba; have HYa := Lib.hid hya
       clear hba hya hsa)
    | (with_reducible refine at_store ?_
       refine wp_storeM (by rfl) 68 _ _ rfl W0.heap.size 0 [] (refV zeroRef) [] (refV zeroRef) 68 _ rfl rfl rfl rfl (by simpa using HYa.out) rfl (by kernel_rfl) (refV_one _) ?_
       intro W1 hbb hyb hsb
       have HB1 := Lib.hid (HBa.out.trans (hbb.below HBa.out.size (fun k hk e => by have e' : k = W0.heap.size := e; omega)))
       have HY1 : Hid (W1.heap[W0.heap.size]? = some (.cells (refV zeroRef).toArray 68 (0, 0))) := Lib.hid (by simpa using hyb)
       clear hbb hyb hsb))
  obtain ⟨zx, hzx⟩ : ∃ z, w.heap.size = z := ⟨_, rfl⟩
  obtain ⟨z8, hz8⟩ : ∃ z, W0.heap.size = z := ⟨_, rfl⟩
  have l0 := (Array.getElem?_eq_some_iff.1 HY0.out).1
  have HYX := Lib.hid ((HB1.out.block _ l0).trans HY0.out)
  have HLX := Lib.hid (show zx < W1.heap.size by rw [← hzx]; exact Nat.lt_of_lt_of_le l0 HB1.out.size)
  have HL8 := Lib.hid (show z8 < W1.heap.size by rw [← hz8]; exact (Array.getElem?_eq_some_iff.1 HY1.out).1)
  have HBW := Lib.hid (HB0.out.trans (HB1.out.mono HB0.out.size))
  rw [hzx] at HYX ⊢
  rw [hz8] at HY1 ⊢
  try simp only [Act.put, List.setIfInBounds_toArray, List.set_cons_zero, List.set_cons_succ]
  have hzxw : Hid (w.heap.size = zx) := Lib.hid hzx
  clear hzx hz8 l0 HY0 HB0 HB1 HBa HYa
  have HCELL := Lib.hid (fun (u : World) (hu : Below W1.heap.size W1 u) => (show u.cell? ⟨zx, 0, none⟩ = some (.int .u8 (5 : Int)) ∧ u.cell? ⟨zx, 67, none⟩ = some (.string t) ∧ u.cell? ⟨zx, 68, none⟩ = some (.int .i64 n) ∧ u.cell? ⟨zx, 69, none⟩ = some (.string q) from
    ⟨(hu.cell (p := ⟨zx, 0, none⟩) HLX.out).trans (cells_at0 HYX.out 0), (hu.cell (p := ⟨zx, 67, none⟩) HLX.out).trans ((cells_at0 HYX.out 67).trans (op_cells HX.out).2.2.2.1), (hu.cell (p := ⟨zx, 68, none⟩) HLX.out).trans ((cells_at0 HYX.out 68).trans (op_cells HX.out).2.2.2.2.1), (hu.cell (p := ⟨zx, 69, none⟩) HLX.out).trans ((cells_at0 HYX.out 69).trans (op_cells HX.out).2.2.2.2.2)⟩))
  have HD1 := Lib.hid (fun (u : World) (hu : Below W1.heap.size W1 u) => (show u.rangeAt zx 1 (refV d) from fun j v hj => (hu.cell (p := ⟨zx, 1 + j, none⟩) HLX.out).trans ((cells_at0 HYX.out (1 + j)).trans ((op_cells HX.out).2.1 j v hj))))
  have HA34 := Lib.hid (fun (u : World) (hu : Below W1.heap.size W1 u) => (show u.rangeAt zx 34 (refV a) from fun j v hj => (hu.cell (p := ⟨zx, 34 + j, none⟩) HLX.out).trans ((cells_at0 HYX.out (34 + j)).trans ((op_cells HX.out).2.2.1 j v hj))))
  have HZ8 := Lib.hid (fun (u : World) (hu : Below W1.heap.size W1 u) => (show u.rangeAt z8 0 (refV zeroRef) from fun j v hj => by rw [Nat.zero_add]; exact ((hu.cell (p := ⟨z8, j, none⟩) HL8.out).trans (cells_at0 HY1.out j)).trans hj))
  have HSD := Lib.hid (fun (u : World) (hu : Below W1.heap.size W1 u) => (HS.out.keep (HBW.out.trans (hu.mono HBW.out.size))).more (Nat.le_trans HBW.out.size hu.size))
  have HSK := Lib.hid (fun (u : World) (hu : Below W1.heap.size W1 u) => (HSM.out.keep (HBW.out.trans (hu.mono HBW.out.size))).more (Nat.le_trans HBW.out.size hu.size))
  have HC := Lib.hid (Below.refl W1.heap.size W1)
  obtain ⟨y0, y3, y4, y5⟩ := HCELL.out _ HC.out
  clear HYX HY1
  by_cases hdoc : docB deps mk d = true
  · by_cases ht : t = noneS
    · by_cases hc : n = 0
      · by_cases haz : a = zeroRef
        · by_cases hq : q = noneS
          all_goals
            have HDOC := Lib.hid hdoc
            have et : t.toList.isEmpty = true := by rw [isEmpty8]; exact decide_eq_true ht
            have ec : (n != 0) = false := by rw [hc]; rfl
            have EQA := Lib.hid (fun (u : World) => (run_eqRef HX.out.1.2.1 zeroRef_ok u).trans (by rw [decide_eq_true haz]))
          · have eq : q.toList.isEmpty = true := by rw [isEmpty8]; exact decide_eq_true hq
            have HE : Hid (opB deps mk (5, d, a, t, n, q) = true) := Lib.hid (by unfold opB; rw [show partsOf (5 : UInt8) = some (true, false, false, false, false) from rfl]; simp [absentB, hdoc, ht, hc, haz, hq])
            clear hdoc ht hc haz hq
            go_upto_region 22 with (first
              | (with_reducible refine at_load ?_
                 refine wp_val (by rfl) (ex_load 68 _ rfl (p := ⟨zx, 1, none⟩) rfl (run_loadVar_mid _ _ _ _ (refV d) _ (HD1.out _ HC.out) Tryz.underlying68 rfl (by rw [refV_length HX.out.1.1]; exact sizeRef8))) ?_)
              | (with_reducible refine at_load ?_
                 refine wp_val (by rfl) (ex_load 68 _ rfl (p := ⟨zx, 34, none⟩) rfl (run_loadVar_mid _ _ _ _ (refV a) _ (HA34.out _ HC.out) Tryz.underlying68 rfl (by rw [refV_length HX.out.1.2.1]; exact sizeRef8))) ?_)
              | (with_reducible refine at_load ?_
                 refine wp_val (by rfl) (ex_load 68 _ rfl (p := ⟨z8, 0, none⟩) rfl (run_loadVar_mid _ _ _ _ (refV zeroRef) _ (HZ8.out _ HC.out) Tryz.underlying68 rfl (by rw [refV_length zeroRef_ok]; exact sizeRef8))) ?_)
              | (go_at_call 107; refine (refDoc_any deps mk d A c Am cm _ hn hmn HO.out HM.out HX.out.1.1 hset (HSD.out _ HC.out) (HSK.out _ HC.out)).mono ?_; rintro e w2 ⟨hb2, rfl⟩
                 rw [HDOC.out]
                 have HC := Lib.hid (HC.out.trans (hb2.mono HC.out.size))
                 obtain ⟨y0, y3, y4, y5⟩ := HCELL.out _ HC.out
                 clear hb2)
              | (with_reducible refine at_binOp ?_
                 refine wp_val (by rfl) (ex_neq 68 _ _ _ rfl (xs := (refV a).toArray) (ys := (refV zeroRef).toArray) rfl rfl (r := true) eqRef.noGuard (EQA.out _)) ?_
                 simp only [Act.put, List.setIfInBounds_toArray, List.set_cons_zero, List.set_cons_succ, Bool.not_true, Bool.not_false]))
            have y0w := Wg.cell y0 (Nat.lt_of_lt_of_le HLX.out HC.out.size)
            clear y0 y3 y4 y5
            try simp only [Act.put, List.setIfInBounds_toArray, List.set_cons_zero, List.set_cons_succ]
            refine wp_region_wr (by kernel_rfl) (by kernel_rfl) ?_
            repeat (first
              | go_big_quiet_skip
              | (go_big_quiet_want
                 first
                   | (go_big_quiet_op
                      first
                        | go_big_quiet_on
                        | go_big_quiet_call (first | (fail)))))
            refine wpQuiet_nil ?_
            rintro w' ⟨kk, rfl⟩
            have hk9 := kk.2
            generalize kk.val = w9 at *
            clear kk
            have HC := Lib.hid (HC.out.trans (hk9.below.mono HC.out.size))
            clear hk9
            go_wp2_with fail
            go_ret2
            have HMLN : Hid (madeB (5, d, a, t, n, q) = []) := Lib.hid rfl
            have HML : Hid (mk.length + (madeB (5, d, a, t, n, q)).length = mk.length) := Lib.hid rfl
            exact ⟨(HBW.out.mono hbs).trans (HC.out.mono (Nat.le_trans hbs HBW.out.size)), fun h => absurd (HE.out.symm.trans h) (by decide), fun _ => ⟨Am, cm, by rw [HML.out]; rfl, by rw [HML.out, HMLN.out, List.append_nil]; exact (But.of_below (X := NoB) (HBW.out.trans (HC.out.mono HBW.out.size))).own HOW.out fun _ _ q => q⟩⟩
          · have eq : q.toList.isEmpty = false := by rw [isEmpty8]; exact decide_eq_false hq
            have HE : Hid (opB deps mk (5, d, a, t, n, q) = false) := Lib.hid (by unfold opB; rw [show partsOf (5 : UInt8) = some (true, false, false, false, false) from rfl]; simp [absentB, hdoc, ht, hc, haz, hq])
            clear hdoc ht hc haz hq
            go_wp2_with (first
              | (with_reducible refine at_load ?_
                 refine wp_val (by rfl) (ex_load 68 _ rfl (p := ⟨zx, 1, none⟩) rfl (run_loadVar_mid _ _ _ _ (refV d) _ (HD1.out _ HC.out) Tryz.underlying68 rfl (by rw [refV_length HX.out.1.1]; exact sizeRef8))) ?_)
              | (with_reducible refine at_load ?_
                 refine wp_val (by rfl) (ex_load 68 _ rfl (p := ⟨zx, 34, none⟩) rfl (run_loadVar_mid _ _ _ _ (refV a) _ (HA34.out _ HC.out) Tryz.underlying68 rfl (by rw [refV_length HX.out.1.2.1]; exact sizeRef8))) ?_)
              | (with_reducible refine at_load ?_
                 refine wp_val (by rfl) (ex_load 68 _ rfl (p := ⟨z8, 0, none⟩) rfl (run_loadVar_mid _ _ _ _ (refV zeroRef) _ (HZ8.out _ HC.out) Tryz.underlying68 rfl (by rw [refV_length zeroRef_ok]; exact sizeRef8))) ?_)
              | (go_at_call 107; refine (refDoc_any deps mk d A c Am cm _ hn hmn HO.out HM.out HX.out.1.1 hset (HSD.out _ HC.out) (HSK.out _ HC.out)).mono ?_; rintro e w2 ⟨hb2, rfl⟩
                 rw [HDOC.out]
                 have HC := Lib.hid (HC.out.trans (hb2.mono HC.out.size))
                 obtain ⟨y0, y3, y4, y5⟩ := HCELL.out _ HC.out
                 clear hb2)
              | (with_reducible refine at_binOp ?_
                 refine wp_val (by rfl) (ex_neq 68 _ _ _ rfl (xs := (refV a).toArray) (ys := (refV zeroRef).toArray) rfl rfl (r := true) eqRef.noGuard (EQA.out _)) ?_
                 simp only [Act.put, List.setIfInBounds_toArray, List.set_cons_zero, List.set_cons_succ, Bool.not_true, Bool.not_false]))
            go_ret2
            exact ⟨(HBW.out.mono hbs).trans (HC.out.mono (Nat.le_trans hbs HBW.out.size)), fun _ => ⟨_, rfl⟩, fun h => absurd (HE.out.symm.trans h) (by decide)⟩
        · have HDOC := Lib.hid hdoc
          have et : t.toList.isEmpty = true := by rw [isEmpty8]; exact decide_eq_true ht
          have ec : (n != 0) = false := by rw [hc]; rfl
          have EQA := Lib.hid (fun (u : World) => (run_eqRef HX.out.1.2.1 zeroRef_ok u).trans (by rw [decide_eq_false haz]))
          have HE : Hid (opB deps mk (5, d, a, t, n, q) = false) := Lib.hid (by unfold opB; rw [show partsOf (5 : UInt8) = some (true, false, false, false, false) from rfl]; simp [absentB, hdoc, ht, hc, haz])
          clear hdoc ht hc haz
          go_wp2_with (first
            | (with_reducible refine at_load ?_
               refine wp_val (by rfl) (ex_load 68 _ rfl (p := ⟨zx, 1, none⟩) rfl (run_loadVar_mid _ _ _ _ (refV d) _ (HD1.out _ HC.out) Tryz.underlying68 rfl (by rw [refV_length HX.out.1.1]; exact sizeRef8))) ?_)
            | (with_reducible refine at_load ?_
               refine wp_val (by rfl) (ex_load 68 _ rfl (p := ⟨zx, 34, none⟩) rfl (run_loadVar_mid _ _ _ _ (refV a) _ (HA34.out _ HC.out) Tryz.underlying68 rfl (by rw [refV_length HX.out.1.2.1]; exact sizeRef8))) ?_)
            | (with_reducible refine at_load ?_
               refine wp_val (by rfl) (ex_load 68 _ rfl (p := ⟨z8, 0, none⟩) rfl (run_loadVar_mid _ _ _ _ (refV zeroRef) _ (HZ8.out _ HC.out) Tryz.underlying68 rfl (by rw [refV_length zeroRef_ok]; exact sizeRef8))) ?_)
            | (go_at_call 107; refine (refDoc_any deps mk d A c Am cm _ hn hmn HO.out HM.out HX.out.1.1 hset (HSD.out _ HC.out) (HSK.out _ HC.out)).mono ?_; rintro e w2 ⟨hb2, rfl⟩
               rw [HDOC.out]
               have HC := Lib.hid (HC.out.trans (hb2.mono HC.out.size))
               obtain ⟨y0, y3, y4, y5⟩ := HCELL.out _ HC.out
               clear hb2)
            | (with_reducible refine at_binOp ?_
               refine wp_val (by rfl) (ex_neq 68 _ _ _ rfl (xs := (refV a).toArray) (ys := (refV zeroRef).toArray) rfl rfl (r := false) eqRef.noGuard (EQA.out _)) ?_
               simp only [Act.put, List.setIfInBounds_toArray, List.set_cons_zero, List.set_cons_succ, Bool.not_true, Bool.not_false]))
          go_ret2
          exact ⟨(HBW.out.mono hbs).trans (HC.out.mono (Nat.le_trans hbs HBW.out.size)), fun _ => ⟨_, rfl⟩, fun h => absurd (HE.out.symm.trans h) (by decide)⟩
      · have HDOC := Lib.hid hdoc
        have et : t.toList.isEmpty = true := by rw [isEmpty8]; exact decide_eq_true ht
        have ec : (n != 0) = true := by simpa [bne, beq_eq_false_iff_ne] using hc
        have HE : Hid (opB deps mk (5, d, a, t, n, q) = false) := Lib.hid (by unfold opB; rw [show partsOf (5 : UInt8) = some (true, false, false, false, false) from rfl]; simp [absentB, hdoc, ht, hc])
        clear hdoc ht hc
        go_wp2_with (first
          | (with_reducible refine at_load ?_
             refine wp_val (by rfl) (ex_load 68 _ rfl (p := ⟨zx, 1, none⟩) rfl (run_loadVar_mid _ _ _ _ (refV d) _ (HD1.out _ HC.out) Tryz.underlying68 rfl (by rw [refV_length HX.out.1.1]; exact sizeRef8))) ?_)
          | (with_reducible refine at_load ?_
             refine wp_val (by rfl) (ex_load 68 _ rfl (p := ⟨zx, 34, none⟩) rfl (run_loadVar_mid _ _ _ _ (refV a) _ (HA34.out _ HC.out) Tryz.underlying68 rfl (by rw [refV_length HX.out.1.2.1]; exact sizeRef8))) ?_)
          | (with_reducible refine at_load ?_
             refine wp_val (by rfl) (ex_load 68 _ rfl (p := ⟨z8, 0, none⟩) rfl (run_loadVar_mid _ _ _ _ (refV zeroRef) _ (HZ8.out _ HC.out) Tryz.underlying68 rfl (by rw [refV_length zeroRef_ok]; exact sizeRef8))) ?_)
          | (go_at_call 107; refine (refDoc_any deps mk d A c Am cm _ hn hmn HO.out HM.out HX.out.1.1 hset (HSD.out _ HC.out) (HSK.out _ HC.out)).mono ?_; rintro e w2 ⟨hb2, rfl⟩
             rw [HDOC.out]
             have HC := Lib.hid (HC.out.trans (hb2.mono HC.out.size))
             obtain ⟨y0, y3, y4, y5⟩ := HCELL.out _ HC.out
             clear hb2))
        go_ret2
        exact ⟨(HBW.out.mono hbs).trans (HC.out.mono (Nat.le_trans hbs HBW.out.size)), fun _ => ⟨_, rfl⟩, fun h => absurd (HE.out.symm.trans h) (by decide)⟩
    · have HDOC := Lib.hid hdoc
      have et : t.toList.isEmpty = false := by rw [isEmpty8]; exact decide_eq_false ht
      have HE : Hid (opB deps mk (5, d, a, t, n, q) = false) := Lib.hid (by unfold opB; rw [show partsOf (5 : UInt8) = some (true, false, false, false, false) from rfl]; simp [absentB, hdoc, ht])
      clear hdoc ht
      go_wp2_with (first
        | (with_reducible refine at_load ?_
           refine wp_val (by rfl) (ex_load 68 _ rfl (p := ⟨zx, 1, none⟩) rfl (run_loadVar_mid _ _ _ _ (refV d) _ (HD1.out _ HC.out) Tryz.underlying68 rfl (by rw [refV_length HX.out.1.1]; exact sizeRef8))) ?_)
        | (with_reducible refine at_load ?_
           refine wp_val (by rfl) (ex_load 68 _ rfl (p := ⟨zx, 34, none⟩) rfl (run_loadVar_mid _ _ _ _ (refV a) _ (HA34.out _ HC.out) Tryz.underlying68 rfl (by rw [refV_length HX.out.1.2.1]; exact sizeRef8))) ?_)
        | (with_reducible refine at_load ?_
           refine wp_val (by rfl) (ex_load 68 _ rfl (p := ⟨z8, 0, none⟩) rfl (run_loadVar_mid _ _ _ _ (refV zeroRef) _ (HZ8.out _ HC.out) Tryz.underlying68 rfl (by rw [refV_length zeroRef_ok]; exact sizeRef8))) ?_)
        | (go_at_call 107; refine (refDoc_any deps mk d A c Am cm _ hn hmn HO.out HM.out HX.out.1.1 hset (HSD.out _ HC.out) (HSK.out _ HC.out)).mono ?_; rintro e w2 ⟨hb2, rfl⟩
           rw [HDOC.out]
           have HC := Lib.hid (HC.out.trans (hb2.mono HC.out.size))
           obtain ⟨y0, y3, y4, y5⟩ := HCELL.out _ HC.out
           clear hb2))
      go_ret2
      exact ⟨(HBW.out.mono hbs).trans (HC.out.mono (Nat.le_trans hbs HBW.out.size)), fun _ => ⟨_, rfl⟩, fun h => absurd (HE.out.symm.trans h) (by decide)⟩
  · have HDOC := Lib.hid (Bool.eq_false_iff.2 hdoc)
    have HE : Hid (opB deps mk (5, d, a, t, n, q) = false) := Lib.hid (by unfold opB; rw [show partsOf (5 : UInt8) = some (true, false, false, false, false) from rfl]; simp [absentB, hdoc])
    clear hdoc
    go_wp2_with (first
      | (with_reducible refine at_load ?_
         refine wp_val (by rfl) (ex_load 68 _ rfl (p := ⟨zx, 1, none⟩) rfl (run_loadVar_mid _ _ _ _ (refV d) _ (HD1.out _ HC.out) Tryz.underlying68 rfl (by rw [refV_length HX.out.1.1]; exact sizeRef8))) ?_)
      | (with_reducible refine at_load ?_
         refine wp_val (by rfl) (ex_load 68 _ rfl (p := ⟨zx, 34, none⟩) rfl (run_loadVar_mid _ _ _ _ (refV a) _ (HA34.out _ HC.out) Tryz.underlying68 rfl (by rw [refV_length HX.out.1.2.1]; exact sizeRef8))) ?_)
      | (with_reducible refine at_load ?_
         refine wp_val (by rfl) (ex_load 68 _ rfl (p := ⟨z8, 0, none⟩) rfl (run_loadVar_mid _ _ _ _ (refV zeroRef) _ (HZ8.out _ HC.out) Tryz.underlying68 rfl (by rw [refV_length zeroRef_ok]; exact sizeRef8))) ?_)
      | (go_at_call 107; refine (refDoc_any deps mk d A c Am cm _ hn hmn HO.out HM.out HX.out.1.1 hset (HSD.out _ HC.out) (HSK.out _ HC.out)).mono ?_; rintro e w2 ⟨hb2, rfl⟩
         rw [HDOC.out]
         have HC := Lib.hid (HC.out.trans (hb2.mono HC.out.size))
         obtain ⟨y0, y3, y4, y5⟩ := HCELL.out _ HC.out
         clear hb2))
    go_ret2
    exact ⟨(HBW.out.mono hbs).trans (HC.out.mono (Nat.le_trans hbs HBW.out.size)), fun _ => ⟨_, rfl⟩, fun h => absurd (HE.out.symm.trans h) (by decide)⟩
set_option maxHeartbeats 4000000 in
set_option maxRecDepth 100000 in
theorem refOp_none (base : Nat) (deps : List (List UInt8)) (mk : List MadeD) (k : UInt8) (h1 : k ≠ 1) (h2 : k ≠ 2) (h3 : k ≠ 3) (h4 : k ≠ 4) (h5 : k ≠ 5) (d a : RefD) (t : ByteArray) (n : Int) (q : ByteArray) (A : Option Addr) (c : Nat) (Am : Option Addr) (cm : Nat) (w : World) (hn : deps.length ≤ 1099511627776) (hmn : mk.length ≤ 1000000000) (ho : IdsOk deps) (hm : ∀ m ∈ mk, MadeOk m) (hx : OpIn (k, d, a, t, n, q)) (hset : isSetB deps = true) (hs : Sl w w.heap.size A deps.length 32 (idsV deps)) (how : w.ownsRow base 166 34 (.slice Am mk.length cm) mk.length (rowsV madeV mk)) (hbs : base ≤ w.heap.size) :
    Calls Tryz.prog 80 #[.slice A deps.length c, .slice Am mk.length cm, .agg (opV (k, d, a, t, n, q)).toArray] w (OpGives base deps mk (k, d, a, t, n, q) w) := by
  have HO := Lib.hid ho; have HS := Lib.hid hs; have HM := Lib.hid hm; have HX := Lib.hid hx; have HOW := Lib.hid how; have HSM := Lib.hid (Sl.of_own how)
  have hmn : mk.length ≤ 1099511627776 := by omega
  clear ho hs hm hx how
  have HPN := Lib.hid (show partsOf k = none by unfold partsOf; simp [h1, h2, h3, h4, h5])
  have ek1 : ((k.toNat : Int) == 1) = false := by rw [beq_eq_false_iff_ne]; intro h; exact h1 (by apply UInt8.toNat_inj.1; show k.toNat = 1; omega)
  have en1 : ((k.toNat : Int) != 1) = true := by simp only [bne, ek1, Bool.not_false]
  have ek2 : ((k.toNat : Int) == 2) = false := by rw [beq_eq_false_iff_ne]; intro h; exact h2 (by apply UInt8.toNat_inj.1; show k.toNat = 2; omega)
  have en2 : ((k.toNat : Int) != 2) = true := by simp only [bne, ek2, Bool.not_false]
  have ek3 : ((k.toNat : Int) == 3) = false := by rw [beq_eq_false_iff_ne]; intro h; exact h3 (by apply UInt8.toNat_inj.1; show k.toNat = 3; omega)
  have en3 : ((k.toNat : Int) != 3) = true := by simp only [bne, ek3, Bool.not_false]
  have ek4 : ((k.toNat : Int) == 4) = false := by rw [beq_eq_false_iff_ne]; intro h; exact h4 (by apply UInt8.toNat_inj.1; show k.toNat = 4; omega)
  have en4 : ((k.toNat : Int) != 4) = true := by simp only [bne, ek4, Bool.not_false]
  have ek5 : ((k.toNat : Int) == 5) = false := by rw [beq_eq_false_iff_ne]; intro h; exact h5 (by apply UInt8.toNat_inj.1; show k.toNat = 5; omega)
  have en5 : ((k.toNat : Int) != 5) = true := by simp only [bne, ek5, Bool.not_false]
  clear h1 h2 h3 h4 h5
  go_enter Tryz.func80, Tryz.ntmps80
  go_upto_region 2 with (first
    | (with_reducible refine at_box ?_
       refine wp_boxM (by rfl) 70 _ rfl (opV (k, d, a, t, n, q)) _ rfl rfl (by rw [opV_length HX.out]; exact sizeOp70) ?_
       intro W0 hb0 hy0 hs0
       have HB0 := Lib.hid hb0; have HY0 := Lib.hid hy0
       clear hb0 hy0 hs0)
    | (with_reducible refine at_build ?_
       refine wp_val (by rfl) (ex_build 68 #[] rfl (zeroRef_built8 _)) ?_)
    | (with_reducible refine at_alloc ?_
       refine wp_allocM (by rfl) 68 rfl (refV zeroRef) (zeroRef_run8 _) ?_
       intro Wa hba hya hsa
       have HBa := Lib.hid hba; have HYa := Lib.hid hya
       clear hba hya hsa)
    | (with_reducible refine at_store ?_
       refine wp_storeM (by rfl) 68 _ _ rfl W0.heap.size 0 [] (refV zeroRef) [] (refV zeroRef) 68 _ rfl rfl rfl rfl (by simpa using HYa.out) rfl (by kernel_rfl) (refV_one _) ?_
       intro W1 hbb hyb hsb
       have HB1 := Lib.hid (HBa.out.trans (hbb.below HBa.out.size (fun k hk e => by have e' : k = W0.heap.size := e; omega)))
       have HY1 : Hid (W1.heap[W0.heap.size]? = some (.cells (refV zeroRef).toArray 68 (0, 0))) := Lib.hid (by simpa using hyb)
       clear hbb hyb hsb))
  obtain ⟨zx, hzx⟩ : ∃ z, w.heap.size = z := ⟨_, rfl⟩
  obtain ⟨z8, hz8⟩ : ∃ z, W0.heap.size = z := ⟨_, rfl⟩
  have l0 := (Array.getElem?_eq_some_iff.1 HY0.out).1
  have HYX := Lib.hid ((HB1.out.block _ l0).trans HY0.out)
  have HLX := Lib.hid (show zx < W1.heap.size by rw [← hzx]; exact Nat.lt_of_lt_of_le l0 HB1.out.size)
  have HL8 := Lib.hid (show z8 < W1.heap.size by rw [← hz8]; exact (Array.getElem?_eq_some_iff.1 HY1.out).1)
  have HBW := Lib.hid (HB0.out.trans (HB1.out.mono HB0.out.size))
  rw [hzx] at HYX ⊢
  rw [hz8] at HY1 ⊢
  try simp only [Act.put, List.setIfInBounds_toArray, List.set_cons_zero, List.set_cons_succ]
  have hzxw : Hid (w.heap.size = zx) := Lib.hid hzx
  clear hzx hz8 l0 HY0 HB0 HB1 HBa HYa
  have HCELL := Lib.hid (fun (u : World) (hu : Below W1.heap.size W1 u) => (show u.cell? ⟨zx, 0, none⟩ = some (.int .u8 (k.toNat : Int)) ∧ u.cell? ⟨zx, 67, none⟩ = some (.string t) ∧ u.cell? ⟨zx, 68, none⟩ = some (.int .i64 n) ∧ u.cell? ⟨zx, 69, none⟩ = some (.string q) from
    ⟨(hu.cell (p := ⟨zx, 0, none⟩) HLX.out).trans (cells_at0 HYX.out 0), (hu.cell (p := ⟨zx, 67, none⟩) HLX.out).trans ((cells_at0 HYX.out 67).trans (op_cells HX.out).2.2.2.1), (hu.cell (p := ⟨zx, 68, none⟩) HLX.out).trans ((cells_at0 HYX.out 68).trans (op_cells HX.out).2.2.2.2.1), (hu.cell (p := ⟨zx, 69, none⟩) HLX.out).trans ((cells_at0 HYX.out 69).trans (op_cells HX.out).2.2.2.2.2)⟩))
  have HD1 := Lib.hid (fun (u : World) (hu : Below W1.heap.size W1 u) => (show u.rangeAt zx 1 (refV d) from fun j v hj => (hu.cell (p := ⟨zx, 1 + j, none⟩) HLX.out).trans ((cells_at0 HYX.out (1 + j)).trans ((op_cells HX.out).2.1 j v hj))))
  have HA34 := Lib.hid (fun (u : World) (hu : Below W1.heap.size W1 u) => (show u.rangeAt zx 34 (refV a) from fun j v hj => (hu.cell (p := ⟨zx, 34 + j, none⟩) HLX.out).trans ((cells_at0 HYX.out (34 + j)).trans ((op_cells HX.out).2.2.1 j v hj))))
  have HZ8 := Lib.hid (fun (u : World) (hu : Below W1.heap.size W1 u) => (show u.rangeAt z8 0 (refV zeroRef) from fun j v hj => by rw [Nat.zero_add]; exact ((hu.cell (p := ⟨z8, j, none⟩) HL8.out).trans (cells_at0 HY1.out j)).trans hj))
  have HSD := Lib.hid (fun (u : World) (hu : Below W1.heap.size W1 u) => (HS.out.keep (HBW.out.trans (hu.mono HBW.out.size))).more (Nat.le_trans HBW.out.size hu.size))
  have HSK := Lib.hid (fun (u : World) (hu : Below W1.heap.size W1 u) => (HSM.out.keep (HBW.out.trans (hu.mono HBW.out.size))).more (Nat.le_trans HBW.out.size hu.size))
  have HC := Lib.hid (Below.refl W1.heap.size W1)
  obtain ⟨y0, y3, y4, y5⟩ := HCELL.out _ HC.out
  clear HYX HY1
  by_cases hdoc : docB deps mk d = true
  · by_cases ht : t = noneS
    · by_cases hc : n = 0
      · by_cases haz : a = zeroRef
        · by_cases hq : q = noneS
          all_goals
            have HDOC := Lib.hid hdoc
            have et : t.toList.isEmpty = true := by rw [isEmpty8]; exact decide_eq_true ht
            have ec : (n != 0) = false := by rw [hc]; rfl
            have EQA := Lib.hid (fun (u : World) => (run_eqRef HX.out.1.2.1 zeroRef_ok u).trans (by rw [decide_eq_true haz]))
          focus
            have eq : q.toList.isEmpty = true := by rw [isEmpty8]; exact decide_eq_true hq
            have HE : Hid (opB deps mk (k, d, a, t, n, q) = false) := Lib.hid (by unfold opB; rw [HPN.out])
            clear hdoc ht hc haz hq
            go_upto_region 22 with (first
              | (with_reducible refine at_load ?_
                 refine wp_val (by rfl) (ex_load 68 _ rfl (p := ⟨zx, 1, none⟩) rfl (run_loadVar_mid _ _ _ _ (refV d) _ (HD1.out _ HC.out) Tryz.underlying68 rfl (by rw [refV_length HX.out.1.1]; exact sizeRef8))) ?_)
              | (with_reducible refine at_load ?_
                 refine wp_val (by rfl) (ex_load 68 _ rfl (p := ⟨zx, 34, none⟩) rfl (run_loadVar_mid _ _ _ _ (refV a) _ (HA34.out _ HC.out) Tryz.underlying68 rfl (by rw [refV_length HX.out.1.2.1]; exact sizeRef8))) ?_)
              | (with_reducible refine at_load ?_
                 refine wp_val (by rfl) (ex_load 68 _ rfl (p := ⟨z8, 0, none⟩) rfl (run_loadVar_mid _ _ _ _ (refV zeroRef) _ (HZ8.out _ HC.out) Tryz.underlying68 rfl (by rw [refV_length zeroRef_ok]; exact sizeRef8))) ?_)
              | (go_at_call 107; refine (refDoc_any deps mk d A c Am cm _ hn hmn HO.out HM.out HX.out.1.1 hset (HSD.out _ HC.out) (HSK.out _ HC.out)).mono ?_; rintro e w2 ⟨hb2, rfl⟩
                 rw [HDOC.out]
                 have HC := Lib.hid (HC.out.trans (hb2.mono HC.out.size))
                 obtain ⟨y0, y3, y4, y5⟩ := HCELL.out _ HC.out
                 clear hb2)
              | (with_reducible refine at_binOp ?_
                 refine wp_val (by rfl) (ex_neq 68 _ _ _ rfl (xs := (refV a).toArray) (ys := (refV zeroRef).toArray) rfl rfl (r := true) eqRef.noGuard (EQA.out _)) ?_
                 simp only [Act.put, List.setIfInBounds_toArray, List.set_cons_zero, List.set_cons_succ, Bool.not_true, Bool.not_false]))
            have y0w := Wg.cell y0 (Nat.lt_of_lt_of_le HLX.out HC.out.size)
            clear y0 y3 y4 y5
            try simp only [Act.put, List.setIfInBounds_toArray, List.set_cons_zero, List.set_cons_succ]
            refine wp_region_wr (by kernel_rfl) (by kernel_rfl) ?_
            repeat (first
              | go_big_quiet_skip
              | (go_big_quiet_want
                 first
                   | (go_big_quiet_op
                      first
                        | go_big_quiet_on
                        | go_big_quiet_call (first | (fail)))))
            refine wpQuiet_nil ?_
            rintro w' ⟨kk, rfl⟩
            have hk9 := kk.2
            generalize kk.val = w9 at *
            clear kk
            have HC := Lib.hid (HC.out.trans (hk9.below.mono HC.out.size))
            clear hk9
            go_wp2_with fail
          rotate_left
          focus
            have eq : q.toList.isEmpty = false := by rw [isEmpty8]; exact decide_eq_false hq
            have HE : Hid (opB deps mk (k, d, a, t, n, q) = false) := Lib.hid (by unfold opB; rw [HPN.out])
            clear hdoc ht hc haz hq
            go_wp2_with (first
              | (with_reducible refine at_load ?_
                 refine wp_val (by rfl) (ex_load 68 _ rfl (p := ⟨zx, 1, none⟩) rfl (run_loadVar_mid _ _ _ _ (refV d) _ (HD1.out _ HC.out) Tryz.underlying68 rfl (by rw [refV_length HX.out.1.1]; exact sizeRef8))) ?_)
              | (with_reducible refine at_load ?_
                 refine wp_val (by rfl) (ex_load 68 _ rfl (p := ⟨zx, 34, none⟩) rfl (run_loadVar_mid _ _ _ _ (refV a) _ (HA34.out _ HC.out) Tryz.underlying68 rfl (by rw [refV_length HX.out.1.2.1]; exact sizeRef8))) ?_)
              | (with_reducible refine at_load ?_
                 refine wp_val (by rfl) (ex_load 68 _ rfl (p := ⟨z8, 0, none⟩) rfl (run_loadVar_mid _ _ _ _ (refV zeroRef) _ (HZ8.out _ HC.out) Tryz.underlying68 rfl (by rw [refV_length zeroRef_ok]; exact sizeRef8))) ?_)
              | (go_at_call 107; refine (refDoc_any deps mk d A c Am cm _ hn hmn HO.out HM.out HX.out.1.1 hset (HSD.out _ HC.out) (HSK.out _ HC.out)).mono ?_; rintro e w2 ⟨hb2, rfl⟩
                 rw [HDOC.out]
                 have HC := Lib.hid (HC.out.trans (hb2.mono HC.out.size))
                 obtain ⟨y0, y3, y4, y5⟩ := HCELL.out _ HC.out
                 clear hb2)
              | (with_reducible refine at_binOp ?_
                 refine wp_val (by rfl) (ex_neq 68 _ _ _ rfl (xs := (refV a).toArray) (ys := (refV zeroRef).toArray) rfl rfl (r := true) eqRef.noGuard (EQA.out _)) ?_
                 simp only [Act.put, List.setIfInBounds_toArray, List.set_cons_zero, List.set_cons_succ, Bool.not_true, Bool.not_false]))
          all_goals
            go_ret2
            exact ⟨(HBW.out.mono hbs).trans (HC.out.mono (Nat.le_trans hbs HBW.out.size)), fun _ => ⟨_, rfl⟩, fun h => absurd (HE.out.symm.trans h) (by decide)⟩
        · have HDOC := Lib.hid hdoc
          have et : t.toList.isEmpty = true := by rw [isEmpty8]; exact decide_eq_true ht
          have ec : (n != 0) = false := by rw [hc]; rfl
          have EQA := Lib.hid (fun (u : World) => (run_eqRef HX.out.1.2.1 zeroRef_ok u).trans (by rw [decide_eq_false haz]))
          have HE : Hid (opB deps mk (k, d, a, t, n, q) = false) := Lib.hid (by unfold opB; rw [HPN.out])
          clear hdoc ht hc haz
          go_wp2_with (first
            | (with_reducible refine at_load ?_
               refine wp_val (by rfl) (ex_load 68 _ rfl (p := ⟨zx, 1, none⟩) rfl (run_loadVar_mid _ _ _ _ (refV d) _ (HD1.out _ HC.out) Tryz.underlying68 rfl (by rw [refV_length HX.out.1.1]; exact sizeRef8))) ?_)
            | (with_reducible refine at_load ?_
               refine wp_val (by rfl) (ex_load 68 _ rfl (p := ⟨zx, 34, none⟩) rfl (run_loadVar_mid _ _ _ _ (refV a) _ (HA34.out _ HC.out) Tryz.underlying68 rfl (by rw [refV_length HX.out.1.2.1]; exact sizeRef8))) ?_)
            | (with_reducible refine at_load ?_
               refine wp_val (by rfl) (ex_load 68 _ rfl (p := ⟨z8, 0, none⟩) rfl (run_loadVar_mid _ _ _ _ (refV zeroRef) _ (HZ8.out _ HC.out) Tryz.underlying68 rfl (by rw [refV_length zeroRef_ok]; exact sizeRef8))) ?_)
            | (go_at_call 107; refine (refDoc_any deps mk d A c Am cm _ hn hmn HO.out HM.out HX.out.1.1 hset (HSD.out _ HC.out) (HSK.out _ HC.out)).mono ?_; rintro e w2 ⟨hb2, rfl⟩
               rw [HDOC.out]
               have HC := Lib.hid (HC.out.trans (hb2.mono HC.out.size))
               obtain ⟨y0, y3, y4, y5⟩ := HCELL.out _ HC.out
               clear hb2)
            | (with_reducible refine at_binOp ?_
               refine wp_val (by rfl) (ex_neq 68 _ _ _ rfl (xs := (refV a).toArray) (ys := (refV zeroRef).toArray) rfl rfl (r := false) eqRef.noGuard (EQA.out _)) ?_
               simp only [Act.put, List.setIfInBounds_toArray, List.set_cons_zero, List.set_cons_succ, Bool.not_true, Bool.not_false]))
          go_ret2
          exact ⟨(HBW.out.mono hbs).trans (HC.out.mono (Nat.le_trans hbs HBW.out.size)), fun _ => ⟨_, rfl⟩, fun h => absurd (HE.out.symm.trans h) (by decide)⟩
      · have HDOC := Lib.hid hdoc
        have et : t.toList.isEmpty = true := by rw [isEmpty8]; exact decide_eq_true ht
        have ec : (n != 0) = true := by simpa [bne, beq_eq_false_iff_ne] using hc
        have HE : Hid (opB deps mk (k, d, a, t, n, q) = false) := Lib.hid (by unfold opB; rw [HPN.out])
        clear hdoc ht hc
        go_wp2_with (first
          | (with_reducible refine at_load ?_
             refine wp_val (by rfl) (ex_load 68 _ rfl (p := ⟨zx, 1, none⟩) rfl (run_loadVar_mid _ _ _ _ (refV d) _ (HD1.out _ HC.out) Tryz.underlying68 rfl (by rw [refV_length HX.out.1.1]; exact sizeRef8))) ?_)
          | (with_reducible refine at_load ?_
             refine wp_val (by rfl) (ex_load 68 _ rfl (p := ⟨zx, 34, none⟩) rfl (run_loadVar_mid _ _ _ _ (refV a) _ (HA34.out _ HC.out) Tryz.underlying68 rfl (by rw [refV_length HX.out.1.2.1]; exact sizeRef8))) ?_)
          | (with_reducible refine at_load ?_
             refine wp_val (by rfl) (ex_load 68 _ rfl (p := ⟨z8, 0, none⟩) rfl (run_loadVar_mid _ _ _ _ (refV zeroRef) _ (HZ8.out _ HC.out) Tryz.underlying68 rfl (by rw [refV_length zeroRef_ok]; exact sizeRef8))) ?_)
          | (go_at_call 107; refine (refDoc_any deps mk d A c Am cm _ hn hmn HO.out HM.out HX.out.1.1 hset (HSD.out _ HC.out) (HSK.out _ HC.out)).mono ?_; rintro e w2 ⟨hb2, rfl⟩
             rw [HDOC.out]
             have HC := Lib.hid (HC.out.trans (hb2.mono HC.out.size))
             obtain ⟨y0, y3, y4, y5⟩ := HCELL.out _ HC.out
             clear hb2))
        go_ret2
        exact ⟨(HBW.out.mono hbs).trans (HC.out.mono (Nat.le_trans hbs HBW.out.size)), fun _ => ⟨_, rfl⟩, fun h => absurd (HE.out.symm.trans h) (by decide)⟩
    · have HDOC := Lib.hid hdoc
      have et : t.toList.isEmpty = false := by rw [isEmpty8]; exact decide_eq_false ht
      have HE : Hid (opB deps mk (k, d, a, t, n, q) = false) := Lib.hid (by unfold opB; rw [HPN.out])
      clear hdoc ht
      go_wp2_with (first
        | (with_reducible refine at_load ?_
           refine wp_val (by rfl) (ex_load 68 _ rfl (p := ⟨zx, 1, none⟩) rfl (run_loadVar_mid _ _ _ _ (refV d) _ (HD1.out _ HC.out) Tryz.underlying68 rfl (by rw [refV_length HX.out.1.1]; exact sizeRef8))) ?_)
        | (with_reducible refine at_load ?_
           refine wp_val (by rfl) (ex_load 68 _ rfl (p := ⟨zx, 34, none⟩) rfl (run_loadVar_mid _ _ _ _ (refV a) _ (HA34.out _ HC.out) Tryz.underlying68 rfl (by rw [refV_length HX.out.1.2.1]; exact sizeRef8))) ?_)
        | (with_reducible refine at_load ?_
           refine wp_val (by rfl) (ex_load 68 _ rfl (p := ⟨z8, 0, none⟩) rfl (run_loadVar_mid _ _ _ _ (refV zeroRef) _ (HZ8.out _ HC.out) Tryz.underlying68 rfl (by rw [refV_length zeroRef_ok]; exact sizeRef8))) ?_)
        | (go_at_call 107; refine (refDoc_any deps mk d A c Am cm _ hn hmn HO.out HM.out HX.out.1.1 hset (HSD.out _ HC.out) (HSK.out _ HC.out)).mono ?_; rintro e w2 ⟨hb2, rfl⟩
           rw [HDOC.out]
           have HC := Lib.hid (HC.out.trans (hb2.mono HC.out.size))
           obtain ⟨y0, y3, y4, y5⟩ := HCELL.out _ HC.out
           clear hb2))
      go_ret2
      exact ⟨(HBW.out.mono hbs).trans (HC.out.mono (Nat.le_trans hbs HBW.out.size)), fun _ => ⟨_, rfl⟩, fun h => absurd (HE.out.symm.trans h) (by decide)⟩
  · have HDOC := Lib.hid (Bool.eq_false_iff.2 hdoc)
    have HE : Hid (opB deps mk (k, d, a, t, n, q) = false) := Lib.hid (by unfold opB; rw [HPN.out])
    clear hdoc
    go_wp2_with (first
      | (with_reducible refine at_load ?_
         refine wp_val (by rfl) (ex_load 68 _ rfl (p := ⟨zx, 1, none⟩) rfl (run_loadVar_mid _ _ _ _ (refV d) _ (HD1.out _ HC.out) Tryz.underlying68 rfl (by rw [refV_length HX.out.1.1]; exact sizeRef8))) ?_)
      | (with_reducible refine at_load ?_
         refine wp_val (by rfl) (ex_load 68 _ rfl (p := ⟨zx, 34, none⟩) rfl (run_loadVar_mid _ _ _ _ (refV a) _ (HA34.out _ HC.out) Tryz.underlying68 rfl (by rw [refV_length HX.out.1.2.1]; exact sizeRef8))) ?_)
      | (with_reducible refine at_load ?_
         refine wp_val (by rfl) (ex_load 68 _ rfl (p := ⟨z8, 0, none⟩) rfl (run_loadVar_mid _ _ _ _ (refV zeroRef) _ (HZ8.out _ HC.out) Tryz.underlying68 rfl (by rw [refV_length zeroRef_ok]; exact sizeRef8))) ?_)
      | (go_at_call 107; refine (refDoc_any deps mk d A c Am cm _ hn hmn HO.out HM.out HX.out.1.1 hset (HSD.out _ HC.out) (HSK.out _ HC.out)).mono ?_; rintro e w2 ⟨hb2, rfl⟩
         rw [HDOC.out]
         have HC := Lib.hid (HC.out.trans (hb2.mono HC.out.size))
         obtain ⟨y0, y3, y4, y5⟩ := HCELL.out _ HC.out
         clear hb2))
    go_ret2
    exact ⟨(HBW.out.mono hbs).trans (HC.out.mono (Nat.le_trans hbs HBW.out.size)), fun _ => ⟨_, rfl⟩, fun h => absurd (HE.out.symm.trans h) (by decide)⟩
theorem refOp_any (base : Nat) (deps : List (List UInt8)) (mk : List MadeD) (x : OpD) (A : Option Addr) (c : Nat) (Am : Option Addr) (cm : Nat) (w : World) (hn : deps.length ≤ 1099511627776) (hmn : mk.length ≤ 1000000000) (ho : IdsOk deps) (hm : ∀ m ∈ mk, MadeOk m) (hx : OpIn x) (hset : isSetB deps = true) (hs : Sl w w.heap.size A deps.length 32 (idsV deps)) (how : w.ownsRow base 166 34 (.slice Am mk.length cm) mk.length (rowsV madeV mk)) (hbs : base ≤ w.heap.size) :
    Calls Tryz.prog 80 #[.slice A deps.length c, .slice Am mk.length cm, .agg (opV x).toArray] w (OpGives base deps mk x w) := by
  obtain ⟨k, d, a, t, n, q⟩ := x
  by_cases h1 : k = 1
  · subst h1; exact refOp_1 base deps mk d a t n q A c Am cm w hn hmn ho hm hx hset hs how hbs
  by_cases h2 : k = 2
  · subst h2; exact refOp_2 base deps mk d a t n q A c Am cm w hn hmn ho hm hx hset hs how hbs
  by_cases h3 : k = 3
  · subst h3; exact refOp_3 base deps mk d a t n q A c Am cm w hn hmn ho hm hx hset hs how hbs
  by_cases h4 : k = 4
  · subst h4; exact refOp_4 base deps mk d a t n q A c Am cm w hn hmn ho hm hx hset hs how hbs
  by_cases h5 : k = 5
  · subst h5; exact refOp_5 base deps mk d a t n q A c Am cm w hn hmn ho hm hx hset hs how hbs
  exact refOp_none base deps mk k h1 h2 h3 h4 h5 d a t n q A c Am cm w hn hmn ho hm hx hset hs how hbs
end Go.Proofs.YthjaepmfkgejkaaGreatDoor
