/-
  The document's Right. Conditions: as ObjIn says.
-/
import Derived.Test.YtdgbjhfkmembdaaGreatDoorShort0
import Derived.Test.YtdgbjhfkmembdaaGreatDoorRefRight8
import Derived.Test.YtdgbjhfkmembdaaGreatDoorObjRight3
import Derived.Test.YtdgbjhfkmembdaaGreatDoorObjSame
namespace Go.Proofs.YtdgbjhfkmembdaaGreatDoor
open Go.RowKit Go.Maps
set_option linter.unusedVariables false
set_option linter.unusedSimpArgs false

theorem zeroCh_run8 (w : World) : (zeroValue 37).run Tryz.prog w = .ok (.agg ([.int .i64 0, .slice none 0 0, .string noneS, .slice none 0 0] : List Value).toArray) w := by kernel_rfl
set_option maxHeartbeats 4000000 in
set_option maxRecDepth 100000 in
theorem refRight_any (o : ObjD) (v : Value) (w : World) (h : ObjIn w w.heap.size v o) (hl1 : o.2.1.2.1.length ≤ 1099511627776) (hl2 : o.2.1.2.2.2.length ≤ 1099511627776) (hl3 : o.2.2.1.length ≤ 1099511627776) (hl4 : o.2.2.2.1.length ≤ 1099511627776) :
    Calls Tryz.prog 161 #[v] w fun e w' => Below w.heap.size w w' ∧ e = .returned (.bool (rightB o)) := by
  obtain ⟨ok, hop, ha, ha2, hm, Ad, cd, Ao, co, Ap, cp, Ac, cc, rfl, sd, so, sp, sc⟩ := h
  obtain ⟨k, ⟨n, ds, au, os⟩, ⟨ps, cs, a2, ms, st⟩⟩ := o
  dsimp only at *
  have HCH0 := Lib.hid (show ChIn w w.heap.size (.agg ([.int .i64 n, .slice Ad ds.length cd, .string au, .slice Ao os.length co] : List Value).toArray) (n, ds, au, os) from ⟨ok.1, hop, ha, Ad, cd, Ao, co, rfl, sd, so⟩)
  have HCM0 := Lib.hid (show CmIn w w.heap.size (.agg ([.slice Ap ps.length cp, .slice Ac cs.length cc, .string a2, .string ms, .int .i64 st] : List Value).toArray) (ps, cs, a2, ms, st) from ⟨ok.2, ha2, hm, Ap, cp, Ac, cc, rfl, sp, sc⟩)
  clear ok hop ha ha2 hm sd so sp sc
  go_enter Tryz.func161, Tryz.ntmps161
  go_upto_region 1 with (first
    | (with_reducible refine at_box ?_
       refine wp_boxM (by rfl) 70 _ rfl [.int .u8 (k.toNat : Int), .int .i64 n, .slice Ad ds.length cd, .string au, .slice Ao os.length co, .slice Ap ps.length cp, .slice Ac cs.length cc, .string a2, .string ms, .int .i64 st] _ rfl rfl (by kernel_rfl) ?_
       intro W0 hb0 hz0 hs0
       have HB0 := Lib.hid hb0; have HZ0 := Lib.hid hz0
       clear hb0 hz0 hs0))
  obtain ⟨z, hz⟩ : ∃ z, w.heap.size = z := ⟨_, rfl⟩
  have HZL := Lib.hid (show z < W0.heap.size by rw [← hz]; exact (qX HZ0.out))
  rw [hz] at HZ0 ⊢
  try simp only [Act.put, List.setIfInBounds_toArray, List.set_cons_zero, List.set_cons_succ]
  clear hz
  have c0 : W0.cell? ⟨z, 0, none⟩ = some (.int .u8 (k.toNat : Int)) := cells_at0 HZ0.out 0
  by_cases hk : k = 1
  · have hk1 : ((k.toNat : Int) == 1) = true := by rw [hk]; rfl
    go_upto_region 3 with (first
      | (with_reducible refine at_load ?_
         refine wp_val (by rfl) (ex_load 68 _ rfl (p := ⟨z, 5, none⟩) rfl (qV _ _ _ _ [.slice Ap ps.length cp, .slice Ac cs.length cc, .string a2, .string ms, .int .i64 st] _ (fun j u hj => (cells_at0 (HZ0.out) (5 + j)).trans (mid5 hj)) Tryz.underlying68 rfl (by kernel_rfl))) ?_)
      | (with_reducible refine at_alloc ?_
         refine wp_allocM (by rfl) 68 rfl [.slice none 0 0, .slice none 0 0, .string noneS, .string noneS, .int .i64 0] (zeroCm_run _) ?_
         intro Wa hba hya hsa
         have HBa := Lib.hid hba; have HYa := Lib.hid hya
         clear hba hya hsa)
      | (with_reducible refine at_store ?_
         refine wp_storeM (by rfl) 68 _ _ rfl W0.heap.size 0 [] [.slice none 0 0, .slice none 0 0, .string noneS, .string noneS, .int .i64 0] [] [.slice Ap ps.length cp, .slice Ac cs.length cc, .string a2, .string ms, .int .i64 st] 68 _ rfl rfl rfl rfl (by simpa using HYa.out) rfl (by kernel_rfl) (by intro u hu; simp only [List.mem_cons, List.not_mem_nil, or_false] at hu; rcases hu with rfl | rfl | rfl | rfl | rfl <;> rfl) ?_
         intro W1 hbb hyb hsb
         have HB1 := Lib.hid (HBa.out.trans (hbb.below HBa.out.size (fun k hk e => by have e' : k = W0.heap.size := e; omega)))
         have HY1 : Hid (W1.heap[W0.heap.size]? = some (.cells ([.slice Ap ps.length cp, .slice Ac cs.length cc, .string a2, .string ms, .int .i64 st] : List Value).toArray 68 (0, 0))) := Lib.hid (by simpa using hyb)
         clear hbb hyb hsb))
    obtain ⟨z1, hz1⟩ : ∃ z, W0.heap.size = z := ⟨_, rfl⟩
    have HL1 := Lib.hid (show z1 < W1.heap.size by rw [← hz1]; exact (qX HY1.out))
    have HZ1 := Lib.hid ((HB1.out.block z HZL.out).trans HZ0.out)
    have HBW := Lib.hid (HB0.out.trans (HB1.out.mono HB0.out.size))
    rw [hz1] at HY1 ⊢
    try simp only [Act.put, List.setIfInBounds_toArray, List.set_cons_zero, List.set_cons_succ]
    clear hz1 HBa HYa
    have HCELL := Lib.hid (fun (u : World) (hu : Below W1.heap.size W1 u) => (show u.cell? ⟨z1, 0, none⟩ = some (.slice Ap ps.length cp) ∧ u.cell? ⟨z1, 1, none⟩ = some (.slice Ac cs.length cc) ∧ u.cell? ⟨z1, 2, none⟩ = some (.string a2) ∧ u.cell? ⟨z1, 3, none⟩ = some (.string ms) ∧ u.cell? ⟨z1, 4, none⟩ = some (.int .i64 st) from ⟨(hu.cell (p := ⟨z1, 0, none⟩) HL1.out).trans (cells_at0 HY1.out 0), (hu.cell (p := ⟨z1, 1, none⟩) HL1.out).trans (cells_at0 HY1.out 1), (hu.cell (p := ⟨z1, 2, none⟩) HL1.out).trans (cells_at0 HY1.out 2), (hu.cell (p := ⟨z1, 3, none⟩) HL1.out).trans (cells_at0 HY1.out 3), (hu.cell (p := ⟨z1, 4, none⟩) HL1.out).trans (cells_at0 HY1.out 4)⟩))
    have c0 : W1.cell? ⟨z, 0, none⟩ = some (.int .u8 (k.toNat : Int)) := cells_at0 HZ1.out 0
    have HCH := Lib.hid (show ChIn W1 W1.heap.size (.agg ([.int .i64 n, .slice Ad ds.length cd, .string au, .slice Ao os.length co] : List Value).toArray) (n, ds, au, os) from (HCH0.out.keep HBW.out).more HBW.out.size)
    by_cases hchg : changeB (n, ds, au, os) = true
    · by_cases hps : ps = []
      · have HF := Lib.hid (hchg)
        have eps : (((ps.length : Nat) : Int) == 0) = true := by rw [hps]; rfl
        by_cases hcs : cs = []
        · have ecs : (((cs.length : Nat) : Int) == 0) = true := by rw [hcs]; rfl
          by_cases ha2 : a2 = noneS
          · have ea2 : a2.toList.isEmpty = true := by rw [isEmpty8]; exact dT ha2
            by_cases hms : ms = noneS
            · have ems : ms.toList.isEmpty = true := by rw [isEmpty8]; exact dT hms
              by_cases hst : st = 0
              · have est : (st == 0) = true := by rw [hst]; rfl
                have HE : Hid (rightB (k, (n, ds, au, os), (ps, cs, a2, ms, st)) = true) := Lib.hid (by unfold rightB; simp only; rw [if_pos hk]; rw [hchg]; simp [noCommitB, hps, hcs, ha2, hms, hst])
                clear hchg hps hcs ha2 hms hst
                go_wp2_with (first
                  | (with_reducible refine at_load ?_
                     refine wp_val (by rfl) (ex_load 37 _ rfl (p := ⟨z, 1, none⟩) rfl (qV _ _ _ _ [.int .i64 n, .slice Ad ds.length cd, .string au, .slice Ao os.length co] _ (fun j u hj => (cells_at0 (HZ1.out) (1 + j)).trans (mid1 hj)) Tryz.underlying37 rfl (by kernel_rfl))) ?_)
                  | (go_at_call 200; refine (refChange_any (n, ds, au, os) _ W1 HCH.out hl1 hl2).mono ?_; rintro e W2 ⟨hb2, rfl⟩
                     rw [HF.out]
                     obtain ⟨d0, d1, d2, d3, d4⟩ := HCELL.out W2 hb2
                     have HB2 := Lib.hid (HBW.out.trans (hb2.mono HBW.out.size))
                     clear hb2))
                go_ret
                exact ⟨HB2.out, by rw [HE.out]; rfl⟩
              · have est : (st == 0) = false := by rw [beq_eq_false_iff_ne]; exact hst
                have HE : Hid (rightB (k, (n, ds, au, os), (ps, cs, a2, ms, st)) = false) := Lib.hid (by unfold rightB; simp only; rw [if_pos hk]; rw [hchg]; simp [noCommitB, hps, hcs, ha2, hms, hst])
                clear hchg hps hcs ha2 hms hst
                go_wp2_with (first
                  | (with_reducible refine at_load ?_
                     refine wp_val (by rfl) (ex_load 37 _ rfl (p := ⟨z, 1, none⟩) rfl (qV _ _ _ _ [.int .i64 n, .slice Ad ds.length cd, .string au, .slice Ao os.length co] _ (fun j u hj => (cells_at0 (HZ1.out) (1 + j)).trans (mid1 hj)) Tryz.underlying37 rfl (by kernel_rfl))) ?_)
                  | (go_at_call 200; refine (refChange_any (n, ds, au, os) _ W1 HCH.out hl1 hl2).mono ?_; rintro e W2 ⟨hb2, rfl⟩
                     rw [HF.out]
                     obtain ⟨d0, d1, d2, d3, d4⟩ := HCELL.out W2 hb2
                     have HB2 := Lib.hid (HBW.out.trans (hb2.mono HBW.out.size))
                     clear hb2))
                go_ret
                exact ⟨HB2.out, by rw [HE.out]; rfl⟩
            · have ems : ms.toList.isEmpty = false := by rw [isEmpty8]; exact dF hms
              have HE : Hid (rightB (k, (n, ds, au, os), (ps, cs, a2, ms, st)) = false) := Lib.hid (by unfold rightB; simp only; rw [if_pos hk]; rw [hchg]; simp [noCommitB, hps, hcs, ha2, hms])
              clear hchg hps hcs ha2 hms
              go_wp2_with (first
                | (with_reducible refine at_load ?_
                   refine wp_val (by rfl) (ex_load 37 _ rfl (p := ⟨z, 1, none⟩) rfl (qV _ _ _ _ [.int .i64 n, .slice Ad ds.length cd, .string au, .slice Ao os.length co] _ (fun j u hj => (cells_at0 (HZ1.out) (1 + j)).trans (mid1 hj)) Tryz.underlying37 rfl (by kernel_rfl))) ?_)
                | (go_at_call 200; refine (refChange_any (n, ds, au, os) _ W1 HCH.out hl1 hl2).mono ?_; rintro e W2 ⟨hb2, rfl⟩
                   rw [HF.out]
                   obtain ⟨d0, d1, d2, d3, d4⟩ := HCELL.out W2 hb2
                   have HB2 := Lib.hid (HBW.out.trans (hb2.mono HBW.out.size))
                   clear hb2))
              go_ret
              exact ⟨HB2.out, by rw [HE.out]; rfl⟩
          · have ea2 : a2.toList.isEmpty = false := by rw [isEmpty8]; exact dF ha2
            have HE : Hid (rightB (k, (n, ds, au, os), (ps, cs, a2, ms, st)) = false) := Lib.hid (by unfold rightB; simp only; rw [if_pos hk]; rw [hchg]; simp [noCommitB, hps, hcs, ha2])
            clear hchg hps hcs ha2
            go_wp2_with (first
              | (with_reducible refine at_load ?_
                 refine wp_val (by rfl) (ex_load 37 _ rfl (p := ⟨z, 1, none⟩) rfl (qV _ _ _ _ [.int .i64 n, .slice Ad ds.length cd, .string au, .slice Ao os.length co] _ (fun j u hj => (cells_at0 (HZ1.out) (1 + j)).trans (mid1 hj)) Tryz.underlying37 rfl (by kernel_rfl))) ?_)
              | (go_at_call 200; refine (refChange_any (n, ds, au, os) _ W1 HCH.out hl1 hl2).mono ?_; rintro e W2 ⟨hb2, rfl⟩
                 rw [HF.out]
                 obtain ⟨d0, d1, d2, d3, d4⟩ := HCELL.out W2 hb2
                 have HB2 := Lib.hid (HBW.out.trans (hb2.mono HBW.out.size))
                 clear hb2))
            go_ret
            exact ⟨HB2.out, by rw [HE.out]; rfl⟩
        · have ecs : (((cs.length : Nat) : Int) == 0) = false := by rw [beq_eq_false_iff_ne]; intro hq; exact hcs (List.eq_nil_of_length_eq_zero (by omega))
          have HE : Hid (rightB (k, (n, ds, au, os), (ps, cs, a2, ms, st)) = false) := Lib.hid (by unfold rightB; simp only; rw [if_pos hk]; rw [hchg]; simp [noCommitB, hps, hcs])
          clear hchg hps hcs
          go_wp2_with (first
            | (with_reducible refine at_load ?_
               refine wp_val (by rfl) (ex_load 37 _ rfl (p := ⟨z, 1, none⟩) rfl (qV _ _ _ _ [.int .i64 n, .slice Ad ds.length cd, .string au, .slice Ao os.length co] _ (fun j u hj => (cells_at0 (HZ1.out) (1 + j)).trans (mid1 hj)) Tryz.underlying37 rfl (by kernel_rfl))) ?_)
            | (go_at_call 200; refine (refChange_any (n, ds, au, os) _ W1 HCH.out hl1 hl2).mono ?_; rintro e W2 ⟨hb2, rfl⟩
               rw [HF.out]
               obtain ⟨d0, d1, d2, d3, d4⟩ := HCELL.out W2 hb2
               have HB2 := Lib.hid (HBW.out.trans (hb2.mono HBW.out.size))
               clear hb2))
          go_ret
          exact ⟨HB2.out, by rw [HE.out]; rfl⟩
      · have HF := Lib.hid (hchg)
        have eps : (((ps.length : Nat) : Int) == 0) = false := by rw [beq_eq_false_iff_ne]; intro hq; exact hps (List.eq_nil_of_length_eq_zero (by omega))
        have HE : Hid (rightB (k, (n, ds, au, os), (ps, cs, a2, ms, st)) = false) := Lib.hid (by unfold rightB; simp only; rw [if_pos hk]; rw [hchg]; simp [noCommitB, hps])
        clear hchg hps
        go_wp2_with (first
          | (with_reducible refine at_load ?_
             refine wp_val (by rfl) (ex_load 37 _ rfl (p := ⟨z, 1, none⟩) rfl (qV _ _ _ _ [.int .i64 n, .slice Ad ds.length cd, .string au, .slice Ao os.length co] _ (fun j u hj => (cells_at0 (HZ1.out) (1 + j)).trans (mid1 hj)) Tryz.underlying37 rfl (by kernel_rfl))) ?_)
          | (go_at_call 200; refine (refChange_any (n, ds, au, os) _ W1 HCH.out hl1 hl2).mono ?_; rintro e W2 ⟨hb2, rfl⟩
             rw [HF.out]
             obtain ⟨d0, d1, d2, d3, d4⟩ := HCELL.out W2 hb2
             have HB2 := Lib.hid (HBW.out.trans (hb2.mono HBW.out.size))
             clear hb2))
        go_ret
        exact ⟨HB2.out, by rw [HE.out]; rfl⟩
    · have HF := Lib.hid (Bool.eq_false_iff.2 hchg)
      have HE : Hid (rightB (k, (n, ds, au, os), (ps, cs, a2, ms, st)) = false) := Lib.hid (by unfold rightB; simp only; rw [if_pos hk]; rw [Bool.eq_false_iff.2 hchg]; simp)
      clear hchg
      go_wp2_with (first
        | (with_reducible refine at_load ?_
           refine wp_val (by rfl) (ex_load 37 _ rfl (p := ⟨z, 1, none⟩) rfl (qV _ _ _ _ [.int .i64 n, .slice Ad ds.length cd, .string au, .slice Ao os.length co] _ (fun j u hj => (cells_at0 (HZ1.out) (1 + j)).trans (mid1 hj)) Tryz.underlying37 rfl (by kernel_rfl))) ?_)
        | (go_at_call 200; refine (refChange_any (n, ds, au, os) _ W1 HCH.out hl1 hl2).mono ?_; rintro e W2 ⟨hb2, rfl⟩
           rw [HF.out]
           obtain ⟨d0, d1, d2, d3, d4⟩ := HCELL.out W2 hb2
           have HB2 := Lib.hid (HBW.out.trans (hb2.mono HBW.out.size))
           clear hb2))
      go_ret
      exact ⟨HB2.out, by rw [HE.out]; rfl⟩
  · have hk1 := hk
    have ek1 : ((k.toNat : Int) == 1) = false := by rw [beq_eq_false_iff_ne]; intro h; exact hk (by apply UInt8.toNat_inj.1; show k.toNat = 1; omega)
    clear hk
    go_upto_region 5 with (first
      | (with_reducible refine at_load ?_
         refine wp_val (by rfl) (ex_load 37 _ rfl (p := ⟨z, 1, none⟩) rfl (qV _ _ _ _ [.int .i64 n, .slice Ad ds.length cd, .string au, .slice Ao os.length co] _ (fun j u hj => (cells_at0 (HZ0.out) (1 + j)).trans (mid1 hj)) Tryz.underlying37 rfl (by kernel_rfl))) ?_)
      | (with_reducible refine at_alloc ?_
         refine wp_allocM (by rfl) 37 rfl [.int .i64 0, .slice none 0 0, .string noneS, .slice none 0 0] (zeroCh_run8 _) ?_
         intro Wa hba hya hsa
         have HBa := Lib.hid hba; have HYa := Lib.hid hya
         clear hba hya hsa)
      | (with_reducible refine at_store ?_
         refine wp_storeM (by rfl) 37 _ _ rfl W0.heap.size 0 [] [.int .i64 0, .slice none 0 0, .string noneS, .slice none 0 0] [] [.int .i64 n, .slice Ad ds.length cd, .string au, .slice Ao os.length co] 37 _ rfl rfl rfl rfl (by simpa using HYa.out) rfl (by kernel_rfl) (by intro u hu; simp only [List.mem_cons, List.not_mem_nil, or_false] at hu; rcases hu with rfl | rfl | rfl | rfl <;> rfl) ?_
         intro W1 hbb hyb hsb
         have HB1 := Lib.hid (HBa.out.trans (hbb.below HBa.out.size (fun k hk e => by have e' : k = W0.heap.size := e; omega)))
         have HY1 : Hid (W1.heap[W0.heap.size]? = some (.cells ([.int .i64 n, .slice Ad ds.length cd, .string au, .slice Ao os.length co] : List Value).toArray 37 (0, 0))) := Lib.hid (by simpa using hyb)
         clear hbb hyb hsb))
    obtain ⟨z1, hz1⟩ : ∃ z, W0.heap.size = z := ⟨_, rfl⟩
    have HL1 := Lib.hid (show z1 < W1.heap.size by rw [← hz1]; exact (qX HY1.out))
    have HZ1 := Lib.hid ((HB1.out.block z HZL.out).trans HZ0.out)
    have HBW := Lib.hid (HB0.out.trans (HB1.out.mono HB0.out.size))
    rw [hz1] at HY1 ⊢
    try simp only [Act.put, List.setIfInBounds_toArray, List.set_cons_zero, List.set_cons_succ]
    clear hz1 HBa HYa
    have HCELL := Lib.hid (fun (u : World) (hu : Below W1.heap.size W1 u) => (show u.cell? ⟨z1, 0, none⟩ = some (.int .i64 n) ∧ u.cell? ⟨z1, 1, none⟩ = some (.slice Ad ds.length cd) ∧ u.cell? ⟨z1, 2, none⟩ = some (.string au) ∧ u.cell? ⟨z1, 3, none⟩ = some (.slice Ao os.length co) from ⟨(hu.cell (p := ⟨z1, 0, none⟩) HL1.out).trans (cells_at0 HY1.out 0), (hu.cell (p := ⟨z1, 1, none⟩) HL1.out).trans (cells_at0 HY1.out 1), (hu.cell (p := ⟨z1, 2, none⟩) HL1.out).trans (cells_at0 HY1.out 2), (hu.cell (p := ⟨z1, 3, none⟩) HL1.out).trans (cells_at0 HY1.out 3)⟩))
    have c0 : W1.cell? ⟨z, 0, none⟩ = some (.int .u8 (k.toNat : Int)) := cells_at0 HZ1.out 0
    have HCMI := Lib.hid (show CmIn W1 W1.heap.size (.agg ([.slice Ap ps.length cp, .slice Ac cs.length cc, .string a2, .string ms, .int .i64 st] : List Value).toArray) (ps, cs, a2, ms, st) from (HCM0.out.keep HBW.out).more HBW.out.size)
    by_cases hk : k = 2
    · have ek2 : ((k.toNat : Int) == 2) = true := by rw [hk]; rfl
      by_cases hcmt : commitB (ps, cs, a2, ms, st) = true
      · by_cases hn : n = 0
        · have HF := Lib.hid (hcmt)
          have en : (n == 0) = true := by rw [hn]; rfl
          by_cases hds : ds = []
          · have eds : (((ds.length : Nat) : Int) == 0) = true := by rw [hds]; rfl
            by_cases hau : au = noneS
            · have eau : au.toList.isEmpty = true := by rw [isEmpty8]; exact dT hau
              by_cases hos : os = []
              · have eos : (((os.length : Nat) : Int) == 0) = true := by rw [hos]; rfl
                have HE : Hid (rightB (k, (n, ds, au, os), (ps, cs, a2, ms, st)) = true) := Lib.hid (by unfold rightB; simp only; rw [if_neg hk1, if_pos hk]; rw [hcmt]; simp [noChangeB, hn, hds, hau, hos])
                clear hcmt hn hds hau hos
                go_wp2_with (first
                  | (with_reducible refine at_load ?_
                     refine wp_val (by rfl) (ex_load 68 _ rfl (p := ⟨z, 5, none⟩) rfl (qV _ _ _ _ [.slice Ap ps.length cp, .slice Ac cs.length cc, .string a2, .string ms, .int .i64 st] _ (fun j u hj => (cells_at0 (HZ1.out) (5 + j)).trans (mid5 hj)) Tryz.underlying68 rfl (by kernel_rfl))) ?_)
                  | (go_at_call 201; refine (refCommit_any (ps, cs, a2, ms, st) _ W1 HCMI.out hl3 hl4).mono ?_; rintro e W2 ⟨hb2, rfl⟩
                     rw [HF.out]
                     obtain ⟨d0, d1, d2, d3⟩ := HCELL.out W2 hb2
                     have HB2 := Lib.hid (HBW.out.trans (hb2.mono HBW.out.size))
                     clear hb2))
                go_ret
                exact ⟨HB2.out, by rw [HE.out]; rfl⟩
              · have eos : (((os.length : Nat) : Int) == 0) = false := by rw [beq_eq_false_iff_ne]; intro hq; exact hos (List.eq_nil_of_length_eq_zero (by omega))
                have HE : Hid (rightB (k, (n, ds, au, os), (ps, cs, a2, ms, st)) = false) := Lib.hid (by unfold rightB; simp only; rw [if_neg hk1, if_pos hk]; rw [hcmt]; simp [noChangeB, hn, hds, hau, hos])
                clear hcmt hn hds hau hos
                go_wp2_with (first
                  | (with_reducible refine at_load ?_
                     refine wp_val (by rfl) (ex_load 68 _ rfl (p := ⟨z, 5, none⟩) rfl (qV _ _ _ _ [.slice Ap ps.length cp, .slice Ac cs.length cc, .string a2, .string ms, .int .i64 st] _ (fun j u hj => (cells_at0 (HZ1.out) (5 + j)).trans (mid5 hj)) Tryz.underlying68 rfl (by kernel_rfl))) ?_)
                  | (go_at_call 201; refine (refCommit_any (ps, cs, a2, ms, st) _ W1 HCMI.out hl3 hl4).mono ?_; rintro e W2 ⟨hb2, rfl⟩
                     rw [HF.out]
                     obtain ⟨d0, d1, d2, d3⟩ := HCELL.out W2 hb2
                     have HB2 := Lib.hid (HBW.out.trans (hb2.mono HBW.out.size))
                     clear hb2))
                go_ret
                exact ⟨HB2.out, by rw [HE.out]; rfl⟩
            · have eau : au.toList.isEmpty = false := by rw [isEmpty8]; exact dF hau
              have HE : Hid (rightB (k, (n, ds, au, os), (ps, cs, a2, ms, st)) = false) := Lib.hid (by unfold rightB; simp only; rw [if_neg hk1, if_pos hk]; rw [hcmt]; simp [noChangeB, hn, hds, hau])
              clear hcmt hn hds hau
              go_wp2_with (first
                | (with_reducible refine at_load ?_
                   refine wp_val (by rfl) (ex_load 68 _ rfl (p := ⟨z, 5, none⟩) rfl (qV _ _ _ _ [.slice Ap ps.length cp, .slice Ac cs.length cc, .string a2, .string ms, .int .i64 st] _ (fun j u hj => (cells_at0 (HZ1.out) (5 + j)).trans (mid5 hj)) Tryz.underlying68 rfl (by kernel_rfl))) ?_)
                | (go_at_call 201; refine (refCommit_any (ps, cs, a2, ms, st) _ W1 HCMI.out hl3 hl4).mono ?_; rintro e W2 ⟨hb2, rfl⟩
                   rw [HF.out]
                   obtain ⟨d0, d1, d2, d3⟩ := HCELL.out W2 hb2
                   have HB2 := Lib.hid (HBW.out.trans (hb2.mono HBW.out.size))
                   clear hb2))
              go_ret
              exact ⟨HB2.out, by rw [HE.out]; rfl⟩
          · have eds : (((ds.length : Nat) : Int) == 0) = false := by rw [beq_eq_false_iff_ne]; intro hq; exact hds (List.eq_nil_of_length_eq_zero (by omega))
            have HE : Hid (rightB (k, (n, ds, au, os), (ps, cs, a2, ms, st)) = false) := Lib.hid (by unfold rightB; simp only; rw [if_neg hk1, if_pos hk]; rw [hcmt]; simp [noChangeB, hn, hds])
            clear hcmt hn hds
            go_wp2_with (first
              | (with_reducible refine at_load ?_
                 refine wp_val (by rfl) (ex_load 68 _ rfl (p := ⟨z, 5, none⟩) rfl (qV _ _ _ _ [.slice Ap ps.length cp, .slice Ac cs.length cc, .string a2, .string ms, .int .i64 st] _ (fun j u hj => (cells_at0 (HZ1.out) (5 + j)).trans (mid5 hj)) Tryz.underlying68 rfl (by kernel_rfl))) ?_)
              | (go_at_call 201; refine (refCommit_any (ps, cs, a2, ms, st) _ W1 HCMI.out hl3 hl4).mono ?_; rintro e W2 ⟨hb2, rfl⟩
                 rw [HF.out]
                 obtain ⟨d0, d1, d2, d3⟩ := HCELL.out W2 hb2
                 have HB2 := Lib.hid (HBW.out.trans (hb2.mono HBW.out.size))
                 clear hb2))
            go_ret
            exact ⟨HB2.out, by rw [HE.out]; rfl⟩
        · have HF := Lib.hid (hcmt)
          have en : (n == 0) = false := by rw [beq_eq_false_iff_ne]; exact hn
          have HE : Hid (rightB (k, (n, ds, au, os), (ps, cs, a2, ms, st)) = false) := Lib.hid (by unfold rightB; simp only; rw [if_neg hk1, if_pos hk]; rw [hcmt]; simp [noChangeB, hn])
          clear hcmt hn
          go_wp2_with (first
            | (with_reducible refine at_load ?_
               refine wp_val (by rfl) (ex_load 68 _ rfl (p := ⟨z, 5, none⟩) rfl (qV _ _ _ _ [.slice Ap ps.length cp, .slice Ac cs.length cc, .string a2, .string ms, .int .i64 st] _ (fun j u hj => (cells_at0 (HZ1.out) (5 + j)).trans (mid5 hj)) Tryz.underlying68 rfl (by kernel_rfl))) ?_)
            | (go_at_call 201; refine (refCommit_any (ps, cs, a2, ms, st) _ W1 HCMI.out hl3 hl4).mono ?_; rintro e W2 ⟨hb2, rfl⟩
               rw [HF.out]
               obtain ⟨d0, d1, d2, d3⟩ := HCELL.out W2 hb2
               have HB2 := Lib.hid (HBW.out.trans (hb2.mono HBW.out.size))
               clear hb2))
          go_ret
          exact ⟨HB2.out, by rw [HE.out]; rfl⟩
      · have HF := Lib.hid (Bool.eq_false_iff.2 hcmt)
        have HE : Hid (rightB (k, (n, ds, au, os), (ps, cs, a2, ms, st)) = false) := Lib.hid (by unfold rightB; simp only; rw [if_neg hk1, if_pos hk]; rw [Bool.eq_false_iff.2 hcmt]; simp)
        clear hcmt
        go_wp2_with (first
          | (with_reducible refine at_load ?_
             refine wp_val (by rfl) (ex_load 68 _ rfl (p := ⟨z, 5, none⟩) rfl (qV _ _ _ _ [.slice Ap ps.length cp, .slice Ac cs.length cc, .string a2, .string ms, .int .i64 st] _ (fun j u hj => (cells_at0 (HZ1.out) (5 + j)).trans (mid5 hj)) Tryz.underlying68 rfl (by kernel_rfl))) ?_)
          | (go_at_call 201; refine (refCommit_any (ps, cs, a2, ms, st) _ W1 HCMI.out hl3 hl4).mono ?_; rintro e W2 ⟨hb2, rfl⟩
             rw [HF.out]
             obtain ⟨d0, d1, d2, d3⟩ := HCELL.out W2 hb2
             have HB2 := Lib.hid (HBW.out.trans (hb2.mono HBW.out.size))
             clear hb2))
        go_ret
        exact ⟨HB2.out, by rw [HE.out]; rfl⟩
    · have ek2 : ((k.toNat : Int) == 2) = false := by rw [beq_eq_false_iff_ne]; intro h; exact hk (by apply UInt8.toNat_inj.1; show k.toNat = 2; omega)
      have HE : Hid (rightB (k, (n, ds, au, os), (ps, cs, a2, ms, st)) = false) := Lib.hid (by unfold rightB; simp only; rw [if_neg hk1, if_neg hk])
      clear hk hk1
      go_wp2_with fail
      go_ret
      exact ⟨HBW.out, by rw [HE.out]; rfl⟩
end Go.Proofs.YtdgbjhfkmembdaaGreatDoor
