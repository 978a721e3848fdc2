/-
  What the checker's op gives. Conditions: as it says.
-/
import Derived.Test.YtdgbjhfkmembdaaGreatDoorShort0
import Derived.Test.YtdgbjhfkmembdaaGreatDoorShort9
import Derived.Test.YtdgbjhfkmembdaaGreatDoorShort8
import Derived.Test.YtdgbjhfkmembdaaGreatDoorObjElems
import Derived.Test.YtdgbjhfkmembdaaGreatDoorObjAbsent
import Derived.Test.YtdgbjhfkmembdaaGreatDoorPathNames
import Derived.Test.YtdgbjhfkmembdaaGreatDoorRunes
import Derived.Test.YtdgbjhfkmembdaaGreatDoorCkMem
import Derived.Test.YtdgbjhfkmembdaaGreatDoorInsMem
import Derived.Test.YtdgbjhfkmembdaaGreatDoorRight08S
namespace Go.Proofs.YtdgbjhfkmembdaaGreatDoor
open Go.RowKit Go.Maps
set_option linter.unusedVariables false
set_option linter.unusedSimpArgs false

/-- What the checker's op gives: may it be; what was made then. -/
def CkGives (g : Nat) (deps : List (List UInt8)) (mk : List MadeD) (x : OpD) (w : World) (e : Ending) (w' : World) : Prop :=
  Below g w w' ∧ e = .returned (.bool (opB deps mk x)) ∧ (opB deps mk x = true → CkAt w' g deps (mk ++ madeB x))
theorem below_g {w w' : World} {g : Nat} (hg : g ≤ w.heap.size) (h : Below w.heap.size w w') : Below g w w' := h.mono hg
theorem bytes0 {s : ByteArray} (h : fileB s = true) : bytesS s = 0 := by
  unfold fileB at h
  rw [Bool.and_eq_true, decide_eq_true_eq] at h
  unfold bytesS
  rw [if_neg (by omega), if_pos h.2]
theorem bytesN {s : ByteArray} (h : fileB s = false) : bytesS s ≠ 0 := by
  unfold fileB at h
  unfold bytesS
  split
  · decide
  · split
    · rename_i h1 h2
      rw [h2, dT (show s.size ≤ 4096 by omega)] at h
      cases h
    · decide
theorem fileB_ok {s : ByteArray} (h : fileB s = true) : okFrom s 0 := by
  unfold fileB at h
  rw [Bool.and_eq_true] at h
  exact h.2
set_option maxHeartbeats 4000000 in
set_option maxRecDepth 100000 in
theorem ckop_all (g : Nat) (deps : List (List UInt8)) (mk : List MadeD) (k : UInt8) (d r : RefD) (t : ByteArray) (n : Int) (q : ByteArray) (w : World) (hk : CkAt w g deps mk) (ho : IdsOk deps) (hn : deps.length ≤ 1099511627776) (hmn : mk.length ≤ 1000000000) (hm : ∀ m ∈ mk, MadeOk m) (hx : OpIn (k, d, r, t, n, q)) (hg : Glob w) :
    Calls Tryz.prog 227 #[.pointer (some ⟨g, 0, none⟩), .agg (opV (k, d, r, t, n, q)).toArray] w (CkGives g deps mk (k, d, r, t, n, q) w) := by
  have HCK := Lib.hid hk; have HO := Lib.hid ho; have HM := Lib.hid hm; have HX := Lib.hid hx; have HG := Lib.hid hg
  clear hk ho hm hx hg
  go_enter Tryz.func227, Tryz.ntmps227
  go_upto_region 1 with (first
    | (with_reducible refine at_box ?_
       refine wp_boxM (by rfl) 112 _ rfl (opV (k, d, r, t, n, q)) _ rfl rfl (by rw [opV_length HX.out]; exact sizeOp70) ?_
       intro W3 hb0 hy0 hs0
       have HBW3 := Lib.hid hb0; have HY3 := Lib.hid hy0
       clear hb0 hy0 hs0
       simp only [Act.put, List.setIfInBounds_toArray, List.set_cons_zero, List.set_cons_succ]))
  have hx3 : w.heap.size < W3.heap.size := (qX HY3.out)
  obtain ⟨zx, hzx⟩ : ∃ zx, w.heap.size = zx := ⟨_, rfl⟩
  rw [hzx] at HY3 hx3 ⊢
  have hgx : g < zx := by rw [← hzx]; exact HCK.out.lt
  have hwx : w.heap.size ≤ zx := by omega
  clear hzx
  have HFK := Lib.hid (fun (u : World) (hu : Below W3.heap.size W3 u) => (show u.cell? ⟨zx, 0, none⟩ = some (.int .u8 (k.toNat : Int)) from (hu.cell (p := ⟨zx, 0, none⟩) hx3).trans (cells_at0 HY3.out 0)))
  have HBD := Lib.hid (show Below W3.heap.size W3 W3.drew from (qD _ _))
  have HPM : Hid ((partsM k).getD (partV noPart) = (partV ((partsOf k).getD noPart))) := Lib.hid (by unfold partsM; cases partsOf k <;> rfl)
  have hE1 := enE Tryz.func195 rfl
  go_cut [5, 6] from 7 to 13 (fun t5 t6 wx => ∃ zp, t5 = .pointer (some ⟨zp, 0, none⟩) ∧ t6 = .bool (partsM k).isSome ∧ W3.heap.size ≤ zp ∧ Hid (Below W3.heap.size W3 wx) ∧ Hid (wx.heap[zp]? = some (.cells (partC ((partsOf k).getD noPart)).toArray 320 (0, 0))))
  case first =>
    refine rN 8 (fun u => u.cell? ⟨zx, 0, none⟩ = some (.int .u8 (k.toNat : Int))) (HFK.out _ HBD.out) fun hF0 => ?_
    refine tw 1 (.pointer (some ⟨zx, 0, none⟩)) ?_
    go_frame
    refine tl 2 (.int .u8 (k.toNat : Int)) rfl hF0 (fun w' hw' => l1 Tryz.underlying5 hw') ?_
    go_frame
    refine wpAnyN_all (rs := [0, 7]) (by kernel_rfl) (by simp) ?_
    intro q' hq'
    simp only [List.mem_cons, List.not_mem_nil, or_false] at hq'
    rcases hq' with rfl | rfl
    · refine wpOp_call _ rfl (by kernel_rfl) (ex_callFn (f := 195) (args := #[]) rfl rfl (fun args w => hE1 w args) (by simp)) ?_
      refine (parts_any (W3.drew)).mono ?_
      rintro e v1 ⟨hb1, v, rfl, ⟨mg, mn, rfl, hmv1⟩, -⟩
      have hbv1 : Below W3.heap.size W3 v1 := (HBD.out).trans (hb1.mono (HBD.out).size)
      refine ⟨_, rfl, fun _ _ => HFK.out _ hbv1, ?_⟩
      go_frame
      refine wpAnyN_all (rs := [3, 7]) (by kernel_rfl) (by simp) ?_
      intro q' hq'
      simp only [List.mem_cons, List.not_mem_nil, or_false] at hq'
      rcases hq' with rfl | rfl
      · refine wpOp_val _ rfl (by kernel_rfl) (ex_lookup2 317 _ _ rfl (vm := .map (some mg)) (vk := u8K k) rfl rfl (MapV.look2 u8Enc Tryz.underlying317 (fun u => partZero u) hmv1 (k0 := k) trivial)) ?_
        rw [HPM.out]
        refine ⟨fun _ h => h, ?_⟩
        go_frame
        refine tw 4 (.tuple #[(partV ((partsOf k).getD noPart)), .bool (partsM k).isSome]) ?_
        go_frame
        refine tw 5 (partV ((partsOf k).getD noPart)) ?_
        go_frame
        refine tw 6 (.bool (partsM k).isSome) ?_
        go_frame
        refine ta 7 ?_
        refine wpOp_allocM _ rfl (by kernel_rfl) 320 rfl (partC noPart) (partZ_run _) ?_
        intro va hba0 hzc hsa
        have hba : Below W3.heap.size W3 va := (hbv1).trans (hba0.mono (hbv1).size)
        have hzw : W3.heap.size ≤ (v1).heap.size := (hbv1).size
        have hzl : (v1).heap.size < va.heap.size := by omega
        have hma := hmv1.below hba0
        refine ⟨fun _ _ => HFK.out _ hba, ?_⟩
        go_frame
        refine ta 8 ?_
        refine wpOp_storeM _ rfl (by kernel_rfl) 320 _ _ rfl ((v1).heap.size) 0 [] (partC noPart) [] (partC ((partsOf k).getD noPart)) 320 (partV ((partsOf k).getD noPart)) rfl rfl rfl rfl (by simpa using hzc) rfl (by kernel_rfl) (by intro u hu; simp only [partC, List.mem_cons, List.not_mem_nil, or_false] at hu; rcases hu with rfl | rfl | rfl | rfl | rfl <;> rfl) ?_
        intro vs hbw hzz hss
        have hbz : Below W3.heap.size W3 vs := (hba).trans (hbw.below (hba).size (fun k hk => by omega))
        have hz7 : W3.heap.size ≤ (v1).heap.size := hzw
        refine ⟨fun h => absurd h (by decide), ?_⟩
        go_frame
        refine tw 9 (.bool (partsM k).isSome) ?_
        go_frame
        refine wpAnyN_done (by kernel_rfl) ?_ _
        go_wp2_with fail
        go_meet
        case rel => exact ⟨(v1).heap.size, rfl, rfl, hz7, Lib.hid hbz, Lib.hid (by simpa using hzz)⟩
      · refine wpOp_allocM _ rfl (by kernel_rfl) 320 rfl (partC noPart) (partZ_run _) ?_
        intro va hba0 hzc hsa
        have hba : Below W3.heap.size W3 va := (hbv1).trans (hba0.mono (hbv1).size)
        have hzw : W3.heap.size ≤ (v1).heap.size := (hbv1).size
        have hzl : (v1).heap.size < va.heap.size := by omega
        have hma := hmv1.below hba0
        refine ⟨fun _ _ => HFK.out _ hba, ?_⟩
        go_frame
        refine ta 3 ?_
        refine wpOp_val _ rfl (by kernel_rfl) (ex_lookup2 317 _ _ rfl (vm := .map (some mg)) (vk := u8K k) rfl rfl (MapV.look2 u8Enc Tryz.underlying317 (fun u => partZero u) hma (k0 := k) trivial)) ?_
        rw [HPM.out]
        refine ⟨fun _ h => h, ?_⟩
        go_frame
        refine tw 4 (.tuple #[(partV ((partsOf k).getD noPart)), .bool (partsM k).isSome]) ?_
        go_frame
        refine tw 5 (partV ((partsOf k).getD noPart)) ?_
        go_frame
        refine tw 6 (.bool (partsM k).isSome) ?_
        go_frame
        refine ta 8 ?_
        refine wpOp_storeM _ rfl (by kernel_rfl) 320 _ _ rfl ((v1).heap.size) 0 [] (partC noPart) [] (partC ((partsOf k).getD noPart)) 320 (partV ((partsOf k).getD noPart)) rfl rfl rfl rfl (by simpa using hzc) rfl (by kernel_rfl) (by intro u hu; simp only [partC, List.mem_cons, List.not_mem_nil, or_false] at hu; rcases hu with rfl | rfl | rfl | rfl | rfl <;> rfl) ?_
        intro vs hbw hzz hss
        have hbz : Below W3.heap.size W3 vs := (hba).trans (hbw.below (hba).size (fun k hk => by omega))
        have hz7 : W3.heap.size ≤ (v1).heap.size := hzw
        refine ⟨fun h => absurd h (by decide), ?_⟩
        go_frame
        refine tw 9 (.bool (partsM k).isSome) ?_
        go_frame
        refine wpAnyN_done (by kernel_rfl) ?_ _
        go_wp2_with fail
        go_meet
        case rel => exact ⟨(v1).heap.size, rfl, rfl, hz7, Lib.hid hbz, Lib.hid (by simpa using hzz)⟩
    · refine wpOp_allocM _ rfl (by kernel_rfl) 320 rfl (partC noPart) (partZ_run _) ?_
      intro va hba0 hzc hsa
      have hba : Below W3.heap.size W3 va := (HBD.out).trans (hba0.mono (HBD.out).size)
      have hzw : W3.heap.size ≤ (W3.drew).heap.size := (HBD.out).size
      have hzl : (W3.drew).heap.size < va.heap.size := by omega
      refine ⟨fun _ _ => HFK.out _ hba, ?_⟩
      go_frame
      refine ta 0 ?_
      refine wpOp_call _ rfl (by kernel_rfl) (ex_callFn (f := 195) (args := #[]) rfl rfl (fun args w => hE1 w args) (by simp)) ?_
      refine (parts_any (va)).mono ?_
      rintro e v1 ⟨hb1, v, rfl, ⟨mg, mn, rfl, hmv1⟩, -⟩
      have hbv1 : Below W3.heap.size W3 v1 := (hba).trans (hb1.mono (hba).size)
      have hzv := (hb1.block _ (qX hzc)).trans hzc
      refine ⟨_, rfl, fun _ _ => HFK.out _ hbv1, ?_⟩
      go_frame
      refine ta 3 ?_
      refine wpOp_val _ rfl (by kernel_rfl) (ex_lookup2 317 _ _ rfl (vm := .map (some mg)) (vk := u8K k) rfl rfl (MapV.look2 u8Enc Tryz.underlying317 (fun u => partZero u) hmv1 (k0 := k) trivial)) ?_
      rw [HPM.out]
      refine ⟨fun _ h => h, ?_⟩
      go_frame
      refine tw 4 (.tuple #[(partV ((partsOf k).getD noPart)), .bool (partsM k).isSome]) ?_
      go_frame
      refine tw 5 (partV ((partsOf k).getD noPart)) ?_
      go_frame
      refine tw 6 (.bool (partsM k).isSome) ?_
      go_frame
      refine ta 8 ?_
      refine wpOp_storeM _ rfl (by kernel_rfl) 320 _ _ rfl ((W3.drew).heap.size) 0 [] (partC noPart) [] (partC ((partsOf k).getD noPart)) 320 (partV ((partsOf k).getD noPart)) rfl rfl rfl rfl (by simpa using hzv) rfl (by kernel_rfl) (by intro u hu; simp only [partC, List.mem_cons, List.not_mem_nil, or_false] at hu; rcases hu with rfl | rfl | rfl | rfl | rfl <;> rfl) ?_
      intro vs hbw hzz hss
      have hbz : Below W3.heap.size W3 vs := (hbv1).trans (hbw.below (hbv1).size (fun k hk => by omega))
      have hz7 : W3.heap.size ≤ (W3.drew).heap.size := hzw
      refine ⟨fun h => absurd h (by decide), ?_⟩
      go_frame
      refine tw 9 (.bool (partsM k).isSome) ?_
      go_frame
      refine wpAnyN_done (by kernel_rfl) ?_ _
      go_wp2_with fail
      go_meet
      case rel => exact ⟨(W3.drew).heap.size, rfl, rfl, hz7, Lib.hid hbz, Lib.hid (by simpa using hzz)⟩
  case rest =>
    obtain ⟨zp, rfl, rfl, hzp, HBC, HZP⟩ := hcut
    obtain ⟨ws, hws⟩ : ∃ u : World, u = wc := ⟨_, rfl⟩
    subst hws
    have HBS : Hid (Below w.heap.size w ws) := Lib.hid (HBW3.out.trans (HBC.out.mono HBW3.out.size))
    have HCKS := Lib.hid (HCK.out.keep HBS.out)
    have HGS := Lib.hid (HG.out.next HBS.out)
    clear HFK HBD HPM hE1
    by_cases h5 : k = 5
    · have HKD := Lib.hid h5
      have HPK : Hid (partsOf k = some (true, false, false, false, false)) := Lib.hid (by rw [h5]; rfl)
      clear h5 
      have HOB : Hid (opB deps mk (k, d, r, t, n, q) = (absentB (k, d, r, t, n, q) (true, false, false, false, false) && docB deps mk d)) := Lib.hid (by unfold opB; rw [HPK.out, HKD.out]; simp)
      rw [HPK.out] at HZP
      have hzpl := (qX HZP.out)
      have hzxl : zx < ws.heap.size := qL hx3 HBC.out.size
      have HXR := Lib.hid (fun (u : World) (hu : Below ws.heap.size ws u) => (show u.rangeAt zx 0 (opV (k, d, r, t, n, q)) from fun j v hj => by rw [qZ]; exact ((hu.cell (p := ⟨zx, j, none⟩) hzxl).trans ((HBC.out.cell (p := ⟨zx, j, none⟩) hx3).trans (cells_at0 HY3.out j))).trans hj))
      have HPR := Lib.hid (fun (u : World) (hu : Below ws.heap.size ws u) => (show u.rangeAt zp 0 (partC (true, false, false, false, false)) from fun j v hj => by rw [qZ]; exact ((hu.cell (p := ⟨zp, j, none⟩) hzpl).trans (cells_at0 HZP.out j)).trans hj))
      have HPC := Lib.hid (fun (u : World) (hu : Below ws.heap.size ws u) => (show u.cell? ⟨zp, 0, none⟩ = some (.bool true) ∧ u.cell? ⟨zp, 4, none⟩ = some (.bool false) from ⟨(hu.cell (p := ⟨zp, 0, none⟩) hzpl).trans (cells_at0 HZP.out 0), (hu.cell (p := ⟨zp, 4, none⟩) hzpl).trans (cells_at0 HZP.out 4)⟩))
      have HXC := Lib.hid (fun (u : World) (hu : Below ws.heap.size ws u) => (show u.cell? ⟨zx, 0, none⟩ = some (.int .u8 5) ∧ u.cell? ⟨zx, 67, none⟩ = some (.string t) ∧ u.cell? ⟨zx, 68, none⟩ = some (.int .i64 n) ∧ u.cell? ⟨zx, 69, none⟩ = some (.string q) from
        ⟨by have h : u.cell? ⟨zx, 0 + 0, none⟩ = some (.int .u8 (k.toNat : Int)) := HXR.out u hu 0 _ (op_cells HX.out).1; rw [HKD.out] at h; exact h, by have h := HXR.out u hu 67 _ (op_cells HX.out).2.2.2.1; rw [qZ] at h; exact h, by have h := HXR.out u hu 68 _ (op_cells HX.out).2.2.2.2.1; rw [qZ] at h; exact h, by have h := HXR.out u hu 69 _ (op_cells HX.out).2.2.2.2.2; rw [qZ] at h; exact h⟩))
      have HDR := Lib.hid (fun (u : World) (hu : Below ws.heap.size ws u) => (show u.rangeAt zx 1 (refV d) from fun j v hj => by have h := HXR.out u hu (1 + j) _ ((op_cells HX.out).2.1 j v hj); rw [qZ] at h; exact h))
      have HAR := Lib.hid (fun (u : World) (hu : Below ws.heap.size ws u) => (show u.rangeAt zx 34 (refV r) from fun j v hj => by have h := HXR.out u hu (34 + j) _ ((op_cells HX.out).2.2.1 j v hj); rw [qZ] at h; exact h))
      have dk : (partsM k).isSome = true := by unfold partsM; rw [HPK.out]; rfl
      rcases Bool.eq_false_or_eq_true (absentB (k, d, r, t, n, q) (true, false, false, false, false)) with ha | ha
      rotate_left
      · have HA := Lib.hid ha
        have HE : Hid (opB deps mk (k, d, r, t, n, q) = false) := Lib.hid (by rw [HOB.out, ha]; simp)
        clear ha
        go_wp2_with (first
          | (with_reducible refine at_load ?_
             refine wp_val (by rfl) (ldO HX.out (HXR.out _ (qB _ _))) ?_)
          | (with_reducible refine at_load ?_
             refine wp_val (by rfl) (ex_load 320 _ rfl (p := ⟨zp, 0, none⟩) rfl (qV _ _ _ _ (partC (true, false, false, false, false)) _ (HPR.out _ (qB _ _)) Tryz.underlying320 rfl sizePart5)) ?_)
          | (go_at_call 249; refine (absent_any (k, d, r, t, n, q) (true, false, false, false, false) k ws HX.out HPK.out).mono ?_; rintro e u1 ⟨hb1, rfl⟩
             rw [HA.out]
             have p1 := (HPC.out u1 hb1).1
             have p4 := (HPC.out u1 hb1).2
             have x0a := (HXC.out u1 hb1).1
             have x5a := (HXC.out u1 hb1).2.2.2
             have HB1 := Lib.hid hb1
             clear hb1))
        go_ret
        exact ⟨below_g (Nat.le_of_lt HCK.out.lt) (HBS.out.trans (HB1.out.mono HBS.out.size)), by rw [HE.out]; rfl, fun h => by rw [HE.out] at h; cases h⟩
      have HA := Lib.hid ha
      clear ha
      rcases Bool.eq_false_or_eq_true (docB deps mk d) with hdc | hdc
      rotate_left
      · have HDC := Lib.hid hdc
        have HE : Hid (opB deps mk (k, d, r, t, n, q) = false) := Lib.hid (by rw [HOB.out, hdc]; simp)
        clear hdc
        go_wp2_with (first
          | (with_reducible refine at_load ?_
             refine wp_val (by rfl) (ldO HX.out (HXR.out _ (qB _ _))) ?_)
          | (with_reducible refine at_load ?_
             refine wp_val (by rfl) (ex_load 320 _ rfl (p := ⟨zp, 0, none⟩) rfl (qV _ _ _ _ (partC (true, false, false, false, false)) _ (HPR.out _ (qB _ _)) Tryz.underlying320 rfl sizePart5)) ?_)
          | (go_at_call 249; refine (absent_any (k, d, r, t, n, q) (true, false, false, false, false) k ws HX.out HPK.out).mono ?_; rintro e u1 ⟨hb1, rfl⟩
             rw [HA.out]
             have p1 := (HPC.out u1 hb1).1
             have p4 := (HPC.out u1 hb1).2
             have x0a := (HXC.out u1 hb1).1
             have x5a := (HXC.out u1 hb1).2.2.2
             have HB1 := Lib.hid hb1
             clear hb1)
          | (with_reducible refine at_load ?_
             refine wp_val (by rfl) (ldR HX.out.1.1 (HDR.out _ HB1.out)) ?_)
          | (go_at_call 250; refine (doc_any g deps mk d u1 (HCKS.out.keep HB1.out) HO.out hn (by omega) HM.out HX.out.1.1).mono ?_; rintro e u2 ⟨hb2, rfl⟩
             rw [HDC.out]
             have hb12 := HB1.out.trans (hb2.mono HB1.out.size)
             have p4' := (HPC.out u2 hb12).2
             have x5' := (HXC.out u2 hb12).2.2.2
             have x0b := (HXC.out u2 hb12).1
             have HB2 := Lib.hid hb12
             clear hb2 hb12 p1 p4 x0a x5a))
        go_ret
        exact ⟨below_g (Nat.le_of_lt HCK.out.lt) (HBS.out.trans (HB2.out.mono HBS.out.size)), by rw [HE.out]; rfl, fun h => by rw [HE.out] at h; cases h⟩
      have HDC := Lib.hid hdc
      clear hdc
      have HE : Hid (opB deps mk (k, d, r, t, n, q) = true) := Lib.hid (by rw [HOB.out, HA.out, HDC.out]; rfl)
      have HMB : Hid (madeB (k, d, r, t, n, q) = []) := Lib.hid (by unfold madeB; rw [HKD.out]; rfl)
      go_wp2_with (first
        | (with_reducible refine at_load ?_
           refine wp_val (by rfl) (ldO HX.out (HXR.out _ (qB _ _))) ?_)
        | (with_reducible refine at_load ?_
           refine wp_val (by rfl) (ex_load 320 _ rfl (p := ⟨zp, 0, none⟩) rfl (qV _ _ _ _ (partC (true, false, false, false, false)) _ (HPR.out _ (qB _ _)) Tryz.underlying320 rfl sizePart5)) ?_)
        | (go_at_call 249; refine (absent_any (k, d, r, t, n, q) (true, false, false, false, false) k ws HX.out HPK.out).mono ?_; rintro e u1 ⟨hb1, rfl⟩
           rw [HA.out]
           have p1 := (HPC.out u1 hb1).1
           have p4 := (HPC.out u1 hb1).2
           have x0a := (HXC.out u1 hb1).1
           have x5a := (HXC.out u1 hb1).2.2.2
           have HB1 := Lib.hid hb1
           clear hb1)
        | (with_reducible refine at_load ?_
           refine wp_val (by rfl) (ldR HX.out.1.1 (HDR.out _ HB1.out)) ?_)
        | (go_at_call 250; refine (doc_any g deps mk d u1 (HCKS.out.keep HB1.out) HO.out hn (by omega) HM.out HX.out.1.1).mono ?_; rintro e u2 ⟨hb2, rfl⟩
           rw [HDC.out]
           have hb12 := HB1.out.trans (hb2.mono HB1.out.size)
           have p4' := (HPC.out u2 hb12).2
           have x5' := (HXC.out u2 hb12).2.2.2
           have x0b := (HXC.out u2 hb12).1
           have HB2 := Lib.hid hb12
           clear hb2 hb12 p1 p4 x0a x5a))
      go_ret
      exact ⟨below_g (Nat.le_of_lt HCK.out.lt) (HBS.out.trans (HB2.out.mono HBS.out.size)), by rw [HE.out]; rfl, fun _ => by rw [HMB.out, List.append_nil]; exact HCKS.out.keep HB2.out⟩
    by_cases h4 : k = 4
    · have HKD := Lib.hid h4
      have HPK : Hid (partsOf k = some (true, false, false, false, true)) := Lib.hid (by rw [h4]; rfl)
      clear h4 h5
      have HOB : Hid (opB deps mk (k, d, r, t, n, q) = (absentB (k, d, r, t, n, q) (true, false, false, false, true) && docB deps mk d && pathB q)) := Lib.hid (by unfold opB; rw [HPK.out, HKD.out]; simp)
      rw [HPK.out] at HZP
      have hzpl := (qX HZP.out)
      have hzxl : zx < ws.heap.size := qL hx3 HBC.out.size
      have HXR := Lib.hid (fun (u : World) (hu : Below ws.heap.size ws u) => (show u.rangeAt zx 0 (opV (k, d, r, t, n, q)) from fun j v hj => by rw [qZ]; exact ((hu.cell (p := ⟨zx, j, none⟩) hzxl).trans ((HBC.out.cell (p := ⟨zx, j, none⟩) hx3).trans (cells_at0 HY3.out j))).trans hj))
      have HPR := Lib.hid (fun (u : World) (hu : Below ws.heap.size ws u) => (show u.rangeAt zp 0 (partC (true, false, false, false, true)) from fun j v hj => by rw [qZ]; exact ((hu.cell (p := ⟨zp, j, none⟩) hzpl).trans (cells_at0 HZP.out j)).trans hj))
      have HPC := Lib.hid (fun (u : World) (hu : Below ws.heap.size ws u) => (show u.cell? ⟨zp, 0, none⟩ = some (.bool true) ∧ u.cell? ⟨zp, 4, none⟩ = some (.bool true) from ⟨(hu.cell (p := ⟨zp, 0, none⟩) hzpl).trans (cells_at0 HZP.out 0), (hu.cell (p := ⟨zp, 4, none⟩) hzpl).trans (cells_at0 HZP.out 4)⟩))
      have HXC := Lib.hid (fun (u : World) (hu : Below ws.heap.size ws u) => (show u.cell? ⟨zx, 0, none⟩ = some (.int .u8 4) ∧ u.cell? ⟨zx, 67, none⟩ = some (.string t) ∧ u.cell? ⟨zx, 68, none⟩ = some (.int .i64 n) ∧ u.cell? ⟨zx, 69, none⟩ = some (.string q) from
        ⟨by have h : u.cell? ⟨zx, 0 + 0, none⟩ = some (.int .u8 (k.toNat : Int)) := HXR.out u hu 0 _ (op_cells HX.out).1; rw [HKD.out] at h; exact h, by have h := HXR.out u hu 67 _ (op_cells HX.out).2.2.2.1; rw [qZ] at h; exact h, by have h := HXR.out u hu 68 _ (op_cells HX.out).2.2.2.2.1; rw [qZ] at h; exact h, by have h := HXR.out u hu 69 _ (op_cells HX.out).2.2.2.2.2; rw [qZ] at h; exact h⟩))
      have HDR := Lib.hid (fun (u : World) (hu : Below ws.heap.size ws u) => (show u.rangeAt zx 1 (refV d) from fun j v hj => by have h := HXR.out u hu (1 + j) _ ((op_cells HX.out).2.1 j v hj); rw [qZ] at h; exact h))
      have HAR := Lib.hid (fun (u : World) (hu : Below ws.heap.size ws u) => (show u.rangeAt zx 34 (refV r) from fun j v hj => by have h := HXR.out u hu (34 + j) _ ((op_cells HX.out).2.2.1 j v hj); rw [qZ] at h; exact h))
      have dk : (partsM k).isSome = true := by unfold partsM; rw [HPK.out]; rfl
      rcases Bool.eq_false_or_eq_true (absentB (k, d, r, t, n, q) (true, false, false, false, true)) with ha | ha
      rotate_left
      · have HA := Lib.hid ha
        have HE : Hid (opB deps mk (k, d, r, t, n, q) = false) := Lib.hid (by rw [HOB.out, ha]; simp)
        clear ha
        go_wp2_with (first
          | (with_reducible refine at_load ?_
             refine wp_val (by rfl) (ldO HX.out (HXR.out _ (qB _ _))) ?_)
          | (with_reducible refine at_load ?_
             refine wp_val (by rfl) (ex_load 320 _ rfl (p := ⟨zp, 0, none⟩) rfl (qV _ _ _ _ (partC (true, false, false, false, true)) _ (HPR.out _ (qB _ _)) Tryz.underlying320 rfl sizePart5)) ?_)
          | (go_at_call 249; refine (absent_any (k, d, r, t, n, q) (true, false, false, false, true) k ws HX.out HPK.out).mono ?_; rintro e u1 ⟨hb1, rfl⟩
             rw [HA.out]
             have p1 := (HPC.out u1 hb1).1
             have p4 := (HPC.out u1 hb1).2
             have x0a := (HXC.out u1 hb1).1
             have x5a := (HXC.out u1 hb1).2.2.2
             have HB1 := Lib.hid hb1
             clear hb1))
        go_ret
        exact ⟨below_g (Nat.le_of_lt HCK.out.lt) (HBS.out.trans (HB1.out.mono HBS.out.size)), by rw [HE.out]; rfl, fun h => by rw [HE.out] at h; cases h⟩
      have HA := Lib.hid ha
      clear ha
      rcases Bool.eq_false_or_eq_true (docB deps mk d) with hdc | hdc
      rotate_left
      · have HDC := Lib.hid hdc
        have HE : Hid (opB deps mk (k, d, r, t, n, q) = false) := Lib.hid (by rw [HOB.out, hdc]; simp)
        clear hdc
        go_wp2_with (first
          | (with_reducible refine at_load ?_
             refine wp_val (by rfl) (ldO HX.out (HXR.out _ (qB _ _))) ?_)
          | (with_reducible refine at_load ?_
             refine wp_val (by rfl) (ex_load 320 _ rfl (p := ⟨zp, 0, none⟩) rfl (qV _ _ _ _ (partC (true, false, false, false, true)) _ (HPR.out _ (qB _ _)) Tryz.underlying320 rfl sizePart5)) ?_)
          | (go_at_call 249; refine (absent_any (k, d, r, t, n, q) (true, false, false, false, true) k ws HX.out HPK.out).mono ?_; rintro e u1 ⟨hb1, rfl⟩
             rw [HA.out]
             have p1 := (HPC.out u1 hb1).1
             have p4 := (HPC.out u1 hb1).2
             have x0a := (HXC.out u1 hb1).1
             have x5a := (HXC.out u1 hb1).2.2.2
             have HB1 := Lib.hid hb1
             clear hb1)
          | (with_reducible refine at_load ?_
             refine wp_val (by rfl) (ldR HX.out.1.1 (HDR.out _ HB1.out)) ?_)
          | (go_at_call 250; refine (doc_any g deps mk d u1 (HCKS.out.keep HB1.out) HO.out hn (by omega) HM.out HX.out.1.1).mono ?_; rintro e u2 ⟨hb2, rfl⟩
             rw [HDC.out]
             have hb12 := HB1.out.trans (hb2.mono HB1.out.size)
             have p4' := (HPC.out u2 hb12).2
             have x5' := (HXC.out u2 hb12).2.2.2
             have x0b := (HXC.out u2 hb12).1
             have HB2 := Lib.hid hb12
             clear hb2 hb12 p1 p4 x0a x5a))
        go_ret
        exact ⟨below_g (Nat.le_of_lt HCK.out.lt) (HBS.out.trans (HB2.out.mono HBS.out.size)), by rw [HE.out]; rfl, fun h => by rw [HE.out] at h; cases h⟩
      have HDC := Lib.hid hdc
      clear hdc
      rcases Bool.eq_false_or_eq_true (pathB q) with hpt | hpt
      rotate_left
      · have HPT := Lib.hid hpt
        have HE : Hid (opB deps mk (k, d, r, t, n, q) = false) := Lib.hid (by rw [HOB.out, hpt]; simp)
        clear hpt
        go_wp2_with (first
          | (with_reducible refine at_load ?_
             refine wp_val (by rfl) (ldO HX.out (HXR.out _ (qB _ _))) ?_)
          | (with_reducible refine at_load ?_
             refine wp_val (by rfl) (ex_load 320 _ rfl (p := ⟨zp, 0, none⟩) rfl (qV _ _ _ _ (partC (true, false, false, false, true)) _ (HPR.out _ (qB _ _)) Tryz.underlying320 rfl sizePart5)) ?_)
          | (go_at_call 249; refine (absent_any (k, d, r, t, n, q) (true, false, false, false, true) k ws HX.out HPK.out).mono ?_; rintro e u1 ⟨hb1, rfl⟩
             rw [HA.out]
             have p1 := (HPC.out u1 hb1).1
             have p4 := (HPC.out u1 hb1).2
             have x0a := (HXC.out u1 hb1).1
             have x5a := (HXC.out u1 hb1).2.2.2
             have HB1 := Lib.hid hb1
             clear hb1)
          | (with_reducible refine at_load ?_
             refine wp_val (by rfl) (ldR HX.out.1.1 (HDR.out _ HB1.out)) ?_)
          | (go_at_call 250; refine (doc_any g deps mk d u1 (HCKS.out.keep HB1.out) HO.out hn (by omega) HM.out HX.out.1.1).mono ?_; rintro e u2 ⟨hb2, rfl⟩
             rw [HDC.out]
             have hb12 := HB1.out.trans (hb2.mono HB1.out.size)
             have p4' := (HPC.out u2 hb12).2
             have x5' := (HXC.out u2 hb12).2.2.2
             have x0b := (HXC.out u2 hb12).1
             have HB2 := Lib.hid hb12
             clear hb2 hb12 p1 p4 x0a x5a)
          | (go_at_call 173; refine (path_any q u2 HX.out.2.2 (HGS.out.next HB2.out)).mono ?_; rintro e u3 ⟨hb3, rfl⟩
             rw [HPT.out]
             have hb13 := HB2.out.trans (hb3.mono HB2.out.size)
             have HB3 := Lib.hid hb13
             have x0c := (HXC.out u3 hb13).1
             clear hb3 hb13))
        go_ret
        exact ⟨below_g (Nat.le_of_lt HCK.out.lt) (HBS.out.trans (HB3.out.mono HBS.out.size)), by rw [HE.out]; rfl, fun h => by rw [HE.out] at h; cases h⟩
      have HPT := Lib.hid hpt
      clear hpt
      have HE : Hid (opB deps mk (k, d, r, t, n, q) = true) := Lib.hid (by rw [HOB.out, HA.out, HDC.out, HPT.out]; rfl)
      have HMB : Hid (madeB (k, d, r, t, n, q) = []) := Lib.hid (by unfold madeB; rw [HKD.out]; rfl)
      go_wp2_with (first
        | (with_reducible refine at_load ?_
           refine wp_val (by rfl) (ldO HX.out (HXR.out _ (qB _ _))) ?_)
        | (with_reducible refine at_load ?_
           refine wp_val (by rfl) (ex_load 320 _ rfl (p := ⟨zp, 0, none⟩) rfl (qV _ _ _ _ (partC (true, false, false, false, true)) _ (HPR.out _ (qB _ _)) Tryz.underlying320 rfl sizePart5)) ?_)
        | (go_at_call 249; refine (absent_any (k, d, r, t, n, q) (true, false, false, false, true) k ws HX.out HPK.out).mono ?_; rintro e u1 ⟨hb1, rfl⟩
           rw [HA.out]
           have p1 := (HPC.out u1 hb1).1
           have p4 := (HPC.out u1 hb1).2
           have x0a := (HXC.out u1 hb1).1
           have x5a := (HXC.out u1 hb1).2.2.2
           have HB1 := Lib.hid hb1
           clear hb1)
        | (with_reducible refine at_load ?_
           refine wp_val (by rfl) (ldR HX.out.1.1 (HDR.out _ HB1.out)) ?_)
        | (go_at_call 250; refine (doc_any g deps mk d u1 (HCKS.out.keep HB1.out) HO.out hn (by omega) HM.out HX.out.1.1).mono ?_; rintro e u2 ⟨hb2, rfl⟩
           rw [HDC.out]
           have hb12 := HB1.out.trans (hb2.mono HB1.out.size)
           have p4' := (HPC.out u2 hb12).2
           have x5' := (HXC.out u2 hb12).2.2.2
           have x0b := (HXC.out u2 hb12).1
           have HB2 := Lib.hid hb12
           clear hb2 hb12 p1 p4 x0a x5a)
        | (go_at_call 173; refine (path_any q u2 HX.out.2.2 (HGS.out.next HB2.out)).mono ?_; rintro e u3 ⟨hb3, rfl⟩
           rw [HPT.out]
           have hb13 := HB2.out.trans (hb3.mono HB2.out.size)
           have HB3 := Lib.hid hb13
           have x0c := (HXC.out u3 hb13).1
           clear hb3 hb13))
      go_ret
      exact ⟨below_g (Nat.le_of_lt HCK.out.lt) (HBS.out.trans (HB3.out.mono HBS.out.size)), by rw [HE.out]; rfl, fun _ => by rw [HMB.out, List.append_nil]; exact HCKS.out.keep HB3.out⟩
    by_cases h3 : k = 3
    · have HKD := Lib.hid h3
      have HPK : Hid (partsOf k = some (false, false, false, false, true)) := Lib.hid (by rw [h3]; rfl)
      clear h3 h5 h4
      have HOB : Hid (opB deps mk (k, d, r, t, n, q) = (absentB (k, d, r, t, n, q) (false, false, false, false, true) && pathB q)) := Lib.hid (by unfold opB; rw [HPK.out, HKD.out]; simp)
      rw [HPK.out] at HZP
      have hzpl := (qX HZP.out)
      have hzxl : zx < ws.heap.size := qL hx3 HBC.out.size
      have HXR := Lib.hid (fun (u : World) (hu : Below ws.heap.size ws u) => (show u.rangeAt zx 0 (opV (k, d, r, t, n, q)) from fun j v hj => by rw [qZ]; exact ((hu.cell (p := ⟨zx, j, none⟩) hzxl).trans ((HBC.out.cell (p := ⟨zx, j, none⟩) hx3).trans (cells_at0 HY3.out j))).trans hj))
      have HPR := Lib.hid (fun (u : World) (hu : Below ws.heap.size ws u) => (show u.rangeAt zp 0 (partC (false, false, false, false, true)) from fun j v hj => by rw [qZ]; exact ((hu.cell (p := ⟨zp, j, none⟩) hzpl).trans (cells_at0 HZP.out j)).trans hj))
      have HPC := Lib.hid (fun (u : World) (hu : Below ws.heap.size ws u) => (show u.cell? ⟨zp, 0, none⟩ = some (.bool false) ∧ u.cell? ⟨zp, 4, none⟩ = some (.bool true) from ⟨(hu.cell (p := ⟨zp, 0, none⟩) hzpl).trans (cells_at0 HZP.out 0), (hu.cell (p := ⟨zp, 4, none⟩) hzpl).trans (cells_at0 HZP.out 4)⟩))
      have HXC := Lib.hid (fun (u : World) (hu : Below ws.heap.size ws u) => (show u.cell? ⟨zx, 0, none⟩ = some (.int .u8 3) ∧ u.cell? ⟨zx, 67, none⟩ = some (.string t) ∧ u.cell? ⟨zx, 68, none⟩ = some (.int .i64 n) ∧ u.cell? ⟨zx, 69, none⟩ = some (.string q) from
        ⟨by have h : u.cell? ⟨zx, 0 + 0, none⟩ = some (.int .u8 (k.toNat : Int)) := HXR.out u hu 0 _ (op_cells HX.out).1; rw [HKD.out] at h; exact h, by have h := HXR.out u hu 67 _ (op_cells HX.out).2.2.2.1; rw [qZ] at h; exact h, by have h := HXR.out u hu 68 _ (op_cells HX.out).2.2.2.2.1; rw [qZ] at h; exact h, by have h := HXR.out u hu 69 _ (op_cells HX.out).2.2.2.2.2; rw [qZ] at h; exact h⟩))
      have HDR := Lib.hid (fun (u : World) (hu : Below ws.heap.size ws u) => (show u.rangeAt zx 1 (refV d) from fun j v hj => by have h := HXR.out u hu (1 + j) _ ((op_cells HX.out).2.1 j v hj); rw [qZ] at h; exact h))
      have HAR := Lib.hid (fun (u : World) (hu : Below ws.heap.size ws u) => (show u.rangeAt zx 34 (refV r) from fun j v hj => by have h := HXR.out u hu (34 + j) _ ((op_cells HX.out).2.2.1 j v hj); rw [qZ] at h; exact h))
      have dk : (partsM k).isSome = true := by unfold partsM; rw [HPK.out]; rfl
      rcases Bool.eq_false_or_eq_true (absentB (k, d, r, t, n, q) (false, false, false, false, true)) with ha | ha
      rotate_left
      · have HA := Lib.hid ha
        have HE : Hid (opB deps mk (k, d, r, t, n, q) = false) := Lib.hid (by rw [HOB.out, ha]; simp)
        clear ha
        go_wp2_with (first
          | (with_reducible refine at_load ?_
             refine wp_val (by rfl) (ldO HX.out (HXR.out _ (qB _ _))) ?_)
          | (with_reducible refine at_load ?_
             refine wp_val (by rfl) (ex_load 320 _ rfl (p := ⟨zp, 0, none⟩) rfl (qV _ _ _ _ (partC (false, false, false, false, true)) _ (HPR.out _ (qB _ _)) Tryz.underlying320 rfl sizePart5)) ?_)
          | (go_at_call 249; refine (absent_any (k, d, r, t, n, q) (false, false, false, false, true) k ws HX.out HPK.out).mono ?_; rintro e u1 ⟨hb1, rfl⟩
             rw [HA.out]
             have p1 := (HPC.out u1 hb1).1
             have p4 := (HPC.out u1 hb1).2
             have x0a := (HXC.out u1 hb1).1
             have x5a := (HXC.out u1 hb1).2.2.2
             have HB1 := Lib.hid hb1
             clear hb1))
        go_ret
        exact ⟨below_g (Nat.le_of_lt HCK.out.lt) (HBS.out.trans (HB1.out.mono HBS.out.size)), by rw [HE.out]; rfl, fun h => by rw [HE.out] at h; cases h⟩
      have HA := Lib.hid ha
      clear ha
      rcases Bool.eq_false_or_eq_true (pathB q) with hpt | hpt
      rotate_left
      · have HPT := Lib.hid hpt
        have HE : Hid (opB deps mk (k, d, r, t, n, q) = false) := Lib.hid (by rw [HOB.out, hpt]; simp)
        clear hpt
        go_wp2_with (first
          | (with_reducible refine at_load ?_
             refine wp_val (by rfl) (ldO HX.out (HXR.out _ (qB _ _))) ?_)
          | (with_reducible refine at_load ?_
             refine wp_val (by rfl) (ex_load 320 _ rfl (p := ⟨zp, 0, none⟩) rfl (qV _ _ _ _ (partC (false, false, false, false, true)) _ (HPR.out _ (qB _ _)) Tryz.underlying320 rfl sizePart5)) ?_)
          | (go_at_call 249; refine (absent_any (k, d, r, t, n, q) (false, false, false, false, true) k ws HX.out HPK.out).mono ?_; rintro e u1 ⟨hb1, rfl⟩
             rw [HA.out]
             have p1 := (HPC.out u1 hb1).1
             have p4 := (HPC.out u1 hb1).2
             have x0a := (HXC.out u1 hb1).1
             have x5a := (HXC.out u1 hb1).2.2.2
             have HB1 := Lib.hid hb1
             clear hb1)
          | (go_at_call 173; refine (path_any q u1 HX.out.2.2 (HGS.out.next HB1.out)).mono ?_; rintro e u3 ⟨hb3, rfl⟩
             rw [HPT.out]
             have hb13 := HB1.out.trans (hb3.mono HB1.out.size)
             have HB3 := Lib.hid hb13
             have x0c := (HXC.out u3 hb13).1
             clear hb3 hb13))
        go_ret
        exact ⟨below_g (Nat.le_of_lt HCK.out.lt) (HBS.out.trans (HB3.out.mono HBS.out.size)), by rw [HE.out]; rfl, fun h => by rw [HE.out] at h; cases h⟩
      have HPT := Lib.hid hpt
      clear hpt
      have HE : Hid (opB deps mk (k, d, r, t, n, q) = true) := Lib.hid (by rw [HOB.out, HA.out, HPT.out]; rfl)
      have HMB : Hid (madeB (k, d, r, t, n, q) = [(true, zeroRef)]) := Lib.hid (by unfold madeB; rw [HKD.out]; rfl)
      go_upto_region 6 with (first
        | (with_reducible refine at_load ?_
           refine wp_val (by rfl) (ldO HX.out (HXR.out _ (qB _ _))) ?_)
        | (with_reducible refine at_load ?_
           refine wp_val (by rfl) (ex_load 320 _ rfl (p := ⟨zp, 0, none⟩) rfl (qV _ _ _ _ (partC (false, false, false, false, true)) _ (HPR.out _ (qB _ _)) Tryz.underlying320 rfl sizePart5)) ?_)
        | (go_at_call 249; refine (absent_any (k, d, r, t, n, q) (false, false, false, false, true) k ws HX.out HPK.out).mono ?_; rintro e u1 ⟨hb1, rfl⟩
           rw [HA.out]
           have p1 := (HPC.out u1 hb1).1
           have p4 := (HPC.out u1 hb1).2
           have x0a := (HXC.out u1 hb1).1
           have x5a := (HXC.out u1 hb1).2.2.2
           have HB1 := Lib.hid hb1
           clear hb1)
        | (go_at_call 173; refine (path_any q u1 HX.out.2.2 (HGS.out.next HB1.out)).mono ?_; rintro e u3 ⟨hb3, rfl⟩
           rw [HPT.out]
           have hb13 := HB1.out.trans (hb3.mono HB1.out.size)
           have HB3 := Lib.hid hb13
           have x0c := (HXC.out u3 hb13).1
           clear hb3 hb13))
      have HCK3 := Lib.hid (HCKS.out.keep HB3.out)
      obtain ⟨Ad, cd, vm, h1, h2, h3⟩ := HCK3.out
      have H1 := Lib.hid h1; have H2 := Lib.hid h2; have H3 := Lib.hid h3
      have c1 : u3.cell? ⟨g, 1, none⟩ = some vm := cells_at0 (cs := [.slice Ad deps.length cd, vm]) h1 1
      have HOWM := Lib.hid (fun (u : World) (hu : Below u3.heap.size u3 u) => (But.of_below (X := NoB) hu).own h3 fun _ _ q => q)
      clear h1 h2 h3
      go_wp2_with (first
        | (with_reducible refine at_build ?_
           refine wp_val (by rfl) (ex_build 373 _ rfl (madeDoc_built _)) ?_)
        | (refine wp_buildSlice1 (by rfl) 347 _ rfl 373 Tryz.underlying347 (.agg (madeV (false, zeroRef)).toArray) 34 48 infoMade rfl (by decide) (by decide) (madeV (true, zeroRef)) rfl rfl ?_)
        | (refine wp_appS_w (by rfl) _ _ 347 rfl (g + 1) 373 (.agg (madeV (false, zeroRef)).toArray) 34 48 Tryz.underlying347 infoMade rfl (by decide) vm mk.length (rowsV madeV mk) rfl (HOWM.out _ ((qB _ _).alloc (qR _) _)) ⟨u3.heap.size, 0, none⟩ 1 1 (madeV (true, zeroRef)) rfl rfl (news_cells u3 _ _) (madeV_one _) (by unfold maxLen; omega) (by omega) (by have := HCK3.out.lt; simp; omega) ?_
           intro v9 w9 ho9 hg9 hw9
           obtain ⟨A9, c9, rfl⟩ := own_form' ho9
           obtain ⟨cg, cf, hat, hgo⟩ := CkAt.put (new := [(true, zeroRef)]) H1.out H2.out H3.out ((qB u3.heap.size u3).alloc (qR _) _) (by rw [show rowsV madeV [((true, zeroRef) : MadeD)] = madeV (true, zeroRef) by simp [rowsV]]; exact ho9) hg9 (by simpa using hw9)
           have HAT := Lib.hid hat; have HGO := Lib.hid hgo
           clear ho9 hg9 hw9 hat hgo))
      go_ret
      exact ⟨(below_g (Nat.le_of_lt HCK.out.lt) (HBS.out.trans (HB3.out.mono HBS.out.size))).trans (HGO.out.belowG HCK3.out), by rw [HE.out]; rfl, fun _ => by rw [HMB.out]; exact HAT.out⟩
    by_cases h2 : k = 2
    · have HKD := Lib.hid h2
      have HPK : Hid (partsOf k = some (true, true, false, true, false)) := Lib.hid (by rw [h2]; rfl)
      clear h2 h5 h4 h3
      have HOB : Hid (opB deps mk (k, d, r, t, n, q) = (absentB (k, d, r, t, n, q) (true, true, false, true, false) && docB deps mk d && (decide (1 ≤ n) && decide (n ≤ 4096) && elemsB deps mk r d n))) := Lib.hid (by unfold opB; rw [HPK.out, HKD.out]; simp)
      rw [HPK.out] at HZP
      have hzpl := (qX HZP.out)
      have hzxl : zx < ws.heap.size := qL hx3 HBC.out.size
      have HXR := Lib.hid (fun (u : World) (hu : Below ws.heap.size ws u) => (show u.rangeAt zx 0 (opV (k, d, r, t, n, q)) from fun j v hj => by rw [qZ]; exact ((hu.cell (p := ⟨zx, j, none⟩) hzxl).trans ((HBC.out.cell (p := ⟨zx, j, none⟩) hx3).trans (cells_at0 HY3.out j))).trans hj))
      have HPR := Lib.hid (fun (u : World) (hu : Below ws.heap.size ws u) => (show u.rangeAt zp 0 (partC (true, true, false, true, false)) from fun j v hj => by rw [qZ]; exact ((hu.cell (p := ⟨zp, j, none⟩) hzpl).trans (cells_at0 HZP.out j)).trans hj))
      have HPC := Lib.hid (fun (u : World) (hu : Below ws.heap.size ws u) => (show u.cell? ⟨zp, 0, none⟩ = some (.bool true) ∧ u.cell? ⟨zp, 4, none⟩ = some (.bool false) from ⟨(hu.cell (p := ⟨zp, 0, none⟩) hzpl).trans (cells_at0 HZP.out 0), (hu.cell (p := ⟨zp, 4, none⟩) hzpl).trans (cells_at0 HZP.out 4)⟩))
      have HXC := Lib.hid (fun (u : World) (hu : Below ws.heap.size ws u) => (show u.cell? ⟨zx, 0, none⟩ = some (.int .u8 2) ∧ u.cell? ⟨zx, 67, none⟩ = some (.string t) ∧ u.cell? ⟨zx, 68, none⟩ = some (.int .i64 n) ∧ u.cell? ⟨zx, 69, none⟩ = some (.string q) from
        ⟨by have h : u.cell? ⟨zx, 0 + 0, none⟩ = some (.int .u8 (k.toNat : Int)) := HXR.out u hu 0 _ (op_cells HX.out).1; rw [HKD.out] at h; exact h, by have h := HXR.out u hu 67 _ (op_cells HX.out).2.2.2.1; rw [qZ] at h; exact h, by have h := HXR.out u hu 68 _ (op_cells HX.out).2.2.2.2.1; rw [qZ] at h; exact h, by have h := HXR.out u hu 69 _ (op_cells HX.out).2.2.2.2.2; rw [qZ] at h; exact h⟩))
      have HDR := Lib.hid (fun (u : World) (hu : Below ws.heap.size ws u) => (show u.rangeAt zx 1 (refV d) from fun j v hj => by have h := HXR.out u hu (1 + j) _ ((op_cells HX.out).2.1 j v hj); rw [qZ] at h; exact h))
      have HAR := Lib.hid (fun (u : World) (hu : Below ws.heap.size ws u) => (show u.rangeAt zx 34 (refV r) from fun j v hj => by have h := HXR.out u hu (34 + j) _ ((op_cells HX.out).2.2.1 j v hj); rw [qZ] at h; exact h))
      have dk : (partsM k).isSome = true := by unfold partsM; rw [HPK.out]; rfl
      rcases Bool.eq_false_or_eq_true (absentB (k, d, r, t, n, q) (true, true, false, true, false)) with ha | ha
      rotate_left
      · have HA := Lib.hid ha
        have HE : Hid (opB deps mk (k, d, r, t, n, q) = false) := Lib.hid (by rw [HOB.out, ha]; simp)
        clear ha
        go_wp2_with (first
          | (with_reducible refine at_load ?_
             refine wp_val (by rfl) (ldO HX.out (HXR.out _ (qB _ _))) ?_)
          | (with_reducible refine at_load ?_
             refine wp_val (by rfl) (ex_load 320 _ rfl (p := ⟨zp, 0, none⟩) rfl (qV _ _ _ _ (partC (true, true, false, true, false)) _ (HPR.out _ (qB _ _)) Tryz.underlying320 rfl sizePart5)) ?_)
          | (go_at_call 249; refine (absent_any (k, d, r, t, n, q) (true, true, false, true, false) k ws HX.out HPK.out).mono ?_; rintro e u1 ⟨hb1, rfl⟩
             rw [HA.out]
             have p1 := (HPC.out u1 hb1).1
             have p4 := (HPC.out u1 hb1).2
             have x0a := (HXC.out u1 hb1).1
             have x5a := (HXC.out u1 hb1).2.2.2
             have HB1 := Lib.hid hb1
             clear hb1))
        go_ret
        exact ⟨below_g (Nat.le_of_lt HCK.out.lt) (HBS.out.trans (HB1.out.mono HBS.out.size)), by rw [HE.out]; rfl, fun h => by rw [HE.out] at h; cases h⟩
      have HA := Lib.hid ha
      clear ha
      rcases Bool.eq_false_or_eq_true (docB deps mk d) with hdc | hdc
      rotate_left
      · have HDC := Lib.hid hdc
        have HE : Hid (opB deps mk (k, d, r, t, n, q) = false) := Lib.hid (by rw [HOB.out, hdc]; simp)
        clear hdc
        go_wp2_with (first
          | (with_reducible refine at_load ?_
             refine wp_val (by rfl) (ldO HX.out (HXR.out _ (qB _ _))) ?_)
          | (with_reducible refine at_load ?_
             refine wp_val (by rfl) (ex_load 320 _ rfl (p := ⟨zp, 0, none⟩) rfl (qV _ _ _ _ (partC (true, true, false, true, false)) _ (HPR.out _ (qB _ _)) Tryz.underlying320 rfl sizePart5)) ?_)
          | (go_at_call 249; refine (absent_any (k, d, r, t, n, q) (true, true, false, true, false) k ws HX.out HPK.out).mono ?_; rintro e u1 ⟨hb1, rfl⟩
             rw [HA.out]
             have p1 := (HPC.out u1 hb1).1
             have p4 := (HPC.out u1 hb1).2
             have x0a := (HXC.out u1 hb1).1
             have x5a := (HXC.out u1 hb1).2.2.2
             have HB1 := Lib.hid hb1
             clear hb1)
          | (with_reducible refine at_load ?_
             refine wp_val (by rfl) (ldR HX.out.1.1 (HDR.out _ HB1.out)) ?_)
          | (go_at_call 250; refine (doc_any g deps mk d u1 (HCKS.out.keep HB1.out) HO.out hn (by omega) HM.out HX.out.1.1).mono ?_; rintro e u2 ⟨hb2, rfl⟩
             rw [HDC.out]
             have hb12 := HB1.out.trans (hb2.mono HB1.out.size)
             have p4' := (HPC.out u2 hb12).2
             have x5' := (HXC.out u2 hb12).2.2.2
             have x0b := (HXC.out u2 hb12).1
             have HB2 := Lib.hid hb12
             clear hb2 hb12 p1 p4 x0a x5a))
        go_ret
        exact ⟨below_g (Nat.le_of_lt HCK.out.lt) (HBS.out.trans (HB2.out.mono HBS.out.size)), by rw [HE.out]; rfl, fun h => by rw [HE.out] at h; cases h⟩
      have HDC := Lib.hid hdc
      clear hdc
      have HMB : Hid (madeB (k, d, r, t, n, q) = []) := Lib.hid (by unfold madeB; rw [HKD.out]; rfl)
      by_cases hc1 : 1 ≤ n
      · by_cases hc2 : n ≤ 4096
        · obtain ⟨m, rfl⟩ : ∃ m : Nat, n = (m : Int) := ⟨n.toNat, by omega⟩
          have hm1 : 1 ≤ m := by omega
          have hm2 : m ≤ 4096 := by omega
          have d1 : decide ((1 : Int) ≤ (m : Int)) = true := dT hc1
          have d2 : decide ((m : Int) ≤ 4096) = true := dT hc2
          have d1' : decide (1 ≤ m) = true := dT hm1
          have d2' : decide (m ≤ 4096) = true := dT hm2
          have HE : Hid (opB deps mk (k, d, r, t, (m : Int), q) = elemsB deps mk r d (m : Int)) := Lib.hid (by rw [HOB.out, HA.out, HDC.out, d1, d2]; simp)
          clear hc1 hc2
          go_upto_region 8 with (first
            | (with_reducible refine at_load ?_
               refine wp_val (by rfl) (ldO HX.out (HXR.out _ (qB _ _))) ?_)
            | (with_reducible refine at_load ?_
               refine wp_val (by rfl) (ex_load 320 _ rfl (p := ⟨zp, 0, none⟩) rfl (qV _ _ _ _ (partC (true, true, false, true, false)) _ (HPR.out _ (qB _ _)) Tryz.underlying320 rfl sizePart5)) ?_)
            | (go_at_call 249; refine (absent_any (k, d, r, t, (m : Int), q) (true, true, false, true, false) k ws HX.out HPK.out).mono ?_; rintro e u1 ⟨hb1, rfl⟩
               rw [HA.out]
               have p1 := (HPC.out u1 hb1).1
               have p4 := (HPC.out u1 hb1).2
               have x0a := (HXC.out u1 hb1).1
               have x5a := (HXC.out u1 hb1).2.2.2
               have HB1 := Lib.hid hb1
               clear hb1)
            | (with_reducible refine at_load ?_
               refine wp_val (by rfl) (ldR HX.out.1.1 (HDR.out _ HB1.out)) ?_)
            | (go_at_call 250; refine (doc_any g deps mk d u1 (HCKS.out.keep HB1.out) HO.out hn (by omega) HM.out HX.out.1.1).mono ?_; rintro e u2 ⟨hb2, rfl⟩
               rw [HDC.out]
               have hb12 := HB1.out.trans (hb2.mono HB1.out.size)
               have p4' := (HPC.out u2 hb12).2
               have x5' := (HXC.out u2 hb12).2.2.2
               have x0b := (HXC.out u2 hb12).1
               have x4b := (HXC.out u2 hb12).2.2.1
               have HB2 := Lib.hid hb12
               clear hb2 hb12 p1 p4 x0a x5a))
          go_wp2_with (first
            | (with_reducible refine at_load ?_
               refine wp_val (by rfl) (ldR HX.out.1.2.1 (HAR.out _ HB2.out)) ?_)
            | (with_reducible refine at_load ?_
               refine wp_val (by rfl) (ldR HX.out.1.1 (HDR.out _ HB2.out)) ?_)
            | (go_at_call 251; refine (elements_any g deps mk r d m u2 (HCKS.out.keep HB2.out) HO.out hn (by omega) HM.out HX.out.1.2.1 HX.out.1.1 hm1 hm2).mono ?_; rintro e u4 ⟨hb4, rfl⟩
               have HB4 := Lib.hid (HB2.out.trans (hb4.mono HB2.out.size))
               clear hb4))
          go_ret
          exact ⟨below_g (Nat.le_of_lt HCK.out.lt) (HBS.out.trans (HB4.out.mono HBS.out.size)), by rw [HE.out]; rfl, fun h => by rw [HMB.out, List.append_nil]; exact HCKS.out.keep HB4.out⟩
        · have d1 : decide (1 ≤ n) = true := dT hc1
          have d2 : decide (n ≤ 4096) = false := dF hc2
          have HE : Hid (opB deps mk (k, d, r, t, n, q) = false) := Lib.hid (by rw [HOB.out, HA.out, HDC.out, d1, d2]; rfl)
          clear hc1 hc2
          go_upto_region 8 with (first
            | (with_reducible refine at_load ?_
               refine wp_val (by rfl) (ldO HX.out (HXR.out _ (qB _ _))) ?_)
            | (with_reducible refine at_load ?_
               refine wp_val (by rfl) (ex_load 320 _ rfl (p := ⟨zp, 0, none⟩) rfl (qV _ _ _ _ (partC (true, true, false, true, false)) _ (HPR.out _ (qB _ _)) Tryz.underlying320 rfl sizePart5)) ?_)
            | (go_at_call 249; refine (absent_any (k, d, r, t, n, q) (true, true, false, true, false) k ws HX.out HPK.out).mono ?_; rintro e u1 ⟨hb1, rfl⟩
               rw [HA.out]
               have p1 := (HPC.out u1 hb1).1
               have p4 := (HPC.out u1 hb1).2
               have x0a := (HXC.out u1 hb1).1
               have x5a := (HXC.out u1 hb1).2.2.2
               have HB1 := Lib.hid hb1
               clear hb1)
            | (with_reducible refine at_load ?_
               refine wp_val (by rfl) (ldR HX.out.1.1 (HDR.out _ HB1.out)) ?_)
            | (go_at_call 250; refine (doc_any g deps mk d u1 (HCKS.out.keep HB1.out) HO.out hn (by omega) HM.out HX.out.1.1).mono ?_; rintro e u2 ⟨hb2, rfl⟩
               rw [HDC.out]
               have hb12 := HB1.out.trans (hb2.mono HB1.out.size)
               have p4' := (HPC.out u2 hb12).2
               have x5' := (HXC.out u2 hb12).2.2.2
               have x0b := (HXC.out u2 hb12).1
               have x4b := (HXC.out u2 hb12).2.2.1
               have HB2 := Lib.hid hb12
               clear hb2 hb12 p1 p4 x0a x5a))
          go_wp2_with fail
          go_ret
          exact ⟨below_g (Nat.le_of_lt HCK.out.lt) (HBS.out.trans (HB2.out.mono HBS.out.size)), by rw [HE.out]; rfl, fun h => by rw [HE.out] at h; cases h⟩
      · have d1 : decide (1 ≤ n) = false := dF hc1
        have HE : Hid (opB deps mk (k, d, r, t, n, q) = false) := Lib.hid (by rw [HOB.out, HA.out, HDC.out, d1]; rfl)
        clear hc1
        go_upto_region 8 with (first
          | (with_reducible refine at_load ?_
             refine wp_val (by rfl) (ldO HX.out (HXR.out _ (qB _ _))) ?_)
          | (with_reducible refine at_load ?_
             refine wp_val (by rfl) (ex_load 320 _ rfl (p := ⟨zp, 0, none⟩) rfl (qV _ _ _ _ (partC (true, true, false, true, false)) _ (HPR.out _ (qB _ _)) Tryz.underlying320 rfl sizePart5)) ?_)
          | (go_at_call 249; refine (absent_any (k, d, r, t, n, q) (true, true, false, true, false) k ws HX.out HPK.out).mono ?_; rintro e u1 ⟨hb1, rfl⟩
             rw [HA.out]
             have p1 := (HPC.out u1 hb1).1
             have p4 := (HPC.out u1 hb1).2
             have x0a := (HXC.out u1 hb1).1
             have x5a := (HXC.out u1 hb1).2.2.2
             have HB1 := Lib.hid hb1
             clear hb1)
          | (with_reducible refine at_load ?_
             refine wp_val (by rfl) (ldR HX.out.1.1 (HDR.out _ HB1.out)) ?_)
          | (go_at_call 250; refine (doc_any g deps mk d u1 (HCKS.out.keep HB1.out) HO.out hn (by omega) HM.out HX.out.1.1).mono ?_; rintro e u2 ⟨hb2, rfl⟩
             rw [HDC.out]
             have hb12 := HB1.out.trans (hb2.mono HB1.out.size)
             have p4' := (HPC.out u2 hb12).2
             have x5' := (HXC.out u2 hb12).2.2.2
             have x0b := (HXC.out u2 hb12).1
             have x4b := (HXC.out u2 hb12).2.2.1
             have HB2 := Lib.hid hb12
             clear hb2 hb12 p1 p4 x0a x5a))
        go_wp2_with fail
        go_ret
        exact ⟨below_g (Nat.le_of_lt HCK.out.lt) (HBS.out.trans (HB2.out.mono HBS.out.size)), by rw [HE.out]; rfl, fun h => by rw [HE.out] at h; cases h⟩
    by_cases h1 : k = 1
    · have HKD := Lib.hid h1
      have HPK : Hid (partsOf k = some (true, true, true, false, false)) := Lib.hid (by rw [h1]; rfl)
      clear h1 h5 h4 h3 h2
      have HOB : Hid (opB deps mk (k, d, r, t, n, q) = (absentB (k, d, r, t, n, q) (true, true, true, false, false) && docB deps mk d && ((decide (r = d) || elemsB deps mk r d 1) && !decide (t = noneS) && fileB t))) := Lib.hid (by unfold opB; rw [HPK.out, HKD.out]; simp)
      rw [HPK.out] at HZP
      have hzpl := (qX HZP.out)
      have hzxl : zx < ws.heap.size := qL hx3 HBC.out.size
      have HXR := Lib.hid (fun (u : World) (hu : Below ws.heap.size ws u) => (show u.rangeAt zx 0 (opV (k, d, r, t, n, q)) from fun j v hj => by rw [qZ]; exact ((hu.cell (p := ⟨zx, j, none⟩) hzxl).trans ((HBC.out.cell (p := ⟨zx, j, none⟩) hx3).trans (cells_at0 HY3.out j))).trans hj))
      have HPR := Lib.hid (fun (u : World) (hu : Below ws.heap.size ws u) => (show u.rangeAt zp 0 (partC (true, true, true, false, false)) from fun j v hj => by rw [qZ]; exact ((hu.cell (p := ⟨zp, j, none⟩) hzpl).trans (cells_at0 HZP.out j)).trans hj))
      have HPC := Lib.hid (fun (u : World) (hu : Below ws.heap.size ws u) => (show u.cell? ⟨zp, 0, none⟩ = some (.bool true) ∧ u.cell? ⟨zp, 4, none⟩ = some (.bool false) from ⟨(hu.cell (p := ⟨zp, 0, none⟩) hzpl).trans (cells_at0 HZP.out 0), (hu.cell (p := ⟨zp, 4, none⟩) hzpl).trans (cells_at0 HZP.out 4)⟩))
      have HXC := Lib.hid (fun (u : World) (hu : Below ws.heap.size ws u) => (show u.cell? ⟨zx, 0, none⟩ = some (.int .u8 1) ∧ u.cell? ⟨zx, 67, none⟩ = some (.string t) ∧ u.cell? ⟨zx, 68, none⟩ = some (.int .i64 n) ∧ u.cell? ⟨zx, 69, none⟩ = some (.string q) from
        ⟨by have h : u.cell? ⟨zx, 0 + 0, none⟩ = some (.int .u8 (k.toNat : Int)) := HXR.out u hu 0 _ (op_cells HX.out).1; rw [HKD.out] at h; exact h, by have h := HXR.out u hu 67 _ (op_cells HX.out).2.2.2.1; rw [qZ] at h; exact h, by have h := HXR.out u hu 68 _ (op_cells HX.out).2.2.2.2.1; rw [qZ] at h; exact h, by have h := HXR.out u hu 69 _ (op_cells HX.out).2.2.2.2.2; rw [qZ] at h; exact h⟩))
      have HDR := Lib.hid (fun (u : World) (hu : Below ws.heap.size ws u) => (show u.rangeAt zx 1 (refV d) from fun j v hj => by have h := HXR.out u hu (1 + j) _ ((op_cells HX.out).2.1 j v hj); rw [qZ] at h; exact h))
      have HAR := Lib.hid (fun (u : World) (hu : Below ws.heap.size ws u) => (show u.rangeAt zx 34 (refV r) from fun j v hj => by have h := HXR.out u hu (34 + j) _ ((op_cells HX.out).2.2.1 j v hj); rw [qZ] at h; exact h))
      have dk : (partsM k).isSome = true := by unfold partsM; rw [HPK.out]; rfl
      rcases Bool.eq_false_or_eq_true (absentB (k, d, r, t, n, q) (true, true, true, false, false)) with ha | ha
      rotate_left
      · have HA := Lib.hid ha
        have HE : Hid (opB deps mk (k, d, r, t, n, q) = false) := Lib.hid (by rw [HOB.out, ha]; simp)
        clear ha
        go_wp2_with (first
          | (with_reducible refine at_load ?_
             refine wp_val (by rfl) (ldO HX.out (HXR.out _ (qB _ _))) ?_)
          | (with_reducible refine at_load ?_
             refine wp_val (by rfl) (ex_load 320 _ rfl (p := ⟨zp, 0, none⟩) rfl (qV _ _ _ _ (partC (true, true, true, false, false)) _ (HPR.out _ (qB _ _)) Tryz.underlying320 rfl sizePart5)) ?_)
          | (go_at_call 249; refine (absent_any (k, d, r, t, n, q) (true, true, true, false, false) k ws HX.out HPK.out).mono ?_; rintro e u1 ⟨hb1, rfl⟩
             rw [HA.out]
             have p1 := (HPC.out u1 hb1).1
             have p4 := (HPC.out u1 hb1).2
             have x0a := (HXC.out u1 hb1).1
             have x5a := (HXC.out u1 hb1).2.2.2
             have HB1 := Lib.hid hb1
             clear hb1))
        go_ret
        exact ⟨below_g (Nat.le_of_lt HCK.out.lt) (HBS.out.trans (HB1.out.mono HBS.out.size)), by rw [HE.out]; rfl, fun h => by rw [HE.out] at h; cases h⟩
      have HA := Lib.hid ha
      clear ha
      rcases Bool.eq_false_or_eq_true (docB deps mk d) with hdc | hdc
      rotate_left
      · have HDC := Lib.hid hdc
        have HE : Hid (opB deps mk (k, d, r, t, n, q) = false) := Lib.hid (by rw [HOB.out, hdc]; simp)
        clear hdc
        go_wp2_with (first
          | (with_reducible refine at_load ?_
             refine wp_val (by rfl) (ldO HX.out (HXR.out _ (qB _ _))) ?_)
          | (with_reducible refine at_load ?_
             refine wp_val (by rfl) (ex_load 320 _ rfl (p := ⟨zp, 0, none⟩) rfl (qV _ _ _ _ (partC (true, true, true, false, false)) _ (HPR.out _ (qB _ _)) Tryz.underlying320 rfl sizePart5)) ?_)
          | (go_at_call 249; refine (absent_any (k, d, r, t, n, q) (true, true, true, false, false) k ws HX.out HPK.out).mono ?_; rintro e u1 ⟨hb1, rfl⟩
             rw [HA.out]
             have p1 := (HPC.out u1 hb1).1
             have p4 := (HPC.out u1 hb1).2
             have x0a := (HXC.out u1 hb1).1
             have x5a := (HXC.out u1 hb1).2.2.2
             have HB1 := Lib.hid hb1
             clear hb1)
          | (with_reducible refine at_load ?_
             refine wp_val (by rfl) (ldR HX.out.1.1 (HDR.out _ HB1.out)) ?_)
          | (go_at_call 250; refine (doc_any g deps mk d u1 (HCKS.out.keep HB1.out) HO.out hn (by omega) HM.out HX.out.1.1).mono ?_; rintro e u2 ⟨hb2, rfl⟩
             rw [HDC.out]
             have hb12 := HB1.out.trans (hb2.mono HB1.out.size)
             have p4' := (HPC.out u2 hb12).2
             have x5' := (HXC.out u2 hb12).2.2.2
             have x0b := (HXC.out u2 hb12).1
             have HB2 := Lib.hid hb12
             clear hb2 hb12 p1 p4 x0a x5a))
        go_ret
        exact ⟨below_g (Nat.le_of_lt HCK.out.lt) (HBS.out.trans (HB2.out.mono HBS.out.size)), by rw [HE.out]; rfl, fun h => by rw [HE.out] at h; cases h⟩
      have HDC := Lib.hid hdc
      clear hdc
      have HMB : Hid (madeB (k, d, r, t, n, q) = List.replicate (runesN t) (false, d)) := Lib.hid (by unfold madeB; rw [HKD.out]; rfl)
      obtain ⟨bad, hbad⟩ : ∃ bad : Bool, (!((decide (r = d) || elemsB deps mk r d 1) && !decide (t = noneS) && fileB t)) = bad := ⟨_, rfl⟩
      have HBAD := Lib.hid hbad
      have HE : Hid (opB deps mk (k, d, r, t, n, q) = !bad) := Lib.hid (by rw [HOB.out, HA.out, HDC.out, ← hbad]; simp)
      clear hbad
      go_upto_region 10 with (first
        | (with_reducible refine at_load ?_
           refine wp_val (by rfl) (ldO HX.out (HXR.out _ (qB _ _))) ?_)
        | (with_reducible refine at_load ?_
           refine wp_val (by rfl) (ex_load 320 _ rfl (p := ⟨zp, 0, none⟩) rfl (qV _ _ _ _ (partC (true, true, true, false, false)) _ (HPR.out _ (qB _ _)) Tryz.underlying320 rfl sizePart5)) ?_)
        | (go_at_call 249; refine (absent_any (k, d, r, t, n, q) (true, true, true, false, false) k ws HX.out HPK.out).mono ?_; rintro e u1 ⟨hb1, rfl⟩
           rw [HA.out]
           have p1 := (HPC.out u1 hb1).1
           have p4 := (HPC.out u1 hb1).2
           have x0a := (HXC.out u1 hb1).1
           have x5a := (HXC.out u1 hb1).2.2.2
           have HB1 := Lib.hid hb1
           clear hb1)
        | (with_reducible refine at_load ?_
           refine wp_val (by rfl) (ldR HX.out.1.1 (HDR.out _ HB1.out)) ?_)
        | (go_at_call 250; refine (doc_any g deps mk d u1 (HCKS.out.keep HB1.out) HO.out hn (by omega) HM.out HX.out.1.1).mono ?_; rintro e u2 ⟨hb2, rfl⟩
           rw [HDC.out]
           have hb12 := HB1.out.trans (hb2.mono HB1.out.size)
           have p4' := (HPC.out u2 hb12).2
           have x5' := (HXC.out u2 hb12).2.2.2
           have x0b := (HXC.out u2 hb12).1
           have x3b := (HXC.out u2 hb12).2.1
           have HB2 := Lib.hid hb12
           clear hb2 hb12 p1 p4 x0a x5a))
      go_cut [103] from 79 to 103 (fun t103 wx => t103 = .bool bad ∧ Hid (Below ws.heap.size ws wx))
      case first =>
        by_cases hrd : r = d
        · have EQ := Lib.hid (fun (u : World) => (run_eqRef HX.out.1.2.1 HX.out.1.1 u).trans (by rw [dT hrd]))
          by_cases htx : t = noneS
          · have e3 : t.toList.isEmpty = true := by rw [isEmpty8]; exact dT htx
            have HV : Hid (true = bad) := Lib.hid (by rw [← HBAD.out, dT hrd, dT htx]; rfl)
            clear hrd htx
            go_wp2_with (first
              | (with_reducible refine at_load ?_
                 refine wp_val (by rfl) (ldR HX.out.1.2.1 (HAR.out _ HB2.out)) ?_)
              | (with_reducible refine at_load ?_
                 refine wp_val (by rfl) (ldR HX.out.1.1 (HDR.out _ HB2.out)) ?_)
              | (with_reducible refine at_binOp ?_
                 refine wp_val (by rfl) (ex_neq 110 _ _ _ rfl (xs := (refV r).toArray) (ys := (refV d).toArray) rfl rfl (r := true) eqRef.noGuard (EQ.out _)) ?_; go_frame; try simp only [nTF]))
            go_meet
            case rel => exact ⟨by rw [← HV.out], HB2⟩
          · have e3 : t.toList.isEmpty = false := by rw [isEmpty8]; exact dF htx
            obtain ⟨v, hv⟩ : ∃ v, bytesS t = v := ⟨_, rfl⟩
            have HBY := Lib.hid hv
            rcases Bool.eq_false_or_eq_true (fileB t) with hfb | hfb
            · have HV : Hid (false = bad) := Lib.hid (by rw [← HBAD.out, dT hrd, dF htx, hfb]; rfl)
              obtain rfl : v = 0 := by rw [← hv]; exact bytes0 hfb
              clear hv
              clear hrd htx hfb
              go_wp2_with (first
                | (with_reducible refine at_load ?_
                   refine wp_val (by rfl) (ldR HX.out.1.2.1 (HAR.out _ HB2.out)) ?_)
                | (with_reducible refine at_load ?_
                   refine wp_val (by rfl) (ldR HX.out.1.1 (HDR.out _ HB2.out)) ?_)
                | (with_reducible refine at_binOp ?_
                   refine wp_val (by rfl) (ex_neq 110 _ _ _ rfl (xs := (refV r).toArray) (ys := (refV d).toArray) rfl rfl (r := true) eqRef.noGuard (EQ.out _)) ?_; go_frame; try simp only [nTF])
                | (go_at_call 252; refine (bytes_any t u2 HX.out.2.1).mono ?_; rintro e u5 ⟨rfl, rfl⟩
                   rw [HBY.out]))
              go_meet
              case rel => exact ⟨by rw [← HV.out], HB2⟩
            · have HV : Hid (true = bad) := Lib.hid (by rw [← HBAD.out, dT hrd, dF htx, hfb]; rfl)
              have hv0 : v ≠ 0 := by rw [← hv]; exact bytesN hfb
              have e5 : (v == 0) = false := by rw [beq_eq_false_iff_ne]; exact hv0
              have e6 : (v != 0) = true := by rw [bne_iff_ne]; exact hv0
              clear hv0
              clear hv
              clear hrd htx hfb
              go_wp2_with (first
                | (with_reducible refine at_load ?_
                   refine wp_val (by rfl) (ldR HX.out.1.2.1 (HAR.out _ HB2.out)) ?_)
                | (with_reducible refine at_load ?_
                   refine wp_val (by rfl) (ldR HX.out.1.1 (HDR.out _ HB2.out)) ?_)
                | (with_reducible refine at_binOp ?_
                   refine wp_val (by rfl) (ex_neq 110 _ _ _ rfl (xs := (refV r).toArray) (ys := (refV d).toArray) rfl rfl (r := true) eqRef.noGuard (EQ.out _)) ?_; go_frame; try simp only [nTF])
                | (go_at_call 252; refine (bytes_any t u2 HX.out.2.1).mono ?_; rintro e u5 ⟨rfl, rfl⟩
                   rw [HBY.out]))
              go_meet
              case rel => exact ⟨by rw [← HV.out], HB2⟩
        · have EQ := Lib.hid (fun (u : World) => (run_eqRef HX.out.1.2.1 HX.out.1.1 u).trans (by rw [dF hrd]))
          rcases Bool.eq_false_or_eq_true (elemsB deps mk r d 1) with hel | hel
          · have HEL := Lib.hid hel
            by_cases htx : t = noneS
            · have e3 : t.toList.isEmpty = true := by rw [isEmpty8]; exact dT htx
              have HV : Hid (true = bad) := Lib.hid (by rw [← HBAD.out, dF hrd, hel, dT htx]; rfl)
              clear hrd hel htx
              go_wp2_with (first
                | (with_reducible refine at_load ?_
                   refine wp_val (by rfl) (ldR HX.out.1.2.1 (HAR.out _ HB2.out)) ?_)
                | (with_reducible refine at_load ?_
                   refine wp_val (by rfl) (ldR HX.out.1.1 (HDR.out _ HB2.out)) ?_)
                | (with_reducible refine at_binOp ?_
                   refine wp_val (by rfl) (ex_neq 110 _ _ _ rfl (xs := (refV r).toArray) (ys := (refV d).toArray) rfl rfl (r := false) eqRef.noGuard (EQ.out _)) ?_; go_frame; try simp only [nTF])
                | (go_at_call 251; refine (elements_any g deps mk r d 1 u2 (HCKS.out.keep HB2.out) HO.out hn (by omega) HM.out HX.out.1.2.1 HX.out.1.1 (qR 1) (by omega)).mono ?_; rintro e u4 ⟨hb4, rfl⟩
                   rw [show elemsB deps mk r d ((1 : Nat) : Int) = true from HEL.out]
                   have hb14 := HB2.out.trans (hb4.mono HB2.out.size)
                   have x3d := (HXC.out u4 hb14).2.1
                   have HB4 := Lib.hid hb14
                   clear hb4 hb14))
              go_meet
              case rel => exact ⟨by rw [← HV.out], HB4⟩
            · have e3 : t.toList.isEmpty = false := by rw [isEmpty8]; exact dF htx
              obtain ⟨v, hv⟩ : ∃ v, bytesS t = v := ⟨_, rfl⟩
              have HBY := Lib.hid hv
              rcases Bool.eq_false_or_eq_true (fileB t) with hfb | hfb
              · have HV : Hid (false = bad) := Lib.hid (by rw [← HBAD.out, dF hrd, hel, dF htx, hfb]; rfl)
                obtain rfl : v = 0 := by rw [← hv]; exact bytes0 hfb
                clear hv
                clear hrd hel htx hfb
                go_wp2_with (first
                  | (with_reducible refine at_load ?_
                     refine wp_val (by rfl) (ldR HX.out.1.2.1 (HAR.out _ HB2.out)) ?_)
                  | (with_reducible refine at_load ?_
                     refine wp_val (by rfl) (ldR HX.out.1.1 (HDR.out _ HB2.out)) ?_)
                  | (with_reducible refine at_binOp ?_
                     refine wp_val (by rfl) (ex_neq 110 _ _ _ rfl (xs := (refV r).toArray) (ys := (refV d).toArray) rfl rfl (r := false) eqRef.noGuard (EQ.out _)) ?_; go_frame; try simp only [nTF])
                  | (go_at_call 251; refine (elements_any g deps mk r d 1 u2 (HCKS.out.keep HB2.out) HO.out hn (by omega) HM.out HX.out.1.2.1 HX.out.1.1 (qR 1) (by omega)).mono ?_; rintro e u4 ⟨hb4, rfl⟩
                     rw [show elemsB deps mk r d ((1 : Nat) : Int) = true from HEL.out]
                     have hb14 := HB2.out.trans (hb4.mono HB2.out.size)
                     have x3d := (HXC.out u4 hb14).2.1
                     have HB4 := Lib.hid hb14
                     clear hb4 hb14)
                  | (go_at_call 252; refine (bytes_any t u4 HX.out.2.1).mono ?_; rintro e u5 ⟨rfl, rfl⟩
                     rw [HBY.out]))
                go_meet
                case rel => exact ⟨by rw [← HV.out], HB4⟩
              · have HV : Hid (true = bad) := Lib.hid (by rw [← HBAD.out, dF hrd, hel, dF htx, hfb]; rfl)
                have hv0 : v ≠ 0 := by rw [← hv]; exact bytesN hfb
                have e5 : (v == 0) = false := by rw [beq_eq_false_iff_ne]; exact hv0
                have e6 : (v != 0) = true := by rw [bne_iff_ne]; exact hv0
                clear hv0
                clear hv
                clear hrd hel htx hfb
                go_wp2_with (first
                  | (with_reducible refine at_load ?_
                     refine wp_val (by rfl) (ldR HX.out.1.2.1 (HAR.out _ HB2.out)) ?_)
                  | (with_reducible refine at_load ?_
                     refine wp_val (by rfl) (ldR HX.out.1.1 (HDR.out _ HB2.out)) ?_)
                  | (with_reducible refine at_binOp ?_
                     refine wp_val (by rfl) (ex_neq 110 _ _ _ rfl (xs := (refV r).toArray) (ys := (refV d).toArray) rfl rfl (r := false) eqRef.noGuard (EQ.out _)) ?_; go_frame; try simp only [nTF])
                  | (go_at_call 251; refine (elements_any g deps mk r d 1 u2 (HCKS.out.keep HB2.out) HO.out hn (by omega) HM.out HX.out.1.2.1 HX.out.1.1 (qR 1) (by omega)).mono ?_; rintro e u4 ⟨hb4, rfl⟩
                     rw [show elemsB deps mk r d ((1 : Nat) : Int) = true from HEL.out]
                     have hb14 := HB2.out.trans (hb4.mono HB2.out.size)
                     have x3d := (HXC.out u4 hb14).2.1
                     have HB4 := Lib.hid hb14
                     clear hb4 hb14)
                  | (go_at_call 252; refine (bytes_any t u4 HX.out.2.1).mono ?_; rintro e u5 ⟨rfl, rfl⟩
                     rw [HBY.out]))
                go_meet
                case rel => exact ⟨by rw [← HV.out], HB4⟩
          · have HEL := Lib.hid hel
            have HV : Hid (true = bad) := Lib.hid (by rw [← HBAD.out, dF hrd, hel]; rfl)
            clear hrd hel
            go_wp2_with (first
              | (with_reducible refine at_load ?_
                 refine wp_val (by rfl) (ldR HX.out.1.2.1 (HAR.out _ HB2.out)) ?_)
              | (with_reducible refine at_load ?_
                 refine wp_val (by rfl) (ldR HX.out.1.1 (HDR.out _ HB2.out)) ?_)
              | (with_reducible refine at_binOp ?_
                 refine wp_val (by rfl) (ex_neq 110 _ _ _ rfl (xs := (refV r).toArray) (ys := (refV d).toArray) rfl rfl (r := false) eqRef.noGuard (EQ.out _)) ?_; go_frame; try simp only [nTF])
              | (go_at_call 251; refine (elements_any g deps mk r d 1 u2 (HCKS.out.keep HB2.out) HO.out hn (by omega) HM.out HX.out.1.2.1 HX.out.1.1 (qR 1) (by omega)).mono ?_; rintro e u4 ⟨hb4, rfl⟩
                 rw [show elemsB deps mk r d ((1 : Nat) : Int) = false from HEL.out]
                 have hb14 := HB2.out.trans (hb4.mono HB2.out.size)
                 have x3d := (HXC.out u4 hb14).2.1
                 have HB4 := Lib.hid hb14
                 clear hb4 hb14))
            go_meet
            case rel => exact ⟨by rw [← HV.out], HB4⟩
      case rest =>
        obtain ⟨rfl, HBY2⟩ := hcut
        obtain ⟨wy, hwy⟩ : ∃ u : World, u = wc := ⟨_, rfl⟩
        subst hwy
        cases bad
        · have HFB : Hid (fileB t = true) := Lib.hid (by have h := HBAD.out; revert h; cases fileB t <;> simp)
          have x3y : wy.cell? ⟨zx, 67, none⟩ = some (.string t) := (HXC.out wy HBY2.out).2.1
          have hf4 := fileB_size HFB.out
          have hok0 : okFrom t 0 := fileB_ok HFB.out
          have HOK0 := Lib.hid hok0
          have hgz : g < wy.heap.size := qL HCKS.out.lt HBY2.out.size
          have hzy : zx < wy.heap.size := qL hzxl HBY2.out.size
          have HCKY := Lib.hid (HCKS.out.keep HBY2.out)
          have HBW := Lib.hid (HBS.out.trans (HBY2.out.mono HBS.out.size))
          have HBG0 := Lib.hid (below_g (Nat.le_of_lt HCK.out.lt) HBW.out)
          obtain ⟨zi, hzi⟩ : ∃ zi, wy.heap.size = zi := ⟨_, rfl⟩
          have HZI := Lib.hid hzi
          clear hok0 hzi
          go_upto_region 13 with fail
          go_loopw [] (fun wr => ∃ pos i : Nat, pos ≤ t.size ∧ Hid (InsJ g deps mk d t zx zi pos i wr) ∧ Hid (okFrom t pos) ∧ i + runesFrom t pos = runesN t ∧ Hid (Below g w wr)) (fun wr => t.size - wr.iterPos zi)
          case atStart =>
            have hb0 : Below wy.heap.size wy (wy.alloc (.stringIter t 0)) := (qB _ _).alloc (qR _) _
            have hb1 := HBW.out.trans (hb0.mono HBW.out.size)
            refine ⟨0, 0, by omega, Lib.hid ⟨?_, by rw [← HZI.out]; simpa using World.iter_heap wy t 0, by rw [← HZI.out]; exact hgz, qL hzy hb0.size, HCK.out.newNot hb1 hwx, HCK.out.newNot hb1 (by rw [← HZI.out]; exact HBW.out.size), HDR.out _ (HBY2.out.trans (hb0.mono HBY2.out.size)), by rw [← HZI.out]; omega⟩, HOK0, by rw [runesFrom_zero]; omega, Lib.hid (below_g (Nat.le_of_lt HCK.out.lt) hb1)⟩
            rw [List.replicate_zero, List.append_nil]
            exact HCKY.out.keep hb0
          case round =>
            obtain ⟨pos, i, hpos, HJ, HOK, hcnt, HBG⟩ := hrel
            have hrn := runesN_le t
            have hlow := HJ.out.low
            by_cases hlt : pos < t.size
            · have hnx : ∀ ty, (Instr.next (.pointer (some ⟨wy.heap.size, 0, none⟩)) true ty).run Tryz.prog wr = _ := fun ty => (congrArg (fun z => (Instr.next (.pointer (some ⟨z, 0, none⟩)) true ty).run Tryz.prog wr) HZI.out).trans (Lib.run_next_any_at wr zi t pos ty HJ.out.it hlt)
              have hin := dec_in hlt
              obtain ⟨ho, hnk⟩ := HOK.out.at_ hlt
              have hcn := runesFrom_next hlt ho hnk
              have HOK2 := Lib.hid hnk
              have HJ2 := Lib.hid (HJ.out.iter (pos + (Utf8.decode t pos).2))
              have HBG2 := Lib.hid (Lib.below_iterAt HBG.out (Nat.le_of_lt hlow) t (pos + (Utf8.decode t pos).2))
              clear ho hnk hlow
              generalize hW2 : wr.iterAt zi t (pos + (Utf8.decode t pos).2) = W2 at *
              clear hW2
              obtain ⟨Ad, cd, vm, h1, h2, h3⟩ := HJ2.out.ck
              have H1 := Lib.hid h1; have H2 := Lib.hid h2; have H3 := Lib.hid h3
              have HFK := Lib.hid (fun (u : World) (hu : Below W2.heap.size W2 u) => (show u.cell? ⟨g, 1, none⟩ = some vm ∧ u.rangeAt zx 1 (refV d) from
                ⟨(hu.cell (p := ⟨g, 1, none⟩) HJ2.out.ck.lt).trans (cells_at0 (cs := [.slice Ad deps.length cd, vm]) H1.out 1), fun j v hj => (hu.cell (p := ⟨zx, 1 + j, none⟩) HJ2.out.lx).trans (HJ2.out.doc j v hj)⟩))
              have HOWM := Lib.hid (fun (u : World) (hu : Below W2.heap.size W2 u) => (But.of_below (X := NoB) hu).own H3.out fun _ _ q => q)
              have HLT := Lib.hid (show g + 1 ≤ W2.heap.size from HJ2.out.ck.lt)
              have hml : (mk ++ List.replicate i ((false, d) : MadeD)).length ≤ 1000004096 := by rw [List.length_append, List.length_replicate]; omega
              clear h1 h2 h3
              go_upto_region 14 with fail
              refine rN 10 (fun u => u.cell? ⟨g, 1, none⟩ = some vm ∧ u.rangeAt zx 1 (refV d)) (HFK.out _ (qD W2.heap.size W2)) fun hF0 => ?_
              refine tw 0 (.pointer (some ⟨g, 0, none⟩)) ?_
              go_frame
              refine tw 1 (.pointer (some ⟨g, 0, none⟩)) ?_
              go_frame
              refine tw 2 (.pointer (some ⟨g, 0, none⟩)) ?_
              go_frame
              refine tw 3 (.pointer (some ⟨g, 1, none⟩)) ?_
              go_frame
              refine tl 4 (vm) rfl hF0 (fun w' hw' => l1 Tryz.underlying347 hw'.1) ?_
              go_frame
              refine tw 5 (.pointer (some ⟨zx, 1, none⟩)) ?_
              go_frame
              refine tl 6 (.agg (refV d).toArray) rfl hF0 (fun w' hw' => ldR HX.out.1.1 hw'.2) ?_
              go_frame
              refine tk 7 (.agg (madeV (false, d)).toArray) rfl (fun w' hw' => ex_build 373 #[(1, .tmp 115)] rfl (by simp only [List.map_toArray, List.map_cons, List.map_nil]; exact made_built (d := d) HX.out.1.1 _)) ?_
              go_frame
              refine ta 8 ?_
              refine wpOp_val _ rfl (by kernel_rfl) (ex_buildR 347 _ rfl 373 Tryz.underlying347 (.agg (madeV (false, zeroRef)).toArray) 34 48 infoMade rfl (by decide) (by decide) (madeV (false, d)) (madeV_length (m := (false, d)) HX.out.1.1) rfl) ?_
              have hba : Below W2.heap.size W2 (W2.drew.alloc (.cells (madeV (false, d)).toArray 373)) := (qD W2.heap.size W2).alloc (qR _) _
              have HF2 := HFK.out _ hba
              refine ⟨fun _ _ => HF2, ?_⟩
              go_frame
              refine ta 9 ?_
              refine wpOp_wp _ rfl (by kernel_rfl) ?_
              refine op_appW _ _ 347 rfl (g + 1) 373 (.agg (madeV (false, zeroRef)).toArray) 34 48 Tryz.underlying347 infoMade rfl (by decide) vm (mk ++ List.replicate i (false, d)).length (rowsV madeV (mk ++ List.replicate i (false, d))) rfl (HOWM.out _ hba) ⟨W2.drew.heap.size, 0, none⟩ 1 1 (madeV (false, d)) rfl (by rw [madeV_length (m := (false, d)) HX.out.1.1]) (news_cells W2.drew (madeV (false, d)) 373) (madeV_one (false, d)) (by unfold maxLen; omega) (by omega) (qT HLT.out hba.size) ?_
              intro v9 w9 ho9 hg9 hw9
              obtain ⟨A9, c9, rfl⟩ := own_form' ho9
              obtain ⟨hF9, hf9, hj9, hgo9⟩ := HJ2.out.put H1.out H2.out H3.out hba ho9 hg9 hw9
              have hc9 := hF9.1
              refine ⟨fun _ _ => hF9, ?_⟩
              go_frame
              refine tw 10 (.pointer (some ⟨g, 0, none⟩)) ?_
              go_frame
              refine tw 11 (.pointer (some ⟨g, 1, none⟩)) ?_
              go_frame
              refine ta 12 ?_
              refine wpOp_skip _ rfl (by kernel_rfl) (ex_store1 347 _ _ rfl g 1 (.slice A9 ((mk ++ List.replicate i (false, d)).length + 1) c9) rfl rfl rfl rfl (by kernel_rfl) hc9 hf9) ?_
              refine ⟨fun h => absurd h (by decide), ?_⟩
              go_frame
              refine wpAnyN_done (by kernel_rfl) ?_ _
              have HJ9 := Lib.hid hj9
              have HB9 := Lib.hid (HBG2.out.trans (hgo9.belowG HJ2.out.ck))
              clear hj9 hgo9 hF9 hc9 hf9 ho9 hg9 hw9 hba HF2 hF0
              go_wp2_with fail
              go_roundw
              case rel => exact ⟨pos + (Utf8.decode t pos).2, i + 1, by omega, HJ9, HOK2, by omega, HB9⟩
              case measure =>
                simp only [World.iterPos, HJ9.out.it, HJ.out.it]
                omega
            · have hnx : ∀ ty, (Instr.next (.pointer (some ⟨wy.heap.size, 0, none⟩)) true ty).run Tryz.prog wr = _ := fun ty => (congrArg (fun z => (Instr.next (.pointer (some ⟨z, 0, none⟩)) true ty).run Tryz.prog wr) HZI.out).trans (Lib.run_next_end_at wr zi t pos ty HJ.out.it hlt)
              have hi : i = runesN t := by rw [runesFrom_end (by omega)] at hcnt; omega
              have HI := Lib.hid hi
              clear hi hcnt
              go_wp2_with fail
              go_ret
              exact ⟨HBG.out, by rw [HE.out]; rfl, fun _ => by rw [HMB.out, ← HI.out]; exact HJ.out.ck⟩
        · go_wp2_with fail
          go_ret
          exact ⟨below_g (Nat.le_of_lt HCK.out.lt) (HBS.out.trans (HBY2.out.mono HBS.out.size)), by rw [HE.out]; rfl, fun h => by rw [HE.out] at h; cases h⟩
    have HPK : Hid (partsOf k = none) := Lib.hid (by unfold partsOf; rw [if_neg h1, if_neg h2, if_neg h3, if_neg h4, if_neg h5])
    have HE : Hid (opB deps mk (k, d, r, t, n, q) = false) := Lib.hid (by unfold opB; simp only [HPK.out])
    clear h1 h2 h3 h4 h5
    have dk : (partsM k).isSome = false := by unfold partsM; rw [HPK.out]; rfl
    go_wp2_with fail
    go_ret
    exact ⟨below_g (Nat.le_of_lt HCK.out.lt) HBS.out, by rw [HE.out]; rfl, fun h => by rw [HE.out] at h; cases h⟩

theorem ckop_any (g : Nat) (deps : List (List UInt8)) (mk : List MadeD) (x : OpD) (w : World) (hk : CkAt w g deps mk) (ho : IdsOk deps) (hn : deps.length ≤ 1099511627776) (hmn : mk.length ≤ 1000000000) (hm : ∀ m ∈ mk, MadeOk m) (hx : OpIn x) (hg : Glob w) :
    Calls Tryz.prog 227 #[.pointer (some ⟨g, 0, none⟩), .agg (opV x).toArray] w (CkGives g deps mk x w) := by
  obtain ⟨k, d, r, t, n, q⟩ := x
  exact ckop_all g deps mk k d r t n q w hk ho hn hmn hm hx hg
end Go.Proofs.YtdgbjhfkmembdaaGreatDoor
