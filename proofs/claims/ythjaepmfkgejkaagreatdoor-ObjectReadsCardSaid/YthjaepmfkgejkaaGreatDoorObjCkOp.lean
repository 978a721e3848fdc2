/-
  What the checker's op gives of operations that make nothing. Conditions: as each says.
-/
import Derived.Test.YthjaepmfkgejkaaGreatDoorObjElems
import Derived.Test.YthjaepmfkgejkaaGreatDoorObjAbsent
import Derived.Test.YthjaepmfkgejkaaGreatDoorPathNames
import Derived.Test.YthjaepmfkgejkaaGreatDoorRunes
namespace Go.Proofs.YthjaepmfkgejkaaGreatDoor
open Go.RowKit Go.Maps
set_option linter.unusedVariables false
set_option linter.unusedSimpArgs false

/-- What the checker's op gives: may it be; what was made then. -/
def CkGives (g : Nat) (deps : List (List UInt8)) (mk : List MadeD) (x : OpD) (w : World) (e : Ending) (w' : World) : Prop :=
  Below g w w' ∧ e = .returned (.bool (opB deps mk x)) ∧ (opB deps mk x = true → CkAt w' g deps (mk ++ madeB x))
theorem below_g {w w' : World} {g : Nat} (hg : g ≤ w.heap.size) (h : Below w.heap.size w w') : Below g w w' := h.mono hg
set_option maxHeartbeats 4000000 in
set_option maxRecDepth 100000 in
theorem ckop_none (g : Nat) (deps : List (List UInt8)) (mk : List MadeD) (k : UInt8) (d r : RefD) (t : ByteArray) (n : Int) (q : ByteArray) (w : World) (hk : CkAt w g deps mk) (hx : OpIn (k, d, r, t, n, q)) (hg : Glob w) (hp : partsOf k = none) :
    Calls Tryz.prog 76 #[.pointer (some ⟨g, 0, none⟩), .agg (opV (k, d, r, t, n, q)).toArray] w (CkGives g deps mk (k, d, r, t, n, q) w) := by
  have HCK := Lib.hid hk; have HX := Lib.hid hx; have HG := Lib.hid hg; have HPK := Lib.hid hp
  have HE : Hid (opB deps mk (k, d, r, t, n, q) = false) := Lib.hid (by unfold opB; simp only [hp])
  clear hk hx hg hp
  go_enter Tryz.func76, Tryz.ntmps76
  go_upto_region 1 with (first
    | (with_reducible refine at_box ?_
       refine wp_boxM (by rfl) 70 _ rfl (opV (k, d, r, t, n, q)) _ rfl rfl (by rw [opV_length HX.out]; exact sizeOp70) ?_
       intro W3 hb0 hy0 hs0
       have HBW3 := Lib.hid hb0; have HY3 := Lib.hid hy0
       clear hb0 hy0 hs0
       simp only [Act.put, List.setIfInBounds_toArray, List.set_cons_zero, List.set_cons_succ]))
  have hx3 : w.heap.size < W3.heap.size := (Array.getElem?_eq_some_iff.1 HY3.out).1
  obtain ⟨zx, hzx⟩ : ∃ zx, w.heap.size = zx := ⟨_, rfl⟩
  rw [hzx] at HY3 hx3 ⊢
  have hgx : g < zx := by rw [← hzx]; exact HCK.out.lt
  have hwx : w.heap.size ≤ zx := by omega
  clear hzx
  have HFK := Lib.hid (fun (u : World) (hu : Below W3.heap.size W3 u) => (show u.cell? ⟨zx, 0, none⟩ = some (.int .u8 (k.toNat : Int)) from (hu.cell (p := ⟨zx, 0, none⟩) hx3).trans (cells_at0 HY3.out 0)))
  have HBD := Lib.hid (show Below W3.heap.size W3 W3.drew from (Below.refl _ _).drew)
  have HPM : Hid ((partsM k).getD (partV noPart) = (partV ((partsOf k).getD noPart))) := Lib.hid (by unfold partsM; cases partsOf k <;> rfl)
  have hE1 : ∀ (u : World) (args : Array Value), (callFunc 69 args).run Tryz.prog u = .ok (.enter 69 args) u := fun u args => enters_of Tryz.func69 (by kernel_rfl) rfl args u
  go_cut [5, 6] from 7 to 13 (fun t5 t6 wx => ∃ zp, t5 = .pointer (some ⟨zp, 0, none⟩) ∧ t6 = .bool (partsM k).isSome ∧ W3.heap.size ≤ zp ∧ Hid (Below W3.heap.size W3 wx) ∧ Hid (wx.heap[zp]? = some (.cells (partC ((partsOf k).getD noPart)).toArray 117 (0, 0))))
  case first =>
    refine wp_region_N 8 (fun u => u.cell? ⟨zx, 0, none⟩ = some (.int .u8 (k.toNat : Int))) (by kernel_rfl) ?_
    have hF0 : (fun u => u.cell? ⟨zx, 0, none⟩ = some (.int .u8 (k.toNat : Int))) W3.drew := HFK.out _ HBD.out
    refine tw 1 (.pointer (some ⟨zx, 0, none⟩)) ?_
    go_frame
    refine tkF 2 (.int .u8 (k.toNat : Int)) (by kernel_rfl) rfl (fun _ _ _ h => h) (by rfl) hF0 (fun w' hw' => ex_load1 5 _ rfl (p := ⟨zx, 0, none⟩) rfl Tryz.underlying5 rfl hw') ?_
    go_frame
    refine wpAnyN_all (rs := [0, 7]) (by kernel_rfl) (by simp) ?_
    intro q' hq'
    simp only [List.mem_cons, List.not_mem_nil, or_false] at hq'
    rcases hq' with rfl | rfl
    · refine wpOp_call _ rfl (by kernel_rfl) (ex_callFn (f := 69) (args := #[]) rfl rfl (fun args w => hE1 w args) (by simp)) ?_
      refine (parts_any (W3.drew)).mono ?_
      rintro e v1 ⟨hb1, v, rfl, ⟨mg, mn, rfl, hmv1⟩, -⟩
      have hbv1 : Below W3.heap.size W3 v1 := (HBD.out).trans (hb1.mono (HBD.out).size)
      refine ⟨_, rfl, fun _ _ => HFK.out _ hbv1, ?_⟩
      go_frame
      refine wpAnyN_all (rs := [3, 7]) (by kernel_rfl) (by simp) ?_
      intro q' hq'
      simp only [List.mem_cons, List.not_mem_nil, or_false] at hq'
      rcases hq' with rfl | rfl
      focus
        refine wpOp_val _ rfl (by kernel_rfl) (ex_lookup2 114 _ _ rfl (vm := .map (some mg)) (vk := u8K k) rfl rfl (MapV.look2 u8Enc Tryz.underlying114 (fun u => partZero u) hmv1 (k0 := k) trivial)) ?_
        rw [HPM.out]
        refine ⟨fun _ h => h, ?_⟩
        go_frame
        refine tw 4 (.tuple #[(partV ((partsOf k).getD noPart)), .bool (partsM k).isSome]) ?_
        go_frame
        refine tw 5 (partV ((partsOf k).getD noPart)) ?_
        go_frame
        refine tw 6 (.bool (partsM k).isSome) ?_
        go_frame
        refine ta 7 ?_
        refine wpOp_allocM _ rfl (by kernel_rfl) 117 rfl (partC noPart) (partZ_run _) ?_
        intro va hba0 hzc hsa
        have hba : Below W3.heap.size W3 va := (hbv1).trans (hba0.mono (hbv1).size)
        have hzw : W3.heap.size ≤ (v1).heap.size := (hbv1).size
        have hzl : (v1).heap.size < va.heap.size := by omega
        have hma := hmv1.below hba0
        refine ⟨fun _ _ => HFK.out _ hba, ?_⟩
      rotate_left
      focus
        refine wpOp_allocM _ rfl (by kernel_rfl) 117 rfl (partC noPart) (partZ_run _) ?_
        intro va hba0 hzc hsa
        have hba : Below W3.heap.size W3 va := (hbv1).trans (hba0.mono (hbv1).size)
        have hzw : W3.heap.size ≤ (v1).heap.size := (hbv1).size
        have hzl : (v1).heap.size < va.heap.size := by omega
        have hma := hmv1.below hba0
        refine ⟨fun _ _ => HFK.out _ hba, ?_⟩
        go_frame
        refine ta 3 ?_
        refine wpOp_val _ rfl (by kernel_rfl) (ex_lookup2 114 _ _ rfl (vm := .map (some mg)) (vk := u8K k) rfl rfl (MapV.look2 u8Enc Tryz.underlying114 (fun u => partZero u) hma (k0 := k) trivial)) ?_
        rw [HPM.out]
        refine ⟨fun _ h => h, ?_⟩
        go_frame
        refine tw 4 (.tuple #[(partV ((partsOf k).getD noPart)), .bool (partsM k).isSome]) ?_
        go_frame
        refine tw 5 (partV ((partsOf k).getD noPart)) ?_
        go_frame
        refine tw 6 (.bool (partsM k).isSome) ?_
      all_goals
        go_frame
        refine ta 8 ?_
        refine wpOp_storeM _ rfl (by kernel_rfl) 117 _ _ rfl ((v1).heap.size) 0 [] (partC noPart) [] (partC ((partsOf k).getD noPart)) 117 (partV ((partsOf k).getD noPart)) rfl rfl rfl rfl (by simpa using hzc) rfl (by kernel_rfl) (by intro u hu; simp only [partC, List.mem_cons, List.not_mem_nil, or_false] at hu; rcases hu with rfl | rfl | rfl | rfl | rfl <;> rfl) ?_
        intro vs hbw hzz hss
        have hbz : Below W3.heap.size W3 vs := (hba).trans (hbw.below (hba).size (fun k hk => by omega))
        have hz7 : W3.heap.size ≤ (v1).heap.size := hzw
        refine ⟨fun h => absurd h (by decide), ?_⟩
        go_frame
        refine tw 9 (.bool (partsM k).isSome) ?_
        go_frame
        refine wpAnyN_done (by kernel_rfl) ?_ _
        go_wp2_with fail
        go_meet
        case rel => exact ⟨(v1).heap.size, rfl, rfl, hz7, Lib.hid hbz, Lib.hid (by simpa using hzz)⟩
    · refine wpOp_allocM _ rfl (by kernel_rfl) 117 rfl (partC noPart) (partZ_run _) ?_
      intro va hba0 hzc hsa
      have hba : Below W3.heap.size W3 va := (HBD.out).trans (hba0.mono (HBD.out).size)
      have hzw : W3.heap.size ≤ (W3.drew).heap.size := (HBD.out).size
      have hzl : (W3.drew).heap.size < va.heap.size := by omega
      refine ⟨fun _ _ => HFK.out _ hba, ?_⟩
      go_frame
      refine ta 0 ?_
      refine wpOp_call _ rfl (by kernel_rfl) (ex_callFn (f := 69) (args := #[]) rfl rfl (fun args w => hE1 w args) (by simp)) ?_
      refine (parts_any (va)).mono ?_
      rintro e v1 ⟨hb1, v, rfl, ⟨mg, mn, rfl, hmv1⟩, -⟩
      have hbv1 : Below W3.heap.size W3 v1 := (hba).trans (hb1.mono (hba).size)
      have hzv := (hb1.block _ (Array.getElem?_eq_some_iff.1 hzc).1).trans hzc
      refine ⟨_, rfl, fun _ _ => HFK.out _ hbv1, ?_⟩
      go_frame
      refine ta 3 ?_
      refine wpOp_val _ rfl (by kernel_rfl) (ex_lookup2 114 _ _ rfl (vm := .map (some mg)) (vk := u8K k) rfl rfl (MapV.look2 u8Enc Tryz.underlying114 (fun u => partZero u) hmv1 (k0 := k) trivial)) ?_
      rw [HPM.out]
      refine ⟨fun _ h => h, ?_⟩
      go_frame
      refine tw 4 (.tuple #[(partV ((partsOf k).getD noPart)), .bool (partsM k).isSome]) ?_
      go_frame
      refine tw 5 (partV ((partsOf k).getD noPart)) ?_
      go_frame
      refine tw 6 (.bool (partsM k).isSome) ?_
      go_frame
      refine ta 8 ?_
      refine wpOp_storeM _ rfl (by kernel_rfl) 117 _ _ rfl ((W3.drew).heap.size) 0 [] (partC noPart) [] (partC ((partsOf k).getD noPart)) 117 (partV ((partsOf k).getD noPart)) rfl rfl rfl rfl (by simpa using hzv) rfl (by kernel_rfl) (by intro u hu; simp only [partC, List.mem_cons, List.not_mem_nil, or_false] at hu; rcases hu with rfl | rfl | rfl | rfl | rfl <;> rfl) ?_
      intro vs hbw hzz hss
      have hbz : Below W3.heap.size W3 vs := (hbv1).trans (hbw.below (hbv1).size (fun k hk => by omega))
      have hz7 : W3.heap.size ≤ (W3.drew).heap.size := hzw
      refine ⟨fun h => absurd h (by decide), ?_⟩
      go_frame
      refine tw 9 (.bool (partsM k).isSome) ?_
      go_frame
      refine wpAnyN_done (by kernel_rfl) ?_ _
      go_wp2_with fail
      go_meet
      case rel => exact ⟨(W3.drew).heap.size, rfl, rfl, hz7, Lib.hid hbz, Lib.hid (by simpa using hzz)⟩
  case rest =>
    obtain ⟨zp, rfl, rfl, hzp, HBC, HZP⟩ := hcut
    obtain ⟨ws, hws⟩ : ∃ u : World, u = wc := ⟨_, rfl⟩
    subst hws
    have HBS : Hid (Below w.heap.size w ws) := Lib.hid (HBW3.out.trans (HBC.out.mono HBW3.out.size))
    have HCKS := Lib.hid (HCK.out.keep HBS.out)
    have HGS := Lib.hid (HG.out.next HBS.out)
    clear HFK HBD HPM hE1
    have dk : (partsM k).isSome = false := by unfold partsM; rw [HPK.out]; rfl
    go_wp2_with fail
    go_ret
    exact ⟨below_g (Nat.le_of_lt HCK.out.lt) HBS.out, by rw [HE.out]; rfl, fun h => by rw [HE.out] at h; cases h⟩
set_option maxHeartbeats 4000000 in
set_option maxRecDepth 100000 in
theorem ckop_5 (g : Nat) (deps : List (List UInt8)) (mk : List MadeD) (k : UInt8) (d r : RefD) (t : ByteArray) (n : Int) (q : ByteArray) (w : World) (hk : CkAt w g deps mk) (ho : IdsOk deps) (hn : deps.length ≤ 1099511627776) (hmn : mk.length ≤ 1000000000) (hm : ∀ m ∈ mk, MadeOk m) (hx : OpIn (k, d, r, t, n, q)) (hg : Glob w) (hkd : k = 5) :
    Calls Tryz.prog 76 #[.pointer (some ⟨g, 0, none⟩), .agg (opV (k, d, r, t, n, q)).toArray] w (CkGives g deps mk (k, d, r, t, n, q) w) := by
  have HCK := Lib.hid hk; have HO := Lib.hid ho; have HM := Lib.hid hm; have HX := Lib.hid hx; have HG := Lib.hid hg
  have HKD := Lib.hid hkd
  have HPK : Hid (partsOf k = some (true, false, false, false, false)) := Lib.hid (by rw [hkd]; rfl)
  clear hk ho hm hx hg hkd
  have HOB : Hid (opB deps mk (k, d, r, t, n, q) = (absentB (k, d, r, t, n, q) (true, false, false, false, false) && docB deps mk d)) := Lib.hid (by unfold opB; rw [HPK.out, HKD.out]; simp)
  go_enter Tryz.func76, Tryz.ntmps76
  go_upto_region 1 with (first
    | (with_reducible refine at_box ?_
       refine wp_boxM (by rfl) 70 _ rfl (opV (k, d, r, t, n, q)) _ rfl rfl (by rw [opV_length HX.out]; exact sizeOp70) ?_
       intro W3 hb0 hy0 hs0
       have HBW3 := Lib.hid hb0; have HY3 := Lib.hid hy0
       clear hb0 hy0 hs0
       simp only [Act.put, List.setIfInBounds_toArray, List.set_cons_zero, List.set_cons_succ]))
  have hx3 : w.heap.size < W3.heap.size := (Array.getElem?_eq_some_iff.1 HY3.out).1
  obtain ⟨zx, hzx⟩ : ∃ zx, w.heap.size = zx := ⟨_, rfl⟩
  rw [hzx] at HY3 hx3 ⊢
  have hgx : g < zx := by rw [← hzx]; exact HCK.out.lt
  have hwx : w.heap.size ≤ zx := by omega
  clear hzx
  have HFK := Lib.hid (fun (u : World) (hu : Below W3.heap.size W3 u) => (show u.cell? ⟨zx, 0, none⟩ = some (.int .u8 (k.toNat : Int)) from (hu.cell (p := ⟨zx, 0, none⟩) hx3).trans (cells_at0 HY3.out 0)))
  have HBD := Lib.hid (show Below W3.heap.size W3 W3.drew from (Below.refl _ _).drew)
  have HPM : Hid ((partsM k).getD (partV noPart) = (partV ((partsOf k).getD noPart))) := Lib.hid (by unfold partsM; cases partsOf k <;> rfl)
  have hE1 : ∀ (u : World) (args : Array Value), (callFunc 69 args).run Tryz.prog u = .ok (.enter 69 args) u := fun u args => enters_of Tryz.func69 (by kernel_rfl) rfl args u
  go_cut [5, 6] from 7 to 13 (fun t5 t6 wx => ∃ zp, t5 = .pointer (some ⟨zp, 0, none⟩) ∧ t6 = .bool (partsM k).isSome ∧ W3.heap.size ≤ zp ∧ Hid (Below W3.heap.size W3 wx) ∧ Hid (wx.heap[zp]? = some (.cells (partC ((partsOf k).getD noPart)).toArray 117 (0, 0))))
  case first =>
    refine wp_region_N 8 (fun u => u.cell? ⟨zx, 0, none⟩ = some (.int .u8 (k.toNat : Int))) (by kernel_rfl) ?_
    have hF0 : (fun u => u.cell? ⟨zx, 0, none⟩ = some (.int .u8 (k.toNat : Int))) W3.drew := HFK.out _ HBD.out
    refine tw 1 (.pointer (some ⟨zx, 0, none⟩)) ?_
    go_frame
    refine tkF 2 (.int .u8 (k.toNat : Int)) (by kernel_rfl) rfl (fun _ _ _ h => h) (by rfl) hF0 (fun w' hw' => ex_load1 5 _ rfl (p := ⟨zx, 0, none⟩) rfl Tryz.underlying5 rfl hw') ?_
    go_frame
    refine wpAnyN_all (rs := [0, 7]) (by kernel_rfl) (by simp) ?_
    intro q' hq'
    simp only [List.mem_cons, List.not_mem_nil, or_false] at hq'
    rcases hq' with rfl | rfl
    · refine wpOp_call _ rfl (by kernel_rfl) (ex_callFn (f := 69) (args := #[]) rfl rfl (fun args w => hE1 w args) (by simp)) ?_
      refine (parts_any (W3.drew)).mono ?_
      rintro e v1 ⟨hb1, v, rfl, ⟨mg, mn, rfl, hmv1⟩, -⟩
      have hbv1 : Below W3.heap.size W3 v1 := (HBD.out).trans (hb1.mono (HBD.out).size)
      refine ⟨_, rfl, fun _ _ => HFK.out _ hbv1, ?_⟩
      go_frame
      refine wpAnyN_all (rs := [3, 7]) (by kernel_rfl) (by simp) ?_
      intro q' hq'
      simp only [List.mem_cons, List.not_mem_nil, or_false] at hq'
      rcases hq' with rfl | rfl
      focus
        refine wpOp_val _ rfl (by kernel_rfl) (ex_lookup2 114 _ _ rfl (vm := .map (some mg)) (vk := u8K k) rfl rfl (MapV.look2 u8Enc Tryz.underlying114 (fun u => partZero u) hmv1 (k0 := k) trivial)) ?_
        rw [HPM.out]
        refine ⟨fun _ h => h, ?_⟩
        go_frame
        refine tw 4 (.tuple #[(partV ((partsOf k).getD noPart)), .bool (partsM k).isSome]) ?_
        go_frame
        refine tw 5 (partV ((partsOf k).getD noPart)) ?_
        go_frame
        refine tw 6 (.bool (partsM k).isSome) ?_
        go_frame
        refine ta 7 ?_
        refine wpOp_allocM _ rfl (by kernel_rfl) 117 rfl (partC noPart) (partZ_run _) ?_
        intro va hba0 hzc hsa
        have hba : Below W3.heap.size W3 va := (hbv1).trans (hba0.mono (hbv1).size)
        have hzw : W3.heap.size ≤ (v1).heap.size := (hbv1).size
        have hzl : (v1).heap.size < va.heap.size := by omega
        have hma := hmv1.below hba0
        refine ⟨fun _ _ => HFK.out _ hba, ?_⟩
      rotate_left
      focus
        refine wpOp_allocM _ rfl (by kernel_rfl) 117 rfl (partC noPart) (partZ_run _) ?_
        intro va hba0 hzc hsa
        have hba : Below W3.heap.size W3 va := (hbv1).trans (hba0.mono (hbv1).size)
        have hzw : W3.heap.size ≤ (v1).heap.size := (hbv1).size
        have hzl : (v1).heap.size < va.heap.size := by omega
        have hma := hmv1.below hba0
        refine ⟨fun _ _ => HFK.out _ hba, ?_⟩
        go_frame
        refine ta 3 ?_
        refine wpOp_val _ rfl (by kernel_rfl) (ex_lookup2 114 _ _ rfl (vm := .map (some mg)) (vk := u8K k) rfl rfl (MapV.look2 u8Enc Tryz.underlying114 (fun u => partZero u) hma (k0 := k) trivial)) ?_
        rw [HPM.out]
        refine ⟨fun _ h => h, ?_⟩
        go_frame
        refine tw 4 (.tuple #[(partV ((partsOf k).getD noPart)), .bool (partsM k).isSome]) ?_
        go_frame
        refine tw 5 (partV ((partsOf k).getD noPart)) ?_
        go_frame
        refine tw 6 (.bool (partsM k).isSome) ?_
      all_goals
        go_frame
        refine ta 8 ?_
        refine wpOp_storeM _ rfl (by kernel_rfl) 117 _ _ rfl ((v1).heap.size) 0 [] (partC noPart) [] (partC ((partsOf k).getD noPart)) 117 (partV ((partsOf k).getD noPart)) rfl rfl rfl rfl (by simpa using hzc) rfl (by kernel_rfl) (by intro u hu; simp only [partC, List.mem_cons, List.not_mem_nil, or_false] at hu; rcases hu with rfl | rfl | rfl | rfl | rfl <;> rfl) ?_
        intro vs hbw hzz hss
        have hbz : Below W3.heap.size W3 vs := (hba).trans (hbw.below (hba).size (fun k hk => by omega))
        have hz7 : W3.heap.size ≤ (v1).heap.size := hzw
        refine ⟨fun h => absurd h (by decide), ?_⟩
        go_frame
        refine tw 9 (.bool (partsM k).isSome) ?_
        go_frame
        refine wpAnyN_done (by kernel_rfl) ?_ _
        go_wp2_with fail
        go_meet
        case rel => exact ⟨(v1).heap.size, rfl, rfl, hz7, Lib.hid hbz, Lib.hid (by simpa using hzz)⟩
    · refine wpOp_allocM _ rfl (by kernel_rfl) 117 rfl (partC noPart) (partZ_run _) ?_
      intro va hba0 hzc hsa
      have hba : Below W3.heap.size W3 va := (HBD.out).trans (hba0.mono (HBD.out).size)
      have hzw : W3.heap.size ≤ (W3.drew).heap.size := (HBD.out).size
      have hzl : (W3.drew).heap.size < va.heap.size := by omega
      refine ⟨fun _ _ => HFK.out _ hba, ?_⟩
      go_frame
      refine ta 0 ?_
      refine wpOp_call _ rfl (by kernel_rfl) (ex_callFn (f := 69) (args := #[]) rfl rfl (fun args w => hE1 w args) (by simp)) ?_
      refine (parts_any (va)).mono ?_
      rintro e v1 ⟨hb1, v, rfl, ⟨mg, mn, rfl, hmv1⟩, -⟩
      have hbv1 : Below W3.heap.size W3 v1 := (hba).trans (hb1.mono (hba).size)
      have hzv := (hb1.block _ (Array.getElem?_eq_some_iff.1 hzc).1).trans hzc
      refine ⟨_, rfl, fun _ _ => HFK.out _ hbv1, ?_⟩
      go_frame
      refine ta 3 ?_
      refine wpOp_val _ rfl (by kernel_rfl) (ex_lookup2 114 _ _ rfl (vm := .map (some mg)) (vk := u8K k) rfl rfl (MapV.look2 u8Enc Tryz.underlying114 (fun u => partZero u) hmv1 (k0 := k) trivial)) ?_
      rw [HPM.out]
      refine ⟨fun _ h => h, ?_⟩
      go_frame
      refine tw 4 (.tuple #[(partV ((partsOf k).getD noPart)), .bool (partsM k).isSome]) ?_
      go_frame
      refine tw 5 (partV ((partsOf k).getD noPart)) ?_
      go_frame
      refine tw 6 (.bool (partsM k).isSome) ?_
      go_frame
      refine ta 8 ?_
      refine wpOp_storeM _ rfl (by kernel_rfl) 117 _ _ rfl ((W3.drew).heap.size) 0 [] (partC noPart) [] (partC ((partsOf k).getD noPart)) 117 (partV ((partsOf k).getD noPart)) rfl rfl rfl rfl (by simpa using hzv) rfl (by kernel_rfl) (by intro u hu; simp only [partC, List.mem_cons, List.not_mem_nil, or_false] at hu; rcases hu with rfl | rfl | rfl | rfl | rfl <;> rfl) ?_
      intro vs hbw hzz hss
      have hbz : Below W3.heap.size W3 vs := (hbv1).trans (hbw.below (hbv1).size (fun k hk => by omega))
      have hz7 : W3.heap.size ≤ (W3.drew).heap.size := hzw
      refine ⟨fun h => absurd h (by decide), ?_⟩
      go_frame
      refine tw 9 (.bool (partsM k).isSome) ?_
      go_frame
      refine wpAnyN_done (by kernel_rfl) ?_ _
      go_wp2_with fail
      go_meet
      case rel => exact ⟨(W3.drew).heap.size, rfl, rfl, hz7, Lib.hid hbz, Lib.hid (by simpa using hzz)⟩
  case rest =>
    obtain ⟨zp, rfl, rfl, hzp, HBC, HZP⟩ := hcut
    obtain ⟨ws, hws⟩ : ∃ u : World, u = wc := ⟨_, rfl⟩
    subst hws
    have HBS : Hid (Below w.heap.size w ws) := Lib.hid (HBW3.out.trans (HBC.out.mono HBW3.out.size))
    have HCKS := Lib.hid (HCK.out.keep HBS.out)
    have HGS := Lib.hid (HG.out.next HBS.out)
    clear HFK HBD HPM hE1
    rw [HPK.out] at HZP
    have hzpl := (Array.getElem?_eq_some_iff.1 HZP.out).1
    have hzxl : zx < ws.heap.size := Nat.lt_of_lt_of_le hx3 HBC.out.size
    have HXR := Lib.hid (fun (u : World) (hu : Below ws.heap.size ws u) => (show u.rangeAt zx 0 (opV (k, d, r, t, n, q)) from fun j v hj => by rw [Nat.zero_add]; exact ((hu.cell (p := ⟨zx, j, none⟩) hzxl).trans ((HBC.out.cell (p := ⟨zx, j, none⟩) hx3).trans (cells_at0 HY3.out j))).trans hj))
    have HPR := Lib.hid (fun (u : World) (hu : Below ws.heap.size ws u) => (show u.rangeAt zp 0 (partC (true, false, false, false, false)) from fun j v hj => by rw [Nat.zero_add]; exact ((hu.cell (p := ⟨zp, j, none⟩) hzpl).trans (cells_at0 HZP.out j)).trans hj))
    have HPC := Lib.hid (fun (u : World) (hu : Below ws.heap.size ws u) => (show u.cell? ⟨zp, 0, none⟩ = some (.bool true) ∧ u.cell? ⟨zp, 4, none⟩ = some (.bool false) from ⟨(hu.cell (p := ⟨zp, 0, none⟩) hzpl).trans (cells_at0 HZP.out 0), (hu.cell (p := ⟨zp, 4, none⟩) hzpl).trans (cells_at0 HZP.out 4)⟩))
    have HXC := Lib.hid (fun (u : World) (hu : Below ws.heap.size ws u) => (show u.cell? ⟨zx, 0, none⟩ = some (.int .u8 5) ∧ u.cell? ⟨zx, 67, none⟩ = some (.string t) ∧ u.cell? ⟨zx, 68, none⟩ = some (.int .i64 n) ∧ u.cell? ⟨zx, 69, none⟩ = some (.string q) from
      ⟨by have h : u.cell? ⟨zx, 0 + 0, none⟩ = some (.int .u8 (k.toNat : Int)) := HXR.out u hu 0 _ (op_cells HX.out).1; rw [HKD.out] at h; exact h, by have h := HXR.out u hu 67 _ (op_cells HX.out).2.2.2.1; rw [Nat.zero_add] at h; exact h, by have h := HXR.out u hu 68 _ (op_cells HX.out).2.2.2.2.1; rw [Nat.zero_add] at h; exact h, by have h := HXR.out u hu 69 _ (op_cells HX.out).2.2.2.2.2; rw [Nat.zero_add] at h; exact h⟩))
    have HDR := Lib.hid (fun (u : World) (hu : Below ws.heap.size ws u) => (show u.rangeAt zx 1 (refV d) from fun j v hj => by have h := HXR.out u hu (1 + j) _ ((op_cells HX.out).2.1 j v hj); rw [Nat.zero_add] at h; exact h))
    have HAR := Lib.hid (fun (u : World) (hu : Below ws.heap.size ws u) => (show u.rangeAt zx 34 (refV r) from fun j v hj => by have h := HXR.out u hu (34 + j) _ ((op_cells HX.out).2.2.1 j v hj); rw [Nat.zero_add] at h; exact h))
    have dk : (partsM k).isSome = true := by unfold partsM; rw [HPK.out]; rfl
    rcases Bool.eq_false_or_eq_true (absentB (k, d, r, t, n, q) (true, false, false, false, false)) with ha | ha
    rotate_left
    · have HA := Lib.hid ha
      have HE : Hid (opB deps mk (k, d, r, t, n, q) = false) := Lib.hid (by rw [HOB.out, ha]; simp)
      clear ha
      go_wp2_with (first
        | (with_reducible refine at_load ?_
           refine wp_val (by rfl) (ex_load 70 _ rfl (p := ⟨zx, 0, none⟩) rfl (run_loadVar_mid _ _ _ _ (opV (k, d, r, t, n, q)) _ (HXR.out _ (Below.refl _ _)) Tryz.underlying70 rfl (by rw [opV_length HX.out]; exact sizeOp70))) ?_)
        | (with_reducible refine at_load ?_
           refine wp_val (by rfl) (ex_load 117 _ rfl (p := ⟨zp, 0, none⟩) rfl (run_loadVar_mid _ _ _ _ (partC (true, false, false, false, false)) _ (HPR.out _ (Below.refl _ _)) Tryz.underlying117 rfl sizePart5)) ?_)
        | (go_at_call 99; refine (absent_any (k, d, r, t, n, q) (true, false, false, false, false) k ws HX.out HPK.out).mono ?_; rintro e u1 ⟨hb1, rfl⟩
           rw [HA.out]
           have p1 := (HPC.out u1 hb1).1
           have p4 := (HPC.out u1 hb1).2
           have x0a := (HXC.out u1 hb1).1
           have x5a := (HXC.out u1 hb1).2.2.2
           have HB1 := Lib.hid hb1
           clear hb1))
      go_ret
      exact ⟨below_g (Nat.le_of_lt HCK.out.lt) (HBS.out.trans (HB1.out.mono HBS.out.size)), by rw [HE.out]; rfl, fun h => by rw [HE.out] at h; cases h⟩
    have HA := Lib.hid ha
    clear ha
    rcases Bool.eq_false_or_eq_true (docB deps mk d) with hdc | hdc
    rotate_left
    · have HDC := Lib.hid hdc
      have HE : Hid (opB deps mk (k, d, r, t, n, q) = false) := Lib.hid (by rw [HOB.out, hdc]; simp)
      clear hdc
      go_wp2_with (first
        | (with_reducible refine at_load ?_
           refine wp_val (by rfl) (ex_load 70 _ rfl (p := ⟨zx, 0, none⟩) rfl (run_loadVar_mid _ _ _ _ (opV (k, d, r, t, n, q)) _ (HXR.out _ (Below.refl _ _)) Tryz.underlying70 rfl (by rw [opV_length HX.out]; exact sizeOp70))) ?_)
        | (with_reducible refine at_load ?_
           refine wp_val (by rfl) (ex_load 117 _ rfl (p := ⟨zp, 0, none⟩) rfl (run_loadVar_mid _ _ _ _ (partC (true, false, false, false, false)) _ (HPR.out _ (Below.refl _ _)) Tryz.underlying117 rfl sizePart5)) ?_)
        | (go_at_call 99; refine (absent_any (k, d, r, t, n, q) (true, false, false, false, false) k ws HX.out HPK.out).mono ?_; rintro e u1 ⟨hb1, rfl⟩
           rw [HA.out]
           have p1 := (HPC.out u1 hb1).1
           have p4 := (HPC.out u1 hb1).2
           have x0a := (HXC.out u1 hb1).1
           have x5a := (HXC.out u1 hb1).2.2.2
           have HB1 := Lib.hid hb1
           clear hb1)
        | (with_reducible refine at_load ?_
           refine wp_val (by rfl) (ex_load 68 _ rfl (p := ⟨zx, 1, none⟩) rfl (run_loadVar_mid _ _ _ _ (refV d) _ (HDR.out _ HB1.out) Tryz.underlying68 rfl (by rw [refV_length HX.out.1.1]; exact sizeRef33))) ?_)
        | (go_at_call 100; refine (doc_any g deps mk d u1 (HCKS.out.keep HB1.out) HO.out hn (by omega) HM.out HX.out.1.1).mono ?_; rintro e u2 ⟨hb2, rfl⟩
           rw [HDC.out]
           have hb12 := HB1.out.trans (hb2.mono HB1.out.size)
           have p4' := (HPC.out u2 hb12).2
           have x5' := (HXC.out u2 hb12).2.2.2
           have x0b := (HXC.out u2 hb12).1
           have HB2 := Lib.hid hb12
           clear hb2 hb12 p1 p4 x0a x5a))
      go_ret
      exact ⟨below_g (Nat.le_of_lt HCK.out.lt) (HBS.out.trans (HB2.out.mono HBS.out.size)), by rw [HE.out]; rfl, fun h => by rw [HE.out] at h; cases h⟩
    have HDC := Lib.hid hdc
    clear hdc
    have HE : Hid (opB deps mk (k, d, r, t, n, q) = true) := Lib.hid (by rw [HOB.out, HA.out, HDC.out]; rfl)
    have HMB : Hid (madeB (k, d, r, t, n, q) = []) := Lib.hid (by unfold madeB; rw [HKD.out]; rfl)
    go_wp2_with (first
      | (with_reducible refine at_load ?_
         refine wp_val (by rfl) (ex_load 70 _ rfl (p := ⟨zx, 0, none⟩) rfl (run_loadVar_mid _ _ _ _ (opV (k, d, r, t, n, q)) _ (HXR.out _ (Below.refl _ _)) Tryz.underlying70 rfl (by rw [opV_length HX.out]; exact sizeOp70))) ?_)
      | (with_reducible refine at_load ?_
         refine wp_val (by rfl) (ex_load 117 _ rfl (p := ⟨zp, 0, none⟩) rfl (run_loadVar_mid _ _ _ _ (partC (true, false, false, false, false)) _ (HPR.out _ (Below.refl _ _)) Tryz.underlying117 rfl sizePart5)) ?_)
      | (go_at_call 99; refine (absent_any (k, d, r, t, n, q) (true, false, false, false, false) k ws HX.out HPK.out).mono ?_; rintro e u1 ⟨hb1, rfl⟩
         rw [HA.out]
         have p1 := (HPC.out u1 hb1).1
         have p4 := (HPC.out u1 hb1).2
         have x0a := (HXC.out u1 hb1).1
         have x5a := (HXC.out u1 hb1).2.2.2
         have HB1 := Lib.hid hb1
         clear hb1)
      | (with_reducible refine at_load ?_
         refine wp_val (by rfl) (ex_load 68 _ rfl (p := ⟨zx, 1, none⟩) rfl (run_loadVar_mid _ _ _ _ (refV d) _ (HDR.out _ HB1.out) Tryz.underlying68 rfl (by rw [refV_length HX.out.1.1]; exact sizeRef33))) ?_)
      | (go_at_call 100; refine (doc_any g deps mk d u1 (HCKS.out.keep HB1.out) HO.out hn (by omega) HM.out HX.out.1.1).mono ?_; rintro e u2 ⟨hb2, rfl⟩
         rw [HDC.out]
         have hb12 := HB1.out.trans (hb2.mono HB1.out.size)
         have p4' := (HPC.out u2 hb12).2
         have x5' := (HXC.out u2 hb12).2.2.2
         have x0b := (HXC.out u2 hb12).1
         have HB2 := Lib.hid hb12
         clear hb2 hb12 p1 p4 x0a x5a))
    go_ret
    exact ⟨below_g (Nat.le_of_lt HCK.out.lt) (HBS.out.trans (HB2.out.mono HBS.out.size)), by rw [HE.out]; rfl, fun _ => by rw [HMB.out, List.append_nil]; exact HCKS.out.keep HB2.out⟩
set_option maxHeartbeats 4000000 in
set_option maxRecDepth 100000 in
theorem ckop_4 (g : Nat) (deps : List (List UInt8)) (mk : List MadeD) (k : UInt8) (d r : RefD) (t : ByteArray) (n : Int) (q : ByteArray) (w : World) (hk : CkAt w g deps mk) (ho : IdsOk deps) (hn : deps.length ≤ 1099511627776) (hmn : mk.length ≤ 1000000000) (hm : ∀ m ∈ mk, MadeOk m) (hx : OpIn (k, d, r, t, n, q)) (hg : Glob w) (hkd : k = 4) :
    Calls Tryz.prog 76 #[.pointer (some ⟨g, 0, none⟩), .agg (opV (k, d, r, t, n, q)).toArray] w (CkGives g deps mk (k, d, r, t, n, q) w) := by
  have HCK := Lib.hid hk; have HO := Lib.hid ho; have HM := Lib.hid hm; have HX := Lib.hid hx; have HG := Lib.hid hg
  have HKD := Lib.hid hkd
  have HPK : Hid (partsOf k = some (true, false, false, false, true)) := Lib.hid (by rw [hkd]; rfl)
  clear hk ho hm hx hg hkd
  have HOB : Hid (opB deps mk (k, d, r, t, n, q) = (absentB (k, d, r, t, n, q) (true, false, false, false, true) && docB deps mk d && pathB q)) := Lib.hid (by unfold opB; rw [HPK.out, HKD.out]; simp)
  go_enter Tryz.func76, Tryz.ntmps76
  go_upto_region 1 with (first
    | (with_reducible refine at_box ?_
       refine wp_boxM (by rfl) 70 _ rfl (opV (k, d, r, t, n, q)) _ rfl rfl (by rw [opV_length HX.out]; exact sizeOp70) ?_
       intro W3 hb0 hy0 hs0
       have HBW3 := Lib.hid hb0; have HY3 := Lib.hid hy0
       clear hb0 hy0 hs0
       simp only [Act.put, List.setIfInBounds_toArray, List.set_cons_zero, List.set_cons_succ]))
  have hx3 : w.heap.size < W3.heap.size := (Array.getElem?_eq_some_iff.1 HY3.out).1
  obtain ⟨zx, hzx⟩ : ∃ zx, w.heap.size = zx := ⟨_, rfl⟩
  rw [hzx] at HY3 hx3 ⊢
  have hgx : g < zx := by rw [← hzx]; exact HCK.out.lt
  have hwx : w.heap.size ≤ zx := by omega
  clear hzx
  have HFK := Lib.hid (fun (u : World) (hu : Below W3.heap.size W3 u) => (show u.cell? ⟨zx, 0, none⟩ = some (.int .u8 (k.toNat : Int)) from (hu.cell (p := ⟨zx, 0, none⟩) hx3).trans (cells_at0 HY3.out 0)))
  have HBD := Lib.hid (show Below W3.heap.size W3 W3.drew from (Below.refl _ _).drew)
  have HPM : Hid ((partsM k).getD (partV noPart) = (partV ((partsOf k).getD noPart))) := Lib.hid (by unfold partsM; cases partsOf k <;> rfl)
  have hE1 : ∀ (u : World) (args : Array Value), (callFunc 69 args).run Tryz.prog u = .ok (.enter 69 args) u := fun u args => enters_of Tryz.func69 (by kernel_rfl) rfl args u
  go_cut [5, 6] from 7 to 13 (fun t5 t6 wx => ∃ zp, t5 = .pointer (some ⟨zp, 0, none⟩) ∧ t6 = .bool (partsM k).isSome ∧ W3.heap.size ≤ zp ∧ Hid (Below W3.heap.size W3 wx) ∧ Hid (wx.heap[zp]? = some (.cells (partC ((partsOf k).getD noPart)).toArray 117 (0, 0))))
  case first =>
    refine wp_region_N 8 (fun u => u.cell? ⟨zx, 0, none⟩ = some (.int .u8 (k.toNat : Int))) (by kernel_rfl) ?_
    have hF0 : (fun u => u.cell? ⟨zx, 0, none⟩ = some (.int .u8 (k.toNat : Int))) W3.drew := HFK.out _ HBD.out
    refine tw 1 (.pointer (some ⟨zx, 0, none⟩)) ?_
    go_frame
    refine tkF 2 (.int .u8 (k.toNat : Int)) (by kernel_rfl) rfl (fun _ _ _ h => h) (by rfl) hF0 (fun w' hw' => ex_load1 5 _ rfl (p := ⟨zx, 0, none⟩) rfl Tryz.underlying5 rfl hw') ?_
    go_frame
    refine wpAnyN_all (rs := [0, 7]) (by kernel_rfl) (by simp) ?_
    intro q' hq'
    simp only [List.mem_cons, List.not_mem_nil, or_false] at hq'
    rcases hq' with rfl | rfl
    · refine wpOp_call _ rfl (by kernel_rfl) (ex_callFn (f := 69) (args := #[]) rfl rfl (fun args w => hE1 w args) (by simp)) ?_
      refine (parts_any (W3.drew)).mono ?_
      rintro e v1 ⟨hb1, v, rfl, ⟨mg, mn, rfl, hmv1⟩, -⟩
      have hbv1 : Below W3.heap.size W3 v1 := (HBD.out).trans (hb1.mono (HBD.out).size)
      refine ⟨_, rfl, fun _ _ => HFK.out _ hbv1, ?_⟩
      go_frame
      refine wpAnyN_all (rs := [3, 7]) (by kernel_rfl) (by simp) ?_
      intro q' hq'
      simp only [List.mem_cons, List.not_mem_nil, or_false] at hq'
      rcases hq' with rfl | rfl
      focus
        refine wpOp_val _ rfl (by kernel_rfl) (ex_lookup2 114 _ _ rfl (vm := .map (some mg)) (vk := u8K k) rfl rfl (MapV.look2 u8Enc Tryz.underlying114 (fun u => partZero u) hmv1 (k0 := k) trivial)) ?_
        rw [HPM.out]
        refine ⟨fun _ h => h, ?_⟩
        go_frame
        refine tw 4 (.tuple #[(partV ((partsOf k).getD noPart)), .bool (partsM k).isSome]) ?_
        go_frame
        refine tw 5 (partV ((partsOf k).getD noPart)) ?_
        go_frame
        refine tw 6 (.bool (partsM k).isSome) ?_
        go_frame
        refine ta 7 ?_
        refine wpOp_allocM _ rfl (by kernel_rfl) 117 rfl (partC noPart) (partZ_run _) ?_
        intro va hba0 hzc hsa
        have hba : Below W3.heap.size W3 va := (hbv1).trans (hba0.mono (hbv1).size)
        have hzw : W3.heap.size ≤ (v1).heap.size := (hbv1).size
        have hzl : (v1).heap.size < va.heap.size := by omega
        have hma := hmv1.below hba0
        refine ⟨fun _ _ => HFK.out _ hba, ?_⟩
      rotate_left
      focus
        refine wpOp_allocM _ rfl (by kernel_rfl) 117 rfl (partC noPart) (partZ_run _) ?_
        intro va hba0 hzc hsa
        have hba : Below W3.heap.size W3 va := (hbv1).trans (hba0.mono (hbv1).size)
        have hzw : W3.heap.size ≤ (v1).heap.size := (hbv1).size
        have hzl : (v1).heap.size < va.heap.size := by omega
        have hma := hmv1.below hba0
        refine ⟨fun _ _ => HFK.out _ hba, ?_⟩
        go_frame
        refine ta 3 ?_
        refine wpOp_val _ rfl (by kernel_rfl) (ex_lookup2 114 _ _ rfl (vm := .map (some mg)) (vk := u8K k) rfl rfl (MapV.look2 u8Enc Tryz.underlying114 (fun u => partZero u) hma (k0 := k) trivial)) ?_
        rw [HPM.out]
        refine ⟨fun _ h => h, ?_⟩
        go_frame
        refine tw 4 (.tuple #[(partV ((partsOf k).getD noPart)), .bool (partsM k).isSome]) ?_
        go_frame
        refine tw 5 (partV ((partsOf k).getD noPart)) ?_
        go_frame
        refine tw 6 (.bool (partsM k).isSome) ?_
      all_goals
        go_frame
        refine ta 8 ?_
        refine wpOp_storeM _ rfl (by kernel_rfl) 117 _ _ rfl ((v1).heap.size) 0 [] (partC noPart) [] (partC ((partsOf k).getD noPart)) 117 (partV ((partsOf k).getD noPart)) rfl rfl rfl rfl (by simpa using hzc) rfl (by kernel_rfl) (by intro u hu; simp only [partC, List.mem_cons, List.not_mem_nil, or_false] at hu; rcases hu with rfl | rfl | rfl | rfl | rfl <;> rfl) ?_
        intro vs hbw hzz hss
        have hbz : Below W3.heap.size W3 vs := (hba).trans (hbw.below (hba).size (fun k hk => by omega))
        have hz7 : W3.heap.size ≤ (v1).heap.size := hzw
        refine ⟨fun h => absurd h (by decide), ?_⟩
        go_frame
        refine tw 9 (.bool (partsM k).isSome) ?_
        go_frame
        refine wpAnyN_done (by kernel_rfl) ?_ _
        go_wp2_with fail
        go_meet
        case rel => exact ⟨(v1).heap.size, rfl, rfl, hz7, Lib.hid hbz, Lib.hid (by simpa using hzz)⟩
    · refine wpOp_allocM _ rfl (by kernel_rfl) 117 rfl (partC noPart) (partZ_run _) ?_
      intro va hba0 hzc hsa
      have hba : Below W3.heap.size W3 va := (HBD.out).trans (hba0.mono (HBD.out).size)
      have hzw : W3.heap.size ≤ (W3.drew).heap.size := (HBD.out).size
      have hzl : (W3.drew).heap.size < va.heap.size := by omega
      refine ⟨fun _ _ => HFK.out _ hba, ?_⟩
      go_frame
      refine ta 0 ?_
      refine wpOp_call _ rfl (by kernel_rfl) (ex_callFn (f := 69) (args := #[]) rfl rfl (fun args w => hE1 w args) (by simp)) ?_
      refine (parts_any (va)).mono ?_
      rintro e v1 ⟨hb1, v, rfl, ⟨mg, mn, rfl, hmv1⟩, -⟩
      have hbv1 : Below W3.heap.size W3 v1 := (hba).trans (hb1.mono (hba).size)
      have hzv := (hb1.block _ (Array.getElem?_eq_some_iff.1 hzc).1).trans hzc
      refine ⟨_, rfl, fun _ _ => HFK.out _ hbv1, ?_⟩
      go_frame
      refine ta 3 ?_
      refine wpOp_val _ rfl (by kernel_rfl) (ex_lookup2 114 _ _ rfl (vm := .map (some mg)) (vk := u8K k) rfl rfl (MapV.look2 u8Enc Tryz.underlying114 (fun u => partZero u) hmv1 (k0 := k) trivial)) ?_
      rw [HPM.out]
      refine ⟨fun _ h => h, ?_⟩
      go_frame
      refine tw 4 (.tuple #[(partV ((partsOf k).getD noPart)), .bool (partsM k).isSome]) ?_
      go_frame
      refine tw 5 (partV ((partsOf k).getD noPart)) ?_
      go_frame
      refine tw 6 (.bool (partsM k).isSome) ?_
      go_frame
      refine ta 8 ?_
      refine wpOp_storeM _ rfl (by kernel_rfl) 117 _ _ rfl ((W3.drew).heap.size) 0 [] (partC noPart) [] (partC ((partsOf k).getD noPart)) 117 (partV ((partsOf k).getD noPart)) rfl rfl rfl rfl (by simpa using hzv) rfl (by kernel_rfl) (by intro u hu; simp only [partC, List.mem_cons, List.not_mem_nil, or_false] at hu; rcases hu with rfl | rfl | rfl | rfl | rfl <;> rfl) ?_
      intro vs hbw hzz hss
      have hbz : Below W3.heap.size W3 vs := (hbv1).trans (hbw.below (hbv1).size (fun k hk => by omega))
      have hz7 : W3.heap.size ≤ (W3.drew).heap.size := hzw
      refine ⟨fun h => absurd h (by decide), ?_⟩
      go_frame
      refine tw 9 (.bool (partsM k).isSome) ?_
      go_frame
      refine wpAnyN_done (by kernel_rfl) ?_ _
      go_wp2_with fail
      go_meet
      case rel => exact ⟨(W3.drew).heap.size, rfl, rfl, hz7, Lib.hid hbz, Lib.hid (by simpa using hzz)⟩
  case rest =>
    obtain ⟨zp, rfl, rfl, hzp, HBC, HZP⟩ := hcut
    obtain ⟨ws, hws⟩ : ∃ u : World, u = wc := ⟨_, rfl⟩
    subst hws
    have HBS : Hid (Below w.heap.size w ws) := Lib.hid (HBW3.out.trans (HBC.out.mono HBW3.out.size))
    have HCKS := Lib.hid (HCK.out.keep HBS.out)
    have HGS := Lib.hid (HG.out.next HBS.out)
    clear HFK HBD HPM hE1
    rw [HPK.out] at HZP
    have hzpl := (Array.getElem?_eq_some_iff.1 HZP.out).1
    have hzxl : zx < ws.heap.size := Nat.lt_of_lt_of_le hx3 HBC.out.size
    have HXR := Lib.hid (fun (u : World) (hu : Below ws.heap.size ws u) => (show u.rangeAt zx 0 (opV (k, d, r, t, n, q)) from fun j v hj => by rw [Nat.zero_add]; exact ((hu.cell (p := ⟨zx, j, none⟩) hzxl).trans ((HBC.out.cell (p := ⟨zx, j, none⟩) hx3).trans (cells_at0 HY3.out j))).trans hj))
    have HPR := Lib.hid (fun (u : World) (hu : Below ws.heap.size ws u) => (show u.rangeAt zp 0 (partC (true, false, false, false, true)) from fun j v hj => by rw [Nat.zero_add]; exact ((hu.cell (p := ⟨zp, j, none⟩) hzpl).trans (cells_at0 HZP.out j)).trans hj))
    have HPC := Lib.hid (fun (u : World) (hu : Below ws.heap.size ws u) => (show u.cell? ⟨zp, 0, none⟩ = some (.bool true) ∧ u.cell? ⟨zp, 4, none⟩ = some (.bool true) from ⟨(hu.cell (p := ⟨zp, 0, none⟩) hzpl).trans (cells_at0 HZP.out 0), (hu.cell (p := ⟨zp, 4, none⟩) hzpl).trans (cells_at0 HZP.out 4)⟩))
    have HXC := Lib.hid (fun (u : World) (hu : Below ws.heap.size ws u) => (show u.cell? ⟨zx, 0, none⟩ = some (.int .u8 4) ∧ u.cell? ⟨zx, 67, none⟩ = some (.string t) ∧ u.cell? ⟨zx, 68, none⟩ = some (.int .i64 n) ∧ u.cell? ⟨zx, 69, none⟩ = some (.string q) from
      ⟨by have h : u.cell? ⟨zx, 0 + 0, none⟩ = some (.int .u8 (k.toNat : Int)) := HXR.out u hu 0 _ (op_cells HX.out).1; rw [HKD.out] at h; exact h, by have h := HXR.out u hu 67 _ (op_cells HX.out).2.2.2.1; rw [Nat.zero_add] at h; exact h, by have h := HXR.out u hu 68 _ (op_cells HX.out).2.2.2.2.1; rw [Nat.zero_add] at h; exact h, by have h := HXR.out u hu 69 _ (op_cells HX.out).2.2.2.2.2; rw [Nat.zero_add] at h; exact h⟩))
    have HDR := Lib.hid (fun (u : World) (hu : Below ws.heap.size ws u) => (show u.rangeAt zx 1 (refV d) from fun j v hj => by have h := HXR.out u hu (1 + j) _ ((op_cells HX.out).2.1 j v hj); rw [Nat.zero_add] at h; exact h))
    have HAR := Lib.hid (fun (u : World) (hu : Below ws.heap.size ws u) => (show u.rangeAt zx 34 (refV r) from fun j v hj => by have h := HXR.out u hu (34 + j) _ ((op_cells HX.out).2.2.1 j v hj); rw [Nat.zero_add] at h; exact h))
    have dk : (partsM k).isSome = true := by unfold partsM; rw [HPK.out]; rfl
    rcases Bool.eq_false_or_eq_true (absentB (k, d, r, t, n, q) (true, false, false, false, true)) with ha | ha
    rotate_left
    · have HA := Lib.hid ha
      have HE : Hid (opB deps mk (k, d, r, t, n, q) = false) := Lib.hid (by rw [HOB.out, ha]; simp)
      clear ha
      go_wp2_with (first
        | (with_reducible refine at_load ?_
           refine wp_val (by rfl) (ex_load 70 _ rfl (p := ⟨zx, 0, none⟩) rfl (run_loadVar_mid _ _ _ _ (opV (k, d, r, t, n, q)) _ (HXR.out _ (Below.refl _ _)) Tryz.underlying70 rfl (by rw [opV_length HX.out]; exact sizeOp70))) ?_)
        | (with_reducible refine at_load ?_
           refine wp_val (by rfl) (ex_load 117 _ rfl (p := ⟨zp, 0, none⟩) rfl (run_loadVar_mid _ _ _ _ (partC (true, false, false, false, true)) _ (HPR.out _ (Below.refl _ _)) Tryz.underlying117 rfl sizePart5)) ?_)
        | (go_at_call 99; refine (absent_any (k, d, r, t, n, q) (true, false, false, false, true) k ws HX.out HPK.out).mono ?_; rintro e u1 ⟨hb1, rfl⟩
           rw [HA.out]
           have p1 := (HPC.out u1 hb1).1
           have p4 := (HPC.out u1 hb1).2
           have x0a := (HXC.out u1 hb1).1
           have x5a := (HXC.out u1 hb1).2.2.2
           have HB1 := Lib.hid hb1
           clear hb1))
      go_ret
      exact ⟨below_g (Nat.le_of_lt HCK.out.lt) (HBS.out.trans (HB1.out.mono HBS.out.size)), by rw [HE.out]; rfl, fun h => by rw [HE.out] at h; cases h⟩
    have HA := Lib.hid ha
    clear ha
    rcases Bool.eq_false_or_eq_true (docB deps mk d) with hdc | hdc
    rotate_left
    · have HDC := Lib.hid hdc
      have HE : Hid (opB deps mk (k, d, r, t, n, q) = false) := Lib.hid (by rw [HOB.out, hdc]; simp)
      clear hdc
      go_wp2_with (first
        | (with_reducible refine at_load ?_
           refine wp_val (by rfl) (ex_load 70 _ rfl (p := ⟨zx, 0, none⟩) rfl (run_loadVar_mid _ _ _ _ (opV (k, d, r, t, n, q)) _ (HXR.out _ (Below.refl _ _)) Tryz.underlying70 rfl (by rw [opV_length HX.out]; exact sizeOp70))) ?_)
        | (with_reducible refine at_load ?_
           refine wp_val (by rfl) (ex_load 117 _ rfl (p := ⟨zp, 0, none⟩) rfl (run_loadVar_mid _ _ _ _ (partC (true, false, false, false, true)) _ (HPR.out _ (Below.refl _ _)) Tryz.underlying117 rfl sizePart5)) ?_)
        | (go_at_call 99; refine (absent_any (k, d, r, t, n, q) (true, false, false, false, true) k ws HX.out HPK.out).mono ?_; rintro e u1 ⟨hb1, rfl⟩
           rw [HA.out]
           have p1 := (HPC.out u1 hb1).1
           have p4 := (HPC.out u1 hb1).2
           have x0a := (HXC.out u1 hb1).1
           have x5a := (HXC.out u1 hb1).2.2.2
           have HB1 := Lib.hid hb1
           clear hb1)
        | (with_reducible refine at_load ?_
           refine wp_val (by rfl) (ex_load 68 _ rfl (p := ⟨zx, 1, none⟩) rfl (run_loadVar_mid _ _ _ _ (refV d) _ (HDR.out _ HB1.out) Tryz.underlying68 rfl (by rw [refV_length HX.out.1.1]; exact sizeRef33))) ?_)
        | (go_at_call 100; refine (doc_any g deps mk d u1 (HCKS.out.keep HB1.out) HO.out hn (by omega) HM.out HX.out.1.1).mono ?_; rintro e u2 ⟨hb2, rfl⟩
           rw [HDC.out]
           have hb12 := HB1.out.trans (hb2.mono HB1.out.size)
           have p4' := (HPC.out u2 hb12).2
           have x5' := (HXC.out u2 hb12).2.2.2
           have x0b := (HXC.out u2 hb12).1
           have HB2 := Lib.hid hb12
           clear hb2 hb12 p1 p4 x0a x5a))
      go_ret
      exact ⟨below_g (Nat.le_of_lt HCK.out.lt) (HBS.out.trans (HB2.out.mono HBS.out.size)), by rw [HE.out]; rfl, fun h => by rw [HE.out] at h; cases h⟩
    have HDC := Lib.hid hdc
    clear hdc
    rcases Bool.eq_false_or_eq_true (pathB q) with hpt | hpt
    rotate_left
    · have HPT := Lib.hid hpt
      have HE : Hid (opB deps mk (k, d, r, t, n, q) = false) := Lib.hid (by rw [HOB.out, hpt]; simp)
      clear hpt
      go_wp2_with (first
        | (with_reducible refine at_load ?_
           refine wp_val (by rfl) (ex_load 70 _ rfl (p := ⟨zx, 0, none⟩) rfl (run_loadVar_mid _ _ _ _ (opV (k, d, r, t, n, q)) _ (HXR.out _ (Below.refl _ _)) Tryz.underlying70 rfl (by rw [opV_length HX.out]; exact sizeOp70))) ?_)
        | (with_reducible refine at_load ?_
           refine wp_val (by rfl) (ex_load 117 _ rfl (p := ⟨zp, 0, none⟩) rfl (run_loadVar_mid _ _ _ _ (partC (true, false, false, false, true)) _ (HPR.out _ (Below.refl _ _)) Tryz.underlying117 rfl sizePart5)) ?_)
        | (go_at_call 99; refine (absent_any (k, d, r, t, n, q) (true, false, false, false, true) k ws HX.out HPK.out).mono ?_; rintro e u1 ⟨hb1, rfl⟩
           rw [HA.out]
           have p1 := (HPC.out u1 hb1).1
           have p4 := (HPC.out u1 hb1).2
           have x0a := (HXC.out u1 hb1).1
           have x5a := (HXC.out u1 hb1).2.2.2
           have HB1 := Lib.hid hb1
           clear hb1)
        | (with_reducible refine at_load ?_
           refine wp_val (by rfl) (ex_load 68 _ rfl (p := ⟨zx, 1, none⟩) rfl (run_loadVar_mid _ _ _ _ (refV d) _ (HDR.out _ HB1.out) Tryz.underlying68 rfl (by rw [refV_length HX.out.1.1]; exact sizeRef33))) ?_)
        | (go_at_call 100; refine (doc_any g deps mk d u1 (HCKS.out.keep HB1.out) HO.out hn (by omega) HM.out HX.out.1.1).mono ?_; rintro e u2 ⟨hb2, rfl⟩
           rw [HDC.out]
           have hb12 := HB1.out.trans (hb2.mono HB1.out.size)
           have p4' := (HPC.out u2 hb12).2
           have x5' := (HXC.out u2 hb12).2.2.2
           have x0b := (HXC.out u2 hb12).1
           have HB2 := Lib.hid hb12
           clear hb2 hb12 p1 p4 x0a x5a)
        | (go_at_call 101; refine (path_any q u2 HX.out.2.2 (HGS.out.next HB2.out)).mono ?_; rintro e u3 ⟨hb3, rfl⟩
           rw [HPT.out]
           have hb13 := HB2.out.trans (hb3.mono HB2.out.size)
           have HB3 := Lib.hid hb13
           have x0c := (HXC.out u3 hb13).1
           clear hb3 hb13))
      go_ret
      exact ⟨below_g (Nat.le_of_lt HCK.out.lt) (HBS.out.trans (HB3.out.mono HBS.out.size)), by rw [HE.out]; rfl, fun h => by rw [HE.out] at h; cases h⟩
    have HPT := Lib.hid hpt
    clear hpt
    have HE : Hid (opB deps mk (k, d, r, t, n, q) = true) := Lib.hid (by rw [HOB.out, HA.out, HDC.out, HPT.out]; rfl)
    have HMB : Hid (madeB (k, d, r, t, n, q) = []) := Lib.hid (by unfold madeB; rw [HKD.out]; rfl)
    go_wp2_with (first
      | (with_reducible refine at_load ?_
         refine wp_val (by rfl) (ex_load 70 _ rfl (p := ⟨zx, 0, none⟩) rfl (run_loadVar_mid _ _ _ _ (opV (k, d, r, t, n, q)) _ (HXR.out _ (Below.refl _ _)) Tryz.underlying70 rfl (by rw [opV_length HX.out]; exact sizeOp70))) ?_)
      | (with_reducible refine at_load ?_
         refine wp_val (by rfl) (ex_load 117 _ rfl (p := ⟨zp, 0, none⟩) rfl (run_loadVar_mid _ _ _ _ (partC (true, false, false, false, true)) _ (HPR.out _ (Below.refl _ _)) Tryz.underlying117 rfl sizePart5)) ?_)
      | (go_at_call 99; refine (absent_any (k, d, r, t, n, q) (true, false, false, false, true) k ws HX.out HPK.out).mono ?_; rintro e u1 ⟨hb1, rfl⟩
         rw [HA.out]
         have p1 := (HPC.out u1 hb1).1
         have p4 := (HPC.out u1 hb1).2
         have x0a := (HXC.out u1 hb1).1
         have x5a := (HXC.out u1 hb1).2.2.2
         have HB1 := Lib.hid hb1
         clear hb1)
      | (with_reducible refine at_load ?_
         refine wp_val (by rfl) (ex_load 68 _ rfl (p := ⟨zx, 1, none⟩) rfl (run_loadVar_mid _ _ _ _ (refV d) _ (HDR.out _ HB1.out) Tryz.underlying68 rfl (by rw [refV_length HX.out.1.1]; exact sizeRef33))) ?_)
      | (go_at_call 100; refine (doc_any g deps mk d u1 (HCKS.out.keep HB1.out) HO.out hn (by omega) HM.out HX.out.1.1).mono ?_; rintro e u2 ⟨hb2, rfl⟩
         rw [HDC.out]
         have hb12 := HB1.out.trans (hb2.mono HB1.out.size)
         have p4' := (HPC.out u2 hb12).2
         have x5' := (HXC.out u2 hb12).2.2.2
         have x0b := (HXC.out u2 hb12).1
         have HB2 := Lib.hid hb12
         clear hb2 hb12 p1 p4 x0a x5a)
      | (go_at_call 101; refine (path_any q u2 HX.out.2.2 (HGS.out.next HB2.out)).mono ?_; rintro e u3 ⟨hb3, rfl⟩
         rw [HPT.out]
         have hb13 := HB2.out.trans (hb3.mono HB2.out.size)
         have HB3 := Lib.hid hb13
         have x0c := (HXC.out u3 hb13).1
         clear hb3 hb13))
    go_ret
    exact ⟨below_g (Nat.le_of_lt HCK.out.lt) (HBS.out.trans (HB3.out.mono HBS.out.size)), by rw [HE.out]; rfl, fun _ => by rw [HMB.out, List.append_nil]; exact HCKS.out.keep HB3.out⟩
end Go.Proofs.YthjaepmfkgejkaaGreatDoor
