/-
  What the reader's number and text read. Conditions: bytes that lie in memory; at most 2^40.
-/
import Derived.Test.YthjaepmfkgejkaaGreatDoorReaderMem
namespace Go.Proofs.YthjaepmfkgejkaaGreatDoor
open Go.RowKit Go.Maps
set_option linter.unusedVariables false
set_option linter.unusedSimpArgs false

set_option maxHeartbeats 4000000 in
set_option maxRecDepth 100000 in
theorem rnum_any (g b off c : Nat) (l : List UInt8) (at' : Nat) (w : World) (hr : RdAt w g b off c l at') (hl : l.length ≤ 1099511627776) :
    Calls Tryz.prog 51 #[.pointer (some ⟨g, 0, none⟩)] w (RdGives g b off c l at' w pNum (fun n v _ => v = .int .i64 (n : Int))) := by
  have HRD := Lib.hid hr
  rcases hp : getS (l.drop at') with _ | ⟨n, k⟩
  · have HP := Lib.hid hp
    clear hp hr
    go_enter Tryz.func51, Tryz.ntmps51
    go_upto_region 1 with fail
    have c0 := Wg.cell (show w.cell? ⟨g, 0, none⟩ = some (.slice (some ⟨b, off, none⟩) l.length c) from cells_at0 HRD.out.box 0) HRD.out.lt
    have c1 := Wg.cell (show w.cell? ⟨g, 1, none⟩ = some (.int .i64 (at' : Int)) from cells_at0 HRD.out.box 1) HRD.out.lt
    have HGET : Hid (∀ u : Wg w, Calls Tryz.prog 87 #[.slice (some ⟨b, off, none⟩) l.length c, .int .i64 (at' : Int)] u.val fun e w'' => e = .returned (.tuple #[.int .i64 0, .int .i64 0, .int .i64 6]) ∧ ∃ m : Wg w, w'' = m.val) := Lib.hid (fun (u : Wg w) => (get_any l b off c at' u.val (by unfold maxLen; omega) HRD.out.cap HRD.out.le (fun j hj => Wg.cell (HRD.out.bytes j hj) (Nat.lt_trans HRD.out.low HRD.out.lt) u)).mono fun e w'' ⟨h1, h2⟩ => ⟨by rw [h2, HP.out], u, h1.symm⟩)
    refine wp_region_wr (by kernel_rfl) (by kernel_rfl) ?_
    repeat (first
      | go_big_quiet_skip
      | (go_big_quiet_want
         first
           | (go_big_quiet_op
              first
                | go_big_quiet_on
                | go_big_quiet_call (first | (go_at_call 87; exact HGET.out _)))))
    refine wpQuiet_nil ?_
    rintro w' ⟨kk, rfl⟩
    have hk2 := kk.2
    generalize kk.val = w2 at *
    clear kk
    clear c0 c1 HGET
    have HRD2 := Lib.hid (HRD.out.keep hk2.below); have HB2 := Lib.hid (But.of_below (X := fun k => k = g) hk2.below)
    clear hk2
    go_wp2_with (go_at_call 57; refine (need_no _).mono ?_; rintro e w3 ⟨rfl, rfl⟩)
    exact ⟨rfl, RdGives.no (pNum_no HP.out) rfl HB2.out⟩
  · have HP := Lib.hid hp
    have hle : at' + k ≤ l.length := by
      have h1 := (getS_k hp).2.1
      have h2 := hr.le
      rw [List.length_drop] at h1
      omega
    clear hp hr
    go_enter Tryz.func51, Tryz.ntmps51
    go_upto_region 1 with fail
    have c0 := Wg.cell (show w.cell? ⟨g, 0, none⟩ = some (.slice (some ⟨b, off, none⟩) l.length c) from cells_at0 HRD.out.box 0) HRD.out.lt
    have c1 := Wg.cell (show w.cell? ⟨g, 1, none⟩ = some (.int .i64 (at' : Int)) from cells_at0 HRD.out.box 1) HRD.out.lt
    have HGET : Hid (∀ u : Wg w, Calls Tryz.prog 87 #[.slice (some ⟨b, off, none⟩) l.length c, .int .i64 (at' : Int)] u.val fun e w'' => e = .returned (.tuple #[.int .i64 n, .int .i64 ((at' + k : Nat) : Int), .int .i64 0]) ∧ ∃ m : Wg w, w'' = m.val) := Lib.hid (fun (u : Wg w) => (get_any l b off c at' u.val (by unfold maxLen; omega) HRD.out.cap HRD.out.le (fun j hj => Wg.cell (HRD.out.bytes j hj) (Nat.lt_trans HRD.out.low HRD.out.lt) u)).mono fun e w'' ⟨h1, h2⟩ => ⟨by rw [h2, HP.out], u, h1.symm⟩)
    refine wp_region_wr (by kernel_rfl) (by kernel_rfl) ?_
    repeat (first
      | go_big_quiet_skip
      | (go_big_quiet_want
         first
           | (go_big_quiet_op
              first
                | go_big_quiet_on
                | go_big_quiet_call (first | (go_at_call 87; exact HGET.out _)))))
    refine wpQuiet_nil ?_
    rintro w' ⟨kk, rfl⟩
    have hk2 := kk.2
    generalize kk.val = w2 at *
    clear kk
    clear c0 c1 HGET
    have HRD2 := Lib.hid (HRD.out.keep hk2.below); have HB2 := Lib.hid (But.of_below (X := fun k => k = g) hk2.below)
    clear hk2
    have d1 : w2.cell? ⟨g, 1, none⟩ = some (.int .i64 (at' : Int)) := cells_at0 HRD2.out.box 1
    have f1 := HRD2.out.frozen 1
    obtain ⟨hm1, hm2⟩ := HRD2.out.move (at2 := at' + k) hle
    have HM1 := Lib.hid hm1; have HM2 := Lib.hid hm2
    rw [Int.natCast_add] at HM1 HM2
    clear hm1 hm2
    go_wp2_with (go_at_call 57; refine (need_yes _).mono ?_; rintro e w3 ⟨rfl, rfl⟩)
    go_ret
    exact RdGives.yes (pNum_at HP.out) rfl (Nat.le_add_right _ _) rfl HM1.out (HB2.out.trans HM2.out fun _ _ q => q) rfl
set_option maxHeartbeats 4000000 in
set_option maxRecDepth 100000 in
theorem rtext_any (g b off c : Nat) (l : List UInt8) (at' : Nat) (w : World) (hr : RdAt w g b off c l at') (hl : l.length ≤ 1099511627776) :
    Calls Tryz.prog 53 #[.pointer (some ⟨g, 0, none⟩)] w (RdGives g b off c l at' w pText (fun t v _ => v = .string t)) := by
  have HRD := Lib.hid hr
  rcases hp : getTextS (l.drop at') 4096 with _ | ⟨t, k⟩
  · have HP := Lib.hid hp
    have HGT := Lib.hid (fun (e : Ending) (w2 : World) (h : GetTextGives l at' 4096 w.drew e w2) => (show w.drew = w2 ∧ ∃ q : Int, q ≠ 0 ∧ e = .returned (.tuple #[.string ⟨#[]⟩, .int .i64 0, .int .i64 q]) by
      unfold GetTextGives at h; rw [HP.out] at h; exact h))
    clear hp hr
    go_enter Tryz.func53, Tryz.ntmps53
    go_upto_region 1 with fail
    have hE1 : ∀ (u : World) (args : Array Value), (callFunc 90 args).run Tryz.prog u = .ok (.enter 90 args) u := fun u args => enters_of Tryz.func90 (by kernel_rfl) rfl args u
    refine wp_region_N 8 (fun u => u.cell? ⟨g, 0, none⟩ = some (.slice (some ⟨b, off, none⟩) l.length c) ∧ u.cell? ⟨g, 1, none⟩ = some (.int .i64 (at' : Int))) (by kernel_rfl) ?_
    have hF0 : (fun u => u.cell? ⟨g, 0, none⟩ = some (.slice (some ⟨b, off, none⟩) l.length c) ∧ u.cell? ⟨g, 1, none⟩ = some (.int .i64 (at' : Int))) w.drew := ⟨cells_at0 HRD.out.box 0, cells_at0 HRD.out.box 1⟩
    refine tw 0 (.pointer (some ⟨g, 0, none⟩)) ?_
    go_frame
    refine tw 1 (.pointer (some ⟨g, 0, none⟩)) ?_
    go_frame
    refine tw 2 (.pointer (some ⟨g, 0, none⟩)) ?_
    go_frame
    refine tkF 3 (.slice (some ⟨b, off, none⟩) l.length c) (by kernel_rfl) rfl (fun _ _ _ h => h) (by rfl) hF0 (fun w' hw' => ex_load1 22 _ rfl (p := ⟨g, 0, none⟩) rfl Tryz.underlying22 rfl hw'.1) ?_
    go_frame
    refine tw 4 (.pointer (some ⟨g, 0, none⟩)) ?_
    go_frame
    refine tw 5 (.pointer (some ⟨g, 0, none⟩)) ?_
    go_frame
    refine tw 6 (.pointer (some ⟨g, 1, none⟩)) ?_
    go_frame
    refine tkF 7 (.int .i64 (at' : Int)) (by kernel_rfl) rfl (fun _ _ _ h => h) (by rfl) hF0 (fun w' hw' => ex_load1 3 _ rfl (p := ⟨g, 1, none⟩) rfl Tryz.underlying3 rfl hw'.2) ?_
    go_frame
    refine ta 8 ?_
    refine wpOp_call _ rfl (by kernel_rfl) (ex_callFn (f := 90) (args := #[.slice (some ⟨b, off, none⟩) l.length c, .int .i64 (at' : Int), .int .i64 4096]) rfl rfl (fun args w => hE1 w args) (by simp only [List.map_toArray, List.map_cons, List.map_nil]; rfl)) ?_
    refine (getText_any l b off c at' 4096 w.drew hl HRD.out.cap HRD.out.le HRD.out.bytes).mono ?_
    rintro e w2 hgt
    obtain ⟨rfl, q, hq, rfl⟩ := HGT.out e w2 hgt
    clear hgt
    refine ⟨_, rfl, fun h => absurd h (by decide), ?_⟩
    go_frame
    refine tw 9 (.tuple #[.string ⟨#[]⟩, .int .i64 0, .int .i64 q]) ?_
    go_frame
    refine tw 10 (.string ⟨#[]⟩) ?_
    go_frame
    refine tw 11 (.int .i64 0) ?_
    go_frame
    refine tw 12 (.int .i64 q) ?_
    go_frame
    refine tw 13 (.string ⟨#[]⟩) ?_
    go_frame
    refine tw 14 (.int .i64 0) ?_
    go_frame
    refine tw 15 (.int .i64 q) ?_
    go_frame
    refine wpAnyN_done (by kernel_rfl) ?_ _
    have HRD2 := Lib.hid (HRD.out.keep (Below.refl _ _).drew)
    have dq : (q == 0) = false := by rw [beq_eq_false_iff_ne]; exact hq
    have HQ := Lib.hid hq
    clear hq
    go_wp2_with (go_at_call 57; refine (need_no _).mono ?_; rintro e w3 ⟨rfl, rfl⟩)
    exact ⟨rfl, RdGives.no (pText_no HP.out) rfl (But.refl (fun k => k = g) w).drew⟩
  · have HP := Lib.hid hp
    have hle : at' + k ≤ l.length := by
      have h1 := (text_getTextS hp).2.1
      have h2 := hr.le
      rw [List.length_drop] at h1
      omega
    have HGT := Lib.hid (fun (e : Ending) (w2 : World) (h : GetTextGives l at' 4096 w.drew e w2) => (show w.drew = w2 ∧ e = .returned (.tuple #[.string ⟨t.toArray⟩, .int .i64 ((at' + k : Nat) : Int), .int .i64 0]) by
      unfold GetTextGives at h; rw [HP.out] at h; exact h))
    clear hp hr
    go_enter Tryz.func53, Tryz.ntmps53
    go_upto_region 1 with fail
    have hE1 : ∀ (u : World) (args : Array Value), (callFunc 90 args).run Tryz.prog u = .ok (.enter 90 args) u := fun u args => enters_of Tryz.func90 (by kernel_rfl) rfl args u
    refine wp_region_N 8 (fun u => u.cell? ⟨g, 0, none⟩ = some (.slice (some ⟨b, off, none⟩) l.length c) ∧ u.cell? ⟨g, 1, none⟩ = some (.int .i64 (at' : Int))) (by kernel_rfl) ?_
    have hF0 : (fun u => u.cell? ⟨g, 0, none⟩ = some (.slice (some ⟨b, off, none⟩) l.length c) ∧ u.cell? ⟨g, 1, none⟩ = some (.int .i64 (at' : Int))) w.drew := ⟨cells_at0 HRD.out.box 0, cells_at0 HRD.out.box 1⟩
    refine tw 0 (.pointer (some ⟨g, 0, none⟩)) ?_
    go_frame
    refine tw 1 (.pointer (some ⟨g, 0, none⟩)) ?_
    go_frame
    refine tw 2 (.pointer (some ⟨g, 0, none⟩)) ?_
    go_frame
    refine tkF 3 (.slice (some ⟨b, off, none⟩) l.length c) (by kernel_rfl) rfl (fun _ _ _ h => h) (by rfl) hF0 (fun w' hw' => ex_load1 22 _ rfl (p := ⟨g, 0, none⟩) rfl Tryz.underlying22 rfl hw'.1) ?_
    go_frame
    refine tw 4 (.pointer (some ⟨g, 0, none⟩)) ?_
    go_frame
    refine tw 5 (.pointer (some ⟨g, 0, none⟩)) ?_
    go_frame
    refine tw 6 (.pointer (some ⟨g, 1, none⟩)) ?_
    go_frame
    refine tkF 7 (.int .i64 (at' : Int)) (by kernel_rfl) rfl (fun _ _ _ h => h) (by rfl) hF0 (fun w' hw' => ex_load1 3 _ rfl (p := ⟨g, 1, none⟩) rfl Tryz.underlying3 rfl hw'.2) ?_
    go_frame
    refine ta 8 ?_
    refine wpOp_call _ rfl (by kernel_rfl) (ex_callFn (f := 90) (args := #[.slice (some ⟨b, off, none⟩) l.length c, .int .i64 (at' : Int), .int .i64 4096]) rfl rfl (fun args w => hE1 w args) (by simp only [List.map_toArray, List.map_cons, List.map_nil]; rfl)) ?_
    refine (getText_any l b off c at' 4096 w.drew hl HRD.out.cap HRD.out.le HRD.out.bytes).mono ?_
    rintro e w2 hgt
    obtain ⟨rfl, rfl⟩ := HGT.out e w2 hgt
    clear hgt
    refine ⟨_, rfl, fun h => absurd h (by decide), ?_⟩
    go_frame
    refine tw 9 (.tuple #[.string ⟨t.toArray⟩, .int .i64 ((at' + k : Nat) : Int), .int .i64 0]) ?_
    go_frame
    refine tw 10 (.string ⟨t.toArray⟩) ?_
    go_frame
    refine tw 11 (.int .i64 ((at' + k : Nat) : Int)) ?_
    go_frame
    refine tw 12 (.int .i64 0) ?_
    go_frame
    refine tw 13 (.string ⟨t.toArray⟩) ?_
    go_frame
    refine tw 14 (.int .i64 ((at' + k : Nat) : Int)) ?_
    go_frame
    refine tw 15 (.int .i64 0) ?_
    go_frame
    refine wpAnyN_done (by kernel_rfl) ?_ _
    have HRD2 := Lib.hid (HRD.out.keep (Below.refl _ _).drew)
    have d1 : w.drew.cell? ⟨g, 1, none⟩ = some (.int .i64 (at' : Int)) := cells_at0 HRD2.out.box 1
    have f1 := HRD2.out.frozen 1
    obtain ⟨hm1, hm2⟩ := HRD2.out.move (at2 := at' + k) hle
    have HM1 := Lib.hid hm1; have HM2 := Lib.hid ((But.refl (fun k => k = g) w).drew.trans hm2 fun _ _ q => q)
    clear hm1 hm2
    go_wp2_with (go_at_call 57; refine (need_yes _).mono ?_; rintro e w3 ⟨rfl, rfl⟩)
    go_ret
    exact RdGives.yes (pText_at HP.out) rfl (Nat.le_add_right _ _) rfl (by first | exact HM1.out | (rw [← Int.natCast_add]; exact HM1.out)) (by first | exact HM2.out | (rw [← Int.natCast_add]; exact HM2.out)) rfl
end Go.Proofs.YthjaepmfkgejkaaGreatDoor
