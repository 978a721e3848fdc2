/-
  What the reader's byte reads. Conditions: bytes that lie in memory; at most 2^40.
-/
import Derived.Test.YthjaepmfkgejkaaGreatDoorObjReader
namespace Go.Proofs.YthjaepmfkgejkaaGreatDoor
open Go.RowKit Go.Maps
set_option linter.unusedVariables false
set_option linter.unusedSimpArgs false

set_option maxHeartbeats 4000000 in
set_option maxRecDepth 100000 in
theorem rbyte_no (g n c at' : Nat) (A : Option Addr) (w : World) (hb : w.heap[g]? = some (.cells #[.slice A n c, .int .i64 (at' : Int)] 59 (0, 0))) (hn : n ≤ at') :
    Calls Tryz.prog 50 #[.pointer (some ⟨g, 0, none⟩)] w fun e w' => e = .panicked wrongP ∧ w' = w.drew := by
  have HB := Lib.hid hb
  clear hb
  have d1 : decide ((at' : Int) < (n : Int)) = false := by simp; omega
  have hE1 : ∀ (u : World) (args : Array Value), (callFunc 57 args).run Tryz.prog u = .ok (.enter 57 args) u := fun u args => enters_of Tryz.func57 (by kernel_rfl) rfl args u
  go_enter Tryz.func50, Tryz.ntmps50
  go_upto_region 1 with fail
  refine wp_region_N 10 (fun u => u.cell? ⟨g, 0, none⟩ = some (.slice A n c) ∧ u.cell? ⟨g, 1, none⟩ = some (.int .i64 (at' : Int))) (by kernel_rfl) ?_
  have hF0 : (fun u => u.cell? ⟨g, 0, none⟩ = some (.slice A n c) ∧ u.cell? ⟨g, 1, none⟩ = some (.int .i64 (at' : Int))) w.drew := ⟨cells_at0 HB.out 0, cells_at0 HB.out 1⟩
  refine tw 0 (.pointer (some ⟨g, 0, none⟩)) ?_
  go_frame
  refine tw 1 (.pointer (some ⟨g, 0, none⟩)) ?_
  go_frame
  refine tw 2 (.pointer (some ⟨g, 1, none⟩)) ?_
  go_frame
  refine tkF 3 (.int .i64 (at' : Int)) (by kernel_rfl) rfl (fun _ _ _ h => h) (by rfl) hF0 (fun w' hw' => ex_load1 3 _ rfl (p := ⟨g, 1, none⟩) rfl Tryz.underlying3 rfl hw'.2) ?_
  go_frame
  refine tw 4 (.pointer (some ⟨g, 0, none⟩)) ?_
  go_frame
  refine tw 5 (.pointer (some ⟨g, 0, none⟩)) ?_
  go_frame
  refine tw 6 (.pointer (some ⟨g, 0, none⟩)) ?_
  go_frame
  refine tkF 7 (.slice A n c) (by kernel_rfl) rfl (fun _ _ _ h => h) (by rfl) hF0 (fun w' hw' => ex_load1 22 _ rfl (p := ⟨g, 0, none⟩) rfl Tryz.underlying22 rfl hw'.1) ?_
  go_frame
  refine tkW 8 (.int .i64 (n : Int)) (by kernel_rfl) rfl (fun _ _ _ h => h) (by rfl) (fun w' hw' => ex_len 22 _ rfl rfl Tryz.underlying22) ?_
  go_frame
  refine tkW 9 (.bool false) (by kernel_rfl) rfl (fun _ _ _ h => h) (by rfl) (fun w' hw' => by go_simp) ?_
  go_frame
  refine ta 10 ?_
  refine wpOp_callP (ch := wrongP) _ rfl (by kernel_rfl) (ex_callFn (f := 57) (args := #[.bool false]) rfl rfl (fun args w => hE1 w args) (by simp only [List.map_toArray, List.map_cons, List.map_nil]; rfl)) ?_
  refine (need_no _).mono ?_
  rintro e w2 ⟨rfl, rfl⟩
  exact ⟨rfl, rfl, rfl, rfl⟩
set_option maxHeartbeats 4000000 in
set_option maxRecDepth 100000 in
theorem rbyte_any (g b off c : Nat) (l : List UInt8) (at' : Nat) (w : World) (hr : RdAt w g b off c l at') (hl : l.length ≤ 1099511627776) :
    Calls Tryz.prog 50 #[.pointer (some ⟨g, 0, none⟩)] w (RdGives g b off c l at' w pByte (fun k v _ => v = .int .u8 (k.toNat : Int))) := by
  have HRD := Lib.hid hr
  by_cases hlt : at' < l.length
  · have hd : l.drop at' = l[at'] :: l.drop (at' + 1) := List.drop_eq_getElem_cons hlt
    have HP : Hid (pByte (l.drop at') = some (l[at'], l.drop (at' + 1))) := Lib.hid (by rw [hd]; rfl)
    have hle : at' + 1 ≤ l.length := hlt
    have d1 : decide ((at' : Int) < (l.length : Int)) = true := by simp; omega
    have i1 : (at' : Int) < (l.length : Int) := by omega
    clear hd hr
    go_enter Tryz.func50, Tryz.ntmps50
    go_upto_region 1 with fail
    have c0 := Wg.cell (show w.cell? ⟨g, 0, none⟩ = some (.slice (some ⟨b, off, none⟩) l.length c) from cells_at0 HRD.out.box 0) HRD.out.lt
    have c1 := Wg.cell (show w.cell? ⟨g, 1, none⟩ = some (.int .i64 (at' : Int)) from cells_at0 HRD.out.box 1) HRD.out.lt
    refine wp_region_wr (by kernel_rfl) (by kernel_rfl) ?_
    repeat (first
      | go_big_quiet_skip
      | (go_big_quiet_want
         first
           | (go_big_quiet_op
              first
                | go_big_quiet_on
                | go_big_quiet_call (first | (go_at_call 57; exact (need_yes _).mono fun e w'' ⟨he, hw⟩ => ⟨he, ⟨_, hw⟩⟩)))))
    refine wpQuiet_nil ?_
    rintro w' ⟨kk, rfl⟩
    have hk2 := kk.2
    generalize kk.val = w2 at *
    clear kk
    clear c0 c1
    have HRD2 := Lib.hid (HRD.out.keep hk2.below); have HB2 := Lib.hid (But.of_below (X := fun k => k = g) hk2.below)
    clear hk2
    have e1 : w2.cell? ⟨g, 1, none⟩ = some (.int .i64 (at' : Int)) := cells_at0 HRD2.out.box 1
    have f1 := HRD2.out.frozen 1
    obtain ⟨hm1, hm2⟩ := HRD2.out.move (at2 := at' + 1) hle
    have HM1 := Lib.hid hm1; have HM2 := Lib.hid hm2
    rw [Int.natCast_add] at HM1 HM2
    clear hm1 hm2
    go_upto_region 3 with fail
    obtain ⟨w3, hw3⟩ : ∃ w3, w2.setCell ⟨g, 1, none⟩ (.int .i64 ((at' : Int) + 1)) = w3 := ⟨_, rfl⟩
    have HM1' : Hid (RdAt w3 g b off c l (at' + 1)) := by rw [← hw3]; exact HM1
    have HM2' : Hid (But (fun k => k = g) w2 w3) := by rw [← hw3]; exact HM2
    rw [hw3]
    clear e1 f1 HM1 HM2 hw3
    have c0 := Wg.cell (show w3.cell? ⟨g, 0, none⟩ = some (.slice (some ⟨b, off, none⟩) l.length c) from cells_at0 HM1'.out.box 0) HM1'.out.lt
    have c1 := Wg.cell (show w3.cell? ⟨g, 1, none⟩ = some (.int .i64 ((at' + 1 : Nat) : Int)) from cells_at0 HM1'.out.box 1) HM1'.out.lt
    have cb := Wg.cell (HM1'.out.bytes at' hlt) (Nat.lt_trans HM1'.out.low HM1'.out.lt)
    have e2 : IntKind.i64.wrap (((at' + 1 : Nat) : Int) - 1) = (at' : Int) := by rw [IntWalk.i64_in _ (by omega)]; omega
    have e3 : IntKind.i64.wrap ((at' : Int) + 1 - 1) = (at' : Int) := by rw [IntWalk.i64_in _ (by omega)]; omega
    have i0 : (0 : Int) ≤ (at' : Int) := by omega
    generalize l[at'] = x at *
    refine wp_region_wr (by kernel_rfl) (by kernel_rfl) ?_
    repeat (first
      | go_big_quiet_skip
      | (go_big_quiet_want
         first
           | (go_big_quiet_op
              first
                | go_big_quiet_on
                | go_big_quiet_call (first | (fail)))))
    refine wpQuiet_nil ?_
    rintro w' ⟨kk, rfl⟩
    have hk4 := kk.2
    generalize kk.val = w4 at *
    clear kk c0 c1 cb
    have HRD4 := Lib.hid (HM1'.out.keep hk4.below); have HB4 := Lib.hid (But.of_below (X := fun k => k = g) hk4.below)
    go_wp2_with fail
    go_ret
    exact RdGives.yes HP.out rfl (Nat.le_add_right _ _) rfl HRD4.out ((HB2.out.trans HM2'.out fun _ _ q => q).trans HB4.out fun _ _ q => q) rfl
  · have hn : l.length ≤ at' := by omega
    have HP : Hid (pByte (l.drop at') = none) := Lib.hid (by rw [List.drop_eq_nil_of_le hn]; rfl)
    refine (rbyte_no g l.length c at' _ w hr.box hn).mono ?_
    rintro e w2 ⟨rfl, rfl⟩
    exact RdGives.no HP.out rfl (But.refl (fun k => k = g) w).drew
end Go.Proofs.YthjaepmfkgejkaaGreatDoor
