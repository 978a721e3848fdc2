/-
  What the writer's number and text write. Conditions: a number below 2^63; a text of at most 2^40 bytes.
-/
import Derived.Test.YtdgbjhfkmembdaaGreatDoorShort9
import Derived.Test.YtdgbjhfkmembdaaGreatDoorWriterMem
namespace Go.Proofs.YtdgbjhfkmembdaaGreatDoor
open Go.RowKit Go.Maps
set_option linter.unusedVariables false
set_option linter.unusedSimpArgs false

set_option maxHeartbeats 4000000 in
set_option maxRecDepth 100000 in
theorem wnum_any (g n : Nat) (xs : List UInt8) (w : World) (hw : WrAt w g xs) (hn : n < 9223372036854775808) (hx : xs.length ≤ 1099511627776) :
    Calls Tryz.prog 192 #[.pointer (some ⟨g, 0, none⟩), .int .i64 (n : Int)] w fun e w' => e = .returned (.tuple #[]) ∧ WrAt w' g (xs ++ numB n) ∧ WrGo g w w' := by
  have HLT := Lib.hid hw.lt
  obtain ⟨v, hhg, how⟩ := hw
  have HHG := Lib.hid hhg; have HOW := Lib.hid how
  have HCV := Lib.hid (show w.cell? ⟨g, 0, none⟩ = some v from cells_at0 hhg 0)
  clear hhg how
  have hlen := numB_len10 (n := n) (by omega)
  have hpos := numB_pos n
  have HWF : IntKind.u64.wrap (n : Int) = (n : Int) := IntWalk.u64_in _ ⟨by omega, by omega⟩
  clear HWF
  go_enter Tryz.func192, Tryz.ntmps192
  go_wp2_with (first
    | (go_at_call 229; refine (put_nil n hn w).mono ?_; rintro e w1 ⟨v1, rfl, ho1, hb1⟩
       obtain ⟨k1, c1, rfl, hcs1⟩ := own_addr ho1 hpos
       have HC1 := Lib.hid hcs1
       have HB1 := Lib.hid hb1
       have hc1 : w1.cell? ⟨g, 0, none⟩ = some v := (hb1.cell (p := ⟨g, 0, none⟩) HLT.out).trans HCV.out
       have HOW1 := Lib.hid ((But.of_below (X := NoB) hb1).own HOW.out fun _ _ q => q)
       have HSZ1 := Lib.hid hb1.size
       clear hcs1 ho1 hb1)
    | (refine wp_appS_w (by rfl) _ _ 169 rfl (g + 1) 5 (.int .u8 0) 1 1 Tryz.underlying169 info_u8 rfl (by decide) v xs.length (idV xs) rfl HOW1.out ⟨k1, 0, none⟩ (numB n).length c1 (idV (numB n)) rfl (by rw [idV_length, Nat.mul_one]) HC1.out (idV_one _) (by unfold maxLen; omega) (by omega) (Nat.le_trans HLT.out HSZ1.out) ?_
       intro v9 w9 ho9 hg9 hw9
       obtain ⟨A9, c9, rfl⟩ := own_form' ho9
       obtain ⟨cg, cf, hat, hgo⟩ := WrAt.put HHG.out HOW.out HB1.out ho9 hg9 hw9
       have HAT := Lib.hid hat; have HGO := Lib.hid hgo
       clear ho9 hg9 hw9 hat hgo))
  go_end0
  exact ⟨rfl, HAT.out, HGO.out⟩
set_option maxHeartbeats 4000000 in
set_option maxRecDepth 100000 in
theorem wtext_any (g : Nat) (s : ByteArray) (xs : List UInt8) (w : World) (hw : WrAt w g xs) (hs : s.size ≤ 1099511627776) (hx : xs.length ≤ 1099511627776) :
    Calls Tryz.prog 194 #[.pointer (some ⟨g, 0, none⟩), .string s] w fun e w' => e = .returned (.tuple #[]) ∧ WrAt w' g (xs ++ textB (L s)) ∧ WrGo g w w' := by
  have HLT := Lib.hid hw.lt
  obtain ⟨v, hhg, how⟩ := hw
  have HHG := Lib.hid hhg; have HOW := Lib.hid how
  have HCV := Lib.hid (show w.cell? ⟨g, 0, none⟩ = some v from cells_at0 hhg 0)
  clear hhg how
  have hlen : (textB (L s)).length ≤ 10 + s.size := by
    have := numB_len10 (n := (L s).length) (by rw [L_length]; omega)
    unfold textB
    rw [List.length_append, L_length]
    rw [L_length] at this
    omega
  have hpos : 0 < (textB (L s)).length := by
    have := numB_pos (L s).length
    unfold textB
    rw [List.length_append]
    omega
  have hE1 := enE Tryz.func230 rfl
  go_enter Tryz.func194, Tryz.ntmps194
  go_upto_region 0 with fail
  refine rN 10 (fun u => u.cell? ⟨g, 0, none⟩ = some v) (HCV.out) fun hF0 => ?_
  refine tw 0 (.pointer (some ⟨g, 0, none⟩)) ?_
  go_frame
  refine tw 1 (.pointer (some ⟨g, 0, none⟩)) ?_
  go_frame
  refine tw 2 (.pointer (some ⟨g, 0, none⟩)) ?_
  go_frame
  refine tw 3 (.pointer (some ⟨g, 0, none⟩)) ?_
  go_frame
  refine tl 4 (v) rfl hF0 (fun w' hw' => l1 Tryz.underlying169 hw') ?_
  go_frame
  refine tw 5 (.string s) ?_
  go_frame
  refine ta 6 ?_
  refine tc #[.slice none 0 0, .string s] hE1 rfl ?_
  refine (putText_nil s hs w.drew).mono ?_
  rintro e w1 ⟨v1, rfl, ho1, hb1⟩
  replace hb1 : Below w.heap.size w w1 := ((Below.refl _ _).drew).trans hb1
  obtain ⟨k1, c1, rfl, hcs1⟩ := own_addr ho1 hpos
  have HC1 := Lib.hid hcs1
  have HB1 := Lib.hid hb1
  have hc1 : w1.cell? ⟨g, 0, none⟩ = some v := (hb1.cell (p := ⟨g, 0, none⟩) HLT.out).trans HCV.out
  have HOW1 := Lib.hid ((But.of_below (X := NoB) hb1).own HOW.out fun _ _ q => q)
  have HSZ1 := Lib.hid hb1.size
  clear hcs1 ho1 hb1
  refine ⟨_, rfl, fun _ _ => hc1, ?_⟩
  go_frame
  refine ta 7 ?_
  refine wpOp_wp _ rfl (by kernel_rfl) ?_
  refine op_appW _ _ 169 rfl (g + 1) 5 (.int .u8 0) 1 1 Tryz.underlying169 info_u8 rfl (by decide) v xs.length (idV xs) rfl HOW1.out ⟨k1, 0, none⟩ (textB (L s)).length c1 (idV (textB (L s))) rfl (by rw [idV_length, Nat.mul_one]) HC1.out (idV_one _) (by unfold maxLen; omega) (by omega) (Nat.le_trans HLT.out HSZ1.out) ?_
  intro v9 w9 ho9 hg9 hw9
  obtain ⟨A9, c9, rfl⟩ := own_form' ho9
  obtain ⟨cg, cf, hat, hgo⟩ := WrAt.put HHG.out HOW.out HB1.out ho9 hg9 hw9
  have HAT := Lib.hid hat; have HGO := Lib.hid hgo
  clear ho9 hg9 hw9 hat hgo
  refine ⟨fun _ _ => cg, ?_⟩
  go_frame
  refine tw 8 (.pointer (some ⟨g, 0, none⟩)) ?_
  go_frame
  refine tw 9 (.pointer (some ⟨g, 0, none⟩)) ?_
  go_frame
  refine ta 10 ?_
  refine wpOp_skip _ rfl (by kernel_rfl) (ex_store1 169 _ _ rfl g 0 (.slice A9 (xs.length + (textB (L s)).length) c9) rfl rfl rfl rfl (by kernel_rfl) cg cf) ?_
  refine ⟨fun h => absurd h (by decide), ?_⟩
  go_frame
  refine wpAnyN_done (by kernel_rfl) ?_ _
  go_wp2_with fail
  go_end0
  exact ⟨rfl, HAT.out, HGO.out⟩
end Go.Proofs.YtdgbjhfkmembdaaGreatDoor
