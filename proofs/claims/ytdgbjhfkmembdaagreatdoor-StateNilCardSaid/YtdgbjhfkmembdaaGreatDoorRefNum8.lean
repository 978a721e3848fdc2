/-
  The document's Number and Text give a number's and a text's bytes. Conditions: numbers not below 0.
-/
import Derived.Test.YtdgbjhfkmembdaaGreatDoorLebPut
namespace Go.Proofs.YtdgbjhfkmembdaaGreatDoor
open Go.RowKit Go.Maps
set_option linter.unusedVariables false
set_option linter.unusedSimpArgs false

/-- What Number gives: a row of its own. -/
def NumGives (l : List UInt8) (w : World) (e : Ending) (w' : World) : Prop := Below w.heap.size w w' ∧ ∃ A c, e = .returned (.slice A l.length c) ∧ w'.ownsRow w.heap.size 5 1 (.slice A l.length c) l.length (idV l)
set_option maxHeartbeats 4000000 in
set_option maxRecDepth 100000 in
theorem refNumber_any (n : Nat) (hn : n < 9223372036854775808) (w : World) : Calls Tryz.prog 204 #[.int .i64 (n : Int)] w (NumGives (numB n) w) := by
  have H10 := Lib.hid (numB_len10 (n := n) (by omega))
  go_enter Tryz.func204, Tryz.ntmps204
  go_wp2_with fail
  go_loopw [0, 3] (fun t0 t3 wr => ∃ (m : Nat) (pre : List UInt8) (A0 : Option Addr) (c0 : Nat), t0 = .int .i64 (m : Int) ∧ t3 = .slice A0 pre.length c0 ∧ m < 9223372036854775808 ∧ pre.length ≤ 10 ∧ Hid (numB n = pre ++ numB m) ∧ Hid (wr.ownsRow w.heap.size 5 1 (.slice A0 pre.length c0) pre.length (idV pre)) ∧ Hid (Below w.heap.size w wr)) (fun t0 _ _ => (intOf t0).toNat)
  case atStart => exact ⟨n, [], none, 0, rfl, rfl, hn, by simp, Lib.hid rfl, Lib.hid (World.ownsRow_nil _ _ _ _), Lib.hid (Below.refl _ _)⟩
  case round =>
    obtain ⟨m, pre, A0, c0, rfl, rfl, hm, hpl, HP, HOWN, HBR⟩ := hrel
    have hpl2 : pre.length + (numB m).length ≤ 10 := by
      have := H10.out
      rw [HP.out, List.length_append] at this
      exact this
    have hpos := numB_pos m
    by_cases h128 : m < 128
    · have HSM := Lib.hid (numB_small h128)
      have i1 : ¬ (128 : Int) ≤ (m : Int) := by omega
      go_wp2_with (at_builtin; refine wp_app1 rfl _ _ 169 rfl w.heap.size 5 (.int .u8 0) 1 Tryz.underlying169 info_u8 rfl (.slice A0 pre.length c0) pre.length (idV pre) rfl HOWN.out _ _ rfl rfl ?c1 ?c2 ?c3 ?_)
      case c1 => unfold maxLen; omega
      case c2 => omega
      case c3 => exact HBR.out.size
      intro v' w3 hown3 hbel
      have HB3 := Lib.hid (hbel _ w (Nat.le_refl _) HBR.out)
      have HO3 := Lib.hid hown3
      clear hbel hown3
      obtain ⟨A3, c3, rfl⟩ := own_form' HO3.out
      go_wp2_with fail
      go_ret
      have e1 : (numB n).length = pre.length + 1 := by rw [HP.out, HSM.out]; simp
      have e2 : idV (numB n) = idV pre ++ [.int .u8 (m : Int)] := by
        rw [HP.out, HSM.out]
        simp only [idV, List.map_append, List.map_cons, List.map_nil]
        rw [u8_of (by omega)]
      exact ⟨HB3.out, A3, c3, by rw [e1]; rfl, by rw [e1, e2]; exact HO3.out⟩
    · have i1 : (128 : Int) ≤ (m : Int) := by omega
      go_wp2_with (at_builtin; refine wp_app1 rfl _ _ 169 rfl w.heap.size 5 (.int .u8 0) 1 Tryz.underlying169 info_u8 rfl (.slice A0 pre.length c0) pre.length (idV pre) rfl HOWN.out _ _ rfl rfl ?c1 ?c2 ?c3 ?_)
      case c1 => unfold maxLen; omega
      case c2 => omega
      case c3 => exact HBR.out.size
      intro v' w3 hown3 hbel
      have HB3 := Lib.hid (hbel _ w (Nat.le_refl _) HBR.out)
      have HO3 := Lib.hid hown3
      clear hbel hown3
      obtain ⟨A3, c3, rfl⟩ := own_form' HO3.out
      go_wp2_with fail
      go_roundw
      case rel =>
        refine ⟨m / 128, pre ++ [UInt8.ofNat (m % 128 + 128)], A3, c3, congrArg (Value.int .i64) (by omega), by simp, by omega, by rw [List.length_append, List.length_singleton]; omega, Lib.hid ?_, Lib.hid ?_, HB3⟩
        · rw [HP.out, numB_big h128]
          simp
        · rw [List.length_append, List.length_singleton]
          have e : idV (pre ++ [UInt8.ofNat (m % 128 + 128)]) = idV pre ++ [.int .u8 (128 + (m : Int) % 128)] := by
            simp only [idV, List.map_append, List.map_cons, List.map_nil]
            rw [u8_of (by omega), show ((m % 128 + 128 : Nat) : Int) = 128 + (m : Int) % 128 by omega]
          rw [e]
          exact HO3.out
      case measure => (simp [intOf]) <;> omega
set_option maxHeartbeats 4000000 in
set_option maxRecDepth 100000 in
theorem refText_any (s : ByteArray) (hs : s.size ≤ 1099511627776) (w : World) : Calls Tryz.prog 203 #[.string s] w (NumGives (textB (L s)) w) := by
  have hl := numB_len10 (n := s.size) (by omega)
  obtain ⟨i0, hi, hz0, hz1, hz2⟩ := info_parts info_u8
  have HTX := Lib.hid (show textB (L s) = numB s.size ++ L s by unfold textB; rw [L_length])
  go_enter Tryz.func203, Tryz.ntmps203
  go_wp2_with (first
    | (go_at_call 204; refine (refNumber_any s.size (by omega) w).mono ?_; rintro e w1 ⟨hb1, A1, c1, rfl, ho1⟩
       have HB1 := Lib.hid hb1; have HO1 := Lib.hid ho1
       clear hb1 ho1)
    | (at_builtin; refine Lib.wpList_append_own_string _ rfl _ _ 169 9 rfl w.heap.size 5 i0 Tryz.underlying169 Tryz.underlying9 hi hz0 hz1 hz2 _ _ _ rfl HO1.out s rfl ?c1 ?c2 ?c3 ?_))
  case c1 => unfold maxLen; omega
  case c2 => omega
  case c3 => exact HB1.out.size
  intro v' w3 hown3 hgr3 _
  have HO3 := Lib.hid hown3
  have HB3 := Lib.hid (HB1.out.grown hgr3 HB1.out.size (fun k e => (HO1.out.lt k e).1))
  clear hown3 hgr3
  obtain ⟨A3, c3, rfl⟩ := own_form' HO3.out
  go_wp2_with fail
  go_ret
  have e1 : (textB (L s)).length = (numB s.size).length + s.size := by rw [HTX.out, List.length_append, L_length]
  have e2 : idV (textB (L s)) = idV (numB s.size) ++ (L s).map fun b => Value.int .u8 (b.toNat : Int) := by rw [HTX.out]; unfold idV; rw [List.map_append]
  exact ⟨HB3.out, A3, c3, by rw [e1]; rfl, by rw [e1, e2]; exact HO3.out⟩
end Go.Proofs.YtdgbjhfkmembdaaGreatDoor
