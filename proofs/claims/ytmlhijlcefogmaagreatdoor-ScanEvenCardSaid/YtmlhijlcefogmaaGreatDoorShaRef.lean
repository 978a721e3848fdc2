/-
  The document's padding. Conditions: bytes that lie in memory.
-/
import Derived.Test.YtmlhijlcefogmaaGreatDoorMerged2
import Derived.Test.YtmlhijlcefogmaaGreatDoorShaSum
set_option linter.unusedVariables false
set_option linter.unusedSimpArgs false
set_option maxHeartbeats 4000000
set_option maxRecDepth 100000
namespace Go.Proofs.YtmlhijlcefogmaaGreatDoor
open Go.RowKit Go.Maps

def PadGives (l : List UInt8) (w : World) (e : Ending) (w' : World) : Prop := ∃ A' c', e = .returned (.slice A' (padS l).length c') ∧ w'.ownsRow w.heap.size 5 1 (.slice A' (padS l).length c') (padS l).length (idV (padS l)) ∧ Below w.heap.size w w'
theorem padded_any (l : List UInt8) (A : Option Addr) (c : Nat) (w : World) (hs : Sl w w.heap.size A l.length 1 (idV l)) (hl : l.length ≤ 1099511627776) :
    Calls Tryz.prog 146 #[.slice A l.length c] w (PadGives l w) := by
  have HS := Lib.hid hs
  have HB0 := Lib.hid (show Below w.heap.size w (w.alloc (.cells #[] 5)) from (qB _ _).alloc (qR _) _)
  have hzn : zerosN l.length ≤ 63 := by unfold zerosN; omega
  clear hs
  go_enter Tryz.func146, Tryz.ntmps146
  go_upto_region 2 with (first
    | (at_builtin; refine wp_appL8 (by rfl) _ _ 78 rfl w.heap.size 5 (.int .u8 0) 1 1 Tryz.underlying78 info_u8 rfl (by decide) (.slice (some ⟨w.heap.size, 0, none⟩) 0 0) 0 [] rfl (own_made0 w w.heap.size 5 1 (qR _)) A l.length c w.heap.size (idV l) rfl (HS.out.keep HB0.out) (idV_one _) (by unfold maxLen; omega) (by omega) HB0.out.size ?_
       intro v6 w6 ho6 hg6
       obtain ⟨A6, c6, rfl⟩ := own_form' ho6
       have HO := Lib.hid (show w6.ownsRow w.heap.size 5 1 (.slice A6 l.length c6) l.length (idV l) by rw [qZ, List.nil_append] at ho6; exact ho6)
       have HB := Lib.hid (HB0.out.grown hg6 HB0.out.size (fun k e => by have h : w.heap.size = k := by simpa [Value.ownBlock] using e
                                                                         omega))
       clear ho6 hg6
       rw [qZ]))
  have hb3 := HB.out.size
  go_upto_region 3 with (at_builtin; refine wp_app1 rfl _ _ 78 rfl w.heap.size 5 (.int .u8 0) 1 Tryz.underlying78 info_u8 rfl _ _ _ rfl HO.out _ _ rfl rfl ?c1 ?c2 ?c3 ?_)
  case c1 => unfold maxLen; omega
  case c2 => omega
  case c3 => omega
  intro v9 w9 ho9 hg9
  obtain ⟨A9, c9, rfl⟩ := own_form' ho9
  have HO9 := Lib.hid ho9
  have HB9 := Lib.hid (hg9 w.heap.size w (qR _) HB.out)
  clear ho9 hg9
  go_upto_region 3 with fail
  go_loopw [3] (fun t3 wr => ∃ (k : Nat) (A : Option Addr) (c : Nat), k ≤ zerosN l.length ∧ t3 = .slice A (l.length + 1 + k) c ∧ Hid (wr.ownsRow w.heap.size 5 1 (.slice A (l.length + 1 + k) c) (l.length + 1 + k) (idV (l ++ (128 :: List.replicate k 0)))) ∧ Hid (Below w.heap.size w wr)) (fun t3 _ => l.length + 100 - shaLen t3)
  case atStart => exact ⟨0, _, _, Nat.zero_le _, rfl, Lib.hid (by have h := HO9.out; rw [show (128 :: List.replicate 0 0 : List UInt8) = [128] from rfl, idV_snoc]; exact h), HB9⟩
  case round =>
    clear HO HB HO9 HB9 hb3
    obtain ⟨k, A, c, hk, rfl, HO, HB⟩ := hrel
    have hgo := zeros_go hk
    have hb3 := HB.out.size
    by_cases hlt : k < zerosN l.length
    · have h56 := hgo.1 hlt
      have e56 : ((((l.length : Int) + 1 + (k : Int)) % 64) != 56) = true := by rw [bne_iff_ne]; omega
      clear hgo h56
      go_wp2_with (at_builtin; refine wp_app1 rfl _ _ 78 rfl w.heap.size 5 (.int .u8 0) 1 Tryz.underlying78 info_u8 rfl _ _ _ rfl HO.out _ _ rfl rfl ?c1 ?c2 ?c3 ?_)
      case c1 => unfold maxLen; omega
      case c2 => omega
      case c3 => omega
      intro v9 w9 ho9 hg9
      obtain ⟨A9, c9, rfl⟩ := own_form' ho9
      have HO9 := Lib.hid ho9
      have HB9 := Lib.hid (hg9 w.heap.size w (qR _) HB.out)
      clear ho9 hg9
      go_wp2_with fail
      go_roundw
      case rel =>
        refine ⟨k + 1, A9, c9, by omega, rfl, Lib.hid ?_, HB9⟩
        rw [List.replicate_succ', ← List.cons_append, ← List.append_assoc, idV_app]
        exact HO9.out
      case measure => simp only [shaLen]; omega
    · obtain rfl : k = zerosN l.length := by omega
      have h56 : ((((l.length : Int) + 1 + (zerosN l.length : Int)) % 64) != 56) = false := by
        rw [bne_eq_false_iff_eq]
        have h := (not_congr hgo).1 (by omega)
        omega
      clear hgo
      go_upto_region 7 with fail
      clear h56
      go_loopw [5, 3] (fun t5 t3 wr => ∃ (i : Nat) (A : Option Addr) (c : Nat), i ≤ 8 ∧ t5 = .int .i64 (i : Int) ∧ t3 = .slice A (l.length + 1 + zerosN l.length + i) c ∧ Hid (wr.ownsRow w.heap.size 5 1 (.slice A (l.length + 1 + zerosN l.length + i) c) (l.length + 1 + zerosN l.length + i) (idV (l ++ (128 :: List.replicate (zerosN l.length) 0 ++ (lenS l.length).take i)))) ∧ Hid (Below w.heap.size w wr)) (fun t5 _ _ => 8 - (intOf t5).toNat)
      case atStart => exact ⟨0, A, c, Nat.zero_le _, rfl, rfl, by rw [List.take_zero, List.append_nil]; exact HO, HB⟩
      case round =>
        clear HO HB hb3
        obtain ⟨i, A, c, hi, rfl, rfl, HO, HB⟩ := hrel
        have hb3 := HB.out.size
        by_cases hlt : i < 8
        · have i8 : (i : Int) < 8 := by omega
          obtain ⟨s, hs⟩ : ∃ s, 56 - 8 * i = s := ⟨_, rfl⟩
          have es : 56 - 8 * (i : Int) = (s : Int) := by omega
          have hs56 : s ≤ 56 := by omega
          have HSE := Lib.hid hs
          clear hs
          go_wp2_with (at_builtin; refine wp_app1 rfl _ _ 78 rfl w.heap.size 5 (.int .u8 0) 1 Tryz.underlying78 info_u8 rfl _ _ _ rfl HO.out _ _ rfl rfl ?c1 ?c2 ?c3 ?_)
          case c1 => unfold maxLen; omega
          case c2 => omega
          case c3 => omega
          intro v9 w9 ho9 hg9
          obtain ⟨A9, c9, rfl⟩ := own_form' ho9
          have HO9 := Lib.hid ho9
          have HB9 := Lib.hid (hg9 w.heap.size w (qR _) HB.out)
          clear ho9 hg9
          go_wp2_with fail
          go_roundw
          case rel =>
            refine ⟨i + 1, A9, c9, by omega, by go_num, rfl, Lib.hid ?_, HB9⟩
            have h := HO9.out
            rw [← u8_mod, ← idV_snoc] at h
            rw [lenS_take hlt, HSE.out, ← List.append_assoc, ← List.append_assoc]
            rw [List.append_assoc l]
            exact h
          case measure => (simp [intOf]) <;> omega
        · obtain rfl : i = 8 := by omega
          have i8 : ¬ ((8 : Nat) : Int) < 8 := by omega
          go_wp2_with fail
          go_ret
          have hp : (padS l).length = l.length + 1 + zerosN l.length + 8 := padS_length l
          refine ⟨A, c, by rw [hp]; rfl, ?_, HB.out⟩
          rw [hp]
          exact HO.out
end Go.Proofs.YtmlhijlcefogmaaGreatDoor
