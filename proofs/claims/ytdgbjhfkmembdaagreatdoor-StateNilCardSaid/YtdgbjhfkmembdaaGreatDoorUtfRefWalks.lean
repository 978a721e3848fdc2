/-
  What the functions of utf (Check) and of the reference's layer 3 (May, Bytes, One) give. Conditions: a place lies within the text; a rune lies in its range.
-/
import Derived.Test.YtdgbjhfkmembdaaGreatDoorUtfWalks
import Derived.Test.YtdgbjhfkmembdaaGreatDoorStr
import Derived.Deep.RegionWith
import Derived.Deep.DeepCutAuto
import Derived.Deep.CutBlock
import Derived.Deep.LoopGhost
import Derived.Deep.QuietTactic
import Derived.BigQuiet
import Derived.WalkSmall
import Derived.WalkSpells
import Derived.WalkLawsBesides
namespace Go.Proofs.YtdgbjhfkmembdaaGreatDoor
open Go.RowKit
set_option linter.unusedVariables false

/-- What Check says: 0, OK; or a place, ErrText. -/
def ChkGives (s : ByteArray) (w : World) (e : Ending) (w' : World) : Prop :=
  w = w' ∧ (isText s = true ∧ e = .returned (.tuple #[.int .i64 0, .int .i64 0]) ∨ isText s = false ∧ ∃ n : Int, e = .returned (.tuple #[.int .i64 n, .int .i64 5]))

set_option maxRecDepth 100000 in
theorem check_any (s : ByteArray) (w : World) (hs : s.size ≤ maxLen) :
    Calls Tryz.prog 198 #[.string s] w (ChkGives s w) := by
  have hs' := hs
  unfold maxLen at hs
  go_enter Tryz.func198, Tryz.ntmps198
  go_wp2
  go_loop [2] (fun t => ∃ k : Nat, k ≤ s.size ∧ t = .int .i64 k ∧ Hid (isText s = (runesAt s k).isSome)) (fun t => s.size - (intOf t).toNat)
  case atStart => exact ⟨0, Nat.zero_le _, rfl, Lib.hid rfl⟩
  case round =>
    obtain ⟨k, hk, rfl, hR⟩ := hrel
    by_cases hlt : k < s.size
    · have hin := dec_in hlt
      go_wp2_with fail
      refine (decode_any s k _ hlt hs').mono ?_
      rintro e w' ⟨rfl, ⟨ho, rfl⟩ | ⟨ho, r, n, rfl⟩⟩
      · have HO := Lib.hid ho; clear ho
        go_wp2_with fail
        go_round
        case rel => exact ⟨k + (Utf8.decode s k).2, by omega, rfl, Lib.hid (by rw [hR.out, runesAt_ok hlt HO.out]; simp)⟩
        case measure => simp [intOf]; omega
      · have HO := Lib.hid ho; clear ho
        go_wp2_with fail
        go_ret2
        exact ⟨rfl, .inr ⟨by rw [hR.out, runesAt_bad hlt HO.out]; rfl, _, rfl⟩⟩
    · go_wp2_with fail
      go_ret2
      exact ⟨rfl, .inl ⟨by rw [hR.out, runesAt_end (by omega)]; rfl, rfl⟩⟩

theorem refMay_any (r : Int) (w : World) (h0 : 0 ≤ r) (h1 : r ≤ 2147483647) : Calls Tryz.prog 209 #[.int .i32 r] w fun e w' =>
    w = w' ∧ e = .returned (.bool (mayB r))  := by
  by_cases a2 : r < 55296
  · rw [show mayB r = true by simp [mayB]; omega]
    go_enter Tryz.func209, Tryz.ntmps209
    go_wp2
    go_ret
    exact ⟨rfl, rfl⟩
  · have : 55296 ≤ r := by omega
    by_cases a3 : 57343 < r
    · rw [show mayB r = decide (r ≤ 1114111) by unfold mayB; rw [Bool.eq_iff_iff]; simp; omega]
      go_enter Tryz.func209, Tryz.ntmps209
      go_wp2
      go_ret
      exact ⟨rfl, rfl⟩
    · rw [show mayB r = false by unfold mayB; rw [Bool.eq_false_iff]; simp; omega]
      go_enter Tryz.func209, Tryz.ntmps209
      go_wp2
      go_ret
      exact ⟨rfl, rfl⟩

set_option maxRecDepth 100000 in
theorem refBytes_any (r : Int) (w : World) (h0 : 0 ≤ r) (h1 : r ≤ 1114111) : Calls Tryz.prog 113 #[.int .i32 r] w fun e w' =>
    w.alloc (.cells ((encB r).map (Value.int .u8)).toArray 5) = w' ∧ e = .returned (.slice (some ⟨w.heap.size, 0, none⟩) (encB r).length (encB r).length) := by
  rcases (by omega : r < 128 ∨ (128 ≤ r ∧ r < 2048) ∨ (2048 ≤ r ∧ r < 65536) ∨ 65536 ≤ r) with a | ⟨a, b⟩ | ⟨a, b⟩ | a
  · rw [encB1 a]
    go_enter Tryz.func113, Tryz.ntmps113
    go_wp2
    go_ret
    exact ⟨rfl, rfl⟩
  · rw [encB2 a b]
    go_enter Tryz.func113, Tryz.ntmps113
    go_wp2
    go_ret
    exact ⟨rfl, rfl⟩
  · rw [encB3 a b]
    go_enter Tryz.func113, Tryz.ntmps113
    go_wp2
    go_ret
    exact ⟨rfl, rfl⟩
  · rw [encB4 a]
    go_enter Tryz.func113, Tryz.ntmps113
    go_wp2
    go_ret
    exact ⟨rfl, rfl⟩

/-- What One gives: the rune and how many bytes; or 0, 0. -/
def OneGives (s : ByteArray) (i : Nat) (w : World) (e : Ending) (w' : World) : Prop :=
  Below w.heap.size w w' ∧ (okAt s i = true ∧ e = .returned (.tuple #[.int .i32 (Utf8.decode s i).1, .int .i64 ((Utf8.decode s i).2 : Int)]) ∨
    okAt s i = false ∧ e = .returned (.tuple #[.int .i32 0, .int .i64 0]))

theorem not_hit_more {s : ByteArray} {i k : Nat} (h : okAt s i = true → k ≤ (Utf8.decode s i).2) (n : ¬ hit s i k) : okAt s i = true → k + 1 ≤ (Utf8.decode s i).2 := by
  intro ho
  have := h ho
  rcases Nat.lt_or_ge k (Utf8.decode s i).2 with a | a
  · exact a
  · exact absurd ⟨ho, by omega⟩ n

set_option maxHeartbeats 1000000 in
set_option maxRecDepth 100000 in
theorem one_any (s : ByteArray) (i : Nat) (w : World) (hi : i < s.size) (hs : s.size ≤ maxLen) : Calls Tryz.prog 172 #[.string s, .int .i64 i] w (OneGives s i w) := by
  unfold maxLen at hs
  have hb := getB s
  have hB := B_lt s i
  have hB1 := B_lt s (i + 1)
  have hB2 := B_lt s (i + 2)
  have hB3 := B_lt s (i + 3)
  have hsz : (i : Int) < (s.size : Int) := by omega
  go_enter Tryz.func172, Tryz.ntmps172
  go_wp2
  go_loopw [6] (fun n wr => ∃ k : Nat, 1 ≤ k ∧ n = .int .i64 k ∧ Below w.heap.size w wr ∧ Hid (okAt s i = true → k ≤ (Utf8.decode s i).2)) (fun n _ => 5 - (intOf n).toNat)
  case atStart => exact ⟨1, by omega, rfl, Below.refl _ _, Lib.hid fun _ => (dec_in hi).2.1⟩
  case round =>
    obtain ⟨k, hk, rfl, hbw, hR⟩ := hrel
    by_cases hin : k ≤ 4 ∧ i + k ≤ s.size
    · obtain ⟨hk4, hik⟩ := hin
      have hvr := vOf_range s i k
      go_upto_block 2 with (fail)
      go_cut [7] (fun s7 wx => s7 = .int .i64 (vOf s i k) ∧ Below w.heap.size w wx)
      case first =>
        rcases (by omega : k = 1 ∨ k = 2 ∨ k = 3 ∨ k = 4) with rfl | rfl | rfl | rfl
        · go_wp2_with fail
          go_meet
          exact ⟨rfl, hbw⟩
        · have h1 : (i : Int) + 1 < s.size := by omega
          go_wp2_with fail
          go_quiet (fail)
          go_wp2_with fail
          go_meet
          exact ⟨rfl, below_drewN hbw _⟩
        · have h1 : (i : Int) + 1 < s.size := by omega
          have h2 : (i : Int) + 2 < s.size := by omega
          go_wp2_with fail
          go_quiet (fail)
          go_wp2_with fail
          go_meet
          exact ⟨rfl, below_drewN hbw _⟩
        · have h1 : (i : Int) + 1 < s.size := by omega
          have h2 : (i : Int) + 2 < s.size := by omega
          have h3 : (i : Int) + 3 < s.size := by omega
          go_wp2_with fail
          go_quiet (fail)
          go_wp2_with fail
          go_meet
          exact ⟨rfl, below_drewN hbw _⟩
      case rest =>
        obtain ⟨rfl, hbx⟩ := hcut
        by_cases hm : mayB (vOf s i k) = true
        · have hmr := may_range hm
          have HM := Lib.hid hm; clear hm
          generalize hv : vOf s i k = v at *
          have HV := Lib.hid hv; clear hv
          have hw1 : IntKind.i32.wrap v = v := IntWalk.i32_in _ (by omega)
          go_wp2_with (go_at_call 209; refine (refMay_any _ _ (by omega) (by omega)).mono ?_; rw [HM.out]; rintro e w' ⟨rfl, rfl⟩)
          have hconv : ∀ wx : World, (convert 169 9 (.slice (some ⟨wx.heap.size, 0, none⟩) (encB v).length (encB v).length)).run Tryz.prog (wx.alloc (.cells ((encB v).map (Value.int .u8)).toArray 5)).drew = .ok (.string (strOfNums (encB v))) (wx.alloc (.cells ((encB v).map (Value.int .u8)).toArray 5)).drew := by
            intro wx
            refine run_convert_bytes_arg _ 169 5 Tryz.underlying169 Tryz.underlying5 _ 0 _ _ _ rfl ?_ 9 Tryz.underlying9
            intro j hj
            rw [Nat.zero_add]
            show (wx.alloc _).cell? _ = _
            rw [World.cell?_alloc_new]
            simp [List.getD, hj]
          have hw2 : IntKind.i64.wrap ((i : Int) + (k : Int)) = (i : Int) + k := IntWalk.i64_in _ (by omega)
          have hsl : ∀ wx : World, (Instr.slice 9 (.string s) (some (.int .i64 (i : Int))) (some (.int .i64 ((i : Int) + (k : Int)))) none).run Tryz.prog wx = .ok (.string (s.extract i (i + k))) wx := by
            intro wx
            have := run_slice_string (P := Tryz.prog) (w := wx) 9 s .i64 .i64 (i : Int) ((i : Int) + k) Tryz.underlying9 (by omega) (by omega) (by omega)
            rw [this]
            congr 2
          have heq := enc_beq (v := v) hk hk4 hik (by omega) (by omega)
          by_cases hh : encB v = bytesAt s i k
          · rw [decide_eq_true hh] at heq
            have HH := Lib.hid hh; clear hh
            go_region_with (go_at_call 113; refine (refBytes_any _ _ (by omega) (by omega)).mono ?_; rintro e w' ⟨rfl, rfl⟩)
            go_wp2_with fail
            go_ret2
            have ht : hit s i k := vOf_miss hk hk4 hik (by rw [HV.out]; exact HM.out) (by rw [HV.out]; exact HH.out)
            obtain ⟨e1, _⟩ := vOf_hit ht
            refine ⟨(hbx.alloc hbx.size _).drew, .inl ⟨ht.1, ?_⟩⟩
            rw [← e1, ht.2, HV.out]
            rfl
          · rw [decide_eq_false hh] at heq
            have HH := Lib.hid hh; clear hh
            go_region_with (go_at_call 113; refine (refBytes_any _ _ (by omega) (by omega)).mono ?_; rintro e w' ⟨rfl, rfl⟩)
            go_wp2_with fail
            go_roundw
            case rel =>
              refine ⟨k + 1, by omega, by go_num, (hbx.alloc hbx.size _).drew, Lib.hid (not_hit_more hR.out ?_)⟩
              intro ht
              obtain ⟨e1, _, e3, _⟩ := vOf_hit ht
              rw [← e1, HV.out] at e3
              exact HH.out e3
            case measure => simp [intOf]; omega
        · have hno : ¬ hit s i k := by
            intro ht
            obtain ⟨e1, e2, _⟩ := vOf_hit ht
            rw [← e1] at e2
            exact hm e2
          have HN := Lib.hid hno; clear hno
          have hmf : mayB (vOf s i k) = false := by simpa using hm
          clear hm
          have HM := Lib.hid hmf; clear hmf
          generalize hv : vOf s i k = v at *
          clear hv
          by_cases hr : 0 ≤ v ∧ v ≤ 1114111
          · have hw1 : IntKind.i32.wrap v = v := IntWalk.i32_in _ (by omega)
            go_wp2_with (go_at_call 209; refine (refMay_any _ _ (by omega) (by omega)).mono ?_; rw [HM.out]; rintro e w' ⟨rfl, rfl⟩)
            go_roundw
            case rel => exact ⟨k + 1, by omega, by go_num, hbx, Lib.hid (not_hit_more hR.out HN.out)⟩
            case measure => simp [intOf]; omega
          · by_cases hr0 : v < 0
            · go_wp2_with fail
              go_roundw
              case rel => exact ⟨k + 1, by omega, by go_num, hbx, Lib.hid (not_hit_more hR.out HN.out)⟩
              case measure => simp [intOf]; omega
            · have hr1 : 1114111 < v := by omega
              go_wp2_with fail
              go_roundw
              case rel => exact ⟨k + 1, by omega, by go_num, hbx, Lib.hid (not_hit_more hR.out HN.out)⟩
              case measure => simp [intOf]; omega
    · have hend : OneGives s i w (.returned (.tuple #[.int .i32 0, .int .i64 0])) wr := by
        refine ⟨hbw, .inr ⟨?_, rfl⟩⟩
        cases ho : okAt s i
        · rfl
        · have := hR.out ho
          have := dec_in hi
          omega
      by_cases hk4 : k ≤ 4
      · go_wp2_with fail
        go_ret2
        exact hend
      · go_wp2_with fail
        go_ret2
        exact hend
end Go.Proofs.YtdgbjhfkmembdaaGreatDoor
