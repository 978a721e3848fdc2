/-
  What the reference's Name gives. Condition: a text's length is an int's.
-/
import Derived.Test.YtmlkhloonmgkpaaDoorRefPath
namespace Go.Proofs.YtmlkhloonmgkpaaDoor
open Go.RowKit
set_option linter.unusedVariables false

theorem heap_new1 (w : World) (o : Obj) : (w.alloc o).heap[w.heap.size]? = some o := by
  show (w.heap.push o)[w.heap.size]? = some o
  simp

set_option maxHeartbeats 8000000 in
set_option maxRecDepth 100000 in
theorem refName_any (s : ByteArray) (w : World) (hs : s.size ≤ maxLen) : Calls Tryd.prog 33 #[.string s] w fun e w' => Below w.heap.size w w' ∧ e = .returned (.bool (nameB s)) := by
  unfold maxLen at hs
  have hb := getB s
  by_cases h1 : s.size < 1
  · rw [show nameB s = false by rw [nameB_eq]; simp [headB]; omega]
    go_enter Tryd.func33, Tryd.ntmps33
    go_wp2_with fail
    go_ret
    exact ⟨Below.refl _ _, rfl⟩
  by_cases h2 : 32 < s.size
  · rw [show nameB s = false by rw [nameB_eq]; simp [headB]; omega]
    go_enter Tryd.func33, Tryd.ntmps33
    go_wp2_with fail
    go_ret
    exact ⟨Below.refl _ _, rfl⟩
  by_cases h5 : s = HEAD
  · rw [show nameB s = false by rw [nameB_eq]; simp [headB, h5]]
    have h5' : (s.toList == [72, 69, 65, 68]) = true := by rw [HEAD_eq]; simp [h5]
    clear h5
    go_enter Tryd.func33, Tryd.ntmps33
    go_wp2_with fail
    go_ret
    exact ⟨Below.refl _ _, rfl⟩
  have h5' : (s.toList == [72, 69, 65, 68]) = false := by rw [HEAD_eq]; simp [h5]
  by_cases h3 : B s 0 = 46
  · rw [show nameB s = false by rw [nameB_eq]; simp [headB, h3]]
    have h3' : (((B s 0 : Nat) : Int) == 46) = true := by rw [h3]; rfl
    clear h3 h5
    go_enter Tryd.func33, Tryd.ntmps33
    go_wp2_with fail
    go_ret
    exact ⟨Below.refl _ _, rfl⟩
  by_cases h4 : B s 0 = 45
  · rw [show nameB s = false by rw [nameB_eq]; simp [headB, h4]]
    have h3' : (((B s 0 : Nat) : Int) == 46) = false := by simp; omega
    have h4' : (((B s 0 : Nat) : Int) == 45) = true := by rw [h4]; rfl
    clear h4 h3 h5
    go_enter Tryd.func33, Tryd.ntmps33
    go_wp2_with fail
    go_ret
    exact ⟨Below.refl _ _, rfl⟩
  have h3' : (((B s 0 : Nat) : Int) == 46) = false := by simp; omega
  have h4' : (((B s 0 : Nat) : Int) == 45) = false := by simp; omega
  have hh : headB s = true := by simp [headB, h3, h4, h5]; omega
  have HN : Hid (nameB s = (List.range s.size).all fun i => signB (B s i)) := Lib.hid (by rw [nameB_eq, hh]; rfl)
  clear hh h5 h4 h3
  go_enter Tryd.func33, Tryd.ntmps33
  go_wp2_with fail
  go_loop [3] (fun t => ∃ k : Nat, k ≤ s.size ∧ t = .int .i64 k ∧ Hid (∀ j, j < k → signB (B s j) = true)) (fun t => s.size - (intOf t).toNat)
  case atStart => exact ⟨0, by omega, rfl, Lib.hid fun j hj => absurd hj (by omega)⟩
  case round =>
    obtain ⟨k, hk, rfl, hR⟩ := hrel
    by_cases hlt : k < s.size
    · have hB := B_lt s k
      have hyes : signB (B s k) = true → ∀ j, j < k + 1 → signB (B s j) = true := by
        intro h j hj
        rcases (by omega : j < k ∨ j = k) with h' | h'
        · exact hR.out j h'
        · rw [h']; exact h
      have hno : signB (B s k) = false → nameB s = false := fun h => by rw [HN.out, all_range_stop hlt h]
      have hy0 : ∀ c, ((97 ≤ c ∧ c ≤ 122) ∨ (65 ≤ c ∧ c ≤ 90) ∨ (48 ≤ c ∧ c ≤ 57) ∨ c = 45 ∨ c = 95 ∨ c = 46) → signB c = true := by
        intro c h; simp only [signB, Bool.or_eq_true, Bool.and_eq_true, decide_eq_true_eq, beq_iff_eq]; omega
      have hn0 : ∀ c, ¬ ((97 ≤ c ∧ c ≤ 122) ∨ (65 ≤ c ∧ c ≤ 90) ∨ (48 ≤ c ∧ c ≤ 57) ∨ c = 45 ∨ c = 95 ∨ c = 46) → signB c = false := by
        intro c h; rw [Bool.eq_false_iff]; simp only [signB, ne_eq, Bool.or_eq_true, Bool.and_eq_true, decide_eq_true_eq, beq_iff_eq]; omega
      have HY : Hid (∀ c, ((97 ≤ c ∧ c ≤ 122) ∨ (65 ≤ c ∧ c ≤ 90) ∨ (48 ≤ c ∧ c ≤ 57) ∨ c = 45 ∨ c = 95 ∨ c = 46) → signB c = true) := Lib.hid hy0
      have HNN : Hid (∀ c, ¬ ((97 ≤ c ∧ c ≤ 122) ∨ (65 ≤ c ∧ c ≤ 90) ∨ (48 ≤ c ∧ c ≤ 57) ∨ c = 45 ∨ c = 95 ∨ c = 46) → signB c = false) := Lib.hid hn0
      have HYES := Lib.hid hyes; clear hyes
      have HNO := Lib.hid hno; clear hno
      clear hy0 hn0
      generalize hc : B s k = c at *
      have HC := Lib.hid hc; clear hc
      have hbk : ∀ (h : k < s.size), ((s[k]'h).toNat : Int) = (c : Int) := fun h => by rw [getB s k h, HC.out]
      clear hb
      go_upto_region 7 with fail
      go_cut [4, 72] (fun s4 s72 wx => s4 = .int .u8 (c : Nat) ∧ s72 = .bool (!signB c) ∧ wx = w)
      case first =>
        have e1 : (c : Nat) < 256 := hB
        rcases (by omega : c < 45 ∨ c = 45 ∨ c = 46 ∨ c = 47 ∨ (48 ≤ c ∧ c ≤ 57) ∨ (58 ≤ c ∧ c ≤ 64) ∨ (65 ≤ c ∧ c ≤ 90) ∨ (91 ≤ c ∧ c ≤ 94) ∨ c = 95 ∨ c = 96 ∨ (97 ≤ c ∧ c ≤ 122) ∨ 123 ≤ c) with h | h | h | h | h | h | h | h | h | h | h | h
        all_goals
          clear HYES HNO
          go_wp2_with fail
          go_meet
          refine ⟨by first | rfl | (rw [h]; rfl), ?_, rfl⟩
          first
          | (rw [HY.out c (by omega)]; first | rfl | (congr 1; simp; omega))
          | (rw [HNN.out c (by omega)]; first | rfl | (congr 1; simp; omega))
      case rest =>
        obtain ⟨rfl, rfl, rfl⟩ := hcut
        cases hsg : signB c
        · have HS := Lib.hid hsg; clear hsg
          go_wp2_with fail
          go_ret
          exact ⟨Below.refl _ _, by rw [HNO.out HS.out]; rfl⟩
        · have HS := Lib.hid hsg; clear hsg
          go_wp2_with fail
          go_round
          case rel => exact ⟨k + 1, by omega, by go_num, Lib.hid (HYES.out HS.out)⟩
          case measure => simp [intOf]; omega
    · have hs32 : s.size ≤ 32 := by omega
      clear hb h5' h3' h4' hs
      go_wp2_with (first | (go_at_call 71; refine (unhex_no s _ hs32).mono ?_; rintro e w1 ⟨hb1, rfl⟩) | (refine wp_storeN (B := w.heap.size) (w0 := w) rfl 45 _ _ rfl w1.heap.size _ rfl rfl 45 _ (heap_new1 _ _) sizeId rfl (by kernel_rfl) (hb1.alloc hb1.size _) hb1.size ?_; intro W hbW _ _))
      go_ret
      refine ⟨hbW, ?_⟩
      have hks : k = s.size := by omega
      rw [HN.out, all_range_done (fun j hj => hR.out j (by omega))]
      rfl
end Go.Proofs.YtmlkhloonmgkpaaDoor
