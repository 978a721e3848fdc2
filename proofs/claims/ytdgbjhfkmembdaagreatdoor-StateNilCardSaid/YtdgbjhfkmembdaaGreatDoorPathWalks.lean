/-
  What layer 7's predicates of one text give: sign, shown, plain, Author, Note, Name, Path. Conditions: none but that a text's length is an int's; Path asks that the library's variable MaxLen holds a number.
-/
import Derived.Test.YtdgbjhfkmembdaaGreatDoorShort0
import Derived.Test.YtdgbjhfkmembdaaGreatDoorUtfRefWalks
import Derived.Test.YtdgbjhfkmembdaaGreatDoorPathSpec
import Derived.Test.YtdgbjhfkmembdaaGreatDoorMem
import Derived.Test.YtdgbjhfkmembdaaGreatDoorShelf
import Derived.Lib.OthersKept
namespace Go.Proofs.YtdgbjhfkmembdaaGreatDoor
open Go.RowKit
set_option linter.unusedVariables false

theorem ret_bool {a b : Bool} (h : a = b) : Ending.returned (.bool a) = .returned (.bool b) := by rw [h]

theorem shown_any (r : Nat) (w : World) (hr : r ≤ 2147483647) : Calls Tryz.prog 211 #[.int .i32 r] w fun e w' => w = w' ∧ e = .returned (.bool (shownB r)) := by
  have hy : 32 ≤ r ∧ r ≠ 127 → shownB r = true := by intro h; simp [shownB, h]
  have hn : ¬ (32 ≤ r ∧ r ≠ 127) → shownB r = false := by intro h; rw [Bool.eq_false_iff]; simp [shownB]; omega
  rcases (by omega : r < 32 ∨ r = 127 ∨ (32 ≤ r ∧ r < 127) ∨ 127 < r) with h | h | h | h
  all_goals
    first
    | rw [hy (by omega)]
    | rw [hn (by omega)]
    clear hy hn
    first
    | (subst h; go_enter Tryz.func211, Tryz.ntmps211; go_wp2; go_ret; refine ⟨rfl, ret_bool ?_⟩; simp; done)
    | (go_enter Tryz.func211, Tryz.ntmps211; go_wp2; go_ret; refine ⟨rfl, ret_bool ?_⟩; simp; omega)
    | (go_enter Tryz.func211, Tryz.ntmps211; go_wp2; go_ret; refine ⟨rfl, ret_bool ?_⟩; simp; done)
    | (go_enter Tryz.func211, Tryz.ntmps211; go_wp2; go_ret; refine ⟨rfl, ret_bool ?_⟩; simp; omega)

theorem yes_any (r : Nat) (w : World) : Calls Tryz.prog 253 #[.int .i32 r] w fun e w' => w = w' ∧ e = .returned (.bool true) := by
  go_enter Tryz.func253, Tryz.ntmps253
  go_wp2
  go_ret
  exact ⟨rfl, rfl⟩

theorem all_head {p : Nat → Bool} {s : ByteArray} {k : Nat} (h : k < s.size) (ho : okAt s k = true) :
    ((runesAt s k).map (·.all p)) = (((runesAt s (k + (Utf8.decode s k).2)).map (·.all p)).map (p (Utf8.decode s k).1 && ·)) := by
  rw [runesAt_ok h ho]
  cases runesAt s (k + (Utf8.decode s k).2) <;> simp

/-- A text that is one: each place that is come to is right. -/
def okFrom (s : ByteArray) (k : Nat) : Prop := (runesAt s k).isSome = true
theorem okFrom.at_ {s : ByteArray} {k : Nat} (h : okFrom s k) (hk : k < s.size) : okAt s k = true ∧ okFrom s (k + (Utf8.decode s k).2) := by
  cases ho : okAt s k
  · unfold okFrom at h; rw [runesAt_bad hk ho] at h; cases h
  · refine ⟨rfl, ?_⟩
    unfold okFrom at h ⊢
    rw [runesAt_ok hk ho] at h
    simpa using h

set_option maxHeartbeats 1000000 in
set_option maxRecDepth 100000 in
theorem plain_shown (s : ByteArray) (w : World) (hs : s.size ≤ maxLen) :
    Calls Tryz.prog 210 #[.string s, .func (.func 211) #[] #[]] w fun e w' => Below w.heap.size w w' ∧ e = .returned (.bool (plainB s shownB)) := by
  go_enter Tryz.func210, Tryz.ntmps210
  go_wp2_with fail
  refine (check_any s _ hs).mono ?_
  rintro e w1 ⟨rfl, ⟨ht, rfl⟩ | ⟨ht, n, rfl⟩⟩
  · have hpl : plainB s shownB = ((runesAt s 0).map (·.all shownB)).getD false := by
      unfold plainB; rw [runesOf_eq]
      cases runesAt s 0 <;> rfl
    have HP := Lib.hid hpl; clear hpl
    have hok : okFrom s 0 := ht
    have HK := Lib.hid hok; clear hok
    clear ht
    unfold maxLen at hs
    go_wp2_with fail
    go_loopw [] (fun wr => ∃ k : Nat, k ≤ s.size ∧ wr = w.iter s k ∧ Hid (okFrom s k) ∧ Hid (plainB s shownB = ((runesAt s k).map (·.all shownB)).getD false)) (fun wr => s.size - wr.iterPos w.heap.size)
    case atStart => exact ⟨0, by omega, rfl, HK, HP⟩
    case round =>
      obtain ⟨k, hk, rfl, hK, hR⟩ := hrel
      by_cases hp : k < s.size
      · have hnx : ∀ ty, (Instr.next (.pointer (some ⟨w.heap.size, 0, none⟩)) true ty).run Tryz.prog (w.iter s k) = _ := fun ty => run_next_any w s k ty hp
        have hin := dec_in hp
        have hrl := decode_le s k
        obtain ⟨ho, hk2⟩ := hK.out.at_ hp
        have HO := Lib.hid ho; clear ho
        have HK2 := Lib.hid hk2; clear hk2
        cases hpr : shownB (Utf8.decode s k).1
        · have HPR := Lib.hid hpr; clear hpr
          go_wp2_with fail
          refine (shown_any _ _ hrl).mono ?_
          rintro e w2 ⟨rfl, rfl⟩
          rw [HPR.out]
          go_wp2_with fail
          go_ret
          refine ⟨(qB _ w).alloc (qR _) _, ?_⟩
          rw [hR.out, all_head hp HO.out, HPR.out]
          cases runesAt s (k + (Utf8.decode s k).2) <;> rfl
        · have HPR := Lib.hid hpr; clear hpr
          go_wp2_with fail
          refine (shown_any _ _ hrl).mono ?_
          rintro e w2 ⟨rfl, rfl⟩
          rw [HPR.out]
          go_wp2_with fail
          go_roundw
          case rel =>
            refine ⟨k + (Utf8.decode s k).2, by omega, rfl, HK2, Lib.hid ?_⟩
            rw [hR.out, all_head hp HO.out, HPR.out]
            cases runesAt s (k + (Utf8.decode s k).2) <;> simp
          case measure => simp; omega
      · have hnx : ∀ ty, (Instr.next (.pointer (some ⟨w.heap.size, 0, none⟩)) true ty).run Tryz.prog (w.iter s k) = _ := fun ty => run_next_end w s k ty hp
        go_wp2_with fail
        go_ret
        refine ⟨(qB _ w).alloc (qR _) _, ?_⟩
        rw [hR.out, runesAt_end (by omega)]; rfl
  · have HT := Lib.hid ht; clear ht
    go_wp2_with fail
    go_ret
    exact ⟨qB _ _, by rw [plainB_text HT.out]; rfl⟩

/-- A text's runes, whatever they are. -/
def anyB (_ : Nat) : Bool := true
theorem anyB_text (s : ByteArray) : plainB s anyB = isText s := plainB_true
theorem yes_any' (r : Nat) (w : World) : Calls Tryz.prog 253 #[.int .i32 r] w fun e w' => w = w' ∧ e = .returned (.bool (anyB r)) := yes_any r w
set_option maxHeartbeats 1000000 in
set_option maxRecDepth 100000 in
theorem plain_yes (s : ByteArray) (w : World) (hs : s.size ≤ maxLen) :
    Calls Tryz.prog 210 #[.string s, .func (.func 253) #[] #[]] w fun e w' => Below w.heap.size w w' ∧ e = .returned (.bool (plainB s anyB)) := by
  go_enter Tryz.func210, Tryz.ntmps210
  go_wp2_with fail
  refine (check_any s _ hs).mono ?_
  rintro e w1 ⟨rfl, ⟨ht, rfl⟩ | ⟨ht, n, rfl⟩⟩
  · have hpl : plainB s anyB = ((runesAt s 0).map (·.all anyB)).getD false := by
      unfold plainB; rw [runesOf_eq]
      cases runesAt s 0 <;> rfl
    have HP := Lib.hid hpl; clear hpl
    have hok : okFrom s 0 := ht
    have HK := Lib.hid hok; clear hok
    clear ht
    unfold maxLen at hs
    go_wp2_with fail
    go_loopw [] (fun wr => ∃ k : Nat, k ≤ s.size ∧ wr = w.iter s k ∧ Hid (okFrom s k) ∧ Hid (plainB s anyB = ((runesAt s k).map (·.all anyB)).getD false)) (fun wr => s.size - wr.iterPos w.heap.size)
    case atStart => exact ⟨0, by omega, rfl, HK, HP⟩
    case round =>
      obtain ⟨k, hk, rfl, hK, hR⟩ := hrel
      by_cases hp : k < s.size
      · have hnx : ∀ ty, (Instr.next (.pointer (some ⟨w.heap.size, 0, none⟩)) true ty).run Tryz.prog (w.iter s k) = _ := fun ty => run_next_any w s k ty hp
        have hin := dec_in hp
        have hrl := decode_le s k
        obtain ⟨ho, hk2⟩ := hK.out.at_ hp
        have HO := Lib.hid ho; clear ho
        have HK2 := Lib.hid hk2; clear hk2
        cases hpr : anyB (Utf8.decode s k).1
        · have HPR := Lib.hid hpr; clear hpr
          go_wp2_with fail
          refine (yes_any' _ _).mono ?_
          rintro e w2 ⟨rfl, rfl⟩
          rw [HPR.out]
          go_wp2_with fail
          go_ret
          refine ⟨(qB _ w).alloc (qR _) _, ?_⟩
          rw [hR.out, all_head hp HO.out, HPR.out]
          cases runesAt s (k + (Utf8.decode s k).2) <;> rfl
        · have HPR := Lib.hid hpr; clear hpr
          go_wp2_with fail
          refine (yes_any' _ _).mono ?_
          rintro e w2 ⟨rfl, rfl⟩
          rw [HPR.out]
          go_wp2_with fail
          go_roundw
          case rel =>
            refine ⟨k + (Utf8.decode s k).2, by omega, rfl, HK2, Lib.hid ?_⟩
            rw [hR.out, all_head hp HO.out, HPR.out]
            cases runesAt s (k + (Utf8.decode s k).2) <;> simp
          case measure => simp; omega
      · have hnx : ∀ ty, (Instr.next (.pointer (some ⟨w.heap.size, 0, none⟩)) true ty).run Tryz.prog (w.iter s k) = _ := fun ty => run_next_end w s k ty hp
        go_wp2_with fail
        go_ret
        refine ⟨(qB _ w).alloc (qR _) _, ?_⟩
        rw [hR.out, runesAt_end (by omega)]; rfl
  · have HT := Lib.hid ht; clear ht
    go_wp2_with fail
    go_ret
    exact ⟨qB _ _, by rw [plainB_text HT.out]; rfl⟩
end Go.Proofs.YtdgbjhfkmembdaaGreatDoor
