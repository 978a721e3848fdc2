/-
  What the reference's Runes and Is give, and the two Bytes of layer 7. Condition: a text of at most 2^40 bytes (Runes makes a list).
-/
import Derived.Test.YtdgbjhfkmembdaaGreatDoorUtfRefWalks
import Derived.Test.YtdgbjhfkmembdaaGreatDoorMem
namespace Go.Proofs.YtdgbjhfkmembdaaGreatDoor
open Go.RowKit
set_option linter.unusedVariables false

theorem info_i32 : (Tryz.prog.info? 21).map (fun i => (i.zero, i.size, i.bytes)) = some (some (.int .i32 0), 1, 4) := by kernel_rfl

def i32s (l : List Nat) : List Value := l.map fun (r : Nat) => Value.int .i32 (r : Int)

/-- What Runes gives: the runes, or none and ErrText. -/
def RunesGives (s : ByteArray) (w : World) (e : Ending) (w' : World) : Prop :=
  Below w.heap.size w w' ∧ ((∃ l A c, runesOf s = some l ∧ e = .returned (.tuple #[.slice A l.length c, .int .i64 0, .int .i64 0]) ∧ Sl w' w'.heap.size A l.length 1 (i32s l)) ∨
    runesOf s = none ∧ ∃ n : Int, e = .returned (.tuple #[.slice none 0 0, .int .i64 n, .int .i64 5]))

theorem own_form {w : World} {base : Nat} {e : TypeId} {sz : Nat} {v : Value} {n : Nat} {xs : List Value} (h : w.ownsRow base e sz v n xs) : ∃ A c, v = .slice A n c := by
  rcases h.2 with ⟨hv, h0⟩ | ⟨g, cap, cur, hv, _⟩
  · exact ⟨none, 0, by rw [hv, h0]⟩
  · exact ⟨_, _, hv⟩

set_option maxHeartbeats 1000000 in
set_option maxRecDepth 100000 in
theorem runes_any (s : ByteArray) (w : World) (hs : s.size ≤ 1099511627776) : Calls Tryz.prog 119 #[.string s] w (RunesGives s w) := by
  have hs' : s.size ≤ maxLen := by unfold maxLen; omega
  go_enter Tryz.func119, Tryz.ntmps119
  go_wp2
  go_loopw [5, 6] (fun v n wr => ∃ (k : Nat) (l : List Nat), k ≤ s.size ∧ l.length ≤ k ∧ n = .int .i64 k ∧ wr.ownsRow w.heap.size 21 1 v l.length (i32s l) ∧ Below w.heap.size w wr ∧ Hid (runesOf s = (runesAt s k).map (l ++ ·))) (fun _ n _ => s.size - (intOf n).toNat)
  case atStart => exact ⟨0, [], by omega, by simp, rfl, World.ownsRow_nil _ _ _ _, Below.refl _ _, Lib.hid (by rw [runesOf_eq]; simp)⟩
  case round =>
    obtain ⟨k, l, hk, hl, rfl, hown, hbw, hR⟩ := hrel
    by_cases hlt : k < s.size
    · have hin := dec_in hlt
      go_wp2_with fail
      refine (one_any s k _ hlt hs').mono ?_
      rintro e w1 ⟨hb1, ⟨ho, rfl⟩ | ⟨ho, rfl⟩⟩
      · have HO := Lib.hid ho; clear ho
        have hr := decode_le s k
        have hbw1 : Below w.heap.size w w1 := hbw.trans (hb1.mono hbw.size)
        have hown1 : w1.ownsRow w.heap.size 21 1 u5 l.length (i32s l) := by
          refine hown.kept (row := none) ⟨hb1.os, hb1.tape, hb1.output, hb1.size, fun j hj _ => hb1.block j hj⟩ ?_
          rcases h : u5.ownBlock with _ | g
          · exact .inl rfl
          · exact .inr (by simp)
        have hne : (((Utf8.decode s k).2 : Int) == 0) = false := by simp; omega
        go_wp2_with (at_builtin; refine wp_app1 rfl _ _ 175 rfl w.heap.size 21 (.int .i32 0) 4 Tryz.underlying175 info_i32 rfl _ _ _ rfl hown1 _ _ rfl rfl ?c1 ?c2 ?c3 ?_)
        case c1 => unfold maxLen; omega
        case c2 => omega
        case c3 => exact hbw1.size
        intro v' w2 hown2 hbel
        have hb2 := hbel _ _ (Nat.le_refl _) hbw1
        clear hbel
        go_wp2_with fail
        go_roundw
        case rel =>
          refine ⟨k + (Utf8.decode s k).2, l ++ [(Utf8.decode s k).1], by omega, by simp; omega, by go_num, ?_, hb2, Lib.hid ?_⟩
          · simpa [i32s] using hown2
          · rw [hR.out, runesAt_ok hlt HO.out]
            cases runesAt s (k + (Utf8.decode s k).2) <;> simp
        case measure => simp [intOf]; omega
      · have HO := Lib.hid ho; clear ho
        go_wp2_with fail
        go_ret3
        refine ⟨hbw.trans (hb1.mono hbw.size), .inr ⟨by rw [hR.out, runesAt_bad hlt HO.out]; rfl, _, rfl⟩⟩
    · go_wp2_with fail
      go_ret3
      obtain ⟨A, c, hv⟩ := own_form hown
      refine ⟨hbw, .inl ⟨l, A, c, by rw [hR.out, runesAt_end (by omega)]; simp, ?_, ?_⟩⟩
      · rw [← hv]; rfl
      · rw [hv] at hown
        exact Sl.of_own hown

/-- Is. -/
theorem is_any (s : ByteArray) (w : World) (hs : s.size ≤ 1099511627776) : Calls Tryz.prog 265 #[.string s] w fun e w' => Below w.heap.size w w' ∧ e = .returned (.bool (isText s)) := by
  go_enter Tryz.func265, Tryz.ntmps265
  go_wp2_with fail
  refine (runes_any s _ hs).mono ?_
  rintro e w1 ⟨hb1, ⟨l, A, c, hl, rfl, hsl⟩ | ⟨hl, n, rfl⟩⟩
  · have HL := Lib.hid hl; clear hl
    go_wp2_with fail
    go_ret
    exact ⟨hb1, by unfold isText; rw [HL.out]; rfl⟩
  · have HL := Lib.hid hl; clear hl
    go_wp2_with fail
    go_ret
    exact ⟨hb1, by unfold isText; rw [HL.out]; rfl⟩

/-- Why a file's bytes may not be: an error's number. -/
def bytesS (s : ByteArray) : Int := if 4096 < s.size then 2 else if isText s then 0 else 5

theorem bytes_any (s : ByteArray) (w : World) (hs : s.size ≤ maxLen) : Calls Tryz.prog 252 #[.string s] w fun e w' => w = w' ∧ e = .returned (.int .i64 (bytesS s)) := by
  by_cases h : 4096 < s.size
  · rw [show bytesS s = 2 by simp [bytesS, h]]
    go_enter Tryz.func252, Tryz.ntmps252
    go_wp2_with fail
    go_ret
    exact ⟨rfl, rfl⟩
  · go_enter Tryz.func252, Tryz.ntmps252
    go_wp2_with fail
    refine (check_any s _ hs).mono ?_
    rintro e w1 ⟨rfl, ⟨ht, rfl⟩ | ⟨ht, n, rfl⟩⟩
    · have HT := Lib.hid ht; clear ht
      go_wp2_with fail
      go_ret
      exact ⟨rfl, by simp [bytesS, h, HT.out]⟩
    · have HT := Lib.hid ht; clear ht
      go_wp2_with fail
      go_ret
      exact ⟨rfl, by simp [bytesS, h, HT.out]⟩

theorem refFileBytes_any (s : ByteArray) (w : World) : Calls Tryz.prog 264 #[.string s] w fun e w' => Below w.heap.size w w' ∧ e = .returned (.int .i64 (bytesS s)) := by
  by_cases h : 4096 < s.size
  · rw [show bytesS s = 2 by simp [bytesS, h]]
    go_enter Tryz.func264, Tryz.ntmps264
    go_wp2_with fail
    go_ret
    exact ⟨Below.refl _ _, rfl⟩
  · have hs : s.size ≤ 1099511627776 := by omega
    go_enter Tryz.func264, Tryz.ntmps264
    go_wp2_with fail
    refine (is_any s _ hs).mono ?_
    rintro e w1 ⟨hb1, rfl⟩
    cases ht : isText s
    · have HT := Lib.hid ht; clear ht
      go_wp2_with fail
      go_ret
      exact ⟨hb1, by simp [bytesS, h, HT.out]⟩
    · have HT := Lib.hid ht; clear ht
      go_wp2_with fail
      go_ret
      exact ⟨hb1, by simp [bytesS, h, HT.out]⟩
end Go.Proofs.YtdgbjhfkmembdaaGreatDoor
