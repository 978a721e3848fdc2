/-
  What the program's utf.Runes gives. Condition: a text of at most 2^40 bytes.
-/
import Derived.Test.YtdgbjhfkmembdaaGreatDoorShort0
import Derived.Test.YtdgbjhfkmembdaaGreatDoorRunes
import Derived.Test.YtdgbjhfkmembdaaGreatDoorPathWalks
import Derived.Test.YtdgbjhfkmembdaaGreatDoorMem2
namespace Go.Proofs.YtdgbjhfkmembdaaGreatDoor
open Go.RowKit Go.Maps
set_option linter.unusedVariables false
set_option linter.unusedSimpArgs false

theorem own_lower {w : World} {b b' : Nat} {e : TypeId} {sz n : Nat} {v : Value} {xs : List Value} (h : w.ownsRow b e sz v n xs) (hb : b' ≤ b) : w.ownsRow b' e sz v n xs := by
  refine ⟨h.1, ?_⟩
  rcases h.2 with h0 | ⟨g, cap, cur, hv, hbg, r⟩
  · exact .inl h0
  · exact .inr ⟨g, cap, cur, hv, Nat.le_trans hb hbg, r⟩
/-- What it gives: the runes in a row of the call's own, or none and ErrText. -/
def PRunes (s : ByteArray) (w : World) (e : Ending) (w' : World) : Prop :=
  Below w.heap.size w w' ∧ ((∃ l A c, runesOf s = some l ∧ e = .returned (.tuple #[.slice A l.length c, .int .i64 0, .int .i64 0]) ∧ w'.ownsRow w.heap.size 21 1 (.slice A l.length c) l.length (i32s l)) ∨
    runesOf s = none ∧ ∃ n : Int, e = .returned (.tuple #[.slice none 0 0, .int .i64 n, .int .i64 5]))
set_option maxHeartbeats 4000000 in
set_option maxRecDepth 100000 in
theorem prunes_any (s : ByteArray) (w : World) (hs : s.size ≤ 1099511627776) : Calls Tryz.prog 155 #[.string s] w (PRunes s w) := by
  have hs' : s.size ≤ maxLen := by unfold maxLen; omega
  rcases Bool.eq_false_or_eq_true (isText s) with ht | ht
  · have HCK : Hid (∀ u : World, Calls Tryz.prog 198 #[.string s] u fun e w' => u = w' ∧ e = .returned (.tuple #[.int .i64 0, .int .i64 0])) := Lib.hid (fun u => (check_any s u hs').mono fun e w' ⟨h1, h2⟩ => by
      rcases h2 with ⟨_, h⟩ | ⟨h, _⟩
      · exact ⟨h1, h⟩
      · rw [ht] at h; cases h)
    have HOK0 := Lib.hid (show okFrom s 0 from ht)
    obtain ⟨zi, hzi⟩ : ∃ zi, w.heap.size = zi := ⟨_, rfl⟩
    have HZI := Lib.hid hzi
    clear ht hzi
    go_enter Tryz.func155, Tryz.ntmps155
    go_upto_region 6 with (first
      | (go_at_call 198; refine (HCK.out _).mono ?_; rintro e u ⟨rfl, rfl⟩))
    go_loopw [7] (fun t7 wr => ∃ (pos : Nat) (l : List Nat), pos ≤ s.size ∧ l.length ≤ pos ∧ Hid (wr.ownsRow (w.heap.size + 1) 21 1 t7 l.length (i32s l)) ∧ Hid (wr.heap[zi]? = some (.stringIter s pos)) ∧ Hid (okFrom s pos) ∧ Hid (runesOf s = (runesAt s pos).map (l ++ ·)) ∧ Hid (Below w.heap.size w wr)) (fun _ wr => s.size - wr.iterPos zi)
    case atStart =>
      exact ⟨0, [], by omega, by simp, Lib.hid (World.ownsRow_nil _ _ _ _), Lib.hid (by rw [← HZI.out]; simpa using World.iter_heap w s 0), HOK0, Lib.hid (by rw [runesOf_eq]; simp), Lib.hid ((qB _ _).alloc (qR _) _)⟩
    case round =>
      obtain ⟨pos, l, hpos, hl, HOW, HIT, HOK, HR, HBR⟩ := hrel
      by_cases hlt : pos < s.size
      · have hnx : ∀ ty, (Instr.next (.pointer (some ⟨w.heap.size, 0, none⟩)) true ty).run Tryz.prog wr = _ := fun ty => (congrArg (fun z => (Instr.next (.pointer (some ⟨z, 0, none⟩)) true ty).run Tryz.prog wr) HZI.out).trans (Lib.run_next_any_at wr zi s pos ty HIT.out hlt)
        have hin := dec_in hlt
        obtain ⟨ho, hnk⟩ := HOK.out.at_ hlt
        have HO := Lib.hid ho
        have HOK2 := Lib.hid hnk
        have hdl := decode_le s pos
        have HIT2 := Lib.hid (Lib.iterAt_heap wr zi s pos (pos + (Utf8.decode s pos).2) HIT.out)
        have HBR2 := Lib.hid (Lib.below_iterAt HBR.out (by rw [HZI.out]; exact qR _) s (pos + (Utf8.decode s pos).2))
        have HOW2 := Lib.hid (own_iterAt HOW.out HIT.out (pos + (Utf8.decode s pos).2))
        clear ho hnk
        generalize hW2 : wr.iterAt zi s (pos + (Utf8.decode s pos).2) = W2 at *
        clear hW2
        go_wp2_with (at_builtin; refine wp_app1 rfl _ _ 175 rfl (w.heap.size + 1) 21 (.int .i32 0) 4 Tryz.underlying175 info_i32 rfl _ _ _ rfl HOW2.out _ _ rfl rfl ?c1 ?c2 ?c3 ?_)
        case c1 => unfold maxLen; omega
        case c2 => omega
        case c3 => have h1 := qX HIT2.out; have h2 := HZI.out; omega
        intro v' w2 hown2 hbel
        have HB2 := Lib.hid (hbel _ _ (Nat.le_succ _) HBR2.out)
        have HIT3 := Lib.hid (((hbel _ _ (qR _) (qB (w.heap.size + 1) W2)).block zi (by have h2 := HZI.out; omega)).trans HIT2.out)
        have HOW3 : Hid (w2.ownsRow (w.heap.size + 1) 21 1 v' (l ++ [(Utf8.decode s pos).1]).length (i32s (l ++ [(Utf8.decode s pos).1]))) := Lib.hid (by simpa [i32s] using hown2)
        have HR3 : Hid (runesOf s = (runesAt s (pos + (Utf8.decode s pos).2)).map ((l ++ [(Utf8.decode s pos).1]) ++ ·)) := Lib.hid (by
          rw [HR.out, runesAt_ok hlt HO.out]
          cases runesAt s (pos + (Utf8.decode s pos).2) <;> simp)
        clear hown2 hbel
        go_wp2_with fail
        go_roundw
        case rel => exact ⟨pos + (Utf8.decode s pos).2, l ++ [(Utf8.decode s pos).1], by omega, by simp; omega, HOW3, HIT3, HOK2, HR3, HB2⟩
        case measure =>
          simp only [World.iterPos, HIT3.out, HIT.out]
          omega
      · have hnx : ∀ ty, (Instr.next (.pointer (some ⟨w.heap.size, 0, none⟩)) true ty).run Tryz.prog wr = _ := fun ty => (congrArg (fun z => (Instr.next (.pointer (some ⟨z, 0, none⟩)) true ty).run Tryz.prog wr) HZI.out).trans (Lib.run_next_end_at wr zi s pos ty HIT.out hlt)
        go_wp2_with fail
        go_ret3
        obtain ⟨A, c, hv⟩ := own_form HOW.out
        refine ⟨HBR.out, .inl ⟨l, A, c, by rw [HR.out, runesAt_end (by omega)]; simp, ?_, ?_⟩⟩
        · rw [← hv]; rfl
        · rw [← hv]; exact own_lower HOW.out (Nat.le_succ _)
  · have HCK : Hid (∀ u : World, Calls Tryz.prog 198 #[.string s] u fun e w' => u = w' ∧ ∃ n : Int, e = .returned (.tuple #[.int .i64 n, .int .i64 5])) := Lib.hid (fun u => (check_any s u hs').mono fun e w' ⟨h1, h2⟩ => by
      rcases h2 with ⟨h, _⟩ | ⟨_, h⟩
      · rw [ht] at h; cases h
      · exact ⟨h1, h⟩)
    have HN : Hid (runesOf s = none) := Lib.hid (by unfold isText at ht; cases hq : runesOf s with | none => rfl | some l => rw [hq] at ht; cases ht)
    clear ht
    go_enter Tryz.func155, Tryz.ntmps155
    go_wp2_with (first
      | (go_at_call 198; refine (HCK.out _).mono ?_; rintro e u ⟨rfl, n, rfl⟩))
    go_ret3
    exact ⟨qB _ _, .inr ⟨HN.out, n, rfl⟩⟩
end Go.Proofs.YtdgbjhfkmembdaaGreatDoor
