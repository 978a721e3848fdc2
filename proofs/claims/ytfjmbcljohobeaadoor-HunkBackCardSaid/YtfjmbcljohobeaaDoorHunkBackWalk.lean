/-
  HunkBack's walk: the law returns true. Condition: the library's variable MaxLen holds a number.
-/
import Derived.Test.YtfjmbcljohobeaaDoorAwake23
import Derived.Test.YtfjmbcljohobeaaDoorApplyWalk23
namespace Go.Proofs.YtfjmbcljohobeaaDoor.hunkBack
open Go.RowKit
set_option linter.unusedVariables false
set_option linter.unusedSimpArgs false

theorem len_cnt (H : List HunkD) : ∀ h ∈ H, h.2.2.length ≤ cntH H := by
  intro h hh
  obtain ⟨a, b, rfl⟩ := List.append_of_mem hh
  rw [cntH_app]
  show _ ≤ _ + (List.flatMap hunkLn (h :: b)).length
  rw [List.flatMap_cons, List.length_append]
  show _ ≤ _ + ((_ :: _ : List (List UInt8)).length + _)
  simp only [List.length_cons, List.length_map]
  omega
theorem num_cnt (H : List HunkD) : H.length ≤ cntH H := by
  unfold cntH
  induction H with
  | nil => simp
  | cons h H ih => simp only [List.flatMap_cons, List.length_append, List.length_cons, hunkLn]; omega
/-- What Hunks hands back, of texts or not; and what Apply makes of it. -/
def Back (a b : ByteArray) (w : World) (e : Ending) (w' : World) : Prop := Below w.heap.size w w' ∧ ((∃ (A : Option Addr) (c : Nat) (hs : List HkD), e = .returned (.tuple #[.slice A hs.length c, .int .i64 0]) ∧ (hs.length = 0 ↔ a = b) ∧
    Calls Tryd.prog 33 #[.string a, .slice A hs.length c] w' fun e w2 => Below w'.heap.size w' w2 ∧ e = .returned (.tuple #[.string b, .int .i64 0])) ∨ e = .returned (.tuple #[.slice none 0 0, .int .i64 5]))
theorem back_any (a b : ByteArray) (w : World) (ha : a.size ≤ 1000) (hb : b.size ≤ 1000) (hg : Glob w) : Calls Tryd.prog 23 #[.string a, .string b] w (Back a b w) :=
  (hunks_any a b w (by omega) (by omega) hg).mono fun e w' ⟨h1, h2⟩ => by
    rcases h2 with ⟨_, v, hs, rfl, hm, hr⟩ | ⟨_, rfl⟩
    · obtain ⟨A, c, rfl⟩ := own_shape23 hr.1
      have hc := cntH_hunks (L a) (L b)
      rw [L_length, L_length] at hc
      have hlm : hs.length = (hunksL (L a) (L b)).length := by rw [← hm, List.length_map]
      have hn : hs.length ≤ 20000 := by
        have := num_cnt (hunksL (L a) (L b))
        omega
      have hnl : ∀ h ∈ hs, h.2.2.2.length ≤ 16000 := fun h hh => by
        have h3 : hkOf h ∈ hunksL (L a) (L b) := by rw [← hm]; exact List.mem_map_of_mem hh
        have h4 := len_cnt _ _ h3
        simp only [hkOf, List.length_map] at h4
        omega
      obtain ⟨g1, g2⟩ := hunksL_apply (L a) (L b)
      rw [← hm] at g1 g2
      refine ⟨h1, .inl ⟨A, c, hs, rfl, ?_, ?_⟩⟩
      · rw [hlm, List.length_eq_zero_iff, hunksL_none]
        exact ⟨L_inj, fun e => by rw [e]⟩
      · refine (apply_any a A c w.heap.size hs w' (by omega) (hg.next h1) hr hn hnl g1 (by rw [g2, L_length]; omega)).mono ?_
        rintro e w2 ⟨hb2, t, rfl, ht⟩
        rw [g2] at ht
        exact ⟨hb2, by rw [L_inj ht]⟩
    · exact ⟨h1, .inr rfl⟩
set_option maxHeartbeats 4000000 in
set_option maxRecDepth 100000 in
theorem walk (a b : ByteArray) (w : World) (ha : a.size ≤ maxLen) (hb : b.size ≤ maxLen) (hg : Glob w) :
    Calls Tryd.prog 11 #[.string a, .string b] w fun e w' => e = .returned (.bool true) ∧ Below w.heap.size w w' := by
  unfold maxLen at ha hb
  by_cases h1 : 1000 < a.size
  · go_enter Tryd.func11, Tryd.ntmps11
    go_wp2_with fail
    go_ret
    exact ⟨rfl, Below.refl _ _⟩
  by_cases h2 : 1000 < b.size
  · go_enter Tryd.func11, Tryd.ntmps11
    go_wp2_with fail
    go_ret
    exact ⟨rfl, Below.refl _ _⟩
  have hh := back_any a b w (by omega) (by omega) hg
  have HH := Lib.hid hh; have HG := Lib.hid hg
  clear hh hg
  go_enter Tryd.func11, Tryd.ntmps11
  go_upto_region 3 with fail
  go_wp2_with fail
  refine HH.out.mono ?_
  rintro e w1 ⟨hb1, ⟨A, c, hs, rfl, hz, hap⟩ | rfl⟩
  · have HB1 := Lib.hid hb1; have HAP := Lib.hid hap
    clear hb1 hap
    by_cases hab : a = b
    · obtain rfl : hs = [] := List.length_eq_zero_iff.1 (hz.2 hab)
      subst hab
      have tb : (a.toList == a.toList) = true := beq_self_eq_true _
      clear hz
      go_wp2_with (first
        | (go_at_call 33; refine HAP.out.mono ?_; rintro e w2 ⟨hb2, rfl⟩
           have HB2 := Lib.hid (HB1.out.trans (hb2.mono HB1.out.size))
           have haw := awake23_any w2 (HG.out.next HB2.out)
           have HAW := Lib.hid haw
           clear hb2 haw)
        | (go_at_call 30; refine HAW.out.mono ?_; rintro e w9 ⟨hb9, rfl⟩))
      go_ret
      exact ⟨rfl, HB2.out.trans (hb9.mono HB2.out.size)⟩
    · have hn0 : hs.length ≠ 0 := fun h => hab (hz.1 h)
      have tn : (((hs.length : Nat) : Int) == 0) = false := by rw [beq_eq_false_iff_ne]; omega
      have ta : (a.toList == b.toList) = false := by rw [str_beq, decide_eq_false_iff_not]; exact fun h => hab (L_inj h)
      have tb : (b.toList == b.toList) = true := beq_self_eq_true _
      clear hz hab
      go_wp2_with (first
        | (go_at_call 33; refine HAP.out.mono ?_; rintro e w2 ⟨hb2, rfl⟩
           have HB2 := Lib.hid (HB1.out.trans (hb2.mono HB1.out.size))
           have haw := awake23_any w2 (HG.out.next HB2.out)
           have HAW := Lib.hid haw
           clear hb2 haw)
        | (go_at_call 30; refine HAW.out.mono ?_; rintro e w9 ⟨hb9, rfl⟩))
      go_ret
      exact ⟨rfl, HB2.out.trans (hb9.mono HB2.out.size)⟩
  · have haw := awake23_any w1 (HG.out.next hb1)
    have HB1 := Lib.hid hb1; have HAW := Lib.hid haw
    clear hb1 haw
    go_wp2_with (go_at_call 30; refine HAW.out.mono ?_; rintro e w9 ⟨hb9, rfl⟩)
    go_ret
    exact ⟨rfl, HB1.out.trans (hb9.mono HB1.out.size)⟩
end Go.Proofs.YtfjmbcljohobeaaDoor.hunkBack
