/-
  What hunk.shown gives: a line without its end, or with a mark. Conditions: texts of at most a million bytes.
-/
import Derived.Test.YthjaepmfkgejkaaDoorMerged2
namespace Go.Proofs.YthjaepmfkgejkaaDoor
open Go.RowKit Go.Shelf
set_option linter.unusedVariables false
set_option linter.unusedSimpArgs false

def shownS (s : List UInt8) : List UInt8 := if s.getLast? = some 10 then s.dropLast else s ++ [92]
theorem suffix_ten (s : List UInt8) : Lib.hasSuffix s [10] = decide (s.getLast? = some 10) := by
  rw [Bool.eq_iff_iff, decide_eq_true_eq]
  unfold Lib.hasSuffix
  rw [List.isSuffixOf_iff_suffix]
  constructor
  · rintro ⟨t, rfl⟩; simp
  · intro h
    have hne : s ≠ [] := by rintro rfl; simp at h
    refine ⟨s.dropLast, ?_⟩
    rw [List.getLast?_eq_some_getLast hne] at h
    have := List.dropLast_concat_getLast hne
    rw [Option.some.inj h] at this
    exact this
set_option maxRecDepth 100000 in
theorem cutSuffix_any (s : ByteArray) (w : World) (hs : s.size ≤ 1000000) :
    Calls Tryd.prog 74 #[.string s, .string tenS] w fun e w' => w = w' ∧ ∃ t : ByteArray, e = .returned (.tuple #[.string t, .bool (decide ((L s).getLast? = some 10))]) ∧ ((L s).getLast? = some 10 → L t = (L s).dropLast) := by
  have hsx := fun u : World => Tryd.stringslite_HasSuffix s tenS u (by omega)
  have hsf : Lib.hasSuffix s.data.toList tenS.data.toList = decide ((L s).getLast? = some 10) := suffix_ten (L s)
  have hcut : ∀ u : World, Calls Tryd.prog 114 #[.string s, .string tenS] u fun e w' => u = w' ∧ ∃ t : ByteArray, e = .returned (.tuple #[.string t, .bool (decide ((L s).getLast? = some 10))]) ∧ ((L s).getLast? = some 10 → L t = (L s).dropLast) := by
    intro u
    have hx := hsx u
    rw [hsf] at hx
    cases hd : decide ((L s).getLast? = some 10) with
    | false =>
      rw [hd] at hx
      have HN := Lib.hid (of_decide_eq_false hd)
      clear hd hsf hsx
      go_enter Tryd.func114, Tryd.ntmps114
      go_wp2_with (go_at_call 136; refine hx.mono ?_; rintro e w2 ⟨rfl, rfl⟩)
      go_ret2
      exact ⟨rfl, s, rfl, fun h => absurd h HN.out⟩
    | true =>
      rw [hd] at hx
      have hy := of_decide_eq_true hd
      have hpos : 1 ≤ s.size := by
        rcases Nat.eq_zero_or_pos s.size with h | h
        · rw [← L_length] at h
          rw [List.length_eq_zero_iff.1 h] at hy
          cases hy
        · exact h
      obtain ⟨n, hn⟩ : ∃ n, s.size = n + 1 := ⟨s.size - 1, by omega⟩
      have e1 : IntKind.i64.wrap ((s.size : Int) - 1) = (n : Int) := by rw [IntWalk.i64_in _ (by omega)]; omega
      have e2 : IntKind.i64.wrap ((s.size : Int) - (tenS.size : Int)) = (n : Int) := e1
      have k0 : (0 : Int) ≤ (n : Int) := by omega
      have k1 : (n : Int) ≤ (s.size : Int) := by omega
      have hL : L (s.extract 0 n) = (L s).dropLast := by
        rw [show L (s.extract 0 n) = (L s).take n from Lib.extract_from_zero s n, List.dropLast_eq_take, L_length, hn, Nat.add_sub_cancel]
      have HL := Lib.hid hL
      clear hd hsf hsx hy hL hn
      go_enter Tryd.func114, Tryd.ntmps114
      go_wp2_with (go_at_call 136; refine hx.mono ?_; rintro e w2 ⟨rfl, rfl⟩)
      go_ret2
      exact ⟨rfl, _, rfl, fun _ => HL.out⟩
  have hc := hcut w
  obtain ⟨bb, hbb⟩ : ∃ bb, decide ((L s).getLast? = some 10) = bb := ⟨_, rfl⟩
  rw [hbb] at hc ⊢
  clear hcut hsx hsf hbb
  go_enter Tryd.func74, Tryd.ntmps74
  go_wp2_with (go_at_call 114; refine hc.mono ?_; rintro e w2 ⟨rfl, t, rfl, ht⟩)
  go_ret2
  exact ⟨rfl, t, rfl, ht⟩
set_option maxRecDepth 100000 in
theorem shown_line (s : ByteArray) (w : World) (hs : s.size ≤ 1000000) :
    Calls Tryd.prog 42 #[.string s] w fun e w' => w = w' ∧ ∃ t : ByteArray, e = .returned (.string t) ∧ L t = shownS (L s) := by
  have hc := cutSuffix_any s w hs
  cases hd : decide ((L s).getLast? = some 10) with
  | false =>
    rw [hd] at hc
    have HN := Lib.hid (of_decide_eq_false hd)
    clear hd
    go_enter Tryd.func42, Tryd.ntmps42
    go_wp2_with (go_at_call 74; refine hc.mono ?_; rintro e w2 ⟨rfl, t, rfl, ht⟩)
    go_ret
    refine ⟨rfl, _, rfl, ?_⟩
    rw [L_app]
    unfold shownS
    rw [if_neg HN.out]
    try rfl
  | true =>
    rw [hd] at hc
    have HY := Lib.hid (of_decide_eq_true hd)
    clear hd
    go_enter Tryd.func42, Tryd.ntmps42
    go_wp2_with (go_at_call 74; refine hc.mono ?_; rintro e w2 ⟨rfl, t, rfl, ht⟩; have HT := Lib.hid ht; clear ht)
    go_ret
    refine ⟨rfl, t, rfl, ?_⟩
    rw [HT.out HY.out]
    unfold shownS
    rw [if_pos HY.out]
end Go.Proofs.YthjaepmfkgejkaaDoor
