/-
  PathApart's walk: the law returns true. Condition: the library's variable MaxLen holds a number.
-/
import Derived.Test.YtmlkhloonmgkpaaDoorApartSpec
import Derived.Test.YtmlkhloonmgkpaaDoorPathFreshLaw
namespace Go.Proofs.YtmlkhloonmgkpaaDoor.pathApart
open Go.ChangeShapes Go.WideShapes Go.ChangeAt Go.RowKit
open Go.ChangeMaps (open_string shut_string)
set_option linter.unusedVariables false

set_option maxHeartbeats 1000000 in
set_option maxRecDepth 100000 in
theorem walk (s : ByteArray) (taken : List ByteArray) (A : Option Addr) (c : Nat) (w : World) (hs : s.size ≤ maxLen) (hn : taken.length ≤ maxLen) (hsm : smallL taken)
    (hsl : Sl w w.heap.size A taken.length 1 (Go.Proofs.YtmlkhloonmgkpaaDoor.strs taken)) (hg : Glob w) :
    Calls Tryd.prog 7 #[.string s, .slice A taken.length c] w fun e w' => e = .returned (.bool true) ∧ Below w.heap.size w w' := by
  have HSL := Lib.hid hsl; clear hsl
  have HSM := Lib.hid hsm; clear hsm
  unfold maxLen at hs hn
  by_cases hbig : 60 < taken.length ∨ 100 < s.size
  · go_enter Tryd.func7, Tryd.ntmps7
    rcases (by omega : 60 < taken.length ∨ (¬ 60 < taken.length ∧ 100 < s.size)) with h | ⟨h, h'⟩
    all_goals
      clear hbig
      go_wp2_with fail
      go_ret
      exact ⟨rfl, Below.refl _ _⟩
  · have h1 : ¬ 60 < taken.length := by omega
    have h2 : ¬ 100 < s.size := by omega
    clear hbig hs hn
    have hTl : (Ls taken).length = taken.length := by simp [Ls]
    have hlen := freshS_length (L s) (Ls taken) (by omega)
    have hself := freshS_self (L s) (Ls taken)
    have hclear := fresh_clear (L s) (Ls taken)
    rw [L_length] at hlen
    have HLEN := Lib.hid hlen; clear hlen
    have HSELF := Lib.hid hself; clear hself
    have HCLEAR := Lib.hid hclear; clear hclear
    go_enter Tryd.func7, Tryd.ntmps7
    go_wp2_with fail
    refine (fresh_any s taken A c _ (by omega) (by omega) HSM.out HSL.out).mono ?_
    rintro e w1 ⟨hb1, t, rfl, ht⟩
    have htz : s.size ≤ t.size ∧ t.size ≤ s.size + 3 := by
      have := HLEN.out
      rw [← ht, L_length] at this
      exact this
    have hno : ∀ j (hj : j < taken.length), clashB (L t) (L taken[j]) = false := by
      intro j hj
      have := HCLEAR.out
      rw [← ht] at this
      unfold clashesB at this
      rw [List.any_eq_false] at this
      have h3 := this (L taken[j]) (List.mem_map.2 ⟨_, List.getElem_mem hj, rfl⟩)
      simpa using h3
    have heq : (t.toList == s.toList) = !clashesB (L s) (Ls taken) := by
      rw [str_beq, ht]
      cases hc : clashesB (L s) (Ls taken)
      · rw [HSELF.out.2 hc]; simp
      · rw [decide_eq_false]; rfl
        intro e
        rw [HSELF.out.1 e] at hc
        cases hc
    have hs47 : s.size ≤ 140737488355328 := by omega
    have ht47 : t.size ≤ 140737488355328 := by omega
    have HEQ := Lib.hid heq; clear heq
    have HNO := Lib.hid hno; clear hno ht
    have hslr := HSL.out.keep hb1
    have HSLR := Lib.hid hslr; clear hslr
    go_wp2_with fail
    go_loop [6, 7] (fun t6 t7 => ∃ i : Nat, i ≤ taken.length ∧ t7 = .int .i64 i ∧ t6 = .bool (clashesB (L s) ((Ls taken).take i))) (fun _ t7 => taken.length - (intOf t7).toNat)
    case atStart => exact ⟨0, by omega, rfl, rfl⟩
    case round =>
      obtain ⟨i, hi, rfl, rfl⟩ := hrel
      by_cases hlt : i < taken.length
      · obtain ⟨g, off, rfl, hbl, hcl⟩ := HSLR.out.2 (by omega)
        have hc := hcl i (.string taken[i]) (by simp [Go.Proofs.YtmlkhloonmgkpaaDoor.strs, hlt])
        have hstep : clashesB (L s) ((Ls taken).take (i + 1)) = (clashesB (L s) ((Ls taken).take i) || clashB (L s) (L taken[i])) := by
          have h3 : (Ls taken).take (i + 1) = (Ls taken).take i ++ [L taken[i]] := by
            rw [List.take_succ_eq_append_getElem (by omega)]
            simp [Ls]
          rw [h3]
          simp [clashesB]
        have hnoi := HNO.out i hlt
        have hzi := HSM.out _ (List.getElem_mem hlt)
        have i0 : (0 : Int) ≤ (i : Int) := by omega
        have i1 : (i : Int) < (taken.length : Int) := by omega
        clear hcl
        generalize hx : taken[i] = x at *
        have HX := Lib.hid hx; clear hx
        have HSTEP := Lib.hid hstep; clear hstep
        have HNOI := Lib.hid hnoi; clear hnoi
        by_cases hxs : 100 < x.size
        · go_wp2_with fail
          go_ret
          exact ⟨rfl, hb1⟩
        · cases hcs : clashesB (L s) ((Ls taken).take i)
          · have HCS := Lib.hid hcs; clear hcs
            go_wp2_with fail
            refine (clash_any t x _ ht47 hzi).mono ?_
            rw [HNOI.out]
            rintro e w2 ⟨rfl, rfl⟩
            go_wp2_with fail
            refine (clash_any s x _ hs47 hzi).mono ?_
            rintro e w2 ⟨rfl, rfl⟩
            go_wp2_with fail
            go_round
            case rel => exact ⟨i + 1, by omega, by go_num, by rw [HSTEP.out, HCS.out]; rfl⟩
            case measure => simp [intOf]; omega
          · have HCS := Lib.hid hcs; clear hcs
            go_wp2_with (first | (go_at_call 23; refine (clash_any t x _ ht47 hzi).mono ?_; rw [HNOI.out]; rintro e w2 ⟨rfl, rfl⟩))
            go_round
            case rel => exact ⟨i + 1, by omega, by go_num, by rw [HSTEP.out, HCS.out]; rfl⟩
            case measure => simp [intOf]; omega
      · have hfull : (Ls taken).take i = Ls taken := List.take_of_length_le (by omega)
        rw [hfull]
        have heq := HEQ.out
        generalize clashesB (L s) (Ls taken) = q at *
        have g1 := hg.next hb1
        have hge : (s.size : Int) ≤ (t.size : Int) := by omega
        cases q
        all_goals
          go_wp2_with fail
          refine (awake07_any _ g1).mono ?_
          rintro e w4 ⟨hb4, rfl⟩
          go_wp2_with fail
          go_ret
          exact ⟨rfl, hb1.trans (hb4.mono hb1.size)⟩
end Go.Proofs.YtmlkhloonmgkpaaDoor.pathApart
