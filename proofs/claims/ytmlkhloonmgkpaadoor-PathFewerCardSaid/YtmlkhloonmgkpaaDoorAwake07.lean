/-
  The chapter's examples of layer 7 hold (awake). Condition: the library's variable MaxLen holds a number.
-/
import Derived.Test.YtmlkhloonmgkpaaDoorFreshWalks
namespace Go.Proofs.YtmlkhloonmgkpaaDoor
open Go.RowKit
set_option linter.unusedVariables false

theorem ex1 : pathB ⟨#[97, 47, 98, 46, 116, 120, 116]⟩ = true := by decide +kernel
theorem ex2 : pathB ⟨#[97, 47, 47, 98]⟩ = false := by decide +kernel
theorem ex3 : pathB ⟨#[97, 126, 49]⟩ = true := by decide +kernel
theorem ex4 : nameB ⟨#[109, 97, 105, 110]⟩ = true := by decide +kernel
theorem ex5 : nameB ⟨#[46, 120]⟩ = false := by decide +kernel
theorem ex6 : authorB ⟨#[65, 110, 110]⟩ = true := by decide +kernel
theorem ex7 : freshS [97] [[97], [97, 126, 49]] = [97, 126, 50] := by
  have c1 : clashesB [97] [[97], [97, 126, 49]] = true := by decide +kernel
  have k1 : candS [97] 1 = [97, 126, 49] := by
    unfold candS; rw [Lib.decDigits_one (by omega)]; decide +kernel
  have c2 : clashesB [97, 126, 49] [[97], [97, 126, 49]] = true := by decide +kernel
  have k2 : candS [97] 2 = [97, 126, 50] := by
    unfold candS; rw [Lib.decDigits_one (by omega)]; decide +kernel
  have c3 : clashesB [97, 126, 50] [[97], [97, 126, 49]] = false := by decide +kernel
  show freshGo [97] _ 4 1 [97] = _
  rw [freshGo, if_pos c1, k1, freshGo, if_pos c2, k2, freshGo, if_neg (by rw [c3]; simp)]
theorem ex8 : freshS [97, 47, 98] [[97]] = [97, 126, 49, 47, 98] := by
  have c1 : clashesB [97, 47, 98] [[97]] = true := by decide +kernel
  have k1 : candS [97, 47, 98] 1 = [97, 126, 49, 47, 98] := by
    unfold candS; rw [Lib.decDigits_one (by omega)]; decide +kernel
  have c2 : clashesB [97, 126, 49, 47, 98] [[97]] = false := by decide +kernel
  show freshGo [97, 47, 98] _ 3 1 [97, 47, 98] = _
  rw [freshGo, if_pos c1, k1, freshGo, if_neg (by rw [c2]; simp)]

theorem Sl.lit (w : World) (cs : List Value) (n : Nat) (et : TypeId) (h : cs.length = n) : Sl (w.alloc (.cells cs.toArray et)) (w.alloc (.cells cs.toArray et)).heap.size (some ⟨w.heap.size, 0, none⟩) n 1 cs := by
  refine ⟨by omega, fun _ => ⟨w.heap.size, 0, rfl, by simp, fun j u hu => ?_⟩⟩
  rw [Nat.zero_add, World.cell?_alloc_new]
  simpa using hu

set_option maxHeartbeats 1000000 in
set_option maxRecDepth 100000 in
theorem awake07_any (w : World) (hg : Glob w) : Calls Tryd.prog 27 #[] w fun e w' => Below w.heap.size w w' ∧ e = .returned (.bool true) := by
  go_enter Tryd.func27, Tryd.ntmps27
  go_wp2_with fail
  refine (path_any _ _ (by decide) hg).mono ?_
  rintro e w1 ⟨hb1, rfl⟩
  rw [ex1]
  have g1 := hg.next hb1
  go_wp2_with fail
  refine (path_any _ _ (by decide) g1).mono ?_
  rintro e w2 ⟨hb2', rfl⟩
  rw [ex2]
  have hb2 := hb1.trans (hb2'.mono hb1.size)
  have g2 := hg.next hb2
  clear hb2'
  go_wp2_with fail
  refine (path_any _ _ (by decide) g2).mono ?_
  rintro e w3 ⟨hb3', rfl⟩
  rw [ex3]
  have hb3 := hb2.trans (hb3'.mono hb2.size)
  clear hb3'
  go_wp2_with fail
  refine (name_any _ _ (by decide)).mono ?_
  rintro e w4 ⟨rfl, rfl⟩
  rw [ex4]
  go_wp2_with fail
  refine (name_any _ _ (by decide)).mono ?_
  rintro e w4 ⟨rfl, rfl⟩
  rw [ex5]
  go_wp2_with fail
  refine (author_any _ _ (by decide)).mono ?_
  rintro e w5 ⟨hb5', rfl⟩
  rw [ex6]
  have hb5 := hb3.trans (hb5'.mono hb3.size)
  clear hb5'
  go_wp2_with fail
  refine (fresh_any ⟨#[97]⟩ [⟨#[97]⟩, ⟨#[97, 126, 49]⟩] _ _ _ (by decide) (by decide) (by intro t ht; simp at ht; rcases ht with rfl | rfl <;> decide) (Sl.lit w5 _ 2 _ rfl)).mono ?_
  rintro e w6 ⟨hb6', t, rfl, ht⟩
  have hb6 := (hb5.alloc hb5.size _).trans (hb6'.mono (by have := hb5.size; simp; omega))
  clear hb6'
  have ht' : (t.toList == [97, 126, 50]) = true := by
    rw [toList_L, ht, show Ls [(⟨#[97]⟩ : ByteArray), ⟨#[97, 126, 49]⟩] = [[97], [97, 126, 49]] from rfl, show L ⟨#[97]⟩ = [97] from rfl, ex7]; rfl
  clear ht
  go_wp2_with fail
  refine (fresh_any ⟨#[97, 47, 98]⟩ [⟨#[97]⟩] _ _ _ (by decide) (by decide) (by intro t ht; simp at ht; subst ht; decide) (Sl.lit w6 _ 1 _ rfl)).mono ?_
  rintro e w7 ⟨hb7', u, rfl, hu⟩
  have hb7 := (hb6.alloc hb6.size _).trans (hb7'.mono (by have := hb6.size; simp; omega))
  clear hb7'
  have hu' : (u.toList == [97, 126, 49, 47, 98]) = true := by
    rw [toList_L, hu, show Ls [(⟨#[97]⟩ : ByteArray)] = [[97]] from rfl, show L ⟨#[97, 47, 98]⟩ = [97, 47, 98] from rfl, ex8]; rfl
  clear hu
  go_wp2_with fail
  go_ret
  exact ⟨hb7, rfl⟩
end Go.Proofs.YtmlkhloonmgkpaaDoor
