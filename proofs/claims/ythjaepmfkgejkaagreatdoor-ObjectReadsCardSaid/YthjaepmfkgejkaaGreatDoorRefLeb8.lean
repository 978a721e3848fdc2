/-
  The document's Get and GetText give what the program's do. Conditions: as each says.
-/
import Derived.Test.YthjaepmfkgejkaaGreatDoorMerged7
set_option linter.unusedVariables false
set_option linter.unusedSimpArgs false
set_option maxHeartbeats 4000000
set_option maxRecDepth 100000
namespace Go.Proofs.YthjaepmfkgejkaaGreatDoor
open Lib (hid)
open Go.RowKit Go.Maps
def ve : List UInt8 → Nat
  | [] => 0
  | x :: t => x.toNat % 128 + 128 * ve t
theorem ui (x : UInt8) : ∀ a : List UInt8, ve (a ++ [x]) = ve a + 128 ^ a.length * (x.toNat % 128)
  | [] => by simp [ve]
  | y :: t => by
    simp only [List.cons_append, ve, ui x t, List.length_cons, Nat.pow_succ]
    rw [Nat.mul_add, Nat.add_assoc, Nat.mul_comm (128 ^ t.length) 128, Nat.mul_assoc]
theorem dval_lt : ∀ a : List UInt8, ve a < 128 ^ a.length
  | [] => by simp [ve]
  | y :: t => by
    have := dval_lt t
    simp only [ve, List.length_cons, Nat.pow_succ]
    omega
theorem UX {l : List UInt8} {a q : Nat} (h : a + q < l.length) : (l.drop a).take (q + 1) = (l.drop a).take q ++ [l[a + q]] := by
  rw [List.take_succ_eq_append_getElem (by rw [List.length_drop]; omega), List.getElem_drop]
def OnTo (l : List UInt8) (at' q : Nat) : Prop := (q ≤ 8 → Getting l at' q (ve ((l.drop at').take q))) ∧ (8 < q → KB (l.drop at') = none)
theorem OnTo.start (l : List UInt8) (at' : Nat) : OnTo l at' 0 := ⟨fun _ => by rw [List.take_zero]; exact Getting.start l at', fun h => absurd h (by omega)⟩
theorem ZP {l : List UInt8} {j : Nat} (h : j < l.length) : l.drop j = l[j] :: l.drop (j + 1) := List.drop_eq_getElem_cons h
theorem OnTo.next {l : List UInt8} {at' q : Nat} (h : OnTo l at' q) (hq : q ≤ 8) (hlt : at' + q < l.length) (hx : 128 ≤ l[at' + q].toNat) : OnTo l at' (q + 1) := by
  have h1 := h.1 hq
  have h256 := l[at' + q].toNat_lt
  refine ⟨fun h8 => ?_, fun h8 => h1.over (ZP hlt) hx (by omega)⟩
  have h2 := h1.next (ZP hlt) hx (by omega)
  rw [UX hlt, ui, List.length_take, List.length_drop, Nat.min_eq_left (by omega), show l[at' + q].toNat % 128 = l[at' + q].toNat - 128 by omega]
  exact h2
theorem OnTo.zero {l : List UInt8} {at' q : Nat} (h : OnTo l at' q) (hq : q ≤ 8) (hlt : at' + q < l.length) (hx : l[at' + q].toNat = 0) (h0 : 0 < q) : KB (l.drop at') = none := (h.1 hq).zero (ZP hlt) hx h0
theorem OnTo.last {l : List UInt8} {at' q : Nat} (h : OnTo l at' q) (hq : q ≤ 8) (hlt : at' + q < l.length) (hx : ¬ 128 ≤ l[at' + q].toNat) (h0 : ¬ (l[at' + q].toNat = 0 ∧ 0 < q)) : KB (l.drop at') = some (ve ((l.drop at').take (q + 1)), q + 1) := by
  rw [UX hlt, ui, List.length_take, List.length_drop, Nat.min_eq_left (by omega), show l[at' + q].toNat % 128 = l[at' + q].toNat by omega]
  exact (h.1 hq).last (ZP hlt) hx h0
theorem OnTo.end {l : List UInt8} {at' q : Nat} (h : OnTo l at' q) (hq : q ≤ 8 → l.length ≤ at' + q) : KB (l.drop at') = none := by
  rcases Nat.lt_or_ge 8 q with q8 | q8
  · exact h.2 q8
  · exact (h.1 q8).end (hq q8)
theorem digits_up {l : List UInt8} {a p q : Nat} (hp : 0 < p) (hpq : p ≤ q) (h : a + q ≤ l.length) : ve ((l.drop (a + (p - 1))).take (q - (p - 1))) = ve ((l.drop (a + p)).take (q - p)) * 128 + (l[a + (p - 1)]'(by omega)).toNat % 128 := by
  rw [ZP (show a + (p - 1) < l.length by omega), show q - (p - 1) = (q - p) + 1 by omega, List.take_succ_cons, show a + (p - 1) + 1 = a + p by omega]
  simp only [ve]
  omega
theorem digits_lt {l : List UInt8} {a p q : Nat} (h9 : q ≤ 9) (hp : 0 < p) : ve ((l.drop (a + p)).take (q - p)) < 72057594037927936 := by
  have h1 := dval_lt ((l.drop (a + p)).take (q - p))
  have h2 : ((l.drop (a + p)).take (q - p)).length ≤ 8 := by rw [List.length_take]; omega
  have h3 : 128 ^ ((l.drop (a + p)).take (q - p)).length ≤ 128 ^ 8 := Nat.pow_le_pow_right (by omega) h2
  have h4 : 128 ^ 8 = 72057594037927936 := by decide
  omega
theorem vt (l : List UInt8) (b off : Nat) (c : Nat) (at' : Nat) (w : World) (hl : l.length ≤ 1099511627776) (hcap : l.length ≤ c) (hat : at' ≤ l.length) (hc : ∀ j (h : j < l.length), w.cell? ⟨b, off + j, none⟩ = some (.int .u8 ((l[j]).toNat : Int))) :
    Calls Tryz.prog 58 #[.slice (some ⟨b, off, none⟩) l.length c, .int .i64 (at' : Int)] w (GetGives l at' w) := by
  have HC := hid hc; clear hc
  have d1 : decide (l.length < at') = false := by simp; omega
  have d2 : decide ((at' : Int) < 0) = false := by simp
  have d3 : decide ((l.length : Int) < (at' : Int)) = false := by simp; omega
  go_enter Tryz.func58, Tryz.ntmps58
  go_wp2_with fail
  go_loopw [7] (fun t wr => ∃ q : Nat, q ≤ 9 ∧ t = .int .i64 ((q : Int) + 1) ∧ wr = w ∧ Hid (OnTo l at' q)) (fun t _ => 11 - (intOf t).toNat)
  case atStart => exact ⟨0, by omega, rfl, rfl, hid (OnTo.start l at')⟩
  case round =>
    obtain ⟨q, hq, rfl, hwr, HI⟩ := hrel
    subst hwr
    by_cases h8 : q ≤ 8
    ·
     by_cases hlt : at' + q < l.length
     ·
      have i1 : ((q : Int) + 1) ≤ 9 := by omega
      have i2 : ((q : Int) + 1) ≤ (l.length : Int) - (at' : Int) := by omega
      have j1 : decide (((q : Int) + 1) ≤ 9) = true := decide_eq_true i1
      have j2 : decide (((q : Int) + 1) ≤ (l.length : Int) - (at' : Int)) = true := decide_eq_true i2
      have ei : (at' : Int) + ((q : Int) + 1) - 1 = ((at' + q : Nat) : Int) := by omega
      have ei2 : ((at' + q : Nat) : Int) < (l.length : Int) := by omega
      have ei3 : (0 : Int) ≤ ((at' + q : Nat) : Int) := by omega
      have cx := HC.out (at' + q) hlt
      have HNX := hid (fun h => HI.out.next h8 hlt h)
      have HZE := hid (fun h => HI.out.zero h8 hlt h)
      have HLA := hid (fun h => HI.out.last h8 hlt h)
      generalize hxx : l[at' + q] = x at *
      have HXX := hid hxx
      clear hxx
      have h256 := x.toNat_lt
      by_cases hx : 128 ≤ x.toNat
      ·
       have k1 : decide ((128 : Int) ≤ (x.toNat : Int)) = true := decide_eq_true (by omega)
       have HN := hid (HNX.out hx)
       go_wp2_with fail
       go_roundw
       case rel => exact ⟨q + 1, by omega, by go_num, trivial, HN⟩
       case measure => (simp [intOf]) <;> omega
      ·
       have k1 : decide ((128 : Int) ≤ (x.toNat : Int)) = false := decide_eq_false (by omega)
       by_cases hz : x.toNat = 0 ∧ 0 < q
       ·
        have k2 : decide ((1 : Int) < (q : Int) + 1) = true := decide_eq_true (by omega)
        have k3 : ((x.toNat : Int) == 0) = true := by simp [hz.1]
        have HNO := hid (HZE.out hz.1 hz.2)
        clear hz
        go_wp2_with fail
        go_ret3
        exact GetGives.no HNO.out rfl
       ·
        have HYES := hid (HLA.out hx hz)
        clear HNX HZE HLA
        by_cases hq0 : 0 < q
        focus
          have k2 : decide ((1 : Int) < (q : Int) + 1) = true := decide_eq_true (by omega)
          have k3 : ((x.toNat : Int) == 0) = false := by rw [beq_eq_false_iff_ne]; omega
        rotate_left
        focus
          have k2 : decide ((1 : Int) < (q : Int) + 1) = false := decide_eq_false (by omega)
        all_goals
          clear hz
          go_wp2_with fail
          go_loopw [8, 9] (fun t8 t9 wi => ∃ p n : Nat, p ≤ q + 1 ∧ t9 = .int .i64 ((p : Int) - 1) ∧ t8 = .int .i64 (n : Int) ∧ wi = wr ∧ Hid (ve ((l.drop (at' + p)).take (q + 1 - p)) = n)) (fun _ t9 _ => (intOf t9 + 1).toNat)
          case atStart => exact ⟨q + 1, 0, Nat.le_refl _, by go_num, rfl, rfl, hid (by rw [Nat.sub_self, List.take_zero]; rfl)⟩
          case round =>
            obtain ⟨p, n, hp, rfl, rfl, hwi, HN⟩ := hrel
            subst hwi
            by_cases hp0 : 0 < p
            ·
             have m1 : (0 : Int) ≤ (p : Int) - 1 := by omega
             have m2 : decide ((0 : Int) ≤ (p : Int) - 1) = true := decide_eq_true m1
             have ej : (at' : Int) + ((p : Int) - 1) = ((at' + (p - 1) : Nat) : Int) := by omega
             have ej2 : ((at' + (p - 1) : Nat) : Int) < (l.length : Int) := by omega
             have ej3 : (0 : Int) ≤ ((at' + (p - 1) : Nat) : Int) := by omega
             have hpl : at' + (p - 1) < l.length := by omega
             have cy := HC.out (at' + (p - 1)) hpl
             have hnl : n < 72057594037927936 := by rw [← HN.out]; exact digits_lt (by omega) hp0
             have HUP := hid ((digits_up (l := l) (a := at') (q := q + 1) hp0 hp (by omega)).trans (by rw [HN.out]))
             generalize l[at' + (p - 1)] = y at *
             have hy := y.toNat_lt
             go_wp2_with fail
             go_roundw
             case rel => exact ⟨p - 1, n * 128 + y.toNat % 128, by omega, by go_num, by go_num, trivial, HUP⟩
             case measure => (simp [intOf]) <;> omega
            ·
             have hp1 : p = 0 := by omega
             have HVE : Hid (ve ((l.drop at').take (q + 1)) = n) := hid (by have h := HN.out; rw [hp1] at h; exact h)
             have m1 : ¬ (0 : Int) ≤ (p : Int) - 1 := by omega
             have m2 : decide ((0 : Int) ≤ (p : Int) - 1) = false := decide_eq_false m1
             clear hp1
             go_wp2_with fail
             go_ret3
             exact GetGives.yes (by rw [HYES.out, HVE.out]) (ret_get rfl (by omega))
     ·
      have i1 : ((q : Int) + 1) ≤ 9 := by omega
      have i2 : ¬ ((q : Int) + 1) ≤ (l.length : Int) - (at' : Int) := by omega
      have j1 : decide (((q : Int) + 1) ≤ 9) = true := decide_eq_true i1
      have j2 : decide (((q : Int) + 1) ≤ (l.length : Int) - (at' : Int)) = false := decide_eq_false i2
      have HNO := hid (HI.out.end fun _ => by omega)
      go_wp2_with fail
      go_ret3
      exact GetGives.no HNO.out rfl
    ·
     have i1 : ¬ ((q : Int) + 1) ≤ 9 := by omega
     have j1 : decide (((q : Int) + 1) ≤ 9) = false := decide_eq_false i1
     have HNO := hid (HI.out.end fun h => absurd h h8)
     go_wp2_with fail
     go_ret3
     exact GetGives.no HNO.out rfl
theorem ZQ (l : List UInt8) (b off : Nat) (c : Nat) (at' most : Nat) (w : World) (hl : l.length ≤ 1099511627776) (hcap : l.length ≤ c) (hat : at' ≤ l.length) (hc : ∀ j (h : j < l.length), w.cell? ⟨b, off + j, none⟩ = some (.int .u8 ((l[j]).toNat : Int))) :
    Calls Tryz.prog 60 #[.slice (some ⟨b, off, none⟩) l.length c, .int .i64 at', .int .i64 most] w (GetTextGives l at' most w) := by
  have HC := hid hc
  have hgt : jC (l.drop at') most = _ := rfl
  unfold jC at hgt
  have hget := vt l b off c at' w hl hcap hat hc
  clear hc
  rcases hg : KB (l.drop at') with _ | ⟨n, k⟩
  ·
   rw [hg] at hgt
   simp only at hgt
   have HGT := hid hgt; clear hgt
   have HG := hid hg; clear hg
   have HGET := hid hget; clear hget
   go_enter Tryz.func60, Tryz.ntmps60
   go_wp2_with fail
   refine HGET.out.mono ?_
   unfold GetGives
   rw [HG.out]
   rintro e w1 ⟨rfl, rfl⟩
   go_wp2_with fail
   go_ret3
   exact GetTextGives.no (by unfold jC; rw [HG.out]) (by omega) rfl
  ·
   have hk := vX hg
   rw [List.length_drop] at hk
   have hb := Jz hg
   rw [hg] at hgt
   simp only [List.length_drop] at hgt
   have HGT := hid hgt; clear hgt
   have HG := hid hg; clear hg
   have HGET := hid hget; clear hget
   have fin : ∀ r, (if most < n then none else if l.length - at' - k < n then none else some (List.take n (List.drop k (List.drop at' l)), k + n)) = r → jC (l.drop at') most = r := by
     intro r h
     unfold jC
     rw [HG.out]
     simp only [List.length_drop]
     exact h
   have FIN := hid fin; clear fin
   by_cases h1 : most < n
   ·
    go_enter Tryz.func60, Tryz.ntmps60
    go_wp2_with fail
    refine HGET.out.mono ?_
    unfold GetGives
    rw [HG.out]
    rintro e w1 ⟨rfl, rfl⟩
    go_wp2_with fail
    go_ret3
    exact GetTextGives.no (FIN.out none (by rw [if_pos h1])) (by omega) rfl
   ·
    by_cases h2 : l.length - at' - k < n
    ·
     have h2' : (l.length : Int) - ((at' + k : Nat) : Int) < (n : Int) := by omega
     go_enter Tryz.func60, Tryz.ntmps60
     go_wp2_with fail
     refine HGET.out.mono ?_
     unfold GetGives
     rw [HG.out]
     rintro e w1 ⟨rfl, rfl⟩
     go_wp2_with fail
     go_ret3
     exact GetTextGives.no (FIN.out none (by rw [if_neg h1, if_pos h2])) (by omega) rfl
    ·
     have h2' : ¬ (l.length : Int) - ((at' + k : Nat) : Int) < (n : Int) := by omega
     have hs := KZ l (at' + k) n
     by_cases hcc : c = at' + k
     ·
      obtain rfl : n = 0 := by omega
      have hconv := Lib.run_convert_window (P := Tryz.prog) w 22 5 9 Tryz.underlying22 Tryz.underlying5 Tryz.underlying9 b off ⟨l.toArray⟩ (Z6 HC.out) 0 0 0 (by omega)
      have he : (⟨l.toArray⟩ : ByteArray).extract 0 (0 + 0) = ⟨#[]⟩ := by
        apply L_inj
        rw [KZ, L_mk]; simp
      rw [he, Nat.add_zero] at hconv
      clear he hs
      subst hcc
      go_enter Tryz.func60, Tryz.ntmps60
      go_wp2_with fail
      refine HGET.out.mono ?_
      unfold GetGives
      rw [HG.out]
      rintro e w1 ⟨rfl, rfl⟩
      go_wp2_with fail
      go_ret3
      refine GetTextGives.yes (FIN.out _ (by rw [if_neg h1, if_neg h2])) ?_
      rw [List.take_zero]
      congr 3
     ·
      have hconv := Lib.run_convert_window (P := Tryz.prog) w 22 5 9 Tryz.underlying22 Tryz.underlying5 Tryz.underlying9 b off ⟨l.toArray⟩ (Z6 HC.out) (at' + k) n (c - (at' + k)) (by rw [vI]; omega)
      rw [hs] at hconv
      clear hs
      generalize hTX : (⟨((l.drop (at' + k)).take n).toArray⟩ : ByteArray) = TX at *
      have HTX := hid hTX; clear hTX
      go_enter Tryz.func60, Tryz.ntmps60
      go_wp2_with fail
      refine HGET.out.mono ?_
      unfold GetGives
      rw [HG.out]
      rintro e w1 ⟨rfl, rfl⟩
      go_wp2_with fail
      go_ret3
      refine GetTextGives.yes (FIN.out _ (by rw [if_neg h1, if_neg h2])) ?_
      rw [← HTX.out, List.drop_drop, show ((at' + (k + n) : Nat) : Int) = (at' : Int) + k + n by omega]
      rfl
end Go.Proofs.YthjaepmfkgejkaaGreatDoor
