/-
  What the program's leb gives: numbers, texts and ids written behind nothing, and read from a place that there is. Conditions: as each says.
-/
import Derived.Test.YthjaepmfkgejkaaGreatDoorProg
import Derived.Test.YthjaepmfkgejkaaGreatDoorMerged4
import Derived.Test.YthjaepmfkgejkaaGreatDoorMerged2
import Derived.Test.YthjaepmfkgejkaaGreatDoorMerged7
import Derived.Laws.OwnMore
import Derived.Deep.AppendSrc
import Derived.Laws.Bits64b
import Derived.Lib.SlBytesRow
import Derived.Deep.LoopGhost
import Derived.WalkMore
import Derived.Handy
import Derived.PlainAid
set_option linter.unusedVariables false
set_option maxHeartbeats 4000000
set_option maxRecDepth 100000
namespace Go.Proofs.YthjaepmfkgejkaaGreatDoor
open Lib (hid)
open Go.RowKit
theorem kH : (Tryz.prog.info? 5).map (fun i => (i.zero, i.size, i.bytes)) = some (some (.int .u8 0), 1, 1) := by kernel_rfl
theorem andNot128 : ∀ x : Fin 256, bits BinOp.andNot IntKind.u8 ((x.val : Nat) : Int) 128 = ((x.val % 128 : Nat) : Int) := by decide +kernel
theorem pow128 (i : Nat) : 128 ^ i = 2 ^ (7 * i) := by rw [Nat.pow_mul]
theorem or_at {out c i : Nat} (ho : out < 128 ^ i) (hc : c < 128) (hi : i ≤ 8) : bits BinOp.or IntKind.u64 (out : Int) (IntKind.u64.wrap ((c : Int) * 2 ^ (7 * i))) = ((out + 128 ^ i * c : Nat) : Int) := by
  rw [pow128] at ho ⊢
  have h8 : 2 ^ (7 * i) ≤ 2 ^ 56 := Nat.pow_le_pow_right (by omega) (by omega)
  have e56 : 2 ^ 56 = 72057594037927936 := by decide
  have hm : 2 ^ (7 * i) * c ≤ 72057594037927936 * 127 := Nat.mul_le_mul (by omega) (by omega)
  have e1 : ((c : Int) * 2 ^ (7 * i)) = ((2 ^ (7 * i) * c : Nat) : Int) := by
    rw [Nat.mul_comm (2 ^ (7 * i)) c, Int.natCast_mul, Int.natCast_pow]; rfl
  rw [e1, IntWalk.u64_in _ ⟨by omega, by omega⟩, bits_or_u64_nat _ _ (by omega) (by omega)]
  congr 1
  rw [Nat.or_comm, ← Nat.two_pow_add_eq_or_of_lt ho]
  omega
theorem or_go {out x i : Nat} (ho : out < 128 ^ i) (hx : x < 256) (h128 : 128 ≤ x) (hi : i ≤ 8) :
    bits BinOp.or IntKind.u64 (out : Int) (IntKind.u64.wrap (IntKind.u64.wrap (bits BinOp.andNot IntKind.u8 (x : Int) 128) * 2 ^ (7 * i))) = ((out + 128 ^ i * (x - 128) : Nat) : Int) := by
  have e : bits BinOp.andNot IntKind.u8 (x : Int) 128 = ((x % 128 : Nat) : Int) := andNot128 ⟨x, hx⟩
  rw [e, IntWalk.u64_in ((x % 128 : Nat) : Int) ⟨by omega, by omega⟩, or_at ho (by omega) hi, show x % 128 = x - 128 by omega]
def GetGives (l : List UInt8) (at' : Nat) (w : World) (e : Ending) (w' : World) : Prop := w = w' ∧ e = (match JA (l.drop at') with
  | some (n, k) => .returned (.tuple #[.int .i64 n, .int .i64 ((at' + k : Nat) : Int), .int .i64 0])
  | none => .returned (.tuple #[.int .i64 0, .int .i64 0, .int .i64 6]))
theorem GetGives.no {l : List UInt8} {at' : Nat} {w : World} {e : Ending} (h : JA (l.drop at') = none) (he : e = .returned (.tuple #[.int .i64 0, .int .i64 0, .int .i64 6])) : GetGives l at' w e w := by
  unfold GetGives; rw [h]; exact ⟨rfl, he⟩
theorem GetGives.yes {l : List UInt8} {at' n k : Nat} {w : World} {e : Ending} (h : JA (l.drop at') = some (n, k)) (he : e = .returned (.tuple #[.int .i64 n, .int .i64 ((at' + k : Nat) : Int), .int .i64 0])) : GetGives l at' w e w := by
  unfold GetGives; rw [h]; exact ⟨rfl, he⟩
theorem ret_get {a b a' b' : Int} (h1 : a = a') (h2 : b = b') : Ending.returned (.tuple #[.int .i64 a, .int .i64 b, .int .i64 0]) = .returned (.tuple #[.int .i64 a', .int .i64 b', .int .i64 0]) := by rw [h1, h2]
def Getting (l : List UInt8) (at' i out : Nat) : Prop := JA (l.drop at') = match J4 i (l.drop (at' + i)) with | some (n, k) => some (out + 128 ^ i * n, i + k) | none => none
theorem Getting.start (l : List UInt8) (at' : Nat) : Getting l at' 0 0 := by
  unfold Getting JA
  rw [Nat.add_zero]
  cases J4 0 (l.drop at') <;> simp
theorem Getting.next {l : List UInt8} {at' i out : Nat} {x : UInt8} (h : Getting l at' i out) (hd : l.drop (at' + i) = x :: l.drop (at' + i + 1)) (h128 : 128 ≤ x.toNat) (hi : i < 8) : Getting l at' (i + 1) (out + 128 ^ i * (x.toNat - 128)) := by
  unfold Getting at h ⊢
  rw [h, hd, J4, if_pos h128, if_neg (by omega), ← Nat.add_assoc]
  rcases J4 (i + 1) (l.drop (at' + i + 1)) with _ | ⟨n, k⟩
  · rfl
  ·
   simp only [Option.some.injEq, Prod.mk.injEq]
   refine ⟨?_, by omega⟩
   rw [Nat.mul_add, Nat.pow_succ, Nat.mul_assoc]
   omega
theorem Getting.over {l : List UInt8} {at' i out : Nat} {x : UInt8} (h : Getting l at' i out) (hd : l.drop (at' + i) = x :: l.drop (at' + i + 1)) (h128 : 128 ≤ x.toNat) (hi : 8 ≤ i) : JA (l.drop at') = none := by
  unfold Getting at h
  rw [h, hd, J4, if_pos h128, if_pos hi]
theorem Getting.zero {l : List UInt8} {at' i out : Nat} {x : UInt8} (h : Getting l at' i out) (hd : l.drop (at' + i) = x :: l.drop (at' + i + 1)) (h0 : x.toNat = 0) (hi : 0 < i) : JA (l.drop at') = none := by
  unfold Getting at h
  rw [h, hd, J4, if_neg (by omega), if_pos ⟨h0, hi⟩]
theorem Getting.last {l : List UInt8} {at' i out : Nat} {x : UInt8} (h : Getting l at' i out) (hd : l.drop (at' + i) = x :: l.drop (at' + i + 1)) (h128 : ¬ 128 ≤ x.toNat) (h0 : ¬ (x.toNat = 0 ∧ 0 < i)) : JA (l.drop at') = some (out + 128 ^ i * x.toNat, i + 1) := by
  unfold Getting at h
  rw [h, hd, J4, if_neg h128, if_neg h0]
theorem Getting.end {l : List UInt8} {at' i out : Nat} (h : Getting l at' i out) (hi : l.length ≤ at' + i) : JA (l.drop at') = none := by
  unfold Getting at h
  rw [h, List.drop_eq_nil_of_le hi]; rfl
theorem Qv (l : List UInt8) (b off : Nat) (c : Nat) (at' : Nat) (w : World) (hl : l.length ≤ maxLen) (hcap : l.length ≤ c) (hat : at' ≤ l.length) (hc : ∀ j (h : j < l.length), w.cell? ⟨b, off + j, none⟩ = some (.int .u8 ((l[j]).toNat : Int))) :
    Calls Tryz.prog 87 #[.slice (some ⟨b, off, none⟩) l.length c, .int .i64 at'] w (GetGives l at' w) := by
  have HC := hid hc; clear hc
  unfold maxLen at hl
  by_cases hend : at' = l.length
  ·
   have hg : JA (l.drop at') = none := by rw [List.drop_eq_nil_of_le (by omega)]; rfl
   have HG := hid hg; clear hg
   subst hend
   rcases (by omega : l.length = c ∨ l.length < c) with hq | hq
   focus
     subst hq
   rotate_left
   all_goals
     go_enter Tryz.func87, Tryz.ntmps87
     go_wp2
     go_step3
     go_wp2
     go_step3
     go_wp2
     go_loopg [7, 8, 23] 0 (fun g s7 s8 s23 wr => s7 = .int .u64 0 ∧ s8 = .int .i64 0 ∧ s23 = .int .i64 0 ∧ wr = w)
     case atStart => exact ⟨rfl, rfl, rfl, rfl⟩
     case round =>
       obtain ⟨rfl, rfl, rfl, hwr⟩ := hrel
       subst hwr
       go_wp2
       rw [Exit.noGoto_ret]
       go_ret3
       exact GetGives.no HG.out rfl
  ·
   have hlt : at' < l.length := by omega
   have hac : at' < c := by omega
   clear hend
   have d1 : decide (l.length < at') = false := by simp; omega
   have d2 : decide ((at' : Int) < 0) = false := by simp
   go_enter Tryz.func87, Tryz.ntmps87
   go_wp2
   go_step3
   go_wp2
   go_step3
   go_wp2
   go_loopg [7, 8, 23] (l.length - at') (fun g s7 s8 s23 wr => ∃ i out : Nat, Hid (i + g = l.length - at') ∧ i ≤ l.length - at' ∧ i ≤ 8 ∧ s23 = .int .i64 i ∧ s8 = .int .i64 (7 * (i : Int)) ∧ s7 = .int .u64 out ∧ Hid (out < 128 ^ i) ∧ wr = w ∧ Hid (Getting l at' i out))
   case atStart => exact ⟨0, 0, hid (by omega), by omega, by omega, rfl, rfl, rfl, hid (by simp), rfl, hid (Getting.start l at')⟩
   case round =>
     obtain ⟨i, out, hi, him', hi8, rfl, rfl, rfl, hout, hwr, hG⟩ := hrel
     subst hwr
     by_cases him : i < l.length - at'
     ·
      have hcell := HC.out (at' + i) (by omega)
      rw [← Nat.add_assoc] at hcell
      have hdrop : l.drop (at' + i) = l[at' + i]'(by omega) :: l.drop (at' + i + 1) := List.drop_eq_getElem_cons (by omega)
      have HD := hid hdrop; clear hdrop
      generalize hx : (l[at' + i]'(by omega)) = x at *
      have hx256 : x.toNat < 256 := x.toNat_lt
      have HX := hid hx; clear hx
      generalize hxn : x.toNat = xn at *
      have HXN := hid hxn; clear hxn
      have i0 : (0 : Int) ≤ (i : Int) := by omega
      have i1 : (i : Int) < ((l.length - at' : Nat) : Int) := by omega
      by_cases h128 : 128 ≤ xn
      ·
       by_cases he : 8 ≤ i
       ·
        have hno : JA (l.drop at') = none := hG.out.over HD.out (by rw [HXN.out]; exact h128) he
        have HNO := hid hno; clear hno
        go_wp2
        rw [Exit.noGoto_ret]
        go_ret3
        exact GetGives.no HNO.out rfl
       ·
        have hnx := hG.out.next HD.out (by rw [HXN.out]; exact h128) (by omega)
        have HNX := hid hnx; clear hnx
        go_wp2
        go_roundg (l.length - at' - (i + 1))
        case measure => have := hi.out; omega
        case rel =>
          have hv := or_go hout.out hx256 h128 hi8
          have ho2 : out + 128 ^ i * (xn - 128) < 128 ^ (i + 1) := by
            have h1 := hout.out
            have h2 : 128 ^ i * (xn - 128) ≤ 128 ^ i * 127 := Nat.mul_le_mul_left _ (by omega)
            rw [Nat.pow_succ]; omega
          exact ⟨i + 1, out + 128 ^ i * (xn - 128), hid (by omega), by omega, by omega, by go_num, by congr 1, by rw [hv], hid ho2, rfl, hid (by have := HNX.out; rw [HXN.out] at this; exact this)⟩
      ·
       by_cases h00 : xn = 0 ∧ 0 < i
       ·
        obtain ⟨hx0, hi0⟩ := h00
        have hno : JA (l.drop at') = none := hG.out.zero HD.out (by rw [HXN.out]; exact hx0) hi0
        have HNO := hid hno; clear hno
        have hx0' : ((xn : Int) == 0) = true := by simp [hx0]
        have hi0' : (0 : Int) < (i : Int) := by omega
        clear hx0
        rcases (by omega : i ≤ 7 ∨ 8 ≤ i) with h7 | h7
        all_goals
          go_wp2
          all_goals
            (try rw [Exit.noGoto_ret])
            go_ret3
            exact GetGives.no HNO.out rfl
       ·
        have hyes := hG.out.last HD.out (by rw [HXN.out]; exact h128) (by rw [HXN.out]; exact h00)
        rw [HXN.out] at hyes
        have hbd := vQ hyes
        have HYES := hid hyes; clear hyes
        have hor := or_at hout.out (show xn < 128 by omega) hi8
        have HOR := hid hor; clear hor
        rcases (by omega : (xn = 0 ∧ i = 0) ∨ 0 < xn) with ⟨hx0, hi0⟩ | hx0
        focus
          have hx0' : ((xn : Int) == 0) = true := by simp [hx0]
          have hi0' : ¬ (0 : Int) < (i : Int) := by omega
          have HX0 := hid hx0; clear hx0
          have HI0 := hid hi0; clear hi0
        rotate_left
        focus
          have hx0' : ((xn : Int) == 0) = false := by simp; omega
        all_goals
          rcases (by omega : i ≤ 7 ∨ 8 ≤ i) with h7 | h7
          all_goals
            go_wp2
            all_goals
              (try rw [Exit.noGoto_ret])
              go_ret3
              refine GetGives.yes HYES.out (ret_get ?_ (by push_cast; omega))
              rw [HOR.out, IntWalk.wrap64_in _ ⟨by omega, by omega⟩]
     ·
      have hno : JA (l.drop at') = none := hG.out.end (by omega)
      have HNO := hid hno; clear hno
      go_wp2
      rw [Exit.noGoto_ret]
      go_ret3
      exact GetGives.no HNO.out rfl
def GetTextGives (l : List UInt8) (at' most : Nat) (w : World) (e : Ending) (w' : World) : Prop := w = w' ∧ (match zw (l.drop at') most with
  | some (t, k) => e = .returned (.tuple #[.string ⟨t.toArray⟩, .int .i64 ((at' + k : Nat) : Int), .int .i64 0])
  | none => ∃ q : Int, q ≠ 0 ∧ e = .returned (.tuple #[.string ⟨#[]⟩, .int .i64 0, .int .i64 q]))
theorem GetTextGives.no {l : List UInt8} {at' most : Nat} {w : World} {e : Ending} {q : Int} (h : zw (l.drop at') most = none) (hq : q ≠ 0) (he : e = .returned (.tuple #[.string ⟨#[]⟩, .int .i64 0, .int .i64 q])) : GetTextGives l at' most w e w := by
  unfold GetTextGives; rw [h]; exact ⟨rfl, q, hq, he⟩
theorem GetTextGives.yes {l : List UInt8} {at' most k : Nat} {t : List UInt8} {w : World} {e : Ending} (h : zw (l.drop at') most = some (t, k)) (he : e = .returned (.tuple #[.string ⟨t.toArray⟩, .int .i64 ((at' + k : Nat) : Int), .int .i64 0])) : GetTextGives l at' most w e w := by
  unfold GetTextGives; rw [h]; exact ⟨rfl, he⟩
theorem ut {w : World} {b off : Nat} {l : List UInt8} (hc : ∀ j (h : j < l.length), w.cell? ⟨b, off + j, none⟩ = some (.int .u8 ((l[j]).toNat : Int))) : Lib.Bytes w b off ⟨l.toArray⟩ := by
  intro i hi
  have hi' : i < l.length := by simpa [ByteArray.size] using hi
  rw [hc i hi']
  have e : (⟨l.toArray⟩ : ByteArray)[i] = l[i] := by
    show (l.toArray)[i] = l[i]
    simp
  rw [e]
theorem Qw (l : List UInt8) : (⟨l.toArray⟩ : ByteArray).size = l.length := by simp [ByteArray.size]
theorem L_mk (l : List UInt8) : L ⟨l.toArray⟩ = l := by simp [L]
theorem ZA (l : List UInt8) (a n : Nat) : (⟨l.toArray⟩ : ByteArray).extract a (a + n) = ⟨((l.drop a).take n).toArray⟩ := by
  have h : L ((⟨l.toArray⟩ : ByteArray).extract a (a + n)) = (l.drop a).take n := by
    have h1 : L ((⟨l.toArray⟩ : ByteArray).extract a (a + n)) = ((L ⟨l.toArray⟩).drop a).take (a + n - a) := Lib.extract_data _ _ _
    rw [h1, L_mk, Nat.add_sub_cancel_left]
  exact L_inj (h.trans (L_mk _).symm)
theorem U6 (l : List UInt8) (b off : Nat) (c : Nat) (at' most : Nat) (w : World) (hl : l.length ≤ 1099511627776) (hcap : l.length ≤ c) (hat : at' ≤ l.length) (hc : ∀ j (h : j < l.length), w.cell? ⟨b, off + j, none⟩ = some (.int .u8 ((l[j]).toNat : Int))) :
    Calls Tryz.prog 90 #[.slice (some ⟨b, off, none⟩) l.length c, .int .i64 at', .int .i64 most] w (GetTextGives l at' most w) := by
  have HC := hid hc
  have hgt : zw (l.drop at') most = _ := rfl
  unfold zw at hgt
  have hget := Qv l b off c at' w (by unfold maxLen; omega) hcap hat hc
  clear hc
  rcases hg : JA (l.drop at') with _ | ⟨n, k⟩
  ·
   rw [hg] at hgt
   simp only at hgt
   have HGT := hid hgt; clear hgt
   have HG := hid hg; clear hg
   have HGET := hid hget; clear hget
   go_enter Tryz.func90, Tryz.ntmps90
   go_wp2_with fail
   refine HGET.out.mono ?_
   unfold GetGives
   rw [HG.out]
   rintro e w1 ⟨rfl, rfl⟩
   go_wp2_with fail
   go_ret3
   exact GetTextGives.no (by unfold zw; rw [HG.out]) (by omega) rfl
  ·
   have hk := Qq hg
   rw [List.length_drop] at hk
   have hb := vQ hg
   rw [hg] at hgt
   simp only [List.length_drop] at hgt
   have HGT := hid hgt; clear hgt
   have HG := hid hg; clear hg
   have HGET := hid hget; clear hget
   have fin : ∀ r, (if most < n then none else if l.length - at' - k < n then none else some (List.take n (List.drop k (List.drop at' l)), k + n)) = r → zw (l.drop at') most = r := by
     intro r h
     unfold zw
     rw [HG.out]
     simp only [List.length_drop]
     exact h
   have FIN := hid fin; clear fin
   by_cases h1 : most < n
   ·
    go_enter Tryz.func90, Tryz.ntmps90
    go_wp2_with fail
    refine HGET.out.mono ?_
    unfold GetGives
    rw [HG.out]
    rintro e w1 ⟨rfl, rfl⟩
    go_wp2_with fail
    go_ret3
    exact GetTextGives.no (FIN.out none (by rw [if_pos h1])) (by omega) rfl
   ·
    by_cases h2 : l.length - at' - k < n
    ·
     have h2' : (l.length : Int) - ((at' + k : Nat) : Int) < (n : Int) := by omega
     go_enter Tryz.func90, Tryz.ntmps90
     go_wp2_with fail
     refine HGET.out.mono ?_
     unfold GetGives
     rw [HG.out]
     rintro e w1 ⟨rfl, rfl⟩
     go_wp2_with fail
     go_ret3
     exact GetTextGives.no (FIN.out none (by rw [if_neg h1, if_pos h2])) (by omega) rfl
    ·
     have h2' : ¬ (l.length : Int) - ((at' + k : Nat) : Int) < (n : Int) := by omega
     have hs := ZA l (at' + k) n
     by_cases hcc : c = at' + k
     ·
      obtain rfl : n = 0 := by omega
      have hconv := Lib.run_convert_window (P := Tryz.prog) w 22 5 9 Tryz.underlying22 Tryz.underlying5 Tryz.underlying9 b off ⟨l.toArray⟩ (ut HC.out) 0 0 0 (by omega)
      have he : (⟨l.toArray⟩ : ByteArray).extract 0 (0 + 0) = ⟨#[]⟩ := by
        apply L_inj
        rw [ZA, L_mk]; simp
      rw [he, Nat.add_zero] at hconv
      clear he hs
      subst hcc
      go_enter Tryz.func90, Tryz.ntmps90
      go_wp2_with fail
      refine HGET.out.mono ?_
      unfold GetGives
      rw [HG.out]
      rintro e w1 ⟨rfl, rfl⟩
      go_wp2_with fail
      go_ret3
      refine GetTextGives.yes (FIN.out _ (by rw [if_neg h1, if_neg h2])) ?_
      rw [List.take_zero]
      congr 3
     ·
      have hconv := Lib.run_convert_window (P := Tryz.prog) w 22 5 9 Tryz.underlying22 Tryz.underlying5 Tryz.underlying9 b off ⟨l.toArray⟩ (ut HC.out) (at' + k) n (c - (at' + k)) (by rw [Qw]; omega)
      rw [hs] at hconv
      clear hs
      generalize hTX : (⟨((l.drop (at' + k)).take n).toArray⟩ : ByteArray) = TX at *
      have HTX := hid hTX; clear hTX
      go_enter Tryz.func90, Tryz.ntmps90
      go_wp2_with fail
      refine HGET.out.mono ?_
      unfold GetGives
      rw [HG.out]
      rintro e w1 ⟨rfl, rfl⟩
      go_wp2_with fail
      go_ret3
      refine GetTextGives.yes (FIN.out _ (by rw [if_neg h1, if_neg h2])) ?_
      rw [← HTX.out, List.drop_drop, show ((at' + (k + n) : Nat) : Int) = (at' : Int) + k + n by omega]
      rfl
end Go.Proofs.YthjaepmfkgejkaaGreatDoor
