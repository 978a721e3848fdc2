/-
  The words of a block, as the program makes them. Conditions: 64 bytes that lie in memory.
-/
import Derived.Test.YtmlhijlcefogmaaGreatDoorMerged2
import Derived.Test.YtmlhijlcefogmaaGreatDoorMerged21
import Derived.Test.YtmlhijlcefogmaaGreatDoorMerged7
import Derived.Test.YtmlhijlcefogmaaGreatDoorMerged8
import Derived.Test.YtmlhijlcefogmaaGreatDoorMerged10
import Derived.Test.YtmlhijlcefogmaaGreatDoorMerged13
set_option linter.unusedVariables false
set_option linter.unusedSimpArgs false
set_option maxHeartbeats 4000000
set_option maxRecDepth 100000
namespace Go.Proofs.YtmlhijlcefogmaaGreatDoor
open Go.RowKit Go.Maps

def schL (l : List UInt8) (a t : Nat) : List Int := (List.range 64).map fun k => if k < t then schS l a k else 0
def schV (l : List UInt8) (a t : Nat) : List Value := w32V (schL l a t)
theorem schV_length (l : List UInt8) (a t : Nat) : (schV l a t).length = 64 := by simp [schV, schL, w32V]
theorem schV_at {l : List UInt8} {a t k : Nat} (hk : k < t) (ht : t ≤ 64) : (schV l a t)[k]? = some (.int .u32 (schS l a k)) := by
  unfold schV w32V schL
  rw [List.map_map, List.getElem?_map, List.getElem?_range (by omega)]
  simp [hk]
theorem schV_set {l : List UInt8} {a t : Nat} (ht : t < 64) : (schV l a t).toArray.setIfInBounds t (.int .u32 (schS l a t)) = (schV l a (t + 1)).toArray := by
  rw [List.setIfInBounds_toArray]
  congr 1
  apply List.ext_getElem?
  intro i
  rw [List.getElem?_set]
  by_cases hi : t = i
  · subst hi
    rw [if_pos rfl, if_pos (by rw [schV_length]; exact ht), schV_at (by omega) (by omega)]
  · rw [if_neg hi]
    unfold schV w32V schL
    rw [List.map_map, List.map_map, List.getElem?_map, List.getElem?_map]
    by_cases h6 : i < 64
    · rw [List.getElem?_range h6]
      by_cases h7 : i < t
      · simp [h7, show i < t + 1 by omega]
      · simp [h7, show ¬ i < t + 1 by omega]
    · rw [List.getElem?_eq_none (by simp; omega)]; rfl
theorem set_blk {w : World} {b j : Nat} {cs : Array Value} {t : TypeId} {fz : Nat × Nat} (h : w.heap[b]? = some (.cells cs t fz)) (v : Value) : (w.setCell ⟨b, j, none⟩ v).heap[b]? = some (.cells (cs.setIfInBounds j v) t fz) := by
  have hlt := (qX h)
  have h' : w.heap[b] = .cells cs t fz := by simpa [Array.getElem?_eq_getElem hlt] using h
  show (w.heap.modify b _)[b]? = _
  rw [Array.getElem?_eq_getElem (by simpa using hlt), Array.getElem_modify_self, h']
  rfl
/-- What stands while a block's words are made. -/
structure SchAt (w : World) (z : Nat) (l : List UInt8) (a t : Nat) (wx : World) : Prop where
  but : But (fun k => k = z) w wx
  row : wx.heap[z]? = some (.cells (schV l a t).toArray 271 (0, 0))
theorem SchAt.lt {w : World} {z : Nat} {l : List UInt8} {a t : Nat} {wx : World} (h : SchAt w z l a t wx) : z < wx.heap.size := (qX h.row)
theorem SchAt.keep {w : World} {z : Nat} {l : List UInt8} {a t : Nat} {wx wy : World} (h : SchAt w z l a t wx) (hb : Below wx.heap.size wx wy) : SchAt w z l a t wy :=
  ⟨h.but.andBelow hb, (hb.block z h.lt).trans h.row⟩
theorem SchAt.cell {w : World} {z : Nat} {l : List UInt8} {a t : Nat} {wx : World} (h : SchAt w z l a t wx) {k : Nat} (hk : k < t) (ht : t ≤ 64) : wx.cell? ⟨z, k, none⟩ = some (.int .u32 (schS l a k)) := (cells_at0 h.row k).trans (schV_at hk ht)
theorem SchAt.any {w : World} {z : Nat} {l : List UInt8} {a t : Nat} {wx : World} (h : SchAt w z l a t wx) {k : Nat} (hk : k < 64) : ∃ u, wx.cell? ⟨z, k, none⟩ = some u :=
  ⟨(schV l a t)[k]'(by rw [schV_length]; exact hk), (cells_at0 h.row k).trans (List.getElem?_eq_getElem _)⟩
theorem SchAt.fr {w : World} {z : Nat} {l : List UInt8} {a t : Nat} {wx : World} (h : SchAt w z l a t wx) (k : Nat) : wx.frozen? ⟨z, k, none⟩ = false := frozen_of_row _ _ _ _ _ h.row
theorem SchAt.next {w : World} {z : Nat} {l : List UInt8} {a t : Nat} {wx : World} (h : SchAt w z l a t wx) (ht : t < 64) {x : Int} (hx : schS l a t = x) : SchAt w z l a (t + 1) (wx.setCell ⟨z, t, none⟩ (.int .u32 x)) := by
  refine ⟨h.but.setCell (fun _ => rfl) _, ?_⟩
  rw [← schV_set ht, hx]
  exact set_blk h.row _
theorem schedule_any (b off c : Nat) (l : List UInt8) (w : World) (hl : l.length = 64) (hbw : b < w.heap.size) (hb : ∀ j (hj : j < 64), w.cell? ⟨b, off + j, none⟩ = some (.int .u8 (byteAt l j : Int))) (hc : 64 ≤ c) :
    Calls Tryz.prog 226 #[.slice (some ⟨b, off, none⟩) 64 c] w fun e w' => e = .returned (.agg (schV l 0 64).toArray) ∧ Below w.heap.size w w' := by
  have HBY := Lib.hid hb
  clear hb
  go_enter Tryz.func226, Tryz.ntmps226
  go_upto_region 1 with (first
    | (with_reducible refine at_alloc ?_
       refine wp_allocM (by rfl) 271 rfl (List.replicate 64 (.int .u32 0)) (by kernel_rfl) ?_
       intro W0 hb0 hz0 hs0
       have HB0 := Lib.hid hb0; have HZ0 := Lib.hid hz0; have HS0 := Lib.hid hs0
       clear hb0 hz0 hs0))
  go_upto_region 3 with (first
    | (with_reducible refine at_alloc ?_
       refine wp_allocM (by rfl) 271 rfl (List.replicate 64 (.int .u32 0)) (by kernel_rfl) ?_
       intro W1 hb1 hz1 hs1
       have HB1 := Lib.hid hb1; have HZ1 := Lib.hid hz1; have HS1 := Lib.hid hs1
       clear hb1 hz1 hs1))
  obtain ⟨y, hy⟩ : ∃ y, w.heap.size = y := ⟨_, rfl⟩
  obtain ⟨z, hz⟩ : ∃ z, W0.heap.size = z := ⟨_, rfl⟩
  have HYR : Hid (W1.heap[y]? = some (.cells (List.replicate 64 (.int .u32 0)).toArray 271 (0, 0))) := Lib.hid (by rw [← hy]; exact (HB1.out.block _ (by have := HS0.out; omega)).trans HZ0.out)
  have HS : Hid (SchAt W1 z l 0 0 W1) := Lib.hid ⟨But.refl _ _, by rw [← hz]; exact HZ1.out⟩
  have HYZ : Hid (y < z ∧ w.heap.size ≤ y ∧ z < W1.heap.size) := Lib.hid (by have := HS0.out; have := HS1.out; omega)
  have HBW := Lib.hid (HB0.out.trans (HB1.out.mono HB0.out.size))
  have HB1L : Hid (b < W1.heap.size) := Lib.hid (qL hbw HBW.out.size)
  have HBX := Lib.hid (fun (u : World) (hu : But (fun k => k = z) W1 u) (j : Nat) (hj : j < 64) => (show u.cell? ⟨b, off + j, none⟩ = some (.int .u8 (byteAt l j : Int)) from (hu.cell HB1L.out (by have := HYZ.out; omega)).trans ((HBW.out.cell (p := ⟨b, off + j, none⟩) hbw).trans (HBY.out j hj))))
  clear HBY
  rw [hy]
  rw [hz]
  try simp only [Act.put, List.setIfInBounds_toArray, List.set_cons_zero, List.set_cons_succ]
  clear HZ0 HZ1 HB0 HB1 HS0 HS1 hz hy
  go_loopw [10] (fun t10 wr => ∃ t : Nat, t ≤ 16 ∧ t10 = .int .i64 (t : Int) ∧ Hid (SchAt W1 z l 0 t wr)) (fun t10 _ => 16 - (intOf t10).toNat)
  case atStart => exact ⟨0, by omega, rfl, HS⟩
  case round =>
    obtain ⟨t, ht, rfl, HS⟩ := hrel
    by_cases hlt : t < 16
    · have i1 : (t : Int) < 16 := by omega
      obtain ⟨m, hm⟩ : ∃ m, 4 * t = m := ⟨_, rfl⟩
      have e4 : IntKind.i64.wrap (4 * (t : Int)) = ((m : Nat) : Int) := by rw [IntWalk.i64_in _ (by omega)]; omega
      have e5 : IntKind.i64.wrap ((m : Int) + 1) = ((m + 1 : Nat) : Int) := by rw [IntWalk.i64_in _ (by omega)]; omega
      have e6 : IntKind.i64.wrap ((m : Int) + 2) = ((m + 2 : Nat) : Int) := by rw [IntWalk.i64_in _ (by omega)]; omega
      have e7 : IntKind.i64.wrap ((m : Int) + 3) = ((m + 3 : Nat) : Int) := by rw [IntWalk.i64_in _ (by omega)]; omega
      have hm3 : m + 3 < 64 := by omega
      have hbl : b < wr.heap.size := qL HB1L.out HS.out.but.size
      obtain ⟨k0, hk0⟩ : ∃ k, byteAt l m = k := ⟨_, rfl⟩
      obtain ⟨k1, hk1⟩ : ∃ k, byteAt l (m + 1) = k := ⟨_, rfl⟩
      obtain ⟨k2, hk2⟩ : ∃ k, byteAt l (m + 2) = k := ⟨_, rfl⟩
      obtain ⟨k3, hk3⟩ : ∃ k, byteAt l (m + 3) = k := ⟨_, rfl⟩
      have F0 := Wg.cell (hk0 ▸ HBX.out wr HS.out.but m (by omega)) hbl
      have F1 := Wg.cell (hk1 ▸ HBX.out wr HS.out.but (m + 1) (by omega)) hbl
      have F2 := Wg.cell (hk2 ▸ HBX.out wr HS.out.but (m + 2) (by omega)) hbl
      have F3 := Wg.cell (hk3 ▸ HBX.out wr HS.out.but (m + 3) (by omega)) hbl
      have q0 : k0 < 256 := hk0 ▸ byteAt_lt _ _
      have q1 : k1 < 256 := hk1 ▸ byteAt_lt _ _
      have q2 : k2 < 256 := hk2 ▸ byteAt_lt _ _
      have q3 : k3 < 256 := hk3 ▸ byteAt_lt _ _
      have HW := Lib.hid (show schS l 0 t = wordS k0 k1 k2 k3 by rw [schS_lo hlt, qZ, hm, hk0, hk1, hk2, hk3])
      clear hk0 hk1 hk2 hk3 hm
      go_upto_region 5 with fail
      refine wp_region_tail_wg 35 (by kernel_rfl) (by kernel_rfl) (by kernel_rfl) (by kernel_rfl) (by kernel_rfl) ?_
      simp only [List.take_succ_cons, List.take_zero, List.drop_succ_cons, List.drop_zero]
      repeat (first
        | go_big_quiet_skip
        | (go_big_quiet_want
           first
             | (go_big_quiet_op
                first
                  | go_big_quiet_on
                  | go_big_quiet_call (first | (fail)))))
      refine wpQuiet_nil ?_
      rintro w' ⟨kk, rfl⟩
      have hk9 := kk.2
      generalize kk.val = w9 at *
      clear kk
      clear F0 F1 F2 F3 e4 e5 e6 e7
      have HS9 := Lib.hid (HS.out.keep hk9.below)
      obtain ⟨u9, c9⟩ := HS9.out.any (show t < 64 by omega)
      have f9 := HS9.out.fr t
      go_wp2_with fail
      go_roundw
      case rel =>
        refine ⟨t + 1, by omega, by go_num, Lib.hid (HS9.out.next (by omega) ?_)⟩
        rw [HW.out]; rfl
      case measure => (simp [intOf]) <;> omega
    · have i1 : ¬ (t : Int) < 16 := by omega
      obtain rfl : t = 16 := by omega
      go_upto_region 8 with fail
      go_loopw [5] (fun t5 wr => ∃ t : Nat, 16 ≤ t ∧ t ≤ 64 ∧ t5 = .int .i64 (t : Int) ∧ Hid (SchAt W1 z l 0 t wr)) (fun t5 _ => 64 - (intOf t5).toNat)
      case atStart => exact ⟨16, by omega, by omega, rfl, HS⟩
      case round =>
        clear HS
        obtain ⟨t, ht0, ht, rfl, HS⟩ := hrel
        by_cases hlt : t < 64
        · have i2 : (t : Int) < 64 := by omega
          obtain ⟨m2, hm2⟩ : ∃ m, t - 2 = m := ⟨_, rfl⟩
          obtain ⟨m7, hm7⟩ : ∃ m, t - 7 = m := ⟨_, rfl⟩
          obtain ⟨m15, hm15⟩ : ∃ m, t - 15 = m := ⟨_, rfl⟩
          obtain ⟨m16, hm16⟩ : ∃ m, t - 16 = m := ⟨_, rfl⟩
          have e2 : IntKind.i64.wrap ((t : Int) - 2) = ((m2 : Nat) : Int) := by rw [IntWalk.i64_in _ (by omega)]; omega
          have e7 : IntKind.i64.wrap ((t : Int) - 7) = ((m7 : Nat) : Int) := by rw [IntWalk.i64_in _ (by omega)]; omega
          have e15 : IntKind.i64.wrap ((t : Int) - 15) = ((m15 : Nat) : Int) := by rw [IntWalk.i64_in _ (by omega)]; omega
          have e16 : IntKind.i64.wrap ((t : Int) - 16) = ((m16 : Nat) : Int) := by rw [IntWalk.i64_in _ (by omega)]; omega
          have l2 : m2 < 64 := by omega
          have l7 : m7 < 64 := by omega
          have l15 : m15 < 64 := by omega
          have l16 : m16 < 64 := by omega
          obtain ⟨Y, hY⟩ : ∃ x, schS l 0 m2 = x := ⟨_, rfl⟩
          obtain ⟨V, hV⟩ : ∃ x, schS l 0 m7 = x := ⟨_, rfl⟩
          obtain ⟨X, hX⟩ : ∃ x, schS l 0 m15 = x := ⟨_, rfl⟩
          obtain ⟨U, hU⟩ : ∃ x, schS l 0 m16 = x := ⟨_, rfl⟩
          have HCX := Lib.hid (fun (u : World) (hu : Below wr.heap.size wr u) => (show u.cell? ⟨z, m2, none⟩ = some (.int .u32 Y) ∧ u.cell? ⟨z, m7, none⟩ = some (.int .u32 V) ∧ u.cell? ⟨z, m15, none⟩ = some (.int .u32 X) ∧ u.cell? ⟨z, m16, none⟩ = some (.int .u32 U) from by
            have h := HS.out.keep hu
            rw [← hY, ← hV, ← hX, ← hU]
            exact ⟨h.cell (by omega) ht, h.cell (by omega) ht, h.cell (by omega) ht, h.cell (by omega) ht⟩))
          have HYW : Hid (W32 Y) := Lib.hid (hY ▸ w32_sch _ _ _)
          have HXW : Hid (W32 X) := Lib.hid (hX ▸ w32_sch _ _ _)
          have HVW : Hid (W32 V) := Lib.hid (hV ▸ w32_sch _ _ _)
          have HUW : Hid (W32 U) := Lib.hid (hU ▸ w32_sch _ _ _)
          have HE := Lib.hid (show schS l 0 t = addS (addS (addS (xorS (xorS (rotS 17 Y) (rotS 19 Y)) (Y / 1024)) V) (xorS (xorS (rotS 7 X) (rotS 18 X)) (X / 8))) U by rw [schS_hi (by omega), hm2, hm7, hm15, hm16, hY, hV, hX, hU])
          clear hm2 hm7 hm15 hm16 hY hV hX hU
          obtain ⟨y0, y1⟩ := HYW.out
          obtain ⟨x0, x1⟩ := HXW.out
          obtain ⟨c2, c7, c15, c16⟩ := HCX.out wr (qB _ _)
          have hzl := HS.out.lt
          have F2 := Wg.cell c2 hzl
          have F15 := Wg.cell c15 hzl
          clear c2 c7 c15 c16
          go_upto_region 10 with fail
          refine wp_region_wr (by kernel_rfl) (by kernel_rfl) ?_
          repeat (first
            | go_big_quiet_skip
            | (go_big_quiet_want
               first
                 | (go_big_quiet_op
                    first
                      | go_big_quiet_on
                      | go_big_quiet_call (first | (fail)))))
          refine wpQuiet_nil ?_
          rintro w' ⟨kk, rfl⟩
          have hk9 := kk.2
          generalize kk.val = w9 at *
          clear kk
          clear F2 F15
          have HT7 : Hid (∀ u : World, Calls Tryz.prog 227 #[.int .u32 X, .int .i64 7] u fun ee ww => ee = .returned (.int .u32 (rotS 7 X)) ∧ u = ww) := Lib.hid (fun u => turn_any X 7 HXW.out (by decide) (by decide) u)
          have HT18 : Hid (∀ u : World, Calls Tryz.prog 227 #[.int .u32 X, .int .i64 18] u fun ee ww => ee = .returned (.int .u32 (rotS 18 X)) ∧ u = ww) := Lib.hid (fun u => turn_any X 18 HXW.out (by decide) (by decide) u)
          have HT17 : Hid (∀ u : World, Calls Tryz.prog 227 #[.int .u32 Y, .int .i64 17] u fun ee ww => ee = .returned (.int .u32 (rotS 17 Y)) ∧ u = ww) := Lib.hid (fun u => turn_any Y 17 HYW.out (by decide) (by decide) u)
          have HT19 : Hid (∀ u : World, Calls Tryz.prog 227 #[.int .u32 Y, .int .i64 19] u fun ee ww => ee = .returned (.int .u32 (rotS 19 Y)) ∧ u = ww) := Lib.hid (fun u => turn_any Y 19 HYW.out (by decide) (by decide) u)
          go_upto_region 13 with (first | (go_at_call 227; (with_reducible refine (HT7.out _).mono ?_); rintro e w' ⟨rfl, rfl⟩) | (go_at_call 227; (with_reducible refine (HT18.out _).mono ?_); rintro e w' ⟨rfl, rfl⟩) | (go_at_call 227; (with_reducible refine (HT17.out _).mono ?_); rintro e w' ⟨rfl, rfl⟩) | (go_at_call 227; (with_reducible refine (HT19.out _).mono ?_); rintro e w' ⟨rfl, rfl⟩))
          generalize hL : bits BinOp.xor IntKind.u32 (bits BinOp.xor IntKind.u32 (rotS 7 X) (rotS 18 X)) (X / 8) = L
          generalize hH : bits BinOp.xor IntKind.u32 (bits BinOp.xor IntKind.u32 (rotS 17 Y) (rotS 19 Y)) (Y / 1024) = H
          have HE2 : Hid (schS l 0 t = addS (addS (addS H V) L) U) := Lib.hid (by rw [HE.out, ← hL, ← hH]; rfl)
          obtain ⟨p0, p1⟩ : 0 ≤ L ∧ L ≤ 4294967295 := by rw [← hL]; exact ⟨bits_lo_u32 _ _ _, bits_hi_u32 _ _ _⟩
          obtain ⟨r0, r1⟩ : 0 ≤ H ∧ H ≤ 4294967295 := by rw [← hH]; exact ⟨bits_lo_u32 _ _ _, bits_hi_u32 _ _ _⟩
          obtain ⟨v0, v1⟩ := HVW.out
          obtain ⟨s0, s1⟩ := HUW.out
          clear hL hH HT7 HT18 HT17 HT19 HE
          obtain ⟨c2, c7, c15, c16⟩ := HCX.out w9 hk9.below
          have HS9 := Lib.hid (HS.out.keep hk9.below)
          have hzl9 := HS9.out.lt
          have F7 := Wg.cell c7 hzl9
          have F16 := Wg.cell c16 hzl9
          clear c2 c7 c15 c16 hk9
          refine wp_region_tail_wg 15 (by kernel_rfl) (by kernel_rfl) (by kernel_rfl) (by kernel_rfl) (by kernel_rfl) ?_
          simp only [List.take_succ_cons, List.take_zero, List.drop_succ_cons, List.drop_zero]
          repeat (first
            | go_big_quiet_skip
            | (go_big_quiet_want
               first
                 | (go_big_quiet_op
                    first
                      | go_big_quiet_on
                      | go_big_quiet_call (first | (fail)))))
          refine wpQuiet_nil ?_
          rintro w' ⟨kk, rfl⟩
          have hk8 := kk.2
          generalize kk.val = w8 at *
          clear kk
          clear F7 F16 e2 e7 e15 e16
          have HS8 := Lib.hid (HS9.out.keep hk8.below)
          obtain ⟨u8, c8⟩ := HS8.out.any (show t < 64 by omega)
          have f8 := HS8.out.fr t
          go_wp2_with fail
          go_roundw
          case rel =>
            refine ⟨t + 1, by omega, by omega, by go_num, Lib.hid (HS8.out.next (by omega) ?_)⟩
            rw [HE2.out]; unfold addS; omega
          case measure => (simp [intOf]) <;> omega
        · have i2 : ¬ (t : Int) < 64 := by omega
          obtain rfl : t = 64 := by omega
          have HYF := Lib.hid ((HS.out.but.block y (by have := HYZ.out; omega) (by have := HYZ.out; omega)).trans HYR.out)
          go_wp2_with (first
            | (with_reducible refine at_load ?_
               refine wp_val (by rfl) (ex_load 271 _ rfl (p := ⟨z, 0, none⟩) rfl (qV _ _ _ _ (schV l 0 64) _ (fun j u hj => by rw [qZ]; exact (cells_at0 HS.out.row j).trans hj) Tryz.underlying271 rfl (by rw [schV_length]; kernel_rfl))) ?_)
            | (with_reducible refine at_store ?_
               refine wp_storeM (by rfl) 271 _ _ rfl y 0 [] (List.replicate 64 (.int .u32 0)) [] (schV l 0 64) 271 (.agg (schV l 0 64).toArray) rfl rfl rfl rfl (by simpa using HYF.out) (by rw [schV_length]; rfl) (by rw [schV_length]; kernel_rfl) (w32V_one _) ?_
               intro W9 hb9 hy9 hs9
               have HB9 := Lib.hid hb9
               have HY9 : Hid (W9.heap[y]? = some (.cells (schV l 0 64).toArray 271 (0, 0))) := Lib.hid (by simpa using hy9)
               clear hb9 hy9 hs9))
          refine bodyPost_ret (results_one Tryz.results226 _ _ rfl (qV _ y 0 271 (schV l 0 64) _ (fun j u hj => by rw [qZ]; exact (cells_at0 HY9.out j).trans hj) Tryz.underlying271 rfl (by rw [schV_length]; kernel_rfl))) rfl ?_
          exact ⟨rfl, HBW.out.trans ((HS.out.but.below HBW.out.size (fun k hk e => by have := HYZ.out; omega)).trans (HB9.out.below (qT HBW.out.size HS.out.but.size) fun k hk e => by have := HYZ.out; omega))⟩
end Go.Proofs.YtmlhijlcefogmaaGreatDoor
