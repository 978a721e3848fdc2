/-
  What the document's Hunks gives. Conditions: texts of at most 4000 bytes.
-/
import Derived.Test.YthjaepmfkgejkaaDoorRefMoves23
import Derived.Test.YthjaepmfkgejkaaDoorRefHunkMem
import Derived.Test.YthjaepmfkgejkaaDoorHunks23Walk
import Derived.Test.YthjaepmfkgejkaaDoorSortStr23
import Derived.Test.YthjaepmfkgejkaaDoorLinesSpec23
import Derived.Test.YthjaepmfkgejkaaDoorRunes
namespace Go.Proofs.YthjaepmfkgejkaaDoor
open Go.RowKit Go.Maps Go.Shelf
set_option linter.unusedVariables false
set_option linter.unusedSimpArgs false

def RefHunksGive (a b : ByteArray) (w : World) (e : Ending) (w' : World) : Prop :=
  Below w.heap.size w w' ∧ ((isText a && isText b) = true ∧ (∃ v hs, e = .returned (.tuple #[v, .int .i64 0]) ∧ hs.map hkOf = hunksL (L a) (L b) ∧ HsC w' w.heap.size v hs) ∨ (isText a && isText b) = false ∧ e = .returned (.tuple #[.slice none 0 0, .int .i64 5]))
theorem nos_snoc (K : List ByteArray) (l : List ByteArray) (s : ByteArray) : i32V (nosOf K (l ++ [s])) = i32V (nosOf K l) ++ [.int .i32 (idx K s : Int)] := by simp [i32V, nosOf]
/-- What stands in the loop over the moves. -/
def RLoop (mv : List Nat) (x y : List (List UInt8)) (w7 : World) (n i j : Nat) (op : Bool) (hs : List HkD) (v : Value) (wr : World) : Prop :=
  hunksTo (nearS mv) mv x y n = (i, j, hs.map hkOf) ∧ HsC wr w7.heap.size v hs ∧ op = (decide (0 < n) && nearS mv (n - 1)) ∧ (op = true → ∃ pre h, hs = pre ++ [h] ∧ HsO wr w7.heap.size v pre h) ∧ hs.length ≤ n ∧ (∀ h ∈ hs, h.2.2.2.length ≤ n) ∧ Below w7.heap.size w7 wr
theorem RLoop.put {mv : List Nat} {x y : List (List UInt8)} {w7 : World} {n i j i' j' : Nat} {hs pre : List HkD} {f t : Nat} {lv lv' : Value} {ls : List ByteArray} {s : ByteArray} {v : Value} {wr : World} (hn : nearS mv n = true)
    (ho : (pre ++ [(f, t, lv, ls)]).map hkOf = opened (nearS mv) n i j (hs.map hkOf)) (hh : hunksTo (nearS mv) mv x y (n + 1) = (i', j', addLine (opened (nearS mv) n i j (hs.map hkOf)) (L s)))
    (hO : HsO wr w7.heap.size v pre (f, t, lv', ls ++ [s])) (h1 : pre.length ≤ n) (h2 : ∀ h ∈ pre, h.2.2.2.length ≤ n) (h3 : ls.length ≤ n) (hb : Below w7.heap.size w7 wr) : RLoop mv x y w7 (n + 1) i' j' true (pre ++ [(f, t, lv', ls ++ [s])]) v wr := by
  refine ⟨by rw [hh, hk_add pre f t lv lv' ls s, ho], hO.closed, by rw [Nat.add_sub_cancel, hn]; simp, fun _ => ⟨pre, _, rfl, hO⟩, by simp; omega, fun h hm => ?_, hb⟩
  rcases List.mem_append.1 hm with q | q
  · have := h2 h q; omega
  · rw [List.mem_singleton.1 q]; simp; omega
set_option maxHeartbeats 32000000 in
set_option maxRecDepth 100000 in
theorem refHunks_any (a b : ByteArray) (w : World) (ha : a.size ≤ 4000) (hb : b.size ≤ 4000) :
    Calls Tryd.prog 44 #[.string a, .string b] w (RefHunksGive a b w) := by
  have HIA := Lib.hid (fun u => is_any a u (by omega)); have HIB := Lib.hid (fun u => is_any b u (by omega))
  have HSA := Lib.hid (fun u => refSplit_any a u ha); have HSB := Lib.hid (fun u => refSplit_any b u hb)
  cases hta : isText a with
  | false =>
    rw [hta] at HIA
    have HTA := Lib.hid hta
    clear hta
    go_enter Tryd.func44, Tryd.ntmps44
    go_wp2_with (go_at_call 75; refine (HIA.out _).mono ?_; rintro e w1 ⟨hb1, rfl⟩)
    go_ret2
    exact ⟨hb1, .inr ⟨by rw [HTA.out]; rfl, rfl⟩⟩
  | true =>
    rw [hta] at HIA
    have HTA := Lib.hid hta
    clear hta
    cases htb : isText b with
    | false =>
      rw [htb] at HIB
      have HTB := Lib.hid htb
      clear htb
      go_enter Tryd.func44, Tryd.ntmps44
      go_wp2_with (first
        | (go_at_call 75; refine (HIA.out _).mono ?_; rintro e w1 ⟨hb1, rfl⟩; clear HIA)
        | (go_at_call 75; refine (HIB.out _).mono ?_; rintro e w2 ⟨hb2, rfl⟩))
      go_ret2
      exact ⟨hb1.trans (hb2.mono hb1.size), .inr ⟨by rw [HTB.out, Bool.and_false], rfl⟩⟩
    | true =>
      rw [htb] at HIB
      have HTB := Lib.hid htb
      clear htb
      go_enter Tryd.func44, Tryd.ntmps44
      go_upto_region 3 with (first
        | (go_at_call 75; refine (HIA.out _).mono ?_; rintro e w1 ⟨hb1, rfl⟩; have HB1 := Lib.hid hb1; clear hb1 HIA)
        | (go_at_call 75; refine (HIB.out _).mono ?_; rintro e w2 ⟨hb2, rfl⟩; have HB2 := Lib.hid (HB1.out.trans (hb2.mono HB1.out.size)); clear hb2 HIB HB1))
      go_upto_region 4 with (first
        | (go_at_call 76; refine (HSA.out _).mono ?_; rintro e w3 ⟨hb3, v3, xs, rfl, hx3, ho3⟩
           have HB3 := Lib.hid (HB2.out.trans (hb3.mono HB2.out.size)); have HX := Lib.hid hx3; have HO3 := Lib.hid ho3
           clear hb3 hx3 ho3 HSA)
        | (go_at_call 76; refine (HSB.out _).mono ?_; rintro e w4 ⟨hb4, v4, ys, rfl, hy4, ho4⟩
           have HB4 := Lib.hid (HB3.out.trans (hb4.mono HB3.out.size)); have HY := Lib.hid hy4
           obtain ⟨Ax, cx, hvx⟩ := own_shape23 HO3.out
           obtain ⟨Ay, cy, hvy⟩ := own_shape23 ho4
           subst hvx hvy
           have HSX := Lib.hid (Sl.of_own (own_kept HO3.out hb4)); have HSY := Lib.hid (Sl.of_own ho4)
           clear hb4 hy4 ho4 HSB HB3 HO3))
      have hxl : xs.length ≤ 4000 := by
        have h1 := congrArg List.length HX.out
        have h2 := linesS_count (L a)
        rw [List.length_map] at h1
        rw [L_length] at h2
        omega
      have hyl : ys.length ≤ 4000 := by
        have h1 := congrArg List.length HY.out
        have h2 := linesS_count (L b)
        rw [List.length_map] at h1
        rw [L_length] at h2
        omega
      have hal : Below w4.heap.size w4 (w4.alloc (.cells #[] 9)) := (Below.refl _ _).alloc (Nat.le_refl _) _
      have HOE := Lib.hid (own_made0 w4 w4.heap.size 9 1 (Nat.le_refl _))
      have HSX0 := Lib.hid ((HSX.out.keep hal).more hal.size); have HSY0 := Lib.hid ((HSY.out.keep hal).more hal.size)
      have HAL := Lib.hid hal
      have HONE := Lib.hid (fun (l : List ByteArray) => (show ∀ u ∈ strs l, u.oneCell' = true from fun u hu => by obtain ⟨s, _, rfl⟩ := List.mem_map.1 hu; rfl))
      clear hal
      go_upto_region 6 with (first
        | (refine wp_appL (by rfl) _ _ 56 rfl w4.heap.size 9 (.string ⟨#[]⟩) 1 16 Tryd.underlying56 strInfo23 rfl (by decide) _ 0 [] rfl HOE.out Ax xs.length cx (w4.alloc (.cells #[] 9)).heap.size (strs xs) rfl HSX0.out (HONE.out xs) (by unfold maxLen; omega) (by omega) HAL.out.size ?_; intro v5 w5 ho5 hg5
           rw [Nat.zero_add, List.nil_append] at ho5
           obtain ⟨A5, c5, hv5⟩ := own_shape23 ho5
           subst hv5
           have HB5 := Lib.hid (HAL.out.grown hg5 HAL.out.size (fun k e => (HOE.out.lt k e).1))
           have HO5 := Lib.hid ho5
           have HSY5 := Lib.hid ((HSY.out.keep HB5.out).more HB5.out.size)
           clear ho5 hg5 HOE HSX0 HSY0)
        | (refine wp_appL (by rfl) _ _ 56 rfl w4.heap.size 9 (.string ⟨#[]⟩) 1 16 Tryd.underlying56 strInfo23 rfl (by decide) _ xs.length (strs xs) rfl HO5.out Ay ys.length cy w5.heap.size (strs ys) rfl HSY5.out (HONE.out ys) (by unfold maxLen; omega) (by omega) HB5.out.size ?_; intro v6 w6 ho6 hg6
           obtain ⟨A6, c6, hv6⟩ := own_shape23 ho6
           subst hv6
           have HB6 := Lib.hid (HB5.out.grown hg6 HB5.out.size (fun k e => (HO5.out.lt k e).1))
           have HO6 := Lib.hid ho6
           clear ho6 hg6 HO5 HSY5))
      have hkl : xs.length + ys.length = (xs ++ ys).length := by rw [List.length_append]
      have hko := HO6.out
      rw [← show strs (xs ++ ys) = strs xs ++ strs ys by simp [strs], hkl] at hko
      rw [hkl]
      obtain ⟨K, hK⟩ : ∃ K, xs ++ ys = K := ⟨_, rfl⟩
      rw [hK] at hko hkl ⊢
      have HK := Lib.hid hK
      have HSK := Lib.hid (Sl.of_own hko)
      have HSX6 := Lib.hid ((HSX.out.keep HB6.out).more HB6.out.size); have HSY6 := Lib.hid ((HSY.out.keep HB6.out).more HB6.out.size)
      have HBW6 := Lib.hid (HB4.out.trans (HB6.out.mono HB4.out.size))
      clear hko hK HO6 HB6 HAL HSX HSY HB4 HB2
      go_wp2_with fail
      go_loopw [9, 11] (fun t9 t11 wr => ∃ k : Nat, k ≤ xs.length ∧ t11 = .int .i64 (k : Int) ∧ Hid (wr.ownsRow w6.heap.size 21 1 t9 k (i32V (nosOf K (xs.take k)))) ∧ Hid (Below w6.heap.size w6 wr)) (fun _ t11 _ => xs.length - (intOf t11).toNat)
      case atStart => exact ⟨0, Nat.zero_le _, rfl, Lib.hid (World.ownsRow_nil _ _ _ _), Lib.hid (Below.refl _ _)⟩
      case round =>
        obtain ⟨k, hk, rfl, HOP, HBP⟩ := hrel
        by_cases hlt : k < xs.length
        · obtain ⟨bx, ox, rfl, hbx, hcx⟩ := (HSX6.out.keep HBP.out).2 (by omega)
          have k0 : (0 : Int) ≤ (k : Int) := by omega
          have k1 : (k : Int) < (xs.length : Int) := by omega
          have cx1 := hcx k (.string xs[k]) (by simp [strs, hlt])
          have htk : xs.take (k + 1) = xs.take k ++ [xs[k]] := List.take_succ_eq_append_getElem hlt
          have HTK := Lib.hid htk
          clear hcx htk
          generalize xs[k] = s at *
          have hnu := refNumber_any K A6 c6 s wr (by omega) ((HSK.out.keep HBP.out).more HBP.out.size)
          have HNU := Lib.hid hnu
          clear hnu
          go_wp2_with (first
            | (go_at_call 77; refine HNU.out.mono ?_; rintro e w8 ⟨hb8, rfl⟩
               have HB8 := Lib.hid (HBP.out.trans (hb8.mono HBP.out.size)); have HO8 := Lib.hid (own_kept HOP.out hb8)
               have hz8 : w6.heap.size ≤ w8.heap.size := HB8.out.size
               clear hb8)
            | (at_builtin; refine wp_app1 rfl _ _ 134 rfl w6.heap.size 21 (.int .i32 0) 4 Tryd.underlying134 i32Info rfl _ k _ rfl HO8.out (.int .i32 (idx K s : Int)) 21 rfl rfl (by unfold maxLen; omega) (by omega) hz8 ?_; intro v9 w9 ho9 hb9))
          go_roundw
          case rel => exact ⟨k + 1, by omega, by go_num, Lib.hid (by rw [HTK.out, nos_snoc]; exact ho9), Lib.hid (hb9 _ _ (Nat.le_refl _) HB8.out)⟩
          case measure => (simp [intOf]) <;> omega
        · have hke : k = xs.length := by omega
          have k1 : ¬ (k : Int) < (xs.length : Int) := by omega
          have hop := HOP.out
          rw [hke, List.take_length] at hop
          have HOF := Lib.hid hop
          clear hke hop HOP
          obtain ⟨w7, hw7⟩ : ∃ w7 : World, w7 = wr := ⟨_, rfl⟩
          subst hw7
          obtain ⟨Ap, cp, hvp⟩ := own_shape23 HOF.out
          subst hvp
          have HSP := Lib.hid (Sl.of_own HOF.out)
          have HSX7 := Lib.hid ((HSX6.out.keep HBP.out).more HBP.out.size); have HSY7 := Lib.hid ((HSY6.out.keep HBP.out).more HBP.out.size); have HSK7 := Lib.hid ((HSK.out.keep HBP.out).more HBP.out.size)
          have HBW7 := Lib.hid (HBW6.out.trans (HBP.out.mono HBW6.out.size))
          clear HBP HOF HSX6 HSY6 HSK HBW6
          go_wp2_with fail
          go_loopw [10, 12] (fun t10 t12 wr => ∃ k : Nat, k ≤ ys.length ∧ t12 = .int .i64 (k : Int) ∧ Hid (wr.ownsRow w7.heap.size 21 1 t10 k (i32V (nosOf K (ys.take k)))) ∧ Hid (Below w7.heap.size w7 wr)) (fun _ t12 _ => ys.length - (intOf t12).toNat)
          case atStart => exact ⟨0, Nat.zero_le _, rfl, Lib.hid (World.ownsRow_nil _ _ _ _), Lib.hid (Below.refl _ _)⟩
          case round =>
            obtain ⟨k, hk, rfl, HOP, HBP⟩ := hrel
            by_cases hlt : k < ys.length
            · obtain ⟨bx, ox, rfl, hbx, hcx⟩ := (HSY7.out.keep HBP.out).2 (by omega)
              have k0 : (0 : Int) ≤ (k : Int) := by omega
              have k1 : (k : Int) < (ys.length : Int) := by omega
              have cx1 := hcx k (.string ys[k]) (by simp [strs, hlt])
              have htk : ys.take (k + 1) = ys.take k ++ [ys[k]] := List.take_succ_eq_append_getElem hlt
              have HTK := Lib.hid htk
              clear hcx htk
              generalize ys[k] = s at *
              have hnu := refNumber_any K A6 c6 s wr (by omega) ((HSK7.out.keep HBP.out).more HBP.out.size)
              have HNU := Lib.hid hnu
              clear hnu
              go_wp2_with (first
                | (go_at_call 77; refine HNU.out.mono ?_; rintro e w8 ⟨hb8, rfl⟩
                   have HB8 := Lib.hid (HBP.out.trans (hb8.mono HBP.out.size)); have HO8 := Lib.hid (own_kept HOP.out hb8)
                   have hz8 : w7.heap.size ≤ w8.heap.size := HB8.out.size
                   clear hb8)
                | (at_builtin; refine wp_app1 rfl _ _ 134 rfl w7.heap.size 21 (.int .i32 0) 4 Tryd.underlying134 i32Info rfl _ k _ rfl HO8.out (.int .i32 (idx K s : Int)) 21 rfl rfl (by unfold maxLen; omega) (by omega) hz8 ?_; intro v9 w9 ho9 hb9))
              go_roundw
              case rel => exact ⟨k + 1, by omega, by go_num, Lib.hid (by rw [HTK.out, nos_snoc]; exact ho9), Lib.hid (hb9 _ _ (Nat.le_refl _) HB8.out)⟩
              case measure => (simp [intOf]) <;> omega
            · have hke : k = ys.length := by omega
              have k1 : ¬ (k : Int) < (ys.length : Int) := by omega
              have hop := HOP.out
              rw [hke, List.take_length] at hop
              have HOF := Lib.hid hop
              clear hke hop HOP
              obtain ⟨Aq, cq, hvq⟩ := own_shape23 HOF.out
              subst hvq
              have hsq := Sl.of_own HOF.out
              have hsp := (HSP.out.keep HBP.out).more HBP.out.size
              have HSX8 := Lib.hid ((HSX7.out.keep HBP.out).more HBP.out.size); have HSY8 := Lib.hid ((HSY7.out.keep HBP.out).more HBP.out.size)
              have HBW8 := Lib.hid (HBW7.out.trans (HBP.out.mono HBW7.out.size))
              have hmo := refMoves_any (nosOf K xs) (nosOf K ys) Ap Aq cp cq wr (by rw [nosOf_len]; exact hsp) (by rw [nosOf_len]; exact hsq) (by rw [nosOf_len]; omega) (by rw [nosOf_len]; omega)
              rw [nosOf_len, nosOf_len] at hmo
              unfold MovesGive at hmo
              rw [moves_nos (fun s hs => by rw [← HK.out]; exact List.mem_append_left _ hs) (fun s hs => by rw [← HK.out]; exact List.mem_append_right _ hs), HX.out, HY.out] at hmo
              have HMO := Lib.hid hmo
              clear hsq hsp hmo HBP HOF HSX7 HSY7 HSK7 HBW7
              go_wp2_with (go_at_call 78; refine HMO.out.mono ?_; rintro e w9 ⟨hb9, A9, c9, rfl, sm9⟩
                           obtain ⟨mv, hmv⟩ : ∃ mv, movesT (linesS (L a)) (linesS (L b)) = mv := ⟨_, rfl⟩
                           rw [hmv] at sm9 ⊢
                           have hmvl : mv.length ≤ 8000 := by
                             rw [← hmv]
                             have h1 := moves_length _ (nosG (linesS (L a) ++ linesS (L b)) (linesS (L a))) (nosG (linesS (L a) ++ linesS (L b)) (linesS (L b))) (Nat.le_refl _)
                             simp only [nosG, List.length_map] at h1
                             have h2 := congrArg List.length HX.out
                             have h3 := congrArg List.length HY.out
                             rw [List.length_map] at h2 h3
                             show (movesS _ _).length ≤ 8000
                             simp only [nosG]
                             omega
                           have HMV := Lib.hid hmv; have HB9 := Lib.hid hb9; have HSM := Lib.hid sm9
                           clear hb9 sm9 HMO hmv)
              have hxL : (linesS (L a)).length = xs.length := by rw [← HX.out, List.length_map]
              have hyL : (linesS (L b)).length = ys.length := by rw [← HY.out, List.length_map]
              have HXL := Lib.hid hxL; have HYL := Lib.hid hyL
              obtain ⟨w7, hw7⟩ : ∃ w7 : World, w7 = w9 := ⟨_, rfl⟩
              subst hw7
              have HSX9 := Lib.hid ((HSX8.out.keep HB9.out).more HB9.out.size); have HSY9 := Lib.hid ((HSY8.out.keep HB9.out).more HB9.out.size)
              have HBW9 := Lib.hid (HBW8.out.trans (HB9.out.mono HBW8.out.size))
              clear hxL hyL HSX8 HSY8 HBW8 HB9
              go_loopw [15, 16, 17, 18, 19] (fun t15 t16 t17 t18 t19 wr => ∃ (n i j : Nat) (op : Bool) (hs : List HkD), n ≤ mv.length ∧ t19 = .int .i64 (n : Int) ∧ t16 = .int .i64 (i : Int) ∧ t17 = .int .i64 (j : Int) ∧ t18 = .bool op ∧ Hid (RLoop mv (linesS (L a)) (linesS (L b)) w7 n i j op hs t15 wr)) (fun _ _ _ _ t19 _ => mv.length - (intOf t19).toNat)
              case atStart => exact ⟨0, 0, 0, false, [], Nat.zero_le _, rfl, rfl, rfl, rfl, Lib.hid ⟨rfl, HsC.nil _ _, rfl, fun h => (by cases h), Nat.zero_le _, fun h hh => (by cases hh), Below.refl _ _⟩⟩
              case round =>
                obtain ⟨n, i, j, op, hs, hn, rfl, rfl, rfl, rfl, HLA⟩ := hrel
                obtain ⟨Av, cv, hvv⟩ := own_shape23 HLA.out.2.1.1
                subst hvv
                have hsl : hs.length ≤ n := HLA.out.2.2.2.2.1
                by_cases hlt : n < mv.length
                · obtain ⟨bm, om, rfl, hbm, hcm⟩ := (HSM.out.keep HLA.out.2.2.2.2.2.2).2 (by omega)
                  have cm := hcm n (.int .u8 ((mv[n] : Nat) : Int)) (by simp [u8V, hlt])
                  have hgd : mv.getD n 0 = mv[n] := by rw [List.getD_eq_getElem?_getD, List.getElem?_eq_getElem hlt]; rfl
                  have n0 : (0 : Int) ≤ (n : Int) := by omega
                  have n1 : (n : Int) < (mv.length : Int) := by omega
                  have hback := hunks_back (told_near mv) (show Way mv (linesS (L a)) (linesS (L b)) by rw [← HMV.out]; exact way_T _ _) n i j (hs.map hkOf) hn HLA.out.1
                  obtain ⟨hpl, hil, hjl, _, _⟩ := hback
                  have hwa := (show Way mv (linesS (L a)) (linesS (L b)) by rw [← HMV.out]; exact way_T _ _).1 n hlt
                  rw [← hpl] at hwa
                  have hi4 : i ≤ 4000 := by have := HXL.out; omega
                  have hj4 : j ≤ 4000 := by have := HYL.out; omega
                  have ei : IntKind.i64.wrap ((i : Int) + 1) = (i : Int) + 1 := IntWalk.i64_in _ (by omega)
                  have ej : IntKind.i64.wrap ((j : Int) + 1) = (j : Int) + 1 := IntWalk.i64_in _ (by omega)
                  have eh : IntKind.i64.wrap ((hs.length : Int) - 1) = (hs.length : Int) - 1 := IntWalk.i64_in _ (by omega)
                  obtain ⟨m, hm⟩ : ∃ m, mv[n] = m := ⟨_, rfl⟩
                  rw [hm] at cm hgd
                  have HMN := Lib.hid hm
                  have HGD := Lib.hid hgd; have HWA := Lib.hid hwa
                  have HCM := Lib.hid (show ∀ q (h : q < mv.length), wr.cell? ⟨bm, om + q, none⟩ = some (.int .u8 ((mv[q] : Nat) : Int)) from fun q hq => hcm q _ (by simp [u8V, hq]))
                  clear hcm hgd hwa hpl hil hjl hm
                  go_wp2_with fail
                  go_loop [20, 21] (fun t20 t21 => ∃ k : Int, t21 = .int .i64 k ∧ (n : Int) - 3 ≤ k ∧ k ≤ (n : Int) + 4 ∧ t20 = .bool (nearUp mv ((n : Int) - 3) k)) (fun _ t21 => ((n : Int) + 4 - intOf t21).toNat)
                  case atStart => exact ⟨(n : Int) - 3, rfl, Int.le_refl _, by omega, by rw [nearUp_start]⟩
                  case round =>
                    obtain ⟨k, rfl, hk1, hk2, rfl⟩ := hrel
                    by_cases hk3 : k ≤ (n : Int) + 3
                    · have hsucc := nearUp_succ mv ((n : Int) - 3) k hk1
                      have HSU := Lib.hid hsucc
                      clear hsucc
                      cases hup : nearUp mv ((n : Int) - 3) k with
                      | true =>
                        rw [hup] at HSU
                        have HS2 := Lib.hid (show nearUp mv ((n : Int) - 3) (k + 1) = true by rw [HSU.out]; rfl)
                        clear hup HSU cm
                        go_wp2_with fail
                        go_round
                        case rel => exact ⟨k + 1, by first | rfl | go_num, by omega, by omega, by rw [HS2.out]⟩
                        case measure => (simp [intOf]) <;> omega
                      | false =>
                        rw [hup] at HSU
                        by_cases hk0 : 0 ≤ k
                        · by_cases hk4 : k < (mv.length : Int)
                          · obtain ⟨q, rfl⟩ : ∃ q : Nat, k = (q : Int) := ⟨k.toNat, by omega⟩
                            have cq := HCM.out q (by omega)
                            have hq : mv.getD (q : Int).toNat 1 = mv[q]'(by omega) := by rw [Int.toNat_natCast, List.getD_eq_getElem?_getD, List.getElem?_eq_getElem (by omega)]; rfl
                            have hsu := HSU.out
                            rw [hq] at hsu
                            generalize mv[q]'(by omega) = mq at *
                            by_cases hmq : mq = 1
                            · have HS2 := Lib.hid (show nearUp mv ((n : Int) - 3) ((q : Int) + 1) = false by rw [hsu]; simp [hmq])
                              have b1 : ((mq : Int) != 1) = false := by rw [hmq]; rfl
                              clear hup HSU cm hq hsu hmq
                              go_wp2_with fail
                              go_round
                              case rel => exact ⟨(q : Int) + 1, by first | rfl | go_num, by omega, by omega, by rw [HS2.out]⟩
                              case measure => (simp [intOf]) <;> omega
                            · have HS2 := Lib.hid (show nearUp mv ((n : Int) - 3) ((q : Int) + 1) = true by rw [hsu]; simp [hmq]; omega)
                              have b1 : ((mq : Int) != 1) = true := by simp; omega
                              clear hup HSU cm hq hsu hmq
                              go_wp2_with fail
                              go_round
                              case rel => exact ⟨(q : Int) + 1, by first | rfl | go_num, by omega, by omega, by rw [HS2.out]⟩
                              case measure => (simp [intOf]) <;> omega
                          · have HS2 := Lib.hid (show nearUp mv ((n : Int) - 3) (k + 1) = false by rw [HSU.out]; simp [hk4])
                            clear hup HSU cm
                            go_wp2_with fail
                            go_round
                            case rel => exact ⟨k + 1, by first | rfl | go_num, by omega, by omega, by rw [HS2.out]⟩
                            case measure => (simp [intOf]) <;> omega
                        · have HS2 := Lib.hid (show nearUp mv ((n : Int) - 3) (k + 1) = false by rw [HSU.out]; simp [hk0])
                          clear hup HSU cm
                          go_wp2_with fail
                          go_round
                          case rel => exact ⟨k + 1, by first | rfl | go_num, by omega, by omega, by rw [HS2.out]⟩
                          case measure => (simp [intOf]) <;> omega
                    · have hke : k = (n : Int) + 4 := by omega
                      rw [show nearUp mv ((n : Int) - 3) k = nearS mv n by rw [hke]; exact nearUp_near mv n]
                      clear hke hk1 hk2
                      cases htold : nearS mv n with
                      | false =>
                        have hm1 : m = 1 := by
                          apply Classical.byContradiction
                          intro hne
                          have h1 : nearS mv n = true := by
                            unfold nearS nearTo
                            rw [List.any_eq_true]
                            refine ⟨n, List.mem_range.2 hlt, ?_⟩
                            simp only [Bool.and_eq_true, decide_eq_true_eq]
                            refine ⟨⟨?_, by omega⟩, by omega⟩
                            rw [List.getD_eq_getElem?_getD, List.getElem?_eq_getElem hlt]
                            show mv[n] ≠ 1
                            rw [HMN.out]
                            exact hne
                          rw [h1] at htold
                          cases htold
                        have b1 : ((m : Int) == 1) = true := by rw [hm1]; rfl
                        have b2 : ((m : Int) == 2) = false := by rw [hm1]; rfl
                        have b3 : ((m : Int) == 3) = false := by rw [hm1]; rfl
                        have HTO := Lib.hid htold
                        clear htold hm1
                        go_wp2_with fail
                        go_roundw
                        case rel => exact ⟨n + 1, i + 1, j + 1, false, hs, by omega, by go_num, by go_num, by go_num, rfl, Lib.hid ⟨hunksTo_skip HLA.out.1 HTO.out, HLA.out.2.1, by rw [Nat.add_sub_cancel, HTO.out]; simp, fun q => (by cases q), by omega, fun h hh => (by have := HLA.out.2.2.2.2.2.1 h hh; omega), HLA.out.2.2.2.2.2.2⟩⟩
                        case measure => (simp [intOf]) <;> omega
                      | true =>
                        have HTO := Lib.hid htold
                        clear htold
                        go_upto_region 27 with fail
                        go_cut [115] from 111 to 115 (fun s115 wx => s115 = .bool (!op) ∧ wx = wr)
                        case first =>
                          cases op
                          · go_wp2_with fail
                            go_meet
                            case rel => exact ⟨rfl, rfl⟩
                          · go_wp2_with fail
                            go_meet
                            case rel => exact ⟨rfl, rfl⟩
                        case rest =>
                          obtain ⟨rfl, hwc⟩ := hcut
                          subst hwc
                          go_upto_if 115 with fail
                          go_cut [15] from 116 to 121 (fun s15 wx => ∃ X c pre f t lv ls, s15 = .slice (some ⟨X, 0, none⟩) (pre.length + 1) c ∧ Hid (HsO wx w7.heap.size (.slice (some ⟨X, 0, none⟩) (pre.length + 1) c) pre (f, t, lv, ls)) ∧ Hid ((pre ++ [(f, t, lv, ls)]).map hkOf = opened (nearS mv) n i j (hs.map hkOf)) ∧ pre.length ≤ n ∧ Hid (∀ h ∈ pre, h.2.2.2.length ≤ n) ∧ ls.length ≤ n ∧ Hid (Below w7.heap.size w7 wx))
                          case first =>
                            cases op with
                            | true =>
                              obtain ⟨h1, h2, h3, h4, h5, h6, h7⟩ := HLA.out
                              obtain ⟨pre, ⟨f, t, lv, ls⟩, hpre, hO⟩ := h4 rfl
                              have h8 : ¬ (n = 0 ∨ nearS mv (n - 1) = false) := by
                                have h9 := h3.symm
                                rw [Bool.and_eq_true, decide_eq_true_eq] at h9
                                rintro (q | q)
                                · omega
                                · rw [q] at h9; cases h9.2
                              have HOPN := Lib.hid (show (pre ++ [(f, t, lv, ls)]).map hkOf = opened (nearS mv) n i j (hs.map hkOf) by unfold opened; rw [if_neg h8, ← hpre])
                              have hp1 : pre.length ≤ n := by have := congrArg List.length hpre; simp at this; omega
                              have hp2 : ∀ h ∈ pre, h.2.2.2.length ≤ n := fun h hh => h6 h (by rw [hpre]; exact List.mem_append_left _ hh)
                              have hp3 : ls.length ≤ n := h6 (f, t, lv, ls) (by rw [hpre]; simp)
                              obtain ⟨X, c, _, hvX, _⟩ := id hO
                              have HO := Lib.hid hO; have HP2 := Lib.hid hp2; have HBL := Lib.hid h7; have HVX := Lib.hid hvX
                              clear h1 h2 h3 h4 h5 h6 h7 h8 hpre hO hp2 hvX
                              go_wp2_with fail
                              go_meet
                              case rel => exact ⟨X, c, pre, f, t, lv, ls, HVX.out, Lib.hid (by rw [← HVX.out]; exact HO.out), HOPN, hp1, HP2, hp3, HBL⟩
                            | false =>
                              obtain ⟨h1, h2, h3, h4, h5, h6, h7⟩ := HLA.out
                              have h8 : n = 0 ∨ nearS mv (n - 1) = false := by
                                have h9 := h3.symm
                                rw [Bool.and_eq_false_iff, decide_eq_false_iff_not] at h9
                                rcases h9 with q | q
                                · exact .inl (by omega)
                                · exact .inr q
                              have HOPN := Lib.hid (show opened (nearS mv) n i j (hs.map hkOf) = hs.map hkOf ++ [(i, j, [])] by unfold opened; rw [if_pos h8])
                              have HC2 := Lib.hid h2; have HP2 := Lib.hid h6; have HBL := Lib.hid h7
                              have hz7 : w7.heap.size ≤ wc.heap.size := h7.size
                              clear h1 h2 h3 h4 h5 h6 h7 h8
                              go_wp2_with (first
                                | (refine wp_buildSlice1 (by rfl) 98 _ rfl 101 Tryd.underlying98 (.agg #[.int .i64 0, .int .i64 0, .slice none 0 0]) 3 40 rhkInfo rfl (by decide) (by decide) [.int .i64 (i : Int), .int .i64 (j : Int), .slice none 0 0] rfl rfl ?_)
                                | (refine wp_appNg rfl _ _ 98 rfl w7.heap.size 101 (.agg #[.int .i64 0, .int .i64 0, .slice none 0 0]) 3 40 Tryd.underlying98 rhkInfo rfl (by decide) (.slice Av hs.length cv) hs.length (rowsV hkV hs) rfl HC2.out.1 [.int .i64 (i : Int), .int .i64 (j : Int), .slice none 0 0] 101 rfl rfl (by intro u hu; simp only [List.mem_cons, List.not_mem_nil, or_false] at hu; rcases hu with rfl | rfl | rfl <;> rfl) (by unfold maxLen; omega) (by omega) hz7 ?_; intro v9 w9 ho9 hb9 hk9
                                   have hbel9 : Below w7.heap.size wc w9 := hb9 _ wc (Nat.le_refl _) (Below.refl _ _)
                                   have hop9 := HsC.opened i j HC2.out hz7 ho9 hbel9 hk9
                                   obtain ⟨X, c, _, hvX, _⟩ := id hop9
                                   subst hvX
                                   have HOP9 := Lib.hid hop9; have HBEL9 := Lib.hid hbel9
                                   clear ho9 hb9 hk9 hbel9 hop9))
                              go_meet
                              case rel => exact ⟨X, c, hs, i, j, .slice none 0 0, [], rfl, HOP9, Lib.hid (by rw [HOPN.out, List.map_append]; rfl), hsl, HP2, Nat.zero_le _, Lib.hid (HBL.out.trans HBEL9.out)⟩
                          case rest =>
                            obtain ⟨X, c, pre, f, t, lv, ls, rfl, HO, HOP, hpl, HPB, hls, HBLC⟩ := hcut
                            clear cm
                            obtain ⟨bq, oq, hq1, _, hq3⟩ := (HSM.out.keep HBLC.out).2 (by omega)
                            obtain ⟨rfl, rfl⟩ := addr_eq hq1
                            have cm := hq3 n (.int .u8 ((m : Nat) : Int)) (by rw [← HMN.out]; simp [u8V, hlt])
                            clear hq1 hq3
                            have HH1 := Lib.hid HLA.out.1
                            clear HLA hsl HCM
                            rcases HWA.out with ⟨hm, l, hlx, hly⟩ | ⟨hm, l, hlx⟩ | ⟨hm, l, hly⟩
                            · have hmm : m = 1 := HGD.out.symm.trans hm
                              have b1 : ((m : Int) == 1) = true := by rw [hmm]; rfl
                              have b2 : ((m : Int) == 2) = false := by rw [hmm]; rfl
                              have b3 : ((m : Int) == 3) = false := by rw [hmm]; rfl
                              have hil := (List.getElem?_eq_some_iff.1 hlx).1
                              have hjl := (List.getElem?_eq_some_iff.1 hly).1
                              have HM := Lib.hid hm; have HLX := Lib.hid hlx
                              rw [HXL.out] at hil
                              rw [HYL.out] at hjl
                              clear hm hmm hlx hly
                              have hidx : i < xs.length := by omega
                              obtain ⟨bx, ox, rfl, hbx, hcx⟩ := (HSX9.out.keep HBLC.out).2 (by omega)
                              have hcln := hcx i (.string xs[i]) (by simp [strs, hidx])
                              have i0 : (0 : Int) ≤ (i : Int) := by omega
                              have i1 : (i : Int) < (xs.length : Int) := by omega
                              have hLn : L xs[i] = l := by
                                have h1 := HLX.out
                                rw [← HX.out, List.getElem?_map, List.getElem?_eq_getElem hidx] at h1
                                exact Option.some.inj h1
                              have hln : xs[i].size ≤ 4000 := by
                                have hm : L xs[i] ∈ linesS (L a) := by rw [← HX.out]; exact List.mem_map_of_mem (List.getElem_mem hidx)
                                have := linesS_size hm
                                rw [L_length, L_length] at this
                                omega
                              clear hcx
                              generalize xs[i] = ln at *
                              have HLN := Lib.hid hLn
                              have SZ : (⟨#[32]⟩ : ByteArray).size + ln.size ≤ 9223372036854775807 := by show 1 + ln.size ≤ _; omega
                              have bd : Below wc.heap.size wc wc.drew := (Below.refl _ _).drew
                              obtain ⟨X', c', bo, hv15, cL, hXz, hbo, hbz, howl, hput⟩ := (HO.out.below bd).put
                              obtain ⟨rfl, rfl⟩ : X = X' ∧ c = c' := by
                                injection hv15 with e1 _ e3
                                injection e1 with e1
                                injection e1 with e1
                                exact ⟨e1, e3⟩
                              have HCLV := Lib.hid cL; have HCLN := Lib.hid hcln; have HXZ := Lib.hid hXz; have HOWL := Lib.hid howl; have HBOZ := Lib.hid hbz; have HPUT := Lib.hid hput; have HBOB := Lib.hid hbo
                              have HBXZ := Lib.hid (show bx < wc.drew.heap.size from Nat.lt_of_lt_of_le hbx (Nat.le_trans HBLC.out.size bd.size))
                              have HALD := Lib.hid (show Below wc.drew.heap.size wc.drew (wc.drew.alloc (.cells #[.string (⟨#[32]⟩ ++ ln)] 9)) from (Below.refl _ _).alloc (Nat.le_refl _) _)
                              have HBLD := Lib.hid (HBLC.out.trans (bd.mono HBLC.out.size))
                              have hpl6 : pre.length ≤ 8000 := by omega
                              have e1 : IntKind.i64.wrap (((pre.length : Int) + 1) - 1) = (pre.length : Int) := by rw [IntWalk.i64_in _ (by omega)]; omega
                              clear hv15 cL hXz hbo hbz howl hput hcln hLn bd hbx
                              go_upto_region 33 with fail
                              refine wp_region_N 13 (fun u => u.cell? ⟨X, pre.length * 3 + 2, none⟩ = some lv ∧ u.cell? ⟨bx, ox + i, none⟩ = some (.string ln)) (by kernel_rfl) ?_
                              have hF0 : wc.drew.cell? ⟨X, pre.length * 3 + 2, none⟩ = some lv ∧ wc.drew.cell? ⟨bx, ox + i, none⟩ = some (.string ln) := ⟨HCLV.out, HCLN.out⟩
                              refine wpAnyN_takeW (i := 0) (v := (.slice (some ⟨X, 0, none⟩) (pre.length + 1) c)) (by kernel_rfl) rfl (by kernel_rfl) (by kernel_rfl) (by kernel_rfl) (fun _ _ _ h => h) (Or.inl ⟨by rfl, fun w' _ => by rfl⟩) ?_
                              simp only [Act.put, List.getElem_toArray, List.getElem_cons_succ, List.getElem_cons_zero, List.setIfInBounds_toArray, List.set_cons_zero, List.set_cons_succ, List.size_toArray, List.length_cons, List.length_nil, Nat.reduceAdd, Array.replicate_succ, Array.replicate_zero, List.push_toArray, List.nil_append, List.cons_append]
                              refine wpAnyN_takeW (i := 1) (v := (.int .i64 (pre.length : Int))) (by kernel_rfl) rfl (by kernel_rfl) (by kernel_rfl) (by kernel_rfl) (fun _ _ _ h => h) (Or.inl ⟨by rfl, fun w' _ => by rfl⟩) ?_
                              simp only [Act.put, List.getElem_toArray, List.getElem_cons_succ, List.getElem_cons_zero, List.setIfInBounds_toArray, List.set_cons_zero, List.set_cons_succ, List.size_toArray, List.length_cons, List.length_nil, Nat.reduceAdd, Array.replicate_succ, Array.replicate_zero, List.push_toArray, List.nil_append, List.cons_append]
                              refine wpAnyN_takeW (i := 2) (v := (.slice (some ⟨X, 0, none⟩) (pre.length + 1) c)) (by kernel_rfl) rfl (by kernel_rfl) (by kernel_rfl) (by kernel_rfl) (fun _ _ _ h => h) (Or.inl ⟨by rfl, fun w' _ => by rfl⟩) ?_
                              simp only [Act.put, List.getElem_toArray, List.getElem_cons_succ, List.getElem_cons_zero, List.setIfInBounds_toArray, List.set_cons_zero, List.set_cons_succ, List.size_toArray, List.length_cons, List.length_nil, Nat.reduceAdd, Array.replicate_succ, Array.replicate_zero, List.push_toArray, List.nil_append, List.cons_append]
                              refine wpAnyN_takeW (i := 3) (v := (.int .i64 (pre.length : Int))) (by kernel_rfl) rfl (by kernel_rfl) (by kernel_rfl) (by kernel_rfl) (fun _ _ _ h => h) (Or.inl ⟨by rfl, fun w' _ => by rfl⟩) ?_
                              simp only [Act.put, List.getElem_toArray, List.getElem_cons_succ, List.getElem_cons_zero, List.setIfInBounds_toArray, List.set_cons_zero, List.set_cons_succ, List.size_toArray, List.length_cons, List.length_nil, Nat.reduceAdd, Array.replicate_succ, Array.replicate_zero, List.push_toArray, List.nil_append, List.cons_append]
                              refine wpAnyN_takeW (i := 4) (v := (.pointer (some ⟨X, pre.length * 3, none⟩))) (by kernel_rfl) rfl (by kernel_rfl) (by kernel_rfl) (by kernel_rfl) (fun _ _ _ h => h) (Or.inl ⟨by rfl, fun w' _ => ex_indexN 98 _ _ rfl rfl rfl (by omega) Tryd.underlying98 (by kernel_rfl)⟩) ?_
                              simp only [Act.put, List.getElem_toArray, List.getElem_cons_succ, List.getElem_cons_zero, List.setIfInBounds_toArray, List.set_cons_zero, List.set_cons_succ, List.size_toArray, List.length_cons, List.length_nil, Nat.reduceAdd, Array.replicate_succ, Array.replicate_zero, List.push_toArray, List.nil_append, List.cons_append]
                              refine wpAnyN_takeW (i := 5) (v := (.pointer (some ⟨X, pre.length * 3 + 2, none⟩))) (by kernel_rfl) rfl (by kernel_rfl) (by kernel_rfl) (by kernel_rfl) (fun _ _ _ h => h) (Or.inl ⟨by rfl, fun w' _ => by rfl⟩) ?_
                              simp only [Act.put, List.getElem_toArray, List.getElem_cons_succ, List.getElem_cons_zero, List.setIfInBounds_toArray, List.set_cons_zero, List.set_cons_succ, List.size_toArray, List.length_cons, List.length_nil, Nat.reduceAdd, Array.replicate_succ, Array.replicate_zero, List.push_toArray, List.nil_append, List.cons_append]
                              refine wpAnyN_take (i := 6) (v := lv) (by kernel_rfl) (by kernel_rfl) rfl (by kernel_rfl) (by kernel_rfl) (by kernel_rfl) (fun _ _ _ h => h) (Or.inl ⟨by rfl, fun w' hw' => ex_load1 56 _ rfl (p := ⟨X, pre.length * 3 + 2, none⟩) rfl Tryd.underlying56 rfl hw'.1⟩) hF0 ?_
                              simp only [Act.put, List.getElem_toArray, List.getElem_cons_succ, List.getElem_cons_zero, List.setIfInBounds_toArray, List.set_cons_zero, List.set_cons_succ, List.size_toArray, List.length_cons, List.length_nil, Nat.reduceAdd, Array.replicate_succ, Array.replicate_zero, List.push_toArray, List.nil_append, List.cons_append]
                              refine wpAnyN_takeW (i := 7) (v := (.slice (some ⟨bx, ox, none⟩) xs.length cx)) (by kernel_rfl) rfl (by kernel_rfl) (by kernel_rfl) (by kernel_rfl) (fun _ _ _ h => h) (Or.inl ⟨by rfl, fun w' _ => by rfl⟩) ?_
                              simp only [Act.put, List.getElem_toArray, List.getElem_cons_succ, List.getElem_cons_zero, List.setIfInBounds_toArray, List.set_cons_zero, List.set_cons_succ, List.size_toArray, List.length_cons, List.length_nil, Nat.reduceAdd, Array.replicate_succ, Array.replicate_zero, List.push_toArray, List.nil_append, List.cons_append]
                              refine wpAnyN_takeW (i := 8) (v := (.int .i64 (i : Int))) (by kernel_rfl) rfl (by kernel_rfl) (by kernel_rfl) (by kernel_rfl) (fun _ _ _ h => h) (Or.inl ⟨by rfl, fun w' _ => by rfl⟩) ?_
                              simp only [Act.put, List.getElem_toArray, List.getElem_cons_succ, List.getElem_cons_zero, List.setIfInBounds_toArray, List.set_cons_zero, List.set_cons_succ, List.size_toArray, List.length_cons, List.length_nil, Nat.reduceAdd, Array.replicate_succ, Array.replicate_zero, List.push_toArray, List.nil_append, List.cons_append]
                              refine wpAnyN_takeW (i := 9) (v := (.pointer (some ⟨bx, ox + i, none⟩))) (by kernel_rfl) rfl (by kernel_rfl) (by kernel_rfl) (by kernel_rfl) (fun _ _ _ h => h) (Or.inl ⟨by rfl, fun w' _ => ex_index1o 56 _ _ rfl rfl rfl hidx Tryd.underlying56 (by kernel_rfl)⟩) ?_
                              simp only [Act.put, List.getElem_toArray, List.getElem_cons_succ, List.getElem_cons_zero, List.setIfInBounds_toArray, List.set_cons_zero, List.set_cons_succ, List.size_toArray, List.length_cons, List.length_nil, Nat.reduceAdd, Array.replicate_succ, Array.replicate_zero, List.push_toArray, List.nil_append, List.cons_append]
                              refine wpAnyN_take (i := 10) (v := (.string ln)) (by kernel_rfl) (by kernel_rfl) rfl (by kernel_rfl) (by kernel_rfl) (by kernel_rfl) (fun _ _ _ h => h) (Or.inl ⟨by rfl, fun w' hw' => ex_load1 9 _ rfl (p := ⟨bx, ox + i, none⟩) rfl Tryd.underlying9 rfl hw'.2⟩) hF0 ?_
                              simp only [Act.put, List.getElem_toArray, List.getElem_cons_succ, List.getElem_cons_zero, List.setIfInBounds_toArray, List.set_cons_zero, List.set_cons_succ, List.size_toArray, List.length_cons, List.length_nil, Nat.reduceAdd, Array.replicate_succ, Array.replicate_zero, List.push_toArray, List.nil_append, List.cons_append]
                              refine wpAnyN_takeW (i := 11) (v := (.string (⟨#[32]⟩ ++ ln))) (by kernel_rfl) rfl (by kernel_rfl) (by kernel_rfl) (by kernel_rfl) (fun _ _ _ h => h) (Or.inl ⟨by rfl, fun w' _ => ex_addS _ _ _ _ rfl (a := ⟨#[32]⟩) (b := ln) rfl rfl SZ⟩) ?_
                              simp only [Act.put, List.getElem_toArray, List.getElem_cons_succ, List.getElem_cons_zero, List.setIfInBounds_toArray, List.set_cons_zero, List.set_cons_succ, List.size_toArray, List.length_cons, List.length_nil, Nat.reduceAdd, Array.replicate_succ, Array.replicate_zero, List.push_toArray, List.nil_append, List.cons_append]
                              refine wpAnyN_all (rs := [12]) (by kernel_rfl) (by simp) ?_
                              intro q' hq'
                              obtain rfl : q' = 12 := by simpa using hq'
                              refine wpOp_val _ rfl (by kernel_rfl) (ex_build1c 56 _ rfl 9 Tryd.underlying56 (.string ⟨#[]⟩) 16 strInfo23 rfl (.string (⟨#[32]⟩ ++ ln)) rfl rfl) ?_
                              refine ⟨fun _ _ => ⟨(HALD.out.cell (p := ⟨X, pre.length * 3 + 2, none⟩) HXZ.out).trans HCLV.out, (HALD.out.cell (p := ⟨bx, ox + i, none⟩) HBXZ.out).trans HCLN.out⟩, ?_⟩
                              simp only [Act.put, List.getElem_toArray, List.getElem_cons_succ, List.getElem_cons_zero, List.setIfInBounds_toArray, List.set_cons_zero, List.set_cons_succ, List.size_toArray, List.length_cons, List.length_nil, Nat.reduceAdd, Array.replicate_succ, Array.replicate_zero, List.push_toArray, List.nil_append, List.cons_append]
                              refine wpAnyN_all (rs := [13]) (by kernel_rfl) (by simp) ?_
                              intro q' hq'
                              obtain rfl : q' = 13 := by simpa using hq'
                              refine wpOp_wp _ rfl (by kernel_rfl) (op_app1w _ _ 56 rfl bo 9 (.string ⟨#[]⟩) 16 Tryd.underlying56 strInfo23 rfl lv ls.length (strs ls) rfl HOWL.out (.string (⟨#[32]⟩ ++ ln)) 9 rfl rfl (by unfold maxLen; omega) (by omega) HBOZ.out ?_)
                              intro v11 w11 ho11 hb11 hk11 hw11 hz11
                              obtain ⟨⟨u11, cu11⟩, fu11, hso11, hbe11⟩ := HPUT.out w11 v11 (⟨#[32]⟩ ++ ln) ho11 hb11 hk11
                              obtain ⟨A11, c11, hv11⟩ := own_shape23 ho11
                              subst hv11
                              refine ⟨fun h => absurd h (by decide), ?_⟩
                              simp only [Act.put, List.getElem_toArray, List.getElem_cons_succ, List.getElem_cons_zero, List.setIfInBounds_toArray, List.set_cons_zero, List.set_cons_succ, List.size_toArray, List.length_cons, List.length_nil, Nat.reduceAdd, Array.replicate_succ, Array.replicate_zero, List.push_toArray, List.nil_append, List.cons_append]
                              refine wpAnyN_takeW (i := 14) (v := (.pointer (some ⟨X, pre.length * 3, none⟩))) (by kernel_rfl) rfl (by kernel_rfl) (by kernel_rfl) (by kernel_rfl) (fun _ _ _ h => h) (Or.inl ⟨by rfl, fun w' _ => ex_indexN 98 _ _ rfl rfl rfl (by omega) Tryd.underlying98 (by kernel_rfl)⟩) ?_
                              simp only [Act.put, List.getElem_toArray, List.getElem_cons_succ, List.getElem_cons_zero, List.setIfInBounds_toArray, List.set_cons_zero, List.set_cons_succ, List.size_toArray, List.length_cons, List.length_nil, Nat.reduceAdd, Array.replicate_succ, Array.replicate_zero, List.push_toArray, List.nil_append, List.cons_append]
                              refine wpAnyN_takeW (i := 15) (v := (.pointer (some ⟨X, pre.length * 3 + 2, none⟩))) (by kernel_rfl) rfl (by kernel_rfl) (by kernel_rfl) (by kernel_rfl) (fun _ _ _ h => h) (Or.inl ⟨by rfl, fun w' _ => by rfl⟩) ?_
                              simp only [Act.put, List.getElem_toArray, List.getElem_cons_succ, List.getElem_cons_zero, List.setIfInBounds_toArray, List.set_cons_zero, List.set_cons_succ, List.size_toArray, List.length_cons, List.length_nil, Nat.reduceAdd, Array.replicate_succ, Array.replicate_zero, List.push_toArray, List.nil_append, List.cons_append]
                              refine wpAnyN_all (rs := [16]) (by kernel_rfl) (by simp) ?_
                              intro q' hq'
                              obtain rfl : q' = 16 := by simpa using hq'
                              refine wpOp_skip _ rfl (by kernel_rfl) (ex_store1 56 _ _ rfl X (pre.length * 3 + 2) (.slice A11 (ls.length + 1) c11) rfl rfl rfl rfl (by kernel_rfl) cu11 fu11) ?_
                              refine ⟨fun h => absurd h (by decide), ?_⟩
                              simp only [Act.put, List.getElem_toArray, List.getElem_cons_succ, List.getElem_cons_zero, List.setIfInBounds_toArray, List.set_cons_zero, List.set_cons_succ, List.size_toArray, List.length_cons, List.length_nil, Nat.reduceAdd, Array.replicate_succ, Array.replicate_zero, List.push_toArray, List.nil_append, List.cons_append]
                              refine wpAnyN_done (by kernel_rfl) ?_ _
                              have hst := hunksTo_keep HH1.out HTO.out HM.out
                              rw [List.getD_eq_getElem?_getD, HLX.out] at hst
                              have HFIN : Hid (RLoop mv (linesS (L a)) (linesS (L b)) w7 (n + 1) (i + 1) (j + 1) true (pre ++ [(f, t, .slice A11 (ls.length + 1) c11, ls ++ [⟨#[32]⟩ ++ ln])]) (.slice (some ⟨X, 0, none⟩) (pre.length + 1) c) (w11.setCell ⟨X, pre.length * 3 + 2, none⟩ (.slice A11 (ls.length + 1) c11))) := Lib.hid (RLoop.put HTO.out HOP.out (by rw [L_one, HLN.out]; exact hst) hso11 (by omega) HPB.out (by omega) (HBLD.out.trans hbe11))
                              have hmc := (HSM.out.keep (HBLD.out.trans hbe11)).2 (by omega)
                              obtain ⟨bm2, om2, hbm2, _, hcm2⟩ := hmc
                              obtain ⟨rfl, rfl⟩ := addr_eq hbm2
                              have cm2 := hcm2 n (.int .u8 ((m : Nat) : Int)) (by rw [← HMN.out]; simp [u8V, hlt])
                              generalize w11.setCell ⟨X, pre.length * 3 + 2, none⟩ (.slice A11 (ls.length + 1) c11) = w12 at *
                              clear hst hso11 hbe11 ho11 hb11 hk11 hw11 hz11 cu11 fu11 hcm2 hbm2 hF0
                              go_wp2_with fail
                              go_roundw
                              case rel => exact ⟨n + 1, i + 1, j + 1, true, pre ++ [(f, t, .slice A11 (ls.length + 1) c11, ls ++ [⟨#[32]⟩ ++ ln])], by omega, by go_num, by first | rfl | go_num, by first | rfl | go_num, rfl, HFIN⟩
                              case measure => (simp [intOf]) <;> omega
                            · have hmm : m = 2 := HGD.out.symm.trans hm
                              have b1 : ((m : Int) == 1) = false := by rw [hmm]; rfl
                              have b2 : ((m : Int) == 2) = true := by rw [hmm]; rfl
                              have b3 : ((m : Int) == 3) = false := by rw [hmm]; rfl
                              have hil := (List.getElem?_eq_some_iff.1 hlx).1
                              have HM := Lib.hid hm; have HLX := Lib.hid hlx
                              rw [HXL.out] at hil
                              clear hm hmm hlx
                              have hidx : i < xs.length := by omega
                              obtain ⟨bx, ox, rfl, hbx, hcx⟩ := (HSX9.out.keep HBLC.out).2 (by omega)
                              have hcln := hcx i (.string xs[i]) (by simp [strs, hidx])
                              have i0 : (0 : Int) ≤ (i : Int) := by omega
                              have i1 : (i : Int) < (xs.length : Int) := by omega
                              have hLn : L xs[i] = l := by
                                have h1 := HLX.out
                                rw [← HX.out, List.getElem?_map, List.getElem?_eq_getElem hidx] at h1
                                exact Option.some.inj h1
                              have hln : xs[i].size ≤ 4000 := by
                                have hm : L xs[i] ∈ linesS (L a) := by rw [← HX.out]; exact List.mem_map_of_mem (List.getElem_mem hidx)
                                have := linesS_size hm
                                rw [L_length, L_length] at this
                                omega
                              clear hcx
                              generalize xs[i] = ln at *
                              have HLN := Lib.hid hLn
                              have SZ : (⟨#[45]⟩ : ByteArray).size + ln.size ≤ 9223372036854775807 := by show 1 + ln.size ≤ _; omega
                              have bd : Below wc.heap.size wc wc.drew := (Below.refl _ _).drew
                              obtain ⟨X', c', bo, hv15, cL, hXz, hbo, hbz, howl, hput⟩ := (HO.out.below bd).put
                              obtain ⟨rfl, rfl⟩ : X = X' ∧ c = c' := by
                                injection hv15 with e1 _ e3
                                injection e1 with e1
                                injection e1 with e1
                                exact ⟨e1, e3⟩
                              have HCLV := Lib.hid cL; have HCLN := Lib.hid hcln; have HXZ := Lib.hid hXz; have HOWL := Lib.hid howl; have HBOZ := Lib.hid hbz; have HPUT := Lib.hid hput; have HBOB := Lib.hid hbo
                              have HBXZ := Lib.hid (show bx < wc.drew.heap.size from Nat.lt_of_lt_of_le hbx (Nat.le_trans HBLC.out.size bd.size))
                              have HALD := Lib.hid (show Below wc.drew.heap.size wc.drew (wc.drew.alloc (.cells #[.string (⟨#[45]⟩ ++ ln)] 9)) from (Below.refl _ _).alloc (Nat.le_refl _) _)
                              have HBLD := Lib.hid (HBLC.out.trans (bd.mono HBLC.out.size))
                              have hpl6 : pre.length ≤ 8000 := by omega
                              have e1 : IntKind.i64.wrap (((pre.length : Int) + 1) - 1) = (pre.length : Int) := by rw [IntWalk.i64_in _ (by omega)]; omega
                              clear hv15 cL hXz hbo hbz howl hput hcln hLn bd hbx
                              go_upto_region 37 with fail
                              refine wp_region_N 13 (fun u => u.cell? ⟨X, pre.length * 3 + 2, none⟩ = some lv ∧ u.cell? ⟨bx, ox + i, none⟩ = some (.string ln)) (by kernel_rfl) ?_
                              have hF0 : wc.drew.cell? ⟨X, pre.length * 3 + 2, none⟩ = some lv ∧ wc.drew.cell? ⟨bx, ox + i, none⟩ = some (.string ln) := ⟨HCLV.out, HCLN.out⟩
                              refine wpAnyN_takeW (i := 0) (v := (.slice (some ⟨X, 0, none⟩) (pre.length + 1) c)) (by kernel_rfl) rfl (by kernel_rfl) (by kernel_rfl) (by kernel_rfl) (fun _ _ _ h => h) (Or.inl ⟨by rfl, fun w' _ => by rfl⟩) ?_
                              simp only [Act.put, List.getElem_toArray, List.getElem_cons_succ, List.getElem_cons_zero, List.setIfInBounds_toArray, List.set_cons_zero, List.set_cons_succ, List.size_toArray, List.length_cons, List.length_nil, Nat.reduceAdd, Array.replicate_succ, Array.replicate_zero, List.push_toArray, List.nil_append, List.cons_append]
                              refine wpAnyN_takeW (i := 1) (v := (.int .i64 (pre.length : Int))) (by kernel_rfl) rfl (by kernel_rfl) (by kernel_rfl) (by kernel_rfl) (fun _ _ _ h => h) (Or.inl ⟨by rfl, fun w' _ => by rfl⟩) ?_
                              simp only [Act.put, List.getElem_toArray, List.getElem_cons_succ, List.getElem_cons_zero, List.setIfInBounds_toArray, List.set_cons_zero, List.set_cons_succ, List.size_toArray, List.length_cons, List.length_nil, Nat.reduceAdd, Array.replicate_succ, Array.replicate_zero, List.push_toArray, List.nil_append, List.cons_append]
                              refine wpAnyN_takeW (i := 2) (v := (.slice (some ⟨X, 0, none⟩) (pre.length + 1) c)) (by kernel_rfl) rfl (by kernel_rfl) (by kernel_rfl) (by kernel_rfl) (fun _ _ _ h => h) (Or.inl ⟨by rfl, fun w' _ => by rfl⟩) ?_
                              simp only [Act.put, List.getElem_toArray, List.getElem_cons_succ, List.getElem_cons_zero, List.setIfInBounds_toArray, List.set_cons_zero, List.set_cons_succ, List.size_toArray, List.length_cons, List.length_nil, Nat.reduceAdd, Array.replicate_succ, Array.replicate_zero, List.push_toArray, List.nil_append, List.cons_append]
                              refine wpAnyN_takeW (i := 3) (v := (.int .i64 (pre.length : Int))) (by kernel_rfl) rfl (by kernel_rfl) (by kernel_rfl) (by kernel_rfl) (fun _ _ _ h => h) (Or.inl ⟨by rfl, fun w' _ => by rfl⟩) ?_
                              simp only [Act.put, List.getElem_toArray, List.getElem_cons_succ, List.getElem_cons_zero, List.setIfInBounds_toArray, List.set_cons_zero, List.set_cons_succ, List.size_toArray, List.length_cons, List.length_nil, Nat.reduceAdd, Array.replicate_succ, Array.replicate_zero, List.push_toArray, List.nil_append, List.cons_append]
                              refine wpAnyN_takeW (i := 4) (v := (.pointer (some ⟨X, pre.length * 3, none⟩))) (by kernel_rfl) rfl (by kernel_rfl) (by kernel_rfl) (by kernel_rfl) (fun _ _ _ h => h) (Or.inl ⟨by rfl, fun w' _ => ex_indexN 98 _ _ rfl rfl rfl (by omega) Tryd.underlying98 (by kernel_rfl)⟩) ?_
                              simp only [Act.put, List.getElem_toArray, List.getElem_cons_succ, List.getElem_cons_zero, List.setIfInBounds_toArray, List.set_cons_zero, List.set_cons_succ, List.size_toArray, List.length_cons, List.length_nil, Nat.reduceAdd, Array.replicate_succ, Array.replicate_zero, List.push_toArray, List.nil_append, List.cons_append]
                              refine wpAnyN_takeW (i := 5) (v := (.pointer (some ⟨X, pre.length * 3 + 2, none⟩))) (by kernel_rfl) rfl (by kernel_rfl) (by kernel_rfl) (by kernel_rfl) (fun _ _ _ h => h) (Or.inl ⟨by rfl, fun w' _ => by rfl⟩) ?_
                              simp only [Act.put, List.getElem_toArray, List.getElem_cons_succ, List.getElem_cons_zero, List.setIfInBounds_toArray, List.set_cons_zero, List.set_cons_succ, List.size_toArray, List.length_cons, List.length_nil, Nat.reduceAdd, Array.replicate_succ, Array.replicate_zero, List.push_toArray, List.nil_append, List.cons_append]
                              refine wpAnyN_take (i := 6) (v := lv) (by kernel_rfl) (by kernel_rfl) rfl (by kernel_rfl) (by kernel_rfl) (by kernel_rfl) (fun _ _ _ h => h) (Or.inl ⟨by rfl, fun w' hw' => ex_load1 56 _ rfl (p := ⟨X, pre.length * 3 + 2, none⟩) rfl Tryd.underlying56 rfl hw'.1⟩) hF0 ?_
                              simp only [Act.put, List.getElem_toArray, List.getElem_cons_succ, List.getElem_cons_zero, List.setIfInBounds_toArray, List.set_cons_zero, List.set_cons_succ, List.size_toArray, List.length_cons, List.length_nil, Nat.reduceAdd, Array.replicate_succ, Array.replicate_zero, List.push_toArray, List.nil_append, List.cons_append]
                              refine wpAnyN_takeW (i := 7) (v := (.slice (some ⟨bx, ox, none⟩) xs.length cx)) (by kernel_rfl) rfl (by kernel_rfl) (by kernel_rfl) (by kernel_rfl) (fun _ _ _ h => h) (Or.inl ⟨by rfl, fun w' _ => by rfl⟩) ?_
                              simp only [Act.put, List.getElem_toArray, List.getElem_cons_succ, List.getElem_cons_zero, List.setIfInBounds_toArray, List.set_cons_zero, List.set_cons_succ, List.size_toArray, List.length_cons, List.length_nil, Nat.reduceAdd, Array.replicate_succ, Array.replicate_zero, List.push_toArray, List.nil_append, List.cons_append]
                              refine wpAnyN_takeW (i := 8) (v := (.int .i64 (i : Int))) (by kernel_rfl) rfl (by kernel_rfl) (by kernel_rfl) (by kernel_rfl) (fun _ _ _ h => h) (Or.inl ⟨by rfl, fun w' _ => by rfl⟩) ?_
                              simp only [Act.put, List.getElem_toArray, List.getElem_cons_succ, List.getElem_cons_zero, List.setIfInBounds_toArray, List.set_cons_zero, List.set_cons_succ, List.size_toArray, List.length_cons, List.length_nil, Nat.reduceAdd, Array.replicate_succ, Array.replicate_zero, List.push_toArray, List.nil_append, List.cons_append]
                              refine wpAnyN_takeW (i := 9) (v := (.pointer (some ⟨bx, ox + i, none⟩))) (by kernel_rfl) rfl (by kernel_rfl) (by kernel_rfl) (by kernel_rfl) (fun _ _ _ h => h) (Or.inl ⟨by rfl, fun w' _ => ex_index1o 56 _ _ rfl rfl rfl hidx Tryd.underlying56 (by kernel_rfl)⟩) ?_
                              simp only [Act.put, List.getElem_toArray, List.getElem_cons_succ, List.getElem_cons_zero, List.setIfInBounds_toArray, List.set_cons_zero, List.set_cons_succ, List.size_toArray, List.length_cons, List.length_nil, Nat.reduceAdd, Array.replicate_succ, Array.replicate_zero, List.push_toArray, List.nil_append, List.cons_append]
                              refine wpAnyN_take (i := 10) (v := (.string ln)) (by kernel_rfl) (by kernel_rfl) rfl (by kernel_rfl) (by kernel_rfl) (by kernel_rfl) (fun _ _ _ h => h) (Or.inl ⟨by rfl, fun w' hw' => ex_load1 9 _ rfl (p := ⟨bx, ox + i, none⟩) rfl Tryd.underlying9 rfl hw'.2⟩) hF0 ?_
                              simp only [Act.put, List.getElem_toArray, List.getElem_cons_succ, List.getElem_cons_zero, List.setIfInBounds_toArray, List.set_cons_zero, List.set_cons_succ, List.size_toArray, List.length_cons, List.length_nil, Nat.reduceAdd, Array.replicate_succ, Array.replicate_zero, List.push_toArray, List.nil_append, List.cons_append]
                              refine wpAnyN_takeW (i := 11) (v := (.string (⟨#[45]⟩ ++ ln))) (by kernel_rfl) rfl (by kernel_rfl) (by kernel_rfl) (by kernel_rfl) (fun _ _ _ h => h) (Or.inl ⟨by rfl, fun w' _ => ex_addS _ _ _ _ rfl (a := ⟨#[45]⟩) (b := ln) rfl rfl SZ⟩) ?_
                              simp only [Act.put, List.getElem_toArray, List.getElem_cons_succ, List.getElem_cons_zero, List.setIfInBounds_toArray, List.set_cons_zero, List.set_cons_succ, List.size_toArray, List.length_cons, List.length_nil, Nat.reduceAdd, Array.replicate_succ, Array.replicate_zero, List.push_toArray, List.nil_append, List.cons_append]
                              refine wpAnyN_all (rs := [12]) (by kernel_rfl) (by simp) ?_
                              intro q' hq'
                              obtain rfl : q' = 12 := by simpa using hq'
                              refine wpOp_val _ rfl (by kernel_rfl) (ex_build1c 56 _ rfl 9 Tryd.underlying56 (.string ⟨#[]⟩) 16 strInfo23 rfl (.string (⟨#[45]⟩ ++ ln)) rfl rfl) ?_
                              refine ⟨fun _ _ => ⟨(HALD.out.cell (p := ⟨X, pre.length * 3 + 2, none⟩) HXZ.out).trans HCLV.out, (HALD.out.cell (p := ⟨bx, ox + i, none⟩) HBXZ.out).trans HCLN.out⟩, ?_⟩
                              simp only [Act.put, List.getElem_toArray, List.getElem_cons_succ, List.getElem_cons_zero, List.setIfInBounds_toArray, List.set_cons_zero, List.set_cons_succ, List.size_toArray, List.length_cons, List.length_nil, Nat.reduceAdd, Array.replicate_succ, Array.replicate_zero, List.push_toArray, List.nil_append, List.cons_append]
                              refine wpAnyN_all (rs := [13]) (by kernel_rfl) (by simp) ?_
                              intro q' hq'
                              obtain rfl : q' = 13 := by simpa using hq'
                              refine wpOp_wp _ rfl (by kernel_rfl) (op_app1w _ _ 56 rfl bo 9 (.string ⟨#[]⟩) 16 Tryd.underlying56 strInfo23 rfl lv ls.length (strs ls) rfl HOWL.out (.string (⟨#[45]⟩ ++ ln)) 9 rfl rfl (by unfold maxLen; omega) (by omega) HBOZ.out ?_)
                              intro v11 w11 ho11 hb11 hk11 hw11 hz11
                              obtain ⟨⟨u11, cu11⟩, fu11, hso11, hbe11⟩ := HPUT.out w11 v11 (⟨#[45]⟩ ++ ln) ho11 hb11 hk11
                              obtain ⟨A11, c11, hv11⟩ := own_shape23 ho11
                              subst hv11
                              refine ⟨fun h => absurd h (by decide), ?_⟩
                              simp only [Act.put, List.getElem_toArray, List.getElem_cons_succ, List.getElem_cons_zero, List.setIfInBounds_toArray, List.set_cons_zero, List.set_cons_succ, List.size_toArray, List.length_cons, List.length_nil, Nat.reduceAdd, Array.replicate_succ, Array.replicate_zero, List.push_toArray, List.nil_append, List.cons_append]
                              refine wpAnyN_takeW (i := 14) (v := (.pointer (some ⟨X, pre.length * 3, none⟩))) (by kernel_rfl) rfl (by kernel_rfl) (by kernel_rfl) (by kernel_rfl) (fun _ _ _ h => h) (Or.inl ⟨by rfl, fun w' _ => ex_indexN 98 _ _ rfl rfl rfl (by omega) Tryd.underlying98 (by kernel_rfl)⟩) ?_
                              simp only [Act.put, List.getElem_toArray, List.getElem_cons_succ, List.getElem_cons_zero, List.setIfInBounds_toArray, List.set_cons_zero, List.set_cons_succ, List.size_toArray, List.length_cons, List.length_nil, Nat.reduceAdd, Array.replicate_succ, Array.replicate_zero, List.push_toArray, List.nil_append, List.cons_append]
                              refine wpAnyN_takeW (i := 15) (v := (.pointer (some ⟨X, pre.length * 3 + 2, none⟩))) (by kernel_rfl) rfl (by kernel_rfl) (by kernel_rfl) (by kernel_rfl) (fun _ _ _ h => h) (Or.inl ⟨by rfl, fun w' _ => by rfl⟩) ?_
                              simp only [Act.put, List.getElem_toArray, List.getElem_cons_succ, List.getElem_cons_zero, List.setIfInBounds_toArray, List.set_cons_zero, List.set_cons_succ, List.size_toArray, List.length_cons, List.length_nil, Nat.reduceAdd, Array.replicate_succ, Array.replicate_zero, List.push_toArray, List.nil_append, List.cons_append]
                              refine wpAnyN_all (rs := [16]) (by kernel_rfl) (by simp) ?_
                              intro q' hq'
                              obtain rfl : q' = 16 := by simpa using hq'
                              refine wpOp_skip _ rfl (by kernel_rfl) (ex_store1 56 _ _ rfl X (pre.length * 3 + 2) (.slice A11 (ls.length + 1) c11) rfl rfl rfl rfl (by kernel_rfl) cu11 fu11) ?_
                              refine ⟨fun h => absurd h (by decide), ?_⟩
                              simp only [Act.put, List.getElem_toArray, List.getElem_cons_succ, List.getElem_cons_zero, List.setIfInBounds_toArray, List.set_cons_zero, List.set_cons_succ, List.size_toArray, List.length_cons, List.length_nil, Nat.reduceAdd, Array.replicate_succ, Array.replicate_zero, List.push_toArray, List.nil_append, List.cons_append]
                              refine wpAnyN_done (by kernel_rfl) ?_ _
                              have hst := hunksTo_drop HH1.out HTO.out HM.out
                              rw [List.getD_eq_getElem?_getD, HLX.out] at hst
                              have HFIN : Hid (RLoop mv (linesS (L a)) (linesS (L b)) w7 (n + 1) (i + 1) (j) true (pre ++ [(f, t, .slice A11 (ls.length + 1) c11, ls ++ [⟨#[45]⟩ ++ ln])]) (.slice (some ⟨X, 0, none⟩) (pre.length + 1) c) (w11.setCell ⟨X, pre.length * 3 + 2, none⟩ (.slice A11 (ls.length + 1) c11))) := Lib.hid (RLoop.put HTO.out HOP.out (by rw [L_one, HLN.out]; exact hst) hso11 (by omega) HPB.out (by omega) (HBLD.out.trans hbe11))
                              have hmc := (HSM.out.keep (HBLD.out.trans hbe11)).2 (by omega)
                              obtain ⟨bm2, om2, hbm2, _, hcm2⟩ := hmc
                              obtain ⟨rfl, rfl⟩ := addr_eq hbm2
                              have cm2 := hcm2 n (.int .u8 ((m : Nat) : Int)) (by rw [← HMN.out]; simp [u8V, hlt])
                              generalize w11.setCell ⟨X, pre.length * 3 + 2, none⟩ (.slice A11 (ls.length + 1) c11) = w12 at *
                              clear hst hso11 hbe11 ho11 hb11 hk11 hw11 hz11 cu11 fu11 hcm2 hbm2 hF0
                              go_wp2_with fail
                              go_roundw
                              case rel => exact ⟨n + 1, i + 1, j, true, pre ++ [(f, t, .slice A11 (ls.length + 1) c11, ls ++ [⟨#[45]⟩ ++ ln])], by omega, by go_num, by first | rfl | go_num, by first | rfl | go_num, rfl, HFIN⟩
                              case measure => (simp [intOf]) <;> omega
                            · have hmm : m = 3 := HGD.out.symm.trans hm
                              have b1 : ((m : Int) == 1) = false := by rw [hmm]; rfl
                              have b2 : ((m : Int) == 2) = false := by rw [hmm]; rfl
                              have b3 : ((m : Int) == 3) = true := by rw [hmm]; rfl
                              have hjl := (List.getElem?_eq_some_iff.1 hly).1
                              have HM := Lib.hid hm; have HLX := Lib.hid hly
                              rw [HYL.out] at hjl
                              clear hm hmm hly
                              have hidx : j < ys.length := by omega
                              obtain ⟨bx, ox, rfl, hbx, hcx⟩ := (HSY9.out.keep HBLC.out).2 (by omega)
                              have hcln := hcx j (.string ys[j]) (by simp [strs, hidx])
                              have i0 : (0 : Int) ≤ (j : Int) := by omega
                              have i1 : (j : Int) < (ys.length : Int) := by omega
                              have hLn : L ys[j] = l := by
                                have h1 := HLX.out
                                rw [← HY.out, List.getElem?_map, List.getElem?_eq_getElem hidx] at h1
                                exact Option.some.inj h1
                              have hln : ys[j].size ≤ 4000 := by
                                have hm : L ys[j] ∈ linesS (L b) := by rw [← HY.out]; exact List.mem_map_of_mem (List.getElem_mem hidx)
                                have := linesS_size hm
                                rw [L_length, L_length] at this
                                omega
                              clear hcx
                              generalize ys[j] = ln at *
                              have HLN := Lib.hid hLn
                              have SZ : (⟨#[43]⟩ : ByteArray).size + ln.size ≤ 9223372036854775807 := by show 1 + ln.size ≤ _; omega
                              have bd : Below wc.heap.size wc wc.drew := (Below.refl _ _).drew
                              obtain ⟨X', c', bo, hv15, cL, hXz, hbo, hbz, howl, hput⟩ := (HO.out.below bd).put
                              obtain ⟨rfl, rfl⟩ : X = X' ∧ c = c' := by
                                injection hv15 with e1 _ e3
                                injection e1 with e1
                                injection e1 with e1
                                exact ⟨e1, e3⟩
                              have HCLV := Lib.hid cL; have HCLN := Lib.hid hcln; have HXZ := Lib.hid hXz; have HOWL := Lib.hid howl; have HBOZ := Lib.hid hbz; have HPUT := Lib.hid hput; have HBOB := Lib.hid hbo
                              have HBXZ := Lib.hid (show bx < wc.drew.heap.size from Nat.lt_of_lt_of_le hbx (Nat.le_trans HBLC.out.size bd.size))
                              have HALD := Lib.hid (show Below wc.drew.heap.size wc.drew (wc.drew.alloc (.cells #[.string (⟨#[43]⟩ ++ ln)] 9)) from (Below.refl _ _).alloc (Nat.le_refl _) _)
                              have HBLD := Lib.hid (HBLC.out.trans (bd.mono HBLC.out.size))
                              have hpl6 : pre.length ≤ 8000 := by omega
                              have e1 : IntKind.i64.wrap (((pre.length : Int) + 1) - 1) = (pre.length : Int) := by rw [IntWalk.i64_in _ (by omega)]; omega
                              clear hv15 cL hXz hbo hbz howl hput hcln hLn bd hbx
                              go_upto_region 40 with fail
                              refine wp_region_N 13 (fun u => u.cell? ⟨X, pre.length * 3 + 2, none⟩ = some lv ∧ u.cell? ⟨bx, ox + j, none⟩ = some (.string ln)) (by kernel_rfl) ?_
                              have hF0 : wc.drew.cell? ⟨X, pre.length * 3 + 2, none⟩ = some lv ∧ wc.drew.cell? ⟨bx, ox + j, none⟩ = some (.string ln) := ⟨HCLV.out, HCLN.out⟩
                              refine wpAnyN_takeW (i := 0) (v := (.slice (some ⟨X, 0, none⟩) (pre.length + 1) c)) (by kernel_rfl) rfl (by kernel_rfl) (by kernel_rfl) (by kernel_rfl) (fun _ _ _ h => h) (Or.inl ⟨by rfl, fun w' _ => by rfl⟩) ?_
                              simp only [Act.put, List.getElem_toArray, List.getElem_cons_succ, List.getElem_cons_zero, List.setIfInBounds_toArray, List.set_cons_zero, List.set_cons_succ, List.size_toArray, List.length_cons, List.length_nil, Nat.reduceAdd, Array.replicate_succ, Array.replicate_zero, List.push_toArray, List.nil_append, List.cons_append]
                              refine wpAnyN_takeW (i := 1) (v := (.int .i64 (pre.length : Int))) (by kernel_rfl) rfl (by kernel_rfl) (by kernel_rfl) (by kernel_rfl) (fun _ _ _ h => h) (Or.inl ⟨by rfl, fun w' _ => by rfl⟩) ?_
                              simp only [Act.put, List.getElem_toArray, List.getElem_cons_succ, List.getElem_cons_zero, List.setIfInBounds_toArray, List.set_cons_zero, List.set_cons_succ, List.size_toArray, List.length_cons, List.length_nil, Nat.reduceAdd, Array.replicate_succ, Array.replicate_zero, List.push_toArray, List.nil_append, List.cons_append]
                              refine wpAnyN_takeW (i := 2) (v := (.slice (some ⟨X, 0, none⟩) (pre.length + 1) c)) (by kernel_rfl) rfl (by kernel_rfl) (by kernel_rfl) (by kernel_rfl) (fun _ _ _ h => h) (Or.inl ⟨by rfl, fun w' _ => by rfl⟩) ?_
                              simp only [Act.put, List.getElem_toArray, List.getElem_cons_succ, List.getElem_cons_zero, List.setIfInBounds_toArray, List.set_cons_zero, List.set_cons_succ, List.size_toArray, List.length_cons, List.length_nil, Nat.reduceAdd, Array.replicate_succ, Array.replicate_zero, List.push_toArray, List.nil_append, List.cons_append]
                              refine wpAnyN_takeW (i := 3) (v := (.int .i64 (pre.length : Int))) (by kernel_rfl) rfl (by kernel_rfl) (by kernel_rfl) (by kernel_rfl) (fun _ _ _ h => h) (Or.inl ⟨by rfl, fun w' _ => by rfl⟩) ?_
                              simp only [Act.put, List.getElem_toArray, List.getElem_cons_succ, List.getElem_cons_zero, List.setIfInBounds_toArray, List.set_cons_zero, List.set_cons_succ, List.size_toArray, List.length_cons, List.length_nil, Nat.reduceAdd, Array.replicate_succ, Array.replicate_zero, List.push_toArray, List.nil_append, List.cons_append]
                              refine wpAnyN_takeW (i := 4) (v := (.pointer (some ⟨X, pre.length * 3, none⟩))) (by kernel_rfl) rfl (by kernel_rfl) (by kernel_rfl) (by kernel_rfl) (fun _ _ _ h => h) (Or.inl ⟨by rfl, fun w' _ => ex_indexN 98 _ _ rfl rfl rfl (by omega) Tryd.underlying98 (by kernel_rfl)⟩) ?_
                              simp only [Act.put, List.getElem_toArray, List.getElem_cons_succ, List.getElem_cons_zero, List.setIfInBounds_toArray, List.set_cons_zero, List.set_cons_succ, List.size_toArray, List.length_cons, List.length_nil, Nat.reduceAdd, Array.replicate_succ, Array.replicate_zero, List.push_toArray, List.nil_append, List.cons_append]
                              refine wpAnyN_takeW (i := 5) (v := (.pointer (some ⟨X, pre.length * 3 + 2, none⟩))) (by kernel_rfl) rfl (by kernel_rfl) (by kernel_rfl) (by kernel_rfl) (fun _ _ _ h => h) (Or.inl ⟨by rfl, fun w' _ => by rfl⟩) ?_
                              simp only [Act.put, List.getElem_toArray, List.getElem_cons_succ, List.getElem_cons_zero, List.setIfInBounds_toArray, List.set_cons_zero, List.set_cons_succ, List.size_toArray, List.length_cons, List.length_nil, Nat.reduceAdd, Array.replicate_succ, Array.replicate_zero, List.push_toArray, List.nil_append, List.cons_append]
                              refine wpAnyN_take (i := 6) (v := lv) (by kernel_rfl) (by kernel_rfl) rfl (by kernel_rfl) (by kernel_rfl) (by kernel_rfl) (fun _ _ _ h => h) (Or.inl ⟨by rfl, fun w' hw' => ex_load1 56 _ rfl (p := ⟨X, pre.length * 3 + 2, none⟩) rfl Tryd.underlying56 rfl hw'.1⟩) hF0 ?_
                              simp only [Act.put, List.getElem_toArray, List.getElem_cons_succ, List.getElem_cons_zero, List.setIfInBounds_toArray, List.set_cons_zero, List.set_cons_succ, List.size_toArray, List.length_cons, List.length_nil, Nat.reduceAdd, Array.replicate_succ, Array.replicate_zero, List.push_toArray, List.nil_append, List.cons_append]
                              refine wpAnyN_takeW (i := 7) (v := (.slice (some ⟨bx, ox, none⟩) ys.length cy)) (by kernel_rfl) rfl (by kernel_rfl) (by kernel_rfl) (by kernel_rfl) (fun _ _ _ h => h) (Or.inl ⟨by rfl, fun w' _ => by rfl⟩) ?_
                              simp only [Act.put, List.getElem_toArray, List.getElem_cons_succ, List.getElem_cons_zero, List.setIfInBounds_toArray, List.set_cons_zero, List.set_cons_succ, List.size_toArray, List.length_cons, List.length_nil, Nat.reduceAdd, Array.replicate_succ, Array.replicate_zero, List.push_toArray, List.nil_append, List.cons_append]
                              refine wpAnyN_takeW (i := 8) (v := (.int .i64 (j : Int))) (by kernel_rfl) rfl (by kernel_rfl) (by kernel_rfl) (by kernel_rfl) (fun _ _ _ h => h) (Or.inl ⟨by rfl, fun w' _ => by rfl⟩) ?_
                              simp only [Act.put, List.getElem_toArray, List.getElem_cons_succ, List.getElem_cons_zero, List.setIfInBounds_toArray, List.set_cons_zero, List.set_cons_succ, List.size_toArray, List.length_cons, List.length_nil, Nat.reduceAdd, Array.replicate_succ, Array.replicate_zero, List.push_toArray, List.nil_append, List.cons_append]
                              refine wpAnyN_takeW (i := 9) (v := (.pointer (some ⟨bx, ox + j, none⟩))) (by kernel_rfl) rfl (by kernel_rfl) (by kernel_rfl) (by kernel_rfl) (fun _ _ _ h => h) (Or.inl ⟨by rfl, fun w' _ => ex_index1o 56 _ _ rfl rfl rfl hidx Tryd.underlying56 (by kernel_rfl)⟩) ?_
                              simp only [Act.put, List.getElem_toArray, List.getElem_cons_succ, List.getElem_cons_zero, List.setIfInBounds_toArray, List.set_cons_zero, List.set_cons_succ, List.size_toArray, List.length_cons, List.length_nil, Nat.reduceAdd, Array.replicate_succ, Array.replicate_zero, List.push_toArray, List.nil_append, List.cons_append]
                              refine wpAnyN_take (i := 10) (v := (.string ln)) (by kernel_rfl) (by kernel_rfl) rfl (by kernel_rfl) (by kernel_rfl) (by kernel_rfl) (fun _ _ _ h => h) (Or.inl ⟨by rfl, fun w' hw' => ex_load1 9 _ rfl (p := ⟨bx, ox + j, none⟩) rfl Tryd.underlying9 rfl hw'.2⟩) hF0 ?_
                              simp only [Act.put, List.getElem_toArray, List.getElem_cons_succ, List.getElem_cons_zero, List.setIfInBounds_toArray, List.set_cons_zero, List.set_cons_succ, List.size_toArray, List.length_cons, List.length_nil, Nat.reduceAdd, Array.replicate_succ, Array.replicate_zero, List.push_toArray, List.nil_append, List.cons_append]
                              refine wpAnyN_takeW (i := 11) (v := (.string (⟨#[43]⟩ ++ ln))) (by kernel_rfl) rfl (by kernel_rfl) (by kernel_rfl) (by kernel_rfl) (fun _ _ _ h => h) (Or.inl ⟨by rfl, fun w' _ => ex_addS _ _ _ _ rfl (a := ⟨#[43]⟩) (b := ln) rfl rfl SZ⟩) ?_
                              simp only [Act.put, List.getElem_toArray, List.getElem_cons_succ, List.getElem_cons_zero, List.setIfInBounds_toArray, List.set_cons_zero, List.set_cons_succ, List.size_toArray, List.length_cons, List.length_nil, Nat.reduceAdd, Array.replicate_succ, Array.replicate_zero, List.push_toArray, List.nil_append, List.cons_append]
                              refine wpAnyN_all (rs := [12]) (by kernel_rfl) (by simp) ?_
                              intro q' hq'
                              obtain rfl : q' = 12 := by simpa using hq'
                              refine wpOp_val _ rfl (by kernel_rfl) (ex_build1c 56 _ rfl 9 Tryd.underlying56 (.string ⟨#[]⟩) 16 strInfo23 rfl (.string (⟨#[43]⟩ ++ ln)) rfl rfl) ?_
                              refine ⟨fun _ _ => ⟨(HALD.out.cell (p := ⟨X, pre.length * 3 + 2, none⟩) HXZ.out).trans HCLV.out, (HALD.out.cell (p := ⟨bx, ox + j, none⟩) HBXZ.out).trans HCLN.out⟩, ?_⟩
                              simp only [Act.put, List.getElem_toArray, List.getElem_cons_succ, List.getElem_cons_zero, List.setIfInBounds_toArray, List.set_cons_zero, List.set_cons_succ, List.size_toArray, List.length_cons, List.length_nil, Nat.reduceAdd, Array.replicate_succ, Array.replicate_zero, List.push_toArray, List.nil_append, List.cons_append]
                              refine wpAnyN_all (rs := [13]) (by kernel_rfl) (by simp) ?_
                              intro q' hq'
                              obtain rfl : q' = 13 := by simpa using hq'
                              refine wpOp_wp _ rfl (by kernel_rfl) (op_app1w _ _ 56 rfl bo 9 (.string ⟨#[]⟩) 16 Tryd.underlying56 strInfo23 rfl lv ls.length (strs ls) rfl HOWL.out (.string (⟨#[43]⟩ ++ ln)) 9 rfl rfl (by unfold maxLen; omega) (by omega) HBOZ.out ?_)
                              intro v11 w11 ho11 hb11 hk11 hw11 hz11
                              obtain ⟨⟨u11, cu11⟩, fu11, hso11, hbe11⟩ := HPUT.out w11 v11 (⟨#[43]⟩ ++ ln) ho11 hb11 hk11
                              obtain ⟨A11, c11, hv11⟩ := own_shape23 ho11
                              subst hv11
                              refine ⟨fun h => absurd h (by decide), ?_⟩
                              simp only [Act.put, List.getElem_toArray, List.getElem_cons_succ, List.getElem_cons_zero, List.setIfInBounds_toArray, List.set_cons_zero, List.set_cons_succ, List.size_toArray, List.length_cons, List.length_nil, Nat.reduceAdd, Array.replicate_succ, Array.replicate_zero, List.push_toArray, List.nil_append, List.cons_append]
                              refine wpAnyN_takeW (i := 14) (v := (.pointer (some ⟨X, pre.length * 3, none⟩))) (by kernel_rfl) rfl (by kernel_rfl) (by kernel_rfl) (by kernel_rfl) (fun _ _ _ h => h) (Or.inl ⟨by rfl, fun w' _ => ex_indexN 98 _ _ rfl rfl rfl (by omega) Tryd.underlying98 (by kernel_rfl)⟩) ?_
                              simp only [Act.put, List.getElem_toArray, List.getElem_cons_succ, List.getElem_cons_zero, List.setIfInBounds_toArray, List.set_cons_zero, List.set_cons_succ, List.size_toArray, List.length_cons, List.length_nil, Nat.reduceAdd, Array.replicate_succ, Array.replicate_zero, List.push_toArray, List.nil_append, List.cons_append]
                              refine wpAnyN_takeW (i := 15) (v := (.pointer (some ⟨X, pre.length * 3 + 2, none⟩))) (by kernel_rfl) rfl (by kernel_rfl) (by kernel_rfl) (by kernel_rfl) (fun _ _ _ h => h) (Or.inl ⟨by rfl, fun w' _ => by rfl⟩) ?_
                              simp only [Act.put, List.getElem_toArray, List.getElem_cons_succ, List.getElem_cons_zero, List.setIfInBounds_toArray, List.set_cons_zero, List.set_cons_succ, List.size_toArray, List.length_cons, List.length_nil, Nat.reduceAdd, Array.replicate_succ, Array.replicate_zero, List.push_toArray, List.nil_append, List.cons_append]
                              refine wpAnyN_all (rs := [16]) (by kernel_rfl) (by simp) ?_
                              intro q' hq'
                              obtain rfl : q' = 16 := by simpa using hq'
                              refine wpOp_skip _ rfl (by kernel_rfl) (ex_store1 56 _ _ rfl X (pre.length * 3 + 2) (.slice A11 (ls.length + 1) c11) rfl rfl rfl rfl (by kernel_rfl) cu11 fu11) ?_
                              refine ⟨fun h => absurd h (by decide), ?_⟩
                              simp only [Act.put, List.getElem_toArray, List.getElem_cons_succ, List.getElem_cons_zero, List.setIfInBounds_toArray, List.set_cons_zero, List.set_cons_succ, List.size_toArray, List.length_cons, List.length_nil, Nat.reduceAdd, Array.replicate_succ, Array.replicate_zero, List.push_toArray, List.nil_append, List.cons_append]
                              refine wpAnyN_done (by kernel_rfl) ?_ _
                              have hst := hunksTo_add HH1.out HTO.out (by rw [HM.out]; decide) (by rw [HM.out]; decide)
                              rw [List.getD_eq_getElem?_getD, HLX.out] at hst
                              have HFIN : Hid (RLoop mv (linesS (L a)) (linesS (L b)) w7 (n + 1) (i) (j + 1) true (pre ++ [(f, t, .slice A11 (ls.length + 1) c11, ls ++ [⟨#[43]⟩ ++ ln])]) (.slice (some ⟨X, 0, none⟩) (pre.length + 1) c) (w11.setCell ⟨X, pre.length * 3 + 2, none⟩ (.slice A11 (ls.length + 1) c11))) := Lib.hid (RLoop.put HTO.out HOP.out (by rw [L_one, HLN.out]; exact hst) hso11 (by omega) HPB.out (by omega) (HBLD.out.trans hbe11))
                              have hmc := (HSM.out.keep (HBLD.out.trans hbe11)).2 (by omega)
                              obtain ⟨bm2, om2, hbm2, _, hcm2⟩ := hmc
                              obtain ⟨rfl, rfl⟩ := addr_eq hbm2
                              have cm2 := hcm2 n (.int .u8 ((m : Nat) : Int)) (by rw [← HMN.out]; simp [u8V, hlt])
                              generalize w11.setCell ⟨X, pre.length * 3 + 2, none⟩ (.slice A11 (ls.length + 1) c11) = w12 at *
                              clear hst hso11 hbe11 ho11 hb11 hk11 hw11 hz11 cu11 fu11 hcm2 hbm2 hF0
                              go_wp2_with fail
                              go_roundw
                              case rel => exact ⟨n + 1, i, j + 1, true, pre ++ [(f, t, .slice A11 (ls.length + 1) c11, ls ++ [⟨#[43]⟩ ++ ln])], by omega, by go_num, by first | rfl | go_num, by first | rfl | go_num, rfl, HFIN⟩
                              case measure => (simp [intOf]) <;> omega
                · have hne : n = mv.length := by omega
                  have n1 : ¬ (n : Int) < (mv.length : Int) := by omega
                  have hfin : hs.map hkOf = hunksL (L a) (L b) := by
                    have h1 := HLA.out.1
                    show _ = hunksX _ _
                    unfold hunksX
                    rw [HMV.out, ← hne, h1]
                  have HF := Lib.hid hfin
                  have HCF := Lib.hid HLA.out.2.1
                  have HBF := Lib.hid HLA.out.2.2.2.2.2.2
                  clear hfin hne HLA
                  go_wp2_with fail
                  go_ret2
                  refine ⟨HBW9.out.trans (HBF.out.mono HBW9.out.size), .inl ⟨by rw [HTA.out, HTB.out]; rfl, _, hs, rfl, HF.out, own_base HCF.out.1 HBW9.out.size, fun h hh => own_base (HCF.out.2 h hh) HBW9.out.size⟩⟩
end Go.Proofs.YthjaepmfkgejkaaDoor
