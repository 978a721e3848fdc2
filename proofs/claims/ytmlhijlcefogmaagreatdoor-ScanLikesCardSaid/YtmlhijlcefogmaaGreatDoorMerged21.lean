/-
  What the document's Ratio, Like (layers 5 and 18) give. Conditions: texts of at most 300 bytes.
  What score.Order and math.IsNaN give of a number and itself, of two NaNs. No conditions.
  What the document's Order (layer 5) gives of a number and itself, of two NaNs. No conditions.
-/
import Derived.Test.YtmlhijlcefogmaaGreatDoorRDiff18
import Derived.Test.YtmlhijlcefogmaaGreatDoorMerged20
set_option linter.unusedVariables false
set_option linter.unusedSimpArgs false
set_option maxHeartbeats 4000000
set_option maxRecDepth 100000
namespace Go.Proofs.YtmlhijlcefogmaaGreatDoor
open Go.RowKit Go.Maps Go.Shelf

theorem rratio18 (n m : Nat) (w : World) : Calls Tryz.prog 33 #[.int .i64 (n : Int), .int .i64 (m : Int)] w fun e w' => Below w.heap.size w w' ∧ ∃ b, e = .returned (.float .f64 b) ∧ QuoIs n m b := by
  have HB := Lib.hid (Below.refl w.heap.size w)
  cases hq : quoN n m with
  | some r =>
    have hr : (binOp .quo 23 (.float .f64 (floatOfInt .f64 (n : Int))) (.float .f64 (floatOfInt .f64 (m : Int)))).run Tryz.prog w = .ok (.float .f64 r) w := run_float_arith w .quo _ .f64 _ _ r hq
    have HQ : Hid (QuoIs n m r) := Lib.hid (by unfold QuoIs; rw [hq])
    clear hq
    go_enter Tryz.func33, Tryz.ntmps33
    go_wp2
    go_ret
    exact ⟨HB.out, _, rfl, HQ.out⟩
  | none =>
    obtain ⟨b, hb⟩ : ∃ b, (Question.nanBits .f64 (floatOfInt .f64 (n : Int)) (floatOfInt .f64 (m : Int))).cut (w.tape w.drawn (.nanBits .f64 (floatOfInt .f64 (n : Int)) (floatOfInt .f64 (m : Int)))) = b := ⟨_, rfl⟩
    have hr : (binOp .quo 23 (.float .f64 (floatOfInt .f64 (n : Int))) (.float .f64 (floatOfInt .f64 (m : Int)))).run Tryz.prog w = .ok (.float .f64 b) w.drew := by
      have h2 : FloatKind.f64.format.div (floatOfInt .f64 (n : Int)) (floatOfInt .f64 (m : Int)) = none := hq
      rw [← hb]
      simp [binOp, Op.floatArith, h2, Question.forced]
    have HQ : Hid (QuoIs n m b) := Lib.hid (by unfold QuoIs; rw [hq, ← hb]; exact Ev.nanB_cut _ _ _)
    clear hq hb
    go_enter Tryz.func33, Tryz.ntmps33
    go_wp2
    go_ret
    exact ⟨HB.out.drew, _, rfl, HQ.out⟩
theorem rlike05 (k n m : Nat) (w : World) (hk : k ≤ 1000) (hn : n ≤ 1000) (hm : m ≤ 1000) : Calls Tryz.prog 19 #[.int .i64 (k : Int), .int .i64 (n : Int), .int .i64 (m : Int)] w fun e w' => Below w.heap.size w w' ∧ ∃ b, e = .returned (.float .f64 b) ∧ QuoIs (2 * k) (n + m) b := by
  have HR := Lib.hid (fun u => rratio18 (2 * k) (n + m) u)
  have e1 : ((2 * k : Nat) : Int) = 2 * (k : Int) := by omega
  have e2 : ((n + m : Nat) : Int) = (n : Int) + (m : Int) := by omega
  rw [e1, e2] at HR
  clear e1 e2
  have i1 : IntKind.i64.wrap (2 * (k : Int)) = 2 * (k : Int) := IntWalk.i64_in _ (by omega)
  have i2 : IntKind.i64.wrap ((n : Int) + (m : Int)) = (n : Int) + (m : Int) := IntWalk.i64_in _ (by omega)
  have a1 : ¬ (k : Int) < 0 := by omega
  have a2 : ¬ (n : Int) < 0 := by omega
  have a3 : ¬ (m : Int) < 0 := by omega
  have b1 : ¬ (1099511627776 : Int) < (k : Int) := by omega
  have b2 : ¬ (1099511627776 : Int) < (n : Int) := by omega
  have b3 : ¬ (1099511627776 : Int) < (m : Int) := by omega
  go_enter Tryz.func19, Tryz.ntmps19
  go_wp2_with (first
    | (go_at_call 33; refine (HR.out _).mono ?_; rintro e W1 ⟨hb1, b, rfl, hq⟩; have HB1 := Lib.hid hb1; have HQ := Lib.hid hq; clear hb1 hq))
  go_ret
  exact ⟨HB1.out, b, rfl, HQ.out⟩
theorem rsize18 {s : ByteArray} {x : List Nat} (hs : s.size ≤ 300) (h : runesOf s = some x) (w : World) : Calls Tryz.prog 20 #[.string s] w fun e w' => Below w.heap.size w w' ∧ e = .returned (.int .i64 (x.length : Int)) := by
  have HR := Lib.hid (rruns_some hs h w)
  clear h
  go_enter Tryz.func20, Tryz.ntmps20
  go_wp2_with (first
    | (go_at_call 30; refine HR.out.mono ?_; rintro e W1 ⟨hb1, A1, c1, rfl, hs1⟩; have HB1 := Lib.hid hb1; clear hb1 hs1))
  go_ret
  exact ⟨HB1.out, rfl⟩
theorem rlike_good (a b : ByteArray) (x y : List Nat) (w : World) (ha : a.size ≤ 300) (hb : b.size ≤ 300) (hx : runesOf a = some x) (hy : runesOf b = some y) : Calls Tryz.prog 7 #[.string a, .string b] w fun e w' => Below w.heap.size w w' ∧ ∃ f, e = .returned (.float .f64 f) ∧ LikeIs a b f := by
  have hd : Calls Tryz.prog 18 #[.string a, .string b] w fun e w' => Below w.heap.size w w' ∧ ∃ eds A c, e = .returned (.tuple #[.slice A eds.length c, .int .i64 0]) ∧ w'.ownsRow w.heap.size 41 3 (.slice A eds.length c) eds.length (rowsV edV eds) ∧ keepE eds = onesN (movesS (intsN x) (intsN y)) ∧ eds.length ≤ 1000 :=
    (rdiff_any a b w ha hb).mono fun e w' ⟨h1, h2⟩ => by
      rcases h2 with ⟨x', y', eds, A, c, k1, k2, k3, k4, k5, k6⟩ | ⟨k1, _⟩
      · rw [hx] at k1; rw [hy] at k2; injection k1 with k1; injection k2 with k2; subst k1 k2; exact ⟨h1, eds, A, c, k3, k4, k5, k6⟩
      · rcases k1 with k1 | k1
        · rw [hx] at k1; cases k1
        · rw [hy] at k1; cases k1
  have HD := Lib.hid hd
  have HSA := Lib.hid (fun u => rsize18 ha hx u); have HSB := Lib.hid (fun u => rsize18 hb hy u)
  have h1 := onesN_le (movesS (intsN x) (intsN y))
  have h2 := moves_length _ (intsN x) (intsN y) (Nat.le_refl _)
  rw [intsN_length, intsN_length] at h2
  have h3 := runes_le hx; have h4 := runes_le hy
  have hon : onesN (movesS (intsN x) (intsN y)) ≤ 600 := by omega
  have HLK := Lib.hid (fun u => rlike05 (onesN (movesS (intsN x) (intsN y))) x.length y.length u (by omega) (by omega) (by omega))
  have HLI : Hid (∀ f, QuoIs (2 * onesN (movesS (intsN x) (intsN y))) (x.length + y.length) f → LikeIs a b f) := Lib.hid (fun f h => by unfold LikeIs; rw [hx, hy]; exact h)
  clear h1 h2 h3 h4 hx hy hd
  generalize onesN (movesS (intsN x) (intsN y)) = on at *
  go_enter Tryz.func7, Tryz.ntmps7
  go_upto_region 6 with (first
    | (go_at_call 18; refine HD.out.mono ?_; rintro e W1 ⟨hb1, l, A, c, rfl, hown, hkp, hle⟩; have HB1 := Lib.hid hb1; have HO1 := Lib.hid hown; have HK := Lib.hid hkp; clear hb1 hown hkp))
  go_loopw [7, 8] (fun t7 t8 wr => ∃ i : Nat, i ≤ l.length ∧ t8 = .int .i64 (i : Int) ∧ t7 = .int .i64 ((keepE (l.take i) : Nat) : Int) ∧ Hid (Below W1.heap.size W1 wr)) (fun _ t8 _ => l.length - (intOf t8).toNat)
  case atStart => exact ⟨0, Nat.zero_le _, rfl, rfl, Lib.hid (Below.refl _ _)⟩
  case round =>
    obtain ⟨i, hi, rfl, rfl, HBR⟩ := hrel
    by_cases hlt : i < l.length
    · have i0 : (0 : Int) ≤ (i : Int) := by omega
      have i1 : (i : Int) < (l.length : Int) := by omega
      have HOR := Lib.hid ((But.of_below (X := NoB) HBR.out).own HO1.out fun _ _ q => q)
      obtain ⟨g, cg, tl, hv, hBg, hgb, _, _, _⟩ := own_open HOR.out (by omega)
      injection hv with hv1 _ hv2
      subst hv1 hv2
      have hrow := rowsV_get (enc := edV) (sz := 3) (fun x _ => edV_length x) i hlt
      have hkn := keepE_next hlt
      have hkl := keepE_le l (i + 1)
      have hkb : keepE (l.take (i + 1)) ≤ 600 := by have := HK.out; omega
      have HKN := Lib.hid hkn
      have hcl : wr.cell? ⟨g, i * 3, none⟩ = some (.int .i64 (l[i].1 : Int)) := by
        refine (cells_at0 hgb (i * 3)).trans ?_
        have h0 := hrow 0 _ rfl
        rw [Nat.add_zero] at h0
        rw [List.getElem?_append_left (List.getElem?_eq_some_iff.1 h0).1]
        exact h0
      obtain ⟨ed, hed⟩ : ∃ ed, l[i] = ed := ⟨_, rfl⟩
      obtain ⟨q, hq⟩ : ∃ q, keepE (l.take i) = q := ⟨_, rfl⟩
      rw [hed] at hcl HKN hkn
      rw [hq] at HKN hkn ⊢
      have hqb : q + ed.1 ≤ 600 := by omega
      clear hed hq hkn hkl hrow hgb hkb
      go_wp2_with fail
      go_roundw
      case rel => exact ⟨i + 1, by omega, by go_num, by rw [HKN.out]; go_num, HBR⟩
      case measure => (simp [intOf]) <;> omega
    · have hie : i = l.length := by omega
      have HKF : Hid (keepE (l.take i) = on) := Lib.hid (by rw [hie, List.take_length]; exact HK.out)
      rw [HKF.out]
      have HBF : Hid (Below w.heap.size w wr) := Lib.hid (HB1.out.trans (HBR.out.mono HB1.out.size))
      clear hie
      go_wp2_with (first
        | (go_at_call 19; refine (HLK.out _).mono ?_; rintro e W4 ⟨hb4, f, rfl, hf⟩; have HB4 := Lib.hid hb4; have HF := Lib.hid hf; clear hb4 hf)
        | (go_at_call 20; first
            | (with_reducible refine (HSA.out _).mono ?_; rintro e W2 ⟨hb2, rfl⟩; have HB2 := Lib.hid hb2; clear hb2)
            | (with_reducible refine (HSB.out _).mono ?_; rintro e W3 ⟨hb3, rfl⟩; have HB3 := Lib.hid hb3; clear hb3)))
      go_ret
      exact ⟨HBF.out.trans ((HB2.out.trans ((HB3.out.trans (HB4.out.mono HB3.out.size)).mono HB2.out.size)).mono HBF.out.size), f, rfl, HLI.out f HF.out⟩
theorem rlike_bad (a b : ByteArray) (w : World) (ha : a.size ≤ 300) (hb : b.size ≤ 300) (h : runesOf a = none ∨ runesOf b = none) : Calls Tryz.prog 7 #[.string a, .string b] w fun e w' => Below w.heap.size w w' ∧ ∃ f, e = .returned (.float .f64 f) ∧ LikeIs a b f := by
  have HK := Lib.hid (rdiff_bad a b w ha hb h)
  have HLI : Hid (LikeIs a b 9221120237041090561) := Lib.hid (by
    unfold LikeIs
    split
    · rename_i x y hx hy
      rcases h with h | h
      · rw [hx] at h; cases h
      · rw [hy] at h; cases h
    · exact nan_const)
  have hd : Calls Tryz.prog 18 #[.string a, .string b] w fun e w' => Below w.heap.size w w' ∧ e = .returned (.tuple #[.slice none 0 0, .int .i64 5]) :=
    HK.out.mono fun e w' ⟨h1, h2⟩ => by
      rcases h2 with ⟨x, y, eds, A, c, k1, k2, _⟩ | ⟨_, k⟩
      · rcases h with h | h
        · rw [h] at k1; cases k1
        · rw [h] at k2; cases k2
      · exact ⟨h1, k⟩
  have HD := Lib.hid hd
  clear h hd HK
  go_enter Tryz.func7, Tryz.ntmps7
  go_wp2_with (first
    | (go_at_call 18; refine HD.out.mono ?_; rintro e W1 ⟨hb1, rfl⟩; have HB1 := Lib.hid hb1; clear hb1)
    | (go_at_call 15; refine (mathNaN_any _).mono ?_; rintro e W2 ⟨rfl, rfl⟩))
  go_ret
  exact ⟨HB1.out, _, rfl, HLI.out⟩
theorem rlike_any (a b : ByteArray) (w : World) (ha : a.size ≤ 300) (hb : b.size ≤ 300) : Calls Tryz.prog 7 #[.string a, .string b] w fun e w' => Below w.heap.size w w' ∧ ∃ f, e = .returned (.float .f64 f) ∧ LikeIs a b f := by
  cases hx : runesOf a with
  | none => exact rlike_bad a b w ha hb (.inl hx)
  | some x => cases hy : runesOf b with
    | none => exact rlike_bad a b w ha hb (.inr hy)
    | some y => exact rlike_good a b x y w ha hb hx hy
theorem like_same {a b : ByteArray} {f g : Nat} (h : LikeIs a b f) (k : LikeIs a b g) : f = g ∨ Ev.nanB f ∧ Ev.nanB g := by
  unfold LikeIs at h k
  cases hx : runesOf a with
  | none => rw [hx] at h k; exact .inr ⟨h, k⟩
  | some x => cases hy : runesOf b with
    | none => rw [hx, hy] at h k; exact .inr ⟨h, k⟩
    | some y =>
      rw [hx, hy] at h k
      dsimp only at h k
      unfold QuoIs at h k
      split at h
      · rename_i r hr
        rw [hr] at k
        exact .inl (h.trans k.symm)
      · rename_i hr
        rw [hr] at k
        exact .inr ⟨h, k⟩
end Go.Proofs.YtmlhijlcefogmaaGreatDoor
namespace Go.Proofs.YtmlhijlcefogmaaGreatDoor
open Go.RowKit Go.Maps Go.Shelf

theorem order_self {b : Nat} (h : ¬ Ev.nanB b) : FloatKind.f64.format.order b b = some .eq := by
  unfold Ev.nanB at h
  unfold Ieee.Format.order
  generalize FloatKind.f64.format.read b = d at h
  cases d with
  | nan s t => exact absurd rfl h
  | infinity s => simp [Ieee.Datum.order]
  | number s m i => simp [Ieee.Datum.order]
end Go.Proofs.YtmlhijlcefogmaaGreatDoor
namespace Go.Proofs.YtmlhijlcefogmaaGreatDoor
open Go.RowKit Go.Maps Go.Shelf

theorem rnan_yes (b : Nat) (w : World) (h : Ev.nanB b) : Calls Tryz.prog 12 #[.float .f64 b] w fun e w' => w = w' ∧ e = .returned (.bool true) := by
  have HN := Lib.hid h
  clear h
  go_enter Tryz.func12, Tryz.ntmps12
  go_wp2
  go_ret
  refine ⟨rfl, ?_⟩
  show Ending.returned (.bool (FloatKind.f64.format.order b b != some .eq)) = _
  rw [Ev.nan_order HN.out]
  rfl
theorem rnan_no (b : Nat) (w : World) (h : ¬ Ev.nanB b) : Calls Tryz.prog 12 #[.float .f64 b] w fun e w' => w = w' ∧ e = .returned (.bool false) := by
  have HN := Lib.hid h
  clear h
  go_enter Tryz.func12, Tryz.ntmps12
  go_wp2
  go_ret
  refine ⟨rfl, ?_⟩
  show Ending.returned (.bool (FloatKind.f64.format.order b b != some .eq)) = _
  rw [order_self HN.out]
  rfl
theorem below18 (b : Nat) (w : World) (h : ¬ Ev.nanB b) : Calls Tryz.prog 13 #[.float .f64 b, .float .f64 b] w fun e w' => w = w' ∧ e = .returned (.bool false) := by
  have hlt : (FloatKind.f64.format.order b b == some .lt) = false := by rw [order_self h]; rfl
  have hbits : ∀ u : World, (Extern.MathFloatBits.float64bits #[.float .f64 b]).run Tryz.prog u = .ok (.int .u64 (b : Int)) u := fun u => rfl
  cases hz : (FloatKind.f64.format.order b 0 == some .eq) with
  | false =>
    go_enter Tryz.func13, Tryz.ntmps13
    go_wp2
    go_ret
    exact ⟨rfl, rfl⟩
  | true =>
    by_cases h0 : b = 0
    · subst h0
      go_enter Tryz.func13, Tryz.ntmps13
      go_wp2
      repeat (rw [run_callFunc_extern Tryz.func26 (by kernel_rfl) (by kernel_rfl) (by kernel_rfl) (e := Extern.MathFloatBits.float64bits) (by kernel_rfl), hbits]; simp only [Result.andThen]; rw [Oper.upon_value]; go_wp2)
      go_ret
      exact ⟨rfl, rfl⟩
    · have hb1 : ((b : Int) != 0) = true := by rw [bne_iff_ne]; omega
      have hb2 : ((b : Int) == 0) = false := by rw [beq_eq_false_iff_ne]; omega
      clear h0
      go_enter Tryz.func13, Tryz.ntmps13
      go_wp2
      repeat (rw [run_callFunc_extern Tryz.func26 (by kernel_rfl) (by kernel_rfl) (by kernel_rfl) (e := Extern.MathFloatBits.float64bits) (by kernel_rfl), hbits]; simp only [Result.andThen]; rw [Oper.upon_value]; go_wp2)
      go_ret
      exact ⟨rfl, rfl⟩
theorem rorder18 (b c : Nat) (w : World) (h : b = c ∨ Ev.nanB b ∧ Ev.nanB c) : Calls Tryz.prog 5 #[.float .f64 b, .float .f64 c] w fun e w' => w = w' ∧ e = .returned (.int .i64 0) := by
  by_cases hb : Ev.nanB b
  · have hc : Ev.nanB c := by rcases h with rfl | h; exact hb; exact h.2
    have H1 := Lib.hid (fun u => rnan_yes b u hb); have H2 := Lib.hid (fun u => rnan_yes c u hc)
    clear h hb hc
    go_enter Tryz.func5, Tryz.ntmps5
    go_wp2_with (first
      | (go_at_call 12; first
          | (with_reducible refine (H1.out _).mono ?_; rintro e W2 ⟨rfl, rfl⟩)
          | (with_reducible refine (H2.out _).mono ?_; rintro e W2 ⟨rfl, rfl⟩)))
    go_ret
    exact ⟨rfl, rfl⟩
  · obtain rfl : b = c := by rcases h with h | ⟨h, _⟩; exact h; exact absurd h hb
    have H1 := Lib.hid (fun u => rnan_no b u hb); have H2 := Lib.hid (fun u => below18 b u hb)
    clear h hb
    go_enter Tryz.func5, Tryz.ntmps5
    go_wp2_with (first
      | (go_at_call 12; refine (H1.out _).mono ?_; rintro e W2 ⟨rfl, rfl⟩)
      | (go_at_call 13; refine (H2.out _).mono ?_; rintro e W2 ⟨rfl, rfl⟩))
    go_ret
    exact ⟨rfl, rfl⟩
end Go.Proofs.YtmlhijlcefogmaaGreatDoor
