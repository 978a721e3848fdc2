/-
  Evaluation of closed runs, part I6: a NaN whose bits are not told. No conditions; no program.
  Parts of small wholes as floats: between 0 and 1; the whole is 1. No conditions; no program.
  What score.Ratio, score.Like, scan.Like give. Conditions: texts of at most 300 bytes.
  What score.Order and math.IsNaN give of a number and itself, of two NaNs. No conditions.
  What likeness says of two texts, the one way and the other, and of a text and itself. No conditions; no program.
-/
import Derived.Test.YtmlhijlcefogmaaGreatDoorMerged17
import Derived.Laws.FloatArith
import Derived.Test.YtmlhijlcefogmaaGreatDoorMerged15
set_option linter.unusedVariables false
set_option linter.unusedSimpArgs false
set_option maxHeartbeats 4000000
set_option maxRecDepth 100000
namespace Go.Proofs.YtmlhijlcefogmaaGreatDoor
namespace Ev

noncomputable section
/-- 0 / 0 and its like; a NaN is unlike itself. -/
def eNan (op : BinOp) (H : T O) (n : Nat) (u v : V) : Option Nx :=
  match u, v with
  | .n, .n => match op with | .neq => some (.lt (.b true)) | .eql => some (.lt (.b false)) | _ => none
  | .g (.float .f64 a), .g (.float .f64 b) => match op with
    | .quo => match FloatKind.f64.format.div a b with | none => some (.val .n H n) | some _ => none
    | _ => none
  | _, _ => none
end
theorem nanB_cut (x y t : Nat) : nanB ((Question.nanBits .f64 x y).cut t) := by
  unfold nanB Question.cut FloatKind.format Ieee.Format.read
  have hs : Ieee.Format.signWeight Ieee.double = 9223372036854775808 := by decide +kernel
  have hb : Ieee.Format.binade Ieee.double = 4503599627370496 := by decide +kernel
  have hi : Ieee.Format.infRung Ieee.double = 9218868437227405312 := by decide +kernel
  simp only [hs, hb, hi]
  have h1 : t / 2 % (2 ^ 52 - 1) < 4503599627370495 := Nat.mod_lt _ (by decide)
  have h2 : (t % 2 * 2 ^ 63 + 0x7ff0000000000000 + 1 + t / 2 % (2 ^ 52 - 1)) % 9223372036854775808 = 9218868437227405313 + t / 2 % (2 ^ 52 - 1) := by
    generalize t / 2 % (2 ^ 52 - 1) = r at *
    have : t % 2 < 2 := Nat.mod_lt _ (by decide)
    omega
  rw [h2, if_neg (by omega), if_neg (by omega), if_neg (by omega)]
  rfl
theorem nan_order {x : Nat} (h : nanB x) (y : Nat) : FloatKind.f64.format.order x y = none := by
  unfold nanB at h
  unfold Ieee.Format.order
  generalize FloatKind.f64.format.read x = d at h
  cases d <;> simp_all [Ieee.Datum.isNaN, Ieee.Datum.order]
section
variable {P : Program} {G : Nat} {S : Nat → Prop} {μ : Nat → Loc} {w : World}
theorem eNan_ok {op : BinOp} {t : TypeId} {H : T O} {n : Nat} {u v : V} {r : Nx} {a b : Value} (he : eNan op H n u v = some r) (hu : VR S μ u a) (hv : VR S μ v b) (hr : RH G S μ H.at w) (x y : Operand) :
    OpOk P G S μ H.at ((do eqGuard op t x y a b; pure (Next.value (← binOp op t a b)) : Sem Next).run P w) w n r := by
  unfold eNan at he
  split at he
  · cases hu with
    | n bx hx =>
    cases hv with
    | n by_ hy =>
    split at he
    · injection he with he
      subst he
      exact ⟨_, by simp [eqGuard, binOp, Op.floatCmp, nan_order hx], .b _⟩
    · injection he with he
      subst he
      exact ⟨_, by simp [eqGuard, binOp, Op.floatCmp, nan_order hx], .b _⟩
    · cases he
  · rename_i a' b'
    cases hu
    cases hv
    split at he
    · split at he
      · rename_i hd
        injection he with he
        subst he
        refine ⟨_, w.drew, S, μ, .inl ?_, .n _ (nanB_cut a' b' (w.tape w.drawn (.nanBits .f64 a' b'))), hr.drew, Go.drew hr⟩
        simp [eqGuard, binOp, Op.floatArith, hd, Question.forced]
      · cases he
    · cases he
  · cases he
end
end Ev
end Go.Proofs.YtmlhijlcefogmaaGreatDoor
namespace Go.Proofs.YtmlhijlcefogmaaGreatDoor

noncomputable section
def flN (n : Nat) : Nat := FloatKind.f64.nearest (n : Int)
def quoN (n m : Nat) : Option Nat := FloatKind.f64.format.div (flN n) (flN m)
def oneF : Nat := 4607182418800017408
/-- A part 2k of t. -/
def okQ (k t : Nat) : Bool := match quoN (2 * k) t with
  | none => false
  | some r => match Nat.ble r oneF with | true => (match Nat.beq (2 * k) t with | true => Nat.beq r oneF | false => true) | false => false
def okK (t : Nat) (n : Nat) : Bool := Nat.rec (motive := fun _ => Bool) true (fun k ih => match okQ k t with | true => ih | false => false) n
def okT (lo n : Nat) : Bool := Nat.rec (motive := fun _ => Bool) true (fun i ih => match okK (lo + i) ((lo + i) / 2 + 1) with | true => ih | false => false) n
end
theorem okK_ok {t : Nat} : ∀ {n : Nat}, okK t n = true → ∀ k, k < n → okQ k t = true := by
  intro n
  induction n with
  | zero => intro _ k hk; omega
  | succ n ih =>
    intro h k hk
    have h : (match okQ n t with | true => okK t n | false => false) = true := h
    split at h
    · rename_i hq
      rcases Nat.lt_or_ge k n with h1 | h1
      · exact ih h k h1
      · rw [show k = n by omega]; exact hq
    · cases h
theorem okT_ok {lo : Nat} : ∀ {n : Nat}, okT lo n = true → ∀ t, lo ≤ t → t < lo + n → ∀ k, 2 * k ≤ t → okQ k t = true := by
  intro n
  induction n with
  | zero => intro _ t h1 h2; omega
  | succ n ih =>
    intro h t h1 h2 k hk
    have h : (match okK (lo + n) ((lo + n) / 2 + 1) with | true => okT lo n | false => false) = true := h
    split at h
    · rename_i hq
      rcases Nat.lt_or_ge t (lo + n) with h3 | h3
      · exact ih h t h1 h3 k hk
      · rw [show t = lo + n by omega]; exact okK_ok hq k (by omega)
    · cases h
theorem okQ_some {k t r : Nat} (h : okQ k t = true) (hr : quoN (2 * k) t = some r) : r ≤ oneF ∧ (2 * k = t → r = oneF) := by
  unfold okQ at h
  rw [hr] at h
  dsimp only at h
  split at h
  · rename_i hb
    refine ⟨Nat.le_of_ble_eq_true hb, fun e => ?_⟩
    rw [e, Nat.beq_refl] at h
    exact Nat.eq_of_beq_eq_true h
  · cases h
theorem read_small {r : Nat} (h : r ≤ oneF) : (∃ m, FloatKind.f64.format.read r = .number false m (-1074) ∧ m < 4503599627370496) ∨ (∃ (m d : Nat), FloatKind.f64.format.read r = .number false m (-1074 + (d : Int)) ∧ 4503599627370496 ≤ m ∧ m < 9007199254740992 ∧ d ≤ 1022 ∧ (d = 1022 → m = 4503599627370496)) := by
  have hs : Ieee.Format.signWeight Ieee.double = 9223372036854775808 := by decide +kernel
  have hb : Ieee.Format.binade Ieee.double = 4503599627370496 := by decide +kernel
  have hi : Ieee.Format.infRung Ieee.double = 9218868437227405312 := by decide +kernel
  have hl : Ieee.Format.leastPlace Ieee.double = -1074 := by decide +kernel
  unfold oneF at h
  unfold FloatKind.format Ieee.Format.read
  simp only [hs, hb, hi, hl]
  have h1 : r / 9223372036854775808 = 0 := Nat.div_eq_of_lt (by omega)
  have h2 : r % 9223372036854775808 = r := Nat.mod_eq_of_lt (by omega)
  rw [h1, h2]
  by_cases h3 : r < 4503599627370496
  · rw [if_pos h3]
    exact .inl ⟨r, rfl, h3⟩
  · rw [if_neg h3, if_pos (by omega)]
    refine .inr ⟨_, _, rfl, by omega, by omega, by omega, fun h => by omega⟩
theorem cmp_lt18 {x y : Int} (h : compare x y = Ordering.lt) : x < y := by
  have e : compare x y = if x < y then Ordering.lt else if x = y then .eq else .gt := rfl
  rw [e] at h
  split at h
  · assumption
  · split at h <;> cases h
theorem cmp_gt18 {x y : Int} (h : compare x y = Ordering.gt) : y < x := by
  have e : compare x y = if x < y then Ordering.lt else if x = y then .eq else .gt := rfl
  rw [e] at h
  split at h
  · cases h
  · split at h
    · cases h
    · omega
theorem shl_ge18 (a k : Nat) : a ≤ a <<< k := by
  rw [Nat.shiftLeft_eq]
  exact Nat.le_mul_of_pos_right _ (Nat.pow_pos (by decide))
theorem small_order {r : Nat} (h : r ≤ oneF) : (FloatKind.f64.format.order r 0 == some .lt) = false ∧ (FloatKind.f64.format.order r oneF == some .gt) = false := by
  have h0 : FloatKind.f64.format.read 0 = .number false 0 (-1074) := by decide +kernel
  have h1 : FloatKind.f64.format.read oneF = .number false 4503599627370496 (-52) := by decide +kernel
  unfold Ieee.Format.order
  rw [h0, h1]
  rcases read_small h with ⟨m, e, hm⟩ | ⟨m, d, e, hm1, hm2, hd, hd2⟩
  · rw [e]
    constructor
    · simp only [Ieee.Datum.order, Ieee.signed, Bool.false_eq_true, if_false]
      rw [show ((-1074 : Int) - min (-1074) (-1074)).toNat = 0 from rfl]
      simp only [Nat.shiftLeft_zero]
      rw [beq_eq_false_iff_ne]
      intro q
      injection q with q
      have q := cmp_lt18 q
      omega
    · simp only [Ieee.Datum.order, Ieee.signed, Bool.false_eq_true, if_false]
      rw [show ((-1074 : Int) - min (-1074) (-52)).toNat = 0 from rfl, show ((-52 : Int) - min (-1074) (-52)).toNat = 1022 from rfl]
      simp only [Nat.shiftLeft_zero]
      rw [beq_eq_false_iff_ne]
      intro q
      injection q with q
      have q := cmp_gt18 q
      have : 4503599627370496 ≤ 4503599627370496 <<< 1022 := shl_ge18 _ _
      omega
  · rw [e]
    constructor
    · simp only [Ieee.Datum.order, Ieee.signed, Bool.false_eq_true, if_false]
      rw [beq_eq_false_iff_ne]
      intro q
      injection q with q
      have q := cmp_lt18 q
      rw [Nat.zero_shiftLeft] at q
      exact absurd (Int.natCast_nonneg _) (Int.not_le.mpr q)
    · simp only [Ieee.Datum.order, Ieee.signed, Bool.false_eq_true, if_false]
      have hmin : min (-1074 + (d : Int)) (-52) = -1074 + (d : Int) := by omega
      rw [hmin, show (-1074 + (d : Int) - (-1074 + (d : Int))).toNat = 0 by omega, show (-52 - (-1074 + (d : Int))).toNat = 1022 - d by omega]
      simp only [Nat.shiftLeft_zero]
      rw [beq_eq_false_iff_ne]
      intro q
      injection q with q
      have q := cmp_gt18 q
      rcases Nat.eq_or_lt_of_le hd with h5 | h5
      · rw [hd2 h5, h5] at q
        simp at q
      · obtain ⟨n, hn⟩ : ∃ n, 1022 - d = n + 1 := ⟨1022 - d - 1, by omega⟩
        rw [hn, Nat.shiftLeft_eq, Nat.pow_succ] at q
        have : 0 < 2 ^ n := Nat.pow_pos (by decide)
        have h6 : 9007199254740992 ≤ 4503599627370496 * (2 ^ n * 2) := by omega
        omega
end Go.Proofs.YtmlhijlcefogmaaGreatDoor
namespace Go.Proofs.YtmlhijlcefogmaaGreatDoor
open Go.RowKit Go.Maps Go.Shelf

/-- A float of the quotient, or a NaN where there is none. -/
def QuoIs (n m b : Nat) : Prop := match quoN n m with | some r => b = r | none => Ev.nanB b
theorem ratio_any (n m : Nat) (w : World) : Calls Tryz.prog 29 #[.int .i64 (n : Int), .int .i64 (m : Int)] w fun e w' => Below w.heap.size w w' ∧ ∃ b, e = .returned (.float .f64 b) ∧ QuoIs n m b := by
  have HB := Lib.hid (Below.refl w.heap.size w)
  cases hq : quoN n m with
  | some r =>
    have hr : (binOp .quo 23 (.float .f64 (floatOfInt .f64 (n : Int))) (.float .f64 (floatOfInt .f64 (m : Int)))).run Tryz.prog w = .ok (.float .f64 r) w := run_float_arith w .quo _ .f64 _ _ r hq
    have HQ : Hid (QuoIs n m r) := Lib.hid (by unfold QuoIs; rw [hq])
    clear hq
    go_enter Tryz.func29, Tryz.ntmps29
    go_wp2
    go_ret
    exact ⟨HB.out, _, rfl, HQ.out⟩
  | none =>
    obtain ⟨b, hb⟩ : ∃ b, (Question.nanBits .f64 (floatOfInt .f64 (n : Int)) (floatOfInt .f64 (m : Int))).cut (w.tape w.drawn (.nanBits .f64 (floatOfInt .f64 (n : Int)) (floatOfInt .f64 (m : Int)))) = b := ⟨_, rfl⟩
    have hr : (binOp .quo 23 (.float .f64 (floatOfInt .f64 (n : Int))) (.float .f64 (floatOfInt .f64 (m : Int)))).run Tryz.prog w = .ok (.float .f64 b) w.drew := by
      have h2 : FloatKind.f64.format.div (floatOfInt .f64 (n : Int)) (floatOfInt .f64 (m : Int)) = none := hq
      rw [← hb]
      simp [binOp, Op.floatArith, h2, Question.forced]
    have HQ : Hid (QuoIs n m b) := Lib.hid (by unfold QuoIs; rw [hq, ← hb]; exact Ev.nanB_cut _ _ _)
    clear hq hb
    go_enter Tryz.func29, Tryz.ntmps29
    go_wp2
    go_ret
    exact ⟨HB.out.drew, _, rfl, HQ.out⟩
theorem idx18 (k n m : Int) (w : World) : (Instr.index 73 (.agg #[.int .i64 k, .int .i64 n, .int .i64 m]) (.int .i64 0)).run Tryz.prog w = .ok (.int .i64 k) w ∧ (Instr.index 73 (.agg #[.int .i64 k, .int .i64 n, .int .i64 m]) (.int .i64 1)).run Tryz.prog w = .ok (.int .i64 n) w ∧ (Instr.index 73 (.agg #[.int .i64 k, .int .i64 n, .int .i64 m]) (.int .i64 2)).run Tryz.prog w = .ok (.int .i64 m) w := by
  refine ⟨?_, ?_, ?_⟩ <;> kernel_rfl
theorem ex_idx18 {ρ : Operand → Value} {o : Oper} {w : World} {x y : Operand} {t : TypeId} {u z v : Value} (ho : o.op = .index t x y) (hx : ρ x = u) (hy : ρ y = z) (hr : (Instr.index t u z).run Tryz.prog w = .ok v w) : (execOp ρ o).run Tryz.prog w = .ok (.value v) w := by
  unfold execOp
  simp only [ho, hx, hy, Sem.run_bind, hr]
  rfl
theorem slike_any (k n m : Nat) (w : World) (hk : k ≤ 1000) (hn : n ≤ 1000) (hm : m ≤ 1000) : Calls Tryz.prog 16 #[.int .i64 (k : Int), .int .i64 (n : Int), .int .i64 (m : Int)] w fun e w' => Below w.heap.size w w' ∧ ∃ b, e = .returned (.float .f64 b) ∧ QuoIs (2 * k) (n + m) b := by
  have HR := Lib.hid (fun u => ratio_any (2 * k) (n + m) u)
  have e1 : ((2 * k : Nat) : Int) = 2 * (k : Int) := by omega
  have e2 : ((n + m : Nat) : Int) = (n : Int) + (m : Int) := by omega
  rw [e1, e2] at HR
  clear e1 e2
  have i1 : IntKind.i64.wrap (2 * (k : Int)) = 2 * (k : Int) := IntWalk.i64_in _ (by omega)
  have i2 : IntKind.i64.wrap ((n : Int) + (m : Int)) = (n : Int) + (m : Int) := IntWalk.i64_in _ (by omega)
  have a1 : ¬ (k : Int) < 0 := by omega
  have a2 : ¬ (n : Int) < 0 := by omega
  have a3 : ¬ (m : Int) < 0 := by omega
  have b1 : ¬ (1099511627776 : Int) < (k : Int) := by omega
  have b2 : ¬ (1099511627776 : Int) < (n : Int) := by omega
  have b3 : ¬ (1099511627776 : Int) < (m : Int) := by omega
  go_enter Tryz.func16, Tryz.ntmps16
  go_upto_region 2 with fail
  go_loopw [13] (fun t13 wr => (t13 = .int .i64 0 ∨ t13 = .int .i64 1 ∨ t13 = .int .i64 2 ∨ t13 = .int .i64 3) ∧ wr = w) (fun t13 _ => 3 - (intOf t13).toNat)
  case atStart => exact ⟨.inl rfl, rfl⟩
  case round =>
    obtain ⟨h13, rfl⟩ := hrel
    rcases h13 with rfl | rfl | rfl | rfl
    · go_wp2_with (refine wp_val (by rfl) (ex_idx18 rfl rfl rfl (idx18 (k : Int) (n : Int) (m : Int) _).1) ?_)
      go_roundw
      case rel => exact ⟨.inr (.inl rfl), trivial⟩
      case measure => simp [intOf]
    · go_wp2_with (refine wp_val (by rfl) (ex_idx18 rfl rfl rfl (idx18 (k : Int) (n : Int) (m : Int) _).2.1) ?_)
      go_roundw
      case rel => exact ⟨.inr (.inr (.inl rfl)), trivial⟩
      case measure => simp [intOf]
    · go_wp2_with (refine wp_val (by rfl) (ex_idx18 rfl rfl rfl (idx18 (k : Int) (n : Int) (m : Int) _).2.2) ?_)
      go_roundw
      case rel => exact ⟨.inr (.inr (.inr rfl)), trivial⟩
      case measure => simp [intOf]
    · go_wp2_with (first
        | (go_at_call 29; refine (HR.out _).mono ?_; rintro e W1 ⟨hb1, b, rfl, hq⟩; have HB1 := Lib.hid hb1; have HQ := Lib.hid hq; clear hb1 hq))
      go_ret
      exact ⟨HB1.out, b, rfl, HQ.out⟩
/-- How like two texts are: a float of the quotient, or a NaN. -/
def LikeIs (a b : ByteArray) (f : Nat) : Prop := match runesOf a, runesOf b with
  | some x, some y => QuoIs (2 * onesN (movesS (intsN x) (intsN y))) (x.length + y.length) f
  | _, _ => Ev.nanB f
theorem cnt_runes {s : ByteArray} {l : List Nat} (h : runesOf s = some l) : cntN s = l.length := by
  unfold cntN runesN isText
  rw [h]
  rfl
theorem nan_const : Ev.nanB 9221120237041090561 := by
  unfold Ev.nanB
  decide +kernel
theorem mathNaN_any (w : World) : Calls Tryz.prog 15 #[] w fun e w' => w = w' ∧ e = .returned (.float .f64 9221120237041090561) := by
  go_enter Tryz.func15, Tryz.ntmps15
  go_wp2
  rw [run_callFunc_extern Tryz.func28 (by kernel_rfl) (by kernel_rfl) (by kernel_rfl) (e := Extern.MathFloatBits.float64frombits) (by kernel_rfl), show ∀ u : World, (Extern.MathFloatBits.float64frombits #[.int .u64 9221120237041090561]).run Tryz.prog u = .ok (.float .f64 9221120237041090561) u from fun u => rfl]
  simp only [Result.andThen]
  rw [Oper.upon_value]
  go_wp2
  go_ret
  exact ⟨rfl, rfl⟩
theorem like_good (a b : ByteArray) (x y : List Nat) (w : World) (ha : a.size ≤ 300) (hb : b.size ≤ 300) (hx : runesOf a = some x) (hy : runesOf b = some y) : Calls Tryz.prog 6 #[.string a, .string b] w fun e w' => Below w.heap.size w w' ∧ ∃ f, e = .returned (.float .f64 f) ∧ LikeIs a b f := by
  have HK := Lib.hid (kept_good a b x y w ha hb hx hy)
  have HSA := Lib.hid (fun u => size18_any a u ha); have HSB := Lib.hid (fun u => size18_any b u hb)
  have h1 := onesN_le (movesS (intsN x) (intsN y))
  have h2 := moves_length _ (intsN x) (intsN y) (Nat.le_refl _)
  rw [intsN_length, intsN_length] at h2
  have h3 := runes_le hx; have h4 := runes_le hy
  have HLK := Lib.hid (fun u => slike_any (onesN (movesS (intsN x) (intsN y))) x.length y.length u (by omega) (by omega) (by omega))
  rw [cnt_runes hx] at HSA
  rw [cnt_runes hy] at HSB
  have HLI : Hid (∀ f, QuoIs (2 * onesN (movesS (intsN x) (intsN y))) (x.length + y.length) f → LikeIs a b f) := Lib.hid (fun f h => by unfold LikeIs; rw [hx, hy]; exact h)
  clear h1 h2 h3 h4 hx hy
  generalize onesN (movesS (intsN x) (intsN y)) = on at *
  go_enter Tryz.func6, Tryz.ntmps6
  go_upto_region 2 with (first
    | (go_at_call 14; refine HK.out.mono ?_; rintro e W1 ⟨hb1, rfl⟩; have HB1 := Lib.hid hb1; clear hb1))
  go_wp2_with (first
    | (go_at_call 16; refine (HLK.out _).mono ?_; rintro e W4 ⟨hb4, f, rfl, hf⟩; have HB4 := Lib.hid hb4; have HF := Lib.hid hf; clear hb4 hf)
    | (go_at_call 17; first
        | (with_reducible refine (HSA.out _).mono ?_; rintro e W2 ⟨hb2, rfl⟩; have HB2 := Lib.hid hb2; clear hb2)
        | (with_reducible refine (HSB.out _).mono ?_; rintro e W3 ⟨hb3, rfl⟩; have HB3 := Lib.hid hb3; clear hb3)))
  go_ret
  exact ⟨HB1.out.trans ((HB2.out.trans ((HB3.out.trans (HB4.out.mono HB3.out.size)).mono HB2.out.size)).mono HB1.out.size), f, rfl, HLI.out f HF.out⟩
theorem like_bad (a b : ByteArray) (w : World) (ha : a.size ≤ 300) (hb : b.size ≤ 300) (h : runesOf a = none ∨ runesOf b = none) : Calls Tryz.prog 6 #[.string a, .string b] w fun e w' => Below w.heap.size w w' ∧ ∃ f, e = .returned (.float .f64 f) ∧ LikeIs a b f := by
  have HK := Lib.hid (kept_bad a b w ha hb h)
  have HLI : Hid (LikeIs a b 9221120237041090561) := Lib.hid (by
    unfold LikeIs
    split
    · rename_i x y hx hy
      rcases h with h | h
      · rw [hx] at h; cases h
      · rw [hy] at h; cases h
    · exact nan_const)
  clear h
  go_enter Tryz.func6, Tryz.ntmps6
  go_wp2_with (first
    | (go_at_call 14; refine HK.out.mono ?_; rintro e W1 ⟨hb1, rfl⟩; have HB1 := Lib.hid hb1; clear hb1)
    | (go_at_call 15; refine (mathNaN_any _).mono ?_; rintro e W2 ⟨rfl, rfl⟩))
  go_ret
  exact ⟨HB1.out, _, rfl, HLI.out⟩
theorem like_any (a b : ByteArray) (w : World) (ha : a.size ≤ 300) (hb : b.size ≤ 300) : Calls Tryz.prog 6 #[.string a, .string b] w fun e w' => Below w.heap.size w w' ∧ ∃ f, e = .returned (.float .f64 f) ∧ LikeIs a b f := by
  cases hx : runesOf a with
  | none => exact like_bad a b w ha hb (.inl hx)
  | some x => cases hy : runesOf b with
    | none => exact like_bad a b w ha hb (.inr hy)
    | some y => exact like_good a b x y w ha hb hx hy
end Go.Proofs.YtmlhijlcefogmaaGreatDoor
namespace Go.Proofs.YtmlhijlcefogmaaGreatDoor
open Go.RowKit Go.Maps Go.Shelf

theorem order_self {b : Nat} (h : ¬ Ev.nanB b) : FloatKind.f64.format.order b b = some .eq := by
  unfold Ev.nanB at h
  unfold Ieee.Format.order
  generalize FloatKind.f64.format.read b = d at h
  cases d with
  | nan s t => exact absurd rfl h
  | infinity s => simp [Ieee.Datum.order]
  | number s m i => simp [Ieee.Datum.order]
theorem isNaN_yes (b : Nat) (w : World) (h : Ev.nanB b) : Calls Tryz.prog 11 #[.float .f64 b] w fun e w' => w = w' ∧ e = .returned (.bool true) := by
  have HN := Lib.hid h
  clear h
  go_enter Tryz.func11, Tryz.ntmps11
  go_wp2
  go_ret
  refine ⟨rfl, ?_⟩
  show Ending.returned (.bool (FloatKind.f64.format.order b b != some .eq)) = _
  rw [Ev.nan_order HN.out]
  rfl
theorem isNaN_no (b : Nat) (w : World) (h : ¬ Ev.nanB b) : Calls Tryz.prog 11 #[.float .f64 b] w fun e w' => w = w' ∧ e = .returned (.bool false) := by
  have HN := Lib.hid h
  clear h
  go_enter Tryz.func11, Tryz.ntmps11
  go_wp2
  go_ret
  refine ⟨rfl, ?_⟩
  show Ending.returned (.bool (FloatKind.f64.format.order b b != some .eq)) = _
  rw [order_self HN.out]
  rfl
theorem rank_nan (b : Nat) (w : World) (h : Ev.nanB b) : Calls Tryz.prog 25 #[.float .f64 b] w fun e w' => w = w' ∧ e = .returned (.int .i64 9223372036854775807) := by
  have HN := Lib.hid (fun u => isNaN_yes b u h)
  clear h
  go_enter Tryz.func25, Tryz.ntmps25
  go_wp2_with (first
    | (go_at_call 11; refine (HN.out _).mono ?_; rintro e W2 ⟨rfl, rfl⟩))
  go_ret
  exact ⟨rfl, rfl⟩
def bitsI (b : Nat) : Int := wrap64 (b : Int)
def rankI (b : Nat) : Int := if bitsI b < 0 then wrap64 (wrap64 (-9223372036854775808 - bitsI b) - 1) else bitsI b
theorem rank_any (b : Nat) (w : World) (h : ¬ Ev.nanB b) : Calls Tryz.prog 25 #[.float .f64 b] w fun e w' => w = w' ∧ e = .returned (.int .i64 (rankI b)) := by
  have HN := Lib.hid (fun u => isNaN_no b u h)
  clear h
  unfold rankI
  by_cases hb : bitsI b < 0
  · rw [if_pos hb]
    unfold bitsI at hb ⊢
    go_enter Tryz.func25, Tryz.ntmps25
    go_wp2_with (first
      | (go_at_call 11; refine (HN.out _).mono ?_; rintro e W2 ⟨rfl, rfl⟩))
    rw [run_callFunc_extern Tryz.func26 (by kernel_rfl) (by kernel_rfl) (by kernel_rfl) (e := Extern.MathFloatBits.float64bits) (by kernel_rfl), show ∀ u : World, (Extern.MathFloatBits.float64bits #[.float .f64 b]).run Tryz.prog u = .ok (.int .u64 (b : Int)) u from fun u => rfl]
    simp only [Result.andThen]
    rw [Oper.upon_value]
    go_wp2
    go_ret
    exact ⟨rfl, rfl⟩
  · rw [if_neg hb]
    unfold bitsI at hb ⊢
    go_enter Tryz.func25, Tryz.ntmps25
    go_wp2_with (first
      | (go_at_call 11; refine (HN.out _).mono ?_; rintro e W2 ⟨rfl, rfl⟩))
    rw [run_callFunc_extern Tryz.func26 (by kernel_rfl) (by kernel_rfl) (by kernel_rfl) (e := Extern.MathFloatBits.float64bits) (by kernel_rfl), show ∀ u : World, (Extern.MathFloatBits.float64bits #[.float .f64 b]).run Tryz.prog u = .ok (.int .u64 (b : Int)) u from fun u => rfl]
    simp only [Result.andThen]
    rw [Oper.upon_value]
    go_wp2
    go_ret
    exact ⟨rfl, rfl⟩
theorem compare18 (r : Int) (w : World) : Calls Tryz.prog 24 #[.int .i64 r, .int .i64 r] w fun e w' => w = w' ∧ e = .returned (.int .i64 0) := by
  have h : ¬ r < r := by omega
  go_enter Tryz.func24, Tryz.ntmps24
  go_wp2
  go_ret
  exact ⟨rfl, rfl⟩
theorem order_any (b c : Nat) (w : World) (h : b = c ∨ Ev.nanB b ∧ Ev.nanB c) : Calls Tryz.prog 10 #[.float .f64 b, .float .f64 c] w fun e w' => w = w' ∧ e = .returned (.int .i64 0) := by
  have hr : ∃ r : Int, (∀ u : World, Calls Tryz.prog 25 #[.float .f64 b] u fun e w' => u = w' ∧ e = .returned (.int .i64 r)) ∧ ∀ u : World, Calls Tryz.prog 25 #[.float .f64 c] u fun e w' => u = w' ∧ e = .returned (.int .i64 r) := by
    by_cases hb : Ev.nanB b
    · rcases h with rfl | ⟨_, hc⟩
      · exact ⟨_, fun u => rank_nan b u hb, fun u => rank_nan b u hb⟩
      · exact ⟨_, fun u => rank_nan b u hb, fun u => rank_nan c u hc⟩
    · rcases h with rfl | ⟨h1, _⟩
      · exact ⟨_, fun u => rank_any b u hb, fun u => rank_any b u hb⟩
      · exact absurd h1 hb
  obtain ⟨r, h1, h2⟩ := hr
  have H1 := Lib.hid h1; have H2 := Lib.hid h2
  clear h1 h2 h
  go_enter Tryz.func10, Tryz.ntmps10
  go_wp2_with (first
    | (go_at_call 24; refine (compare18 r _).mono ?_; rintro e W3 ⟨rfl, rfl⟩)
    | (go_at_call 25; first
        | (with_reducible refine (H1.out _).mono ?_; rintro e W2 ⟨rfl, rfl⟩)
        | (with_reducible refine (H2.out _).mono ?_; rintro e W2 ⟨rfl, rfl⟩)))
  go_ret
  exact ⟨rfl, rfl⟩
end Go.Proofs.YtmlhijlcefogmaaGreatDoor
namespace Go.Proofs.YtmlhijlcefogmaaGreatDoor

theorem like_sym {a b : ByteArray} {f g : Nat} (h : LikeIs a b f) (k : LikeIs b a g) : f = g ∨ Ev.nanB f ∧ Ev.nanB g := by
  unfold LikeIs at h k
  cases hx : runesOf a with
  | none => rw [hx] at h k; cases hy : runesOf b with
    | none => rw [hy] at h k; exact .inr ⟨h, k⟩
    | some y => rw [hy] at h k; exact .inr ⟨h, k⟩
  | some x => cases hy : runesOf b with
    | none => rw [hx, hy] at h k; exact .inr ⟨h, k⟩
    | some y =>
      rw [hx, hy] at h k
      dsimp only at h k
      rw [ones_symm (intsN y) (intsN x), Nat.add_comm y.length] at k
      unfold QuoIs at h k
      split at h
      · rename_i r hr
        rw [hr] at k
        exact .inl (h.trans k.symm)
      · rename_i hr
        rw [hr] at k
        exact .inr ⟨h, k⟩
theorem quo_zero : quoN 0 0 = none := by decide +kernel
theorem okQ_nan {k t r : Nat} (h : okQ k t = true) (hr : quoN (2 * k) t = some r) : (FloatKind.f64.format.order r 0 == some .lt) = false ∧ (FloatKind.f64.format.order r oneF == some .gt) = false ∧ (2 * k = t → r = oneF) :=
  ⟨(small_order (okQ_some h hr).1).1, (small_order (okQ_some h hr).1).2, (okQ_some h hr).2⟩
/-- What is no NaN lies between 0 and 1. -/
theorem like_between (hall : ∀ t, 1 ≤ t → t ≤ 600 → ∀ k, 2 * k ≤ t → okQ k t = true) {a b : ByteArray} {f : Nat} (ha : a.size ≤ 300) (hb : b.size ≤ 300) (h : LikeIs a b f) (hn : ¬ Ev.nanB f) : (FloatKind.f64.format.order f 0 == some .lt) = false ∧ (FloatKind.f64.format.order f oneF == some .gt) = false := by
  unfold LikeIs at h
  split at h
  · rename_i x y hx hy
    have h1 := runes_le hx; have h2 := runes_le hy
    have h3 := ones_half (intsN x) (intsN y)
    rw [intsN_length, intsN_length] at h3
    rcases Nat.eq_zero_or_pos (x.length + y.length) with h0 | h0
    · rw [h0, show 2 * onesN (movesS (intsN x) (intsN y)) = 0 by omega] at h
      unfold QuoIs at h
      rw [quo_zero] at h
      exact absurd h hn
    · have hq := hall _ h0 (by omega) _ h3
      unfold QuoIs at h
      split at h
      · rename_i r hr
        subst h
        exact ⟨(okQ_nan hq hr).1, (okQ_nan hq hr).2.1⟩
      · exact absurd h hn
  · exact absurd h hn
/-- A text and itself. -/
theorem like_self (hall : ∀ t, 1 ≤ t → t ≤ 600 → ∀ k, 2 * k ≤ t → okQ k t = true) {a : ByteArray} {f : Nat} (ha : a.size ≤ 300) (h : LikeIs a a f) : (Ev.nanB f ∧ cntN a = 0) ∨ (f = oneF ∧ 0 < cntN a ∧ isText a = true) := by
  unfold LikeIs at h
  cases hx : runesOf a with
  | none =>
    rw [hx] at h
    exact .inl ⟨h, by unfold cntN isText; rw [hx]; rfl⟩
  | some x =>
    rw [hx] at h
    dsimp only at h
    have h1 := runes_le hx
    rw [ones_same, intsN_length] at h
    rcases Nat.eq_zero_or_pos x.length with h0 | h0
    · rw [h0] at h
      unfold QuoIs at h
      rw [show 2 * 0 = 0 from rfl, show 0 + 0 = 0 from rfl, quo_zero] at h
      exact .inl ⟨h, by rw [cnt_runes hx]; exact h0⟩
    · have hq := hall (x.length + x.length) (by omega) (by omega) x.length (by omega)
      refine .inr ⟨?_, by rw [cnt_runes hx]; exact h0, by unfold isText; rw [hx]; rfl⟩
      unfold QuoIs at h
      split at h
      · rename_i r hr
        rw [h]
        exact (okQ_nan hq hr).2.2 (by omega)
      · rename_i hr
        unfold okQ at hq
        rw [hr] at hq
        cases hq
end Go.Proofs.YtmlhijlcefogmaaGreatDoor
