/-
  Evaluation of closed runs, part I5: whole numbers, quickly. No conditions; no program.
  Evaluation of closed runs, part I6: a NaN whose bits are not told. No conditions; no program.
  Parts of small wholes as floats: between 0 and 1; the whole is 1. No conditions; no program.
  What score.Ratio, score.Like, scan.Like give. Conditions: texts of at most 300 bytes.
-/
import Derived.Test.YtmlhijlcefogmaaGreatDoorMerged19
import Derived.Laws.FloatArith
import Derived.Test.YtmlhijlcefogmaaGreatDoorMerged17
set_option linter.unusedVariables false
set_option linter.unusedSimpArgs false
set_option maxHeartbeats 4000000
set_option maxRecDepth 100000
namespace Go.Proofs.YtmlhijlcefogmaaGreatDoor
namespace Ev

noncomputable section
def maxN (k : IntKind) : Nat :=
  match k with
  | .i8 => 127 | .i16 => 32767 | .i32 => 2147483647 | .i64 => 9223372036854775807 | .u8 => 255 | .u16 => 65535 | .u32 => 4294967295 | .u64 => 18446744073709551615
def sameK (k l : IntKind) : Bool :=
  match k, l with
  | .i8, .i8 => true | .i16, .i16 => true | .i32, .i32 => true | .i64, .i64 => true | .u8, .u8 => true | .u16, .u16 => true | .u32, .u32 => true | .u64, .u64 => true
  | _, _ => false
def fitN (k : IntKind) (n : Nat) : Option V := fN n fun n => match Nat.ble n (maxN k) with | true => some (.i k (.ofNat n)) | false => none
def eInt (op : BinOp) (u v : V) : Option V :=
  match u, v with
  | .i k (.ofNat a), .i l (.ofNat b) => match sameK k l with
    | true => match op with
      | .add => fitN k (Nat.add a b)
      | .sub => match Nat.ble b a with | true => fitN k (Nat.sub a b) | false => none
      | .mul => fitN k (Nat.mul a b)
      | .quo => match b with | 0 => none | b + 1 => fitN k (Nat.div a (b + 1))
      | .rem => match b with | 0 => none | b + 1 => fitN k (Nat.mod a (b + 1))
      | .eql => fB (Nat.beq a b) fun r => some (.b r)
      | .neq => fB (Nat.beq a b) fun r => some (.b (match r with | true => false | false => true))
      | .lss => fB (Nat.blt a b) fun r => some (.b r)
      | .leq => fB (Nat.ble a b) fun r => some (.b r)
      | .gtr => fB (Nat.blt b a) fun r => some (.b r)
      | .geq => fB (Nat.ble b a) fun r => some (.b r)
      | _ => none
    | false => none
  | _, _ => none
end
theorem sameK_ok {k l : IntKind} (h : sameK k l = true) : k = l := by cases k <;> cases l <;> first | rfl | cases h
theorem wrap_fit {k : IntKind} {n : Nat} (h : n ≤ maxN k) : k.wrap (n : Int) = n := by
  cases k <;> simp only [maxN] at h <;> simp [IntKind.wrap, IntKind.bits, IntKind.signed] <;> omega
section
variable {P : Program} {S : Nat → Prop} {μ : Nat → Loc} {w : World}
theorem eInt_ok {op : BinOp} {t : TypeId} {u v r : V} {a b : Value} (he : eInt op u v = some r) (hu : VR S μ u a) (hv : VR S μ v b) (x y : Operand) :
    ∃ z, (do eqGuard op t x y a b; binOp op t a b : Sem Value).run P w = .ok z w ∧ VR S μ r z := by
  unfold eInt at he
  split at he
  case h_2 => cases he
  rename_i k a l b
  split at he
  case h_2 => cases he
  rename_i hk
  have hk := sameK_ok hk
  subst hk
  have ea := vr_int hu
  have eb := vr_int hv
  subst ea eb
  have hg : (eqGuard op t x y (.int k (.ofNat a)) (.int k (.ofNat b))).run P w = .ok () w := by cases op <;> simp [eqGuard]
  have fit : ∀ {m : Nat} {r : V}, fitN k m = some r → r = .i k (.ofNat m) ∧ m ≤ maxN k := by
    intro m r h
    unfold fitN at h
    rw [fN_eq] at h
    split at h
    · rename_i hb
      injection h with h
      exact ⟨h.symm, Nat.le_of_ble_eq_true hb⟩
    · cases h
  rw [Sem.run_bind, hg]
  simp only [Result.andThen_ok]
  split at he
  · obtain ⟨rfl, h⟩ := fit he
    refine ⟨_, ?_, .i _ _⟩
    simp only [binOp, Op.intArith]
    rw [if_neg (by simp)]
    have hw : k.wrap ((a + b : Nat) : Int) = ((a + b : Nat) : Int) := wrap_fit h
    simp only [Int.ofNat_eq_natCast]
    rw [← Int.natCast_add, hw]
    rfl
  · split at he
    · rename_i hle
      have hle := Nat.le_of_ble_eq_true hle
      obtain ⟨rfl, h⟩ := fit he
      refine ⟨_, ?_, .i _ _⟩
      simp only [binOp, Op.intArith]
      rw [if_neg (by simp)]
      simp only [Int.ofNat_eq_natCast]
      have hw : k.wrap ((a - b : Nat) : Int) = ((a - b : Nat) : Int) := wrap_fit h
      rw [← Int.ofNat_sub hle, hw]
      rfl
    · cases he
  · obtain ⟨rfl, h⟩ := fit he
    refine ⟨_, ?_, .i _ _⟩
    simp only [binOp, Op.intArith]
    rw [if_neg (by simp)]
    simp only [Int.ofNat_eq_natCast]
    have hw : k.wrap ((a * b : Nat) : Int) = ((a * b : Nat) : Int) := wrap_fit h
    rw [← Int.natCast_mul, hw]
    rfl
  · split at he
    · cases he
    · rename_i b
      obtain ⟨rfl, h⟩ := fit he
      refine ⟨_, ?_, .i _ _⟩
      simp only [binOp, Op.intDiv]
      rw [if_neg (by simp), if_neg (by simp; omega)]
      have e : Int.tdiv (Int.ofNat a) (Int.ofNat (b + 1)) = ((a / (b + 1) : Nat) : Int) := rfl
      have hw : k.wrap ((a / (b + 1) : Nat) : Int) = ((a / (b + 1) : Nat) : Int) := wrap_fit h
      rw [e, hw]
      rfl
  · split at he
    · cases he
    · rename_i b
      obtain ⟨rfl, h⟩ := fit he
      refine ⟨_, ?_, .i _ _⟩
      simp only [binOp, Op.intDiv]
      rw [if_neg (by simp), if_neg (by simp; omega)]
      rfl
  · rw [fB_eq] at he
    injection he with he
    subst he
    refine ⟨_, ?_, .b _⟩
    simp only [binOp, Op.intCmp]
    rw [if_neg (by simp)]
    simp only [Sem.run_pure, Int.ofNat_eq_natCast]
    congr 2
    cases hb : Nat.beq a b with
    | true => have := Nat.eq_of_beq_eq_true hb; subst this; simp
    | false =>
      have : a ≠ b := fun e => by subst e; rw [Nat.beq_refl] at hb; cases hb
      simp
      omega
  · rw [fB_eq] at he
    injection he with he
    subst he
    refine ⟨_, ?_, .b _⟩
    simp only [binOp, Op.intCmp]
    rw [if_neg (by simp)]
    simp only [Sem.run_pure, Int.ofNat_eq_natCast]
    congr 2
    cases hb : Nat.beq a b with
    | true => have := Nat.eq_of_beq_eq_true hb; subst this; simp
    | false =>
      have : a ≠ b := fun e => by subst e; rw [Nat.beq_refl] at hb; cases hb
      simp
      omega
  · rw [fB_eq] at he
    injection he with he
    subst he
    refine ⟨_, ?_, .b _⟩
    simp only [binOp, Op.intCmp]
    rw [if_neg (by simp)]
    simp only [Sem.run_pure, Int.ofNat_eq_natCast]
    congr 2
    cases hb : Nat.blt a b with
    | true => have := blt_lt hb; simp; omega
    | false =>
      have : ¬ a < b := fun h => by
        have h2 : Nat.blt a b = true := Nat.ble_eq_true_of_le h
        rw [h2] at hb
        cases hb
      simp; omega
  · rw [fB_eq] at he
    injection he with he
    subst he
    refine ⟨_, ?_, .b _⟩
    simp only [binOp, Op.intCmp]
    rw [if_neg (by simp)]
    simp only [Sem.run_pure, Int.ofNat_eq_natCast]
    congr 2
    cases hb : Nat.ble a b with
    | true => have := Nat.le_of_ble_eq_true hb; simp; omega
    | false =>
      have : ¬ a ≤ b := fun h => by
        have h2 : Nat.ble a b = true := Nat.ble_eq_true_of_le h
        rw [h2] at hb
        cases hb
      simp; omega
  · rw [fB_eq] at he
    injection he with he
    subst he
    refine ⟨_, ?_, .b _⟩
    simp only [binOp, Op.intCmp]
    rw [if_neg (by simp)]
    simp only [Sem.run_pure, Int.ofNat_eq_natCast]
    congr 2
    cases hb : Nat.blt b a with
    | true => have := blt_lt hb; simp; omega
    | false =>
      have : ¬ b < a := fun h => by
        have h2 : Nat.blt b a = true := Nat.ble_eq_true_of_le h
        rw [h2] at hb
        cases hb
      simp; omega
  · rw [fB_eq] at he
    injection he with he
    subst he
    refine ⟨_, ?_, .b _⟩
    simp only [binOp, Op.intCmp]
    rw [if_neg (by simp)]
    simp only [Sem.run_pure, Int.ofNat_eq_natCast]
    congr 2
    cases hb : Nat.ble b a with
    | true => have := Nat.le_of_ble_eq_true hb; simp; omega
    | false =>
      have : ¬ b ≤ a := fun h => by
        have h2 : Nat.ble b a = true := Nat.ble_eq_true_of_le h
        rw [h2] at hb
        cases hb
      simp; omega
  · cases he
end
end Ev
end Go.Proofs.YtmlhijlcefogmaaGreatDoor
namespace Go.Proofs.YtmlhijlcefogmaaGreatDoor
namespace Ev

noncomputable section
/-- 0 / 0 and its like; a NaN is unlike itself. -/
def eNan (op : BinOp) (H : T O) (n : Nat) (u v : V) : Option Nx :=
  match u, v with
  | .n, .n => match op with | .neq => some (.lt (.b true)) | .eql => some (.lt (.b false)) | _ => none
  | .g (.float .f64 a), .g (.float .f64 b) => match op with
    | .quo => match FloatKind.f64.format.div a b with | none => some (.val .n H n) | some _ => none
    | _ => none
  | _, _ => none
end
theorem nanB_cut (x y t : Nat) : nanB ((Question.nanBits .f64 x y).cut t) := by
  unfold nanB Question.cut FloatKind.format Ieee.Format.read
  have hs : Ieee.Format.signWeight Ieee.double = 9223372036854775808 := by decide +kernel
  have hb : Ieee.Format.binade Ieee.double = 4503599627370496 := by decide +kernel
  have hi : Ieee.Format.infRung Ieee.double = 9218868437227405312 := by decide +kernel
  simp only [hs, hb, hi]
  have h1 : t / 2 % (2 ^ 52 - 1) < 4503599627370495 := Nat.mod_lt _ (by decide)
  have h2 : (t % 2 * 2 ^ 63 + 0x7ff0000000000000 + 1 + t / 2 % (2 ^ 52 - 1)) % 9223372036854775808 = 9218868437227405313 + t / 2 % (2 ^ 52 - 1) := by
    generalize t / 2 % (2 ^ 52 - 1) = r at *
    have : t % 2 < 2 := Nat.mod_lt _ (by decide)
    omega
  rw [h2, if_neg (by omega), if_neg (by omega), if_neg (by omega)]
  rfl
theorem nan_order {x : Nat} (h : nanB x) (y : Nat) : FloatKind.f64.format.order x y = none := by
  unfold nanB at h
  unfold Ieee.Format.order
  generalize FloatKind.f64.format.read x = d at h
  cases d <;> simp_all [Ieee.Datum.isNaN, Ieee.Datum.order]
section
variable {P : Program} {G : Nat} {S : Nat → Prop} {μ : Nat → Loc} {w : World}
theorem eNan_ok {op : BinOp} {t : TypeId} {H : T O} {n : Nat} {u v : V} {r : Nx} {a b : Value} (he : eNan op H n u v = some r) (hu : VR S μ u a) (hv : VR S μ v b) (hr : RH G S μ H.at w) (x y : Operand) :
    OpOk P G S μ H.at ((do eqGuard op t x y a b; pure (Next.value (← binOp op t a b)) : Sem Next).run P w) w n r := by
  unfold eNan at he
  split at he
  · cases hu with
    | n bx hx =>
    cases hv with
    | n by_ hy =>
    split at he
    · injection he with he
      subst he
      exact ⟨_, by simp [eqGuard, binOp, Op.floatCmp, nan_order hx], .b _⟩
    · injection he with he
      subst he
      exact ⟨_, by simp [eqGuard, binOp, Op.floatCmp, nan_order hx], .b _⟩
    · cases he
  · rename_i a' b'
    cases hu
    cases hv
    split at he
    · split at he
      · rename_i hd
        injection he with he
        subst he
        refine ⟨_, w.drew, S, μ, .inl ?_, .n _ (nanB_cut a' b' (w.tape w.drawn (.nanBits .f64 a' b'))), hr.drew, Go.drew hr⟩
        simp [eqGuard, binOp, Op.floatArith, hd, Question.forced]
      · cases he
    · cases he
  · cases he
end
end Ev
end Go.Proofs.YtmlhijlcefogmaaGreatDoor
namespace Go.Proofs.YtmlhijlcefogmaaGreatDoor

noncomputable section
def flN (n : Nat) : Nat := FloatKind.f64.nearest (n : Int)
def quoN (n m : Nat) : Option Nat := FloatKind.f64.format.div (flN n) (flN m)
end
end Go.Proofs.YtmlhijlcefogmaaGreatDoor
namespace Go.Proofs.YtmlhijlcefogmaaGreatDoor
open Go.RowKit Go.Maps Go.Shelf

/-- A float of the quotient, or a NaN where there is none. -/
def QuoIs (n m b : Nat) : Prop := match quoN n m with | some r => b = r | none => Ev.nanB b
theorem ratio_any (n m : Nat) (w : World) : Calls Tryz.prog 29 #[.int .i64 (n : Int), .int .i64 (m : Int)] w fun e w' => Below w.heap.size w w' ∧ ∃ b, e = .returned (.float .f64 b) ∧ QuoIs n m b := by
  have HB := Lib.hid (Below.refl w.heap.size w)
  cases hq : quoN n m with
  | some r =>
    have hr : (binOp .quo 23 (.float .f64 (floatOfInt .f64 (n : Int))) (.float .f64 (floatOfInt .f64 (m : Int)))).run Tryz.prog w = .ok (.float .f64 r) w := run_float_arith w .quo _ .f64 _ _ r hq
    have HQ : Hid (QuoIs n m r) := Lib.hid (by unfold QuoIs; rw [hq])
    clear hq
    go_enter Tryz.func29, Tryz.ntmps29
    go_wp2
    go_ret
    exact ⟨HB.out, _, rfl, HQ.out⟩
  | none =>
    obtain ⟨b, hb⟩ : ∃ b, (Question.nanBits .f64 (floatOfInt .f64 (n : Int)) (floatOfInt .f64 (m : Int))).cut (w.tape w.drawn (.nanBits .f64 (floatOfInt .f64 (n : Int)) (floatOfInt .f64 (m : Int)))) = b := ⟨_, rfl⟩
    have hr : (binOp .quo 23 (.float .f64 (floatOfInt .f64 (n : Int))) (.float .f64 (floatOfInt .f64 (m : Int)))).run Tryz.prog w = .ok (.float .f64 b) w.drew := by
      have h2 : FloatKind.f64.format.div (floatOfInt .f64 (n : Int)) (floatOfInt .f64 (m : Int)) = none := hq
      rw [← hb]
      simp [binOp, Op.floatArith, h2, Question.forced]
    have HQ : Hid (QuoIs n m b) := Lib.hid (by unfold QuoIs; rw [hq, ← hb]; exact Ev.nanB_cut _ _ _)
    clear hq hb
    go_enter Tryz.func29, Tryz.ntmps29
    go_wp2
    go_ret
    exact ⟨HB.out.drew, _, rfl, HQ.out⟩
theorem idx18 (k n m : Int) (w : World) : (Instr.index 73 (.agg #[.int .i64 k, .int .i64 n, .int .i64 m]) (.int .i64 0)).run Tryz.prog w = .ok (.int .i64 k) w ∧ (Instr.index 73 (.agg #[.int .i64 k, .int .i64 n, .int .i64 m]) (.int .i64 1)).run Tryz.prog w = .ok (.int .i64 n) w ∧ (Instr.index 73 (.agg #[.int .i64 k, .int .i64 n, .int .i64 m]) (.int .i64 2)).run Tryz.prog w = .ok (.int .i64 m) w := by
  refine ⟨?_, ?_, ?_⟩ <;> kernel_rfl
theorem ex_idx18 {ρ : Operand → Value} {o : Oper} {w : World} {x y : Operand} {t : TypeId} {u z v : Value} (ho : o.op = .index t x y) (hx : ρ x = u) (hy : ρ y = z) (hr : (Instr.index t u z).run Tryz.prog w = .ok v w) : (execOp ρ o).run Tryz.prog w = .ok (.value v) w := by
  unfold execOp
  simp only [ho, hx, hy, Sem.run_bind, hr]
  rfl
theorem slike_any (k n m : Nat) (w : World) (hk : k ≤ 1000) (hn : n ≤ 1000) (hm : m ≤ 1000) : Calls Tryz.prog 16 #[.int .i64 (k : Int), .int .i64 (n : Int), .int .i64 (m : Int)] w fun e w' => Below w.heap.size w w' ∧ ∃ b, e = .returned (.float .f64 b) ∧ QuoIs (2 * k) (n + m) b := by
  have HR := Lib.hid (fun u => ratio_any (2 * k) (n + m) u)
  have e1 : ((2 * k : Nat) : Int) = 2 * (k : Int) := by omega
  have e2 : ((n + m : Nat) : Int) = (n : Int) + (m : Int) := by omega
  rw [e1, e2] at HR
  clear e1 e2
  have i1 : IntKind.i64.wrap (2 * (k : Int)) = 2 * (k : Int) := IntWalk.i64_in _ (by omega)
  have i2 : IntKind.i64.wrap ((n : Int) + (m : Int)) = (n : Int) + (m : Int) := IntWalk.i64_in _ (by omega)
  have a1 : ¬ (k : Int) < 0 := by omega
  have a2 : ¬ (n : Int) < 0 := by omega
  have a3 : ¬ (m : Int) < 0 := by omega
  have b1 : ¬ (1099511627776 : Int) < (k : Int) := by omega
  have b2 : ¬ (1099511627776 : Int) < (n : Int) := by omega
  have b3 : ¬ (1099511627776 : Int) < (m : Int) := by omega
  go_enter Tryz.func16, Tryz.ntmps16
  go_upto_region 2 with fail
  go_loopw [13] (fun t13 wr => (t13 = .int .i64 0 ∨ t13 = .int .i64 1 ∨ t13 = .int .i64 2 ∨ t13 = .int .i64 3) ∧ wr = w) (fun t13 _ => 3 - (intOf t13).toNat)
  case atStart => exact ⟨.inl rfl, rfl⟩
  case round =>
    obtain ⟨h13, rfl⟩ := hrel
    rcases h13 with rfl | rfl | rfl | rfl
    · go_wp2_with (refine wp_val (by rfl) (ex_idx18 rfl rfl rfl (idx18 (k : Int) (n : Int) (m : Int) _).1) ?_)
      go_roundw
      case rel => exact ⟨.inr (.inl rfl), trivial⟩
      case measure => simp [intOf]
    · go_wp2_with (refine wp_val (by rfl) (ex_idx18 rfl rfl rfl (idx18 (k : Int) (n : Int) (m : Int) _).2.1) ?_)
      go_roundw
      case rel => exact ⟨.inr (.inr (.inl rfl)), trivial⟩
      case measure => simp [intOf]
    · go_wp2_with (refine wp_val (by rfl) (ex_idx18 rfl rfl rfl (idx18 (k : Int) (n : Int) (m : Int) _).2.2) ?_)
      go_roundw
      case rel => exact ⟨.inr (.inr (.inr rfl)), trivial⟩
      case measure => simp [intOf]
    · go_wp2_with (first
        | (go_at_call 29; refine (HR.out _).mono ?_; rintro e W1 ⟨hb1, b, rfl, hq⟩; have HB1 := Lib.hid hb1; have HQ := Lib.hid hq; clear hb1 hq))
      go_ret
      exact ⟨HB1.out, b, rfl, HQ.out⟩
/-- How like two texts are: a float of the quotient, or a NaN. -/
def LikeIs (a b : ByteArray) (f : Nat) : Prop := match runesOf a, runesOf b with
  | some x, some y => QuoIs (2 * onesN (movesS (intsN x) (intsN y))) (x.length + y.length) f
  | _, _ => Ev.nanB f
theorem cnt_runes {s : ByteArray} {l : List Nat} (h : runesOf s = some l) : cntN s = l.length := by
  unfold cntN runesN isText
  rw [h]
  rfl
theorem nan_const : Ev.nanB 9221120237041090561 := by
  unfold Ev.nanB
  decide +kernel
theorem mathNaN_any (w : World) : Calls Tryz.prog 15 #[] w fun e w' => w = w' ∧ e = .returned (.float .f64 9221120237041090561) := by
  go_enter Tryz.func15, Tryz.ntmps15
  go_wp2
  rw [run_callFunc_extern Tryz.func28 (by kernel_rfl) (by kernel_rfl) (by kernel_rfl) (e := Extern.MathFloatBits.float64frombits) (by kernel_rfl), show ∀ u : World, (Extern.MathFloatBits.float64frombits #[.int .u64 9221120237041090561]).run Tryz.prog u = .ok (.float .f64 9221120237041090561) u from fun u => rfl]
  simp only [Result.andThen]
  rw [Oper.upon_value]
  go_wp2
  go_ret
  exact ⟨rfl, rfl⟩
theorem like_good (a b : ByteArray) (x y : List Nat) (w : World) (ha : a.size ≤ 300) (hb : b.size ≤ 300) (hx : runesOf a = some x) (hy : runesOf b = some y) : Calls Tryz.prog 6 #[.string a, .string b] w fun e w' => Below w.heap.size w w' ∧ ∃ f, e = .returned (.float .f64 f) ∧ LikeIs a b f := by
  have HK := Lib.hid (kept_good a b x y w ha hb hx hy)
  have HSA := Lib.hid (fun u => size18_any a u ha); have HSB := Lib.hid (fun u => size18_any b u hb)
  have h1 := onesN_le (movesS (intsN x) (intsN y))
  have h2 := moves_length _ (intsN x) (intsN y) (Nat.le_refl _)
  rw [intsN_length, intsN_length] at h2
  have h3 := runes_le hx; have h4 := runes_le hy
  have HLK := Lib.hid (fun u => slike_any (onesN (movesS (intsN x) (intsN y))) x.length y.length u (by omega) (by omega) (by omega))
  rw [cnt_runes hx] at HSA
  rw [cnt_runes hy] at HSB
  have HLI : Hid (∀ f, QuoIs (2 * onesN (movesS (intsN x) (intsN y))) (x.length + y.length) f → LikeIs a b f) := Lib.hid (fun f h => by unfold LikeIs; rw [hx, hy]; exact h)
  clear h1 h2 h3 h4 hx hy
  generalize onesN (movesS (intsN x) (intsN y)) = on at *
  go_enter Tryz.func6, Tryz.ntmps6
  go_upto_region 2 with (first
    | (go_at_call 14; refine HK.out.mono ?_; rintro e W1 ⟨hb1, rfl⟩; have HB1 := Lib.hid hb1; clear hb1))
  go_wp2_with (first
    | (go_at_call 16; refine (HLK.out _).mono ?_; rintro e W4 ⟨hb4, f, rfl, hf⟩; have HB4 := Lib.hid hb4; have HF := Lib.hid hf; clear hb4 hf)
    | (go_at_call 17; first
        | (with_reducible refine (HSA.out _).mono ?_; rintro e W2 ⟨hb2, rfl⟩; have HB2 := Lib.hid hb2; clear hb2)
        | (with_reducible refine (HSB.out _).mono ?_; rintro e W3 ⟨hb3, rfl⟩; have HB3 := Lib.hid hb3; clear hb3)))
  go_ret
  exact ⟨HB1.out.trans ((HB2.out.trans ((HB3.out.trans (HB4.out.mono HB3.out.size)).mono HB2.out.size)).mono HB1.out.size), f, rfl, HLI.out f HF.out⟩
theorem like_bad (a b : ByteArray) (w : World) (ha : a.size ≤ 300) (hb : b.size ≤ 300) (h : runesOf a = none ∨ runesOf b = none) : Calls Tryz.prog 6 #[.string a, .string b] w fun e w' => Below w.heap.size w w' ∧ ∃ f, e = .returned (.float .f64 f) ∧ LikeIs a b f := by
  have HK := Lib.hid (kept_bad a b w ha hb h)
  have HLI : Hid (LikeIs a b 9221120237041090561) := Lib.hid (by
    unfold LikeIs
    split
    · rename_i x y hx hy
      rcases h with h | h
      · rw [hx] at h; cases h
      · rw [hy] at h; cases h
    · exact nan_const)
  clear h
  go_enter Tryz.func6, Tryz.ntmps6
  go_wp2_with (first
    | (go_at_call 14; refine HK.out.mono ?_; rintro e W1 ⟨hb1, rfl⟩; have HB1 := Lib.hid hb1; clear hb1)
    | (go_at_call 15; refine (mathNaN_any _).mono ?_; rintro e W2 ⟨rfl, rfl⟩))
  go_ret
  exact ⟨HB1.out, _, rfl, HLI.out⟩
theorem like_any (a b : ByteArray) (w : World) (ha : a.size ≤ 300) (hb : b.size ≤ 300) : Calls Tryz.prog 6 #[.string a, .string b] w fun e w' => Below w.heap.size w w' ∧ ∃ f, e = .returned (.float .f64 f) ∧ LikeIs a b f := by
  cases hx : runesOf a with
  | none => exact like_bad a b w ha hb (.inl hx)
  | some x => cases hy : runesOf b with
    | none => exact like_bad a b w ha hb (.inr hy)
    | some y => exact like_good a b x y w ha hb hx hy
end Go.Proofs.YtmlhijlcefogmaaGreatDoor
