/-
  What the program's leb gives: numbers, texts and ids written behind nothing, and read from a place that there is. Conditions: as each says.
-/
import Derived.Test.YtdgbjhfkmembdaaGreatDoorProg
import Derived.Test.YtdgbjhfkmembdaaGreatDoorLebSpec
import Derived.Test.YtdgbjhfkmembdaaGreatDoorIdCells
import Derived.Test.YtdgbjhfkmembdaaGreatDoorMem2
import Derived.Laws.OwnMore
import Derived.Deep.AppendSrc
import Derived.Laws.Bits64b
import Derived.Lib.SlBytesRow
import Derived.Deep.LoopGhost
import Derived.WalkMore
import Derived.Handy
import Derived.PlainAid
namespace Go.Proofs.YtdgbjhfkmembdaaGreatDoor
open Go.RowKit
set_option linter.unusedVariables false

theorem info_u8 : (Tryz.prog.info? 5).map (fun i => (i.zero, i.size, i.bytes)) = some (some (.int .u8 0), 1, 1) := by kernel_rfl

theorem andNot128 : ∀ x : Fin 256, bits BinOp.andNot IntKind.u8 ((x.val : Nat) : Int) 128 = ((x.val % 128 : Nat) : Int) := by decide +kernel
theorem pow128 (i : Nat) : 128 ^ i = 2 ^ (7 * i) := by rw [Nat.pow_mul]
theorem or_at {out c i : Nat} (ho : out < 128 ^ i) (hc : c < 128) (hi : i ≤ 8) : bits BinOp.or IntKind.u64 (out : Int) (IntKind.u64.wrap ((c : Int) * 2 ^ (7 * i))) = ((out + 128 ^ i * c : Nat) : Int) := by
  rw [pow128] at ho ⊢
  have h8 : 2 ^ (7 * i) ≤ 2 ^ 56 := Nat.pow_le_pow_right (by omega) (by omega)
  have e56 : 2 ^ 56 = 72057594037927936 := by decide
  have hm : 2 ^ (7 * i) * c ≤ 72057594037927936 * 127 := Nat.mul_le_mul (by omega) (by omega)
  have e1 : ((c : Int) * 2 ^ (7 * i)) = ((2 ^ (7 * i) * c : Nat) : Int) := by
    rw [Nat.mul_comm (2 ^ (7 * i)) c, Int.natCast_mul, Int.natCast_pow]; rfl
  rw [e1, IntWalk.u64_in _ ⟨by omega, by omega⟩, bits_or_u64_nat _ _ (by omega) (by omega)]
  congr 1
  rw [Nat.or_comm, ← Nat.two_pow_add_eq_or_of_lt ho]
  omega
theorem or_go {out x i : Nat} (ho : out < 128 ^ i) (hx : x < 256) (h128 : 128 ≤ x) (hi : i ≤ 8) :
    bits BinOp.or IntKind.u64 (out : Int) (IntKind.u64.wrap (IntKind.u64.wrap (bits BinOp.andNot IntKind.u8 (x : Int) 128) * 2 ^ (7 * i))) = ((out + 128 ^ i * (x - 128) : Nat) : Int) := by
  have e : bits BinOp.andNot IntKind.u8 (x : Int) 128 = ((x % 128 : Nat) : Int) := andNot128 ⟨x, hx⟩
  rw [e, IntWalk.u64_in ((x % 128 : Nat) : Int) ⟨by omega, by omega⟩, or_at ho (by omega) hi, show x % 128 = x - 128 by omega]
theorem or_zero {out : Nat} (ho : out < 18446744073709551616) : bits BinOp.or IntKind.u64 (out : Int) 0 = (out : Int) := by
  have := bits_or_u64_nat out 0 ho (by omega)
  simpa using this

def GetGives (l : List UInt8) (at' : Nat) (w : World) (e : Ending) (w' : World) : Prop := w = w' ∧ e = (match getS (l.drop at') with
  | some (n, k) => .returned (.tuple #[.int .i64 n, .int .i64 ((at' + k : Nat) : Int), .int .i64 0])
  | none => .returned (.tuple #[.int .i64 0, .int .i64 0, .int .i64 6]))
theorem GetGives.no {l : List UInt8} {at' : Nat} {w : World} {e : Ending} (h : getS (l.drop at') = none) (he : e = .returned (.tuple #[.int .i64 0, .int .i64 0, .int .i64 6])) : GetGives l at' w e w := by
  unfold GetGives; rw [h]; exact ⟨rfl, he⟩
theorem GetGives.yes {l : List UInt8} {at' n k : Nat} {w : World} {e : Ending} (h : getS (l.drop at') = some (n, k)) (he : e = .returned (.tuple #[.int .i64 n, .int .i64 ((at' + k : Nat) : Int), .int .i64 0])) : GetGives l at' w e w := by
  unfold GetGives; rw [h]; exact ⟨rfl, he⟩
theorem ret_get {a b a' b' : Int} (h1 : a = a') (h2 : b = b') : Ending.returned (.tuple #[.int .i64 a, .int .i64 b, .int .i64 0]) = .returned (.tuple #[.int .i64 a', .int .i64 b', .int .i64 0]) := by rw [h1, h2]

/-- Read up to i: what is left decides. -/
def Getting (l : List UInt8) (at' i out : Nat) : Prop := getS (l.drop at') = match getGo i (l.drop (at' + i)) with | some (n, k) => some (out + 128 ^ i * n, i + k) | none => none
theorem Getting.start (l : List UInt8) (at' : Nat) : Getting l at' 0 0 := by
  unfold Getting getS
  rw [Nat.add_zero]
  cases getGo 0 (l.drop at') <;> simp
theorem Getting.next {l : List UInt8} {at' i out : Nat} {x : UInt8} (h : Getting l at' i out) (hd : l.drop (at' + i) = x :: l.drop (at' + i + 1)) (h128 : 128 ≤ x.toNat) (hi : i < 8) : Getting l at' (i + 1) (out + 128 ^ i * (x.toNat - 128)) := by
  unfold Getting at h ⊢
  rw [h, hd, getGo, if_pos h128, if_neg (by omega), ← Nat.add_assoc]
  rcases getGo (i + 1) (l.drop (at' + i + 1)) with _ | ⟨n, k⟩
  · rfl
  · simp only [Option.some.injEq, Prod.mk.injEq]
    refine ⟨?_, by omega⟩
    rw [Nat.mul_add, Nat.pow_succ, Nat.mul_assoc]
    omega
theorem Getting.over {l : List UInt8} {at' i out : Nat} {x : UInt8} (h : Getting l at' i out) (hd : l.drop (at' + i) = x :: l.drop (at' + i + 1)) (h128 : 128 ≤ x.toNat) (hi : 8 ≤ i) : getS (l.drop at') = none := by
  unfold Getting at h
  rw [h, hd, getGo, if_pos h128, if_pos hi]
theorem Getting.zero {l : List UInt8} {at' i out : Nat} {x : UInt8} (h : Getting l at' i out) (hd : l.drop (at' + i) = x :: l.drop (at' + i + 1)) (h0 : x.toNat = 0) (hi : 0 < i) : getS (l.drop at') = none := by
  unfold Getting at h
  rw [h, hd, getGo, if_neg (by omega), if_pos ⟨h0, hi⟩]
theorem Getting.last {l : List UInt8} {at' i out : Nat} {x : UInt8} (h : Getting l at' i out) (hd : l.drop (at' + i) = x :: l.drop (at' + i + 1)) (h128 : ¬ 128 ≤ x.toNat) (h0 : ¬ (x.toNat = 0 ∧ 0 < i)) : getS (l.drop at') = some (out + 128 ^ i * x.toNat, i + 1) := by
  unfold Getting at h
  rw [h, hd, getGo, if_neg h128, if_neg h0]
theorem Getting.end {l : List UInt8} {at' i out : Nat} (h : Getting l at' i out) (hi : l.length ≤ at' + i) : getS (l.drop at') = none := by
  unfold Getting at h
  rw [h, List.drop_eq_nil_of_le hi]; rfl

def GetTextGives (l : List UInt8) (at' most : Nat) (w : World) (e : Ending) (w' : World) : Prop := w = w' ∧ (match getTextS (l.drop at') most with
  | some (t, k) => e = .returned (.tuple #[.string ⟨t.toArray⟩, .int .i64 ((at' + k : Nat) : Int), .int .i64 0])
  | none => ∃ q : Int, q ≠ 0 ∧ e = .returned (.tuple #[.string ⟨#[]⟩, .int .i64 0, .int .i64 q]))
theorem GetTextGives.no {l : List UInt8} {at' most : Nat} {w : World} {e : Ending} {q : Int} (h : getTextS (l.drop at') most = none) (hq : q ≠ 0) (he : e = .returned (.tuple #[.string ⟨#[]⟩, .int .i64 0, .int .i64 q])) : GetTextGives l at' most w e w := by
  unfold GetTextGives; rw [h]; exact ⟨rfl, q, hq, he⟩
theorem GetTextGives.yes {l : List UInt8} {at' most k : Nat} {t : List UInt8} {w : World} {e : Ending} (h : getTextS (l.drop at') most = some (t, k)) (he : e = .returned (.tuple #[.string ⟨t.toArray⟩, .int .i64 ((at' + k : Nat) : Int), .int .i64 0])) : GetTextGives l at' most w e w := by
  unfold GetTextGives; rw [h]; exact ⟨rfl, he⟩

theorem bytes_at {w : World} {b off : Nat} {l : List UInt8} (hc : ∀ j (h : j < l.length), w.cell? ⟨b, off + j, none⟩ = some (.int .u8 ((l[j]).toNat : Int))) : Lib.Bytes w b off ⟨l.toArray⟩ := by
  intro i hi
  have hi' : i < l.length := by simpa [ByteArray.size] using hi
  rw [hc i hi']
  have e : (⟨l.toArray⟩ : ByteArray)[i] = l[i] := by
    show (l.toArray)[i] = l[i]
    simp
  rw [e]
theorem size_mk (l : List UInt8) : (⟨l.toArray⟩ : ByteArray).size = l.length := by simp [ByteArray.size]
theorem L_mk (l : List UInt8) : L ⟨l.toArray⟩ = l := by simp [L]
theorem extract_mk (l : List UInt8) (a n : Nat) : (⟨l.toArray⟩ : ByteArray).extract a (a + n) = ⟨((l.drop a).take n).toArray⟩ := by
  have h : L ((⟨l.toArray⟩ : ByteArray).extract a (a + n)) = (l.drop a).take n := by
    have h1 : L ((⟨l.toArray⟩ : ByteArray).extract a (a + n)) = ((L ⟨l.toArray⟩).drop a).take (a + n - a) := Lib.extract_data _ _ _
    rw [h1, L_mk, Nat.add_sub_cancel_left]
  exact L_inj (h.trans (L_mk _).symm)

end Go.Proofs.YtdgbjhfkmembdaaGreatDoor
