/-
  Lists with one element less, and with two changed about; their cells. No conditions; no program.
-/
import Derived.Test.YtmlkhloonmgkpaaDoorFiles
namespace Go.Proofs.YtmlkhloonmgkpaaDoor
open Go.RowKit

theorem take_erase_step {α : Type} (l : List α) (i a : Nat) (hi : i < l.length) : (l.take (i + 1)).eraseIdx a = if i = a then (l.take i).eraseIdx a else (l.take i).eraseIdx a ++ [l[i]] := by
  have hl : (l.take i).length = i := by rw [List.length_take]; omega
  rw [List.take_succ_eq_append_getElem hi]
  split
  · rename_i h
    subst h
    rw [List.eraseIdx_append_of_length_le (by omega), hl, Nat.sub_self, List.eraseIdx_of_length_le (k := i) (by omega)]
    simp
  · rename_i h
    rcases (by omega : a < i ∨ i < a) with h1 | h1
    · rw [List.eraseIdx_append_of_lt_length (by omega)]
    · rw [List.eraseIdx_append_of_length_le (by omega), hl, List.eraseIdx_of_length_le (l := List.take i l) (by omega), List.eraseIdx_of_length_le (by simp; omega)]

theorem cells2_set : ∀ (fs : List (ByteArray × ByteArray)) (a : Nat) (f : ByteArray × ByteArray), a < fs.length → cells2 (fs.set a f) = ((cells2 fs).set (a * 2) (.string f.1)).set (a * 2 + 1) (.string f.2)
  | x :: r, 0, f, _ => by simp [cells2]
  | x :: r, a + 1, f, h => by
    have := cells2_set r a f (by simpa using h)
    rw [show (a + 1) * 2 = a * 2 + 1 + 1 by omega]
    simp [cells2, this]
theorem smallF_erase {fs : List (ByteArray × ByteArray)} (h : smallF fs) (a : Nat) : smallF (fs.eraseIdx a) := fun f hf => h f ((List.eraseIdx_sublist _ _).subset hf)
theorem smallF_swap {fs : List (ByteArray × ByteArray)} (h : smallF fs) {a b : Nat} (ha : a < fs.length) (hb : b < fs.length) : smallF ((fs.set a fs[b]).set b fs[a]) :=
  fun f hf => h f ((List.set_set_perm ha hb).mem_iff.1 hf)

/-- The number that 'int(uint64(x)%uint64(n))' comes to. -/
def modu (x : Int) (n : Nat) : Nat := (x % 18446744073709551616 % (n : Int)).toNat
theorem modu_lt (x : Int) {n : Nat} (h : 0 < n) : modu x n < n := by
  have := Int.emod_lt_of_pos (x % 18446744073709551616) (show (0 : Int) < n by omega)
  have := Int.emod_nonneg (x % 18446744073709551616) (show (n : Int) ≠ 0 by omega)
  unfold modu; omega
theorem modu_eq (x : Int) {n : Nat} (h : 0 < n) (h2 : n ≤ 1000) : wrap64 ((IntKind.u64.wrap x).tmod (n : Int)) = (modu x n : Int) := by
  have e : IntKind.u64.wrap x = x % 18446744073709551616 := rfl
  have h0 := Int.emod_nonneg x (show (18446744073709551616 : Int) ≠ 0 by omega)
  rw [e, Int.tmod_eq_emod_of_nonneg h0]
  have h1 := Int.emod_lt_of_pos (x % 18446744073709551616) (show (0 : Int) < n by omega)
  have h3 := Int.emod_nonneg (x % 18446744073709551616) (show (n : Int) ≠ 0 by omega)
  unfold modu
  rw [IntWalk.wrap64_in _ ⟨by omega, by omega⟩]
  omega
end Go.Proofs.YtmlkhloonmgkpaaDoor
