/-
  Plain facts on strings as lists of bytes: equality, cuts, the bytes as numbers. No conditions; no program.
-/
import Derived.Test.YtdgbjhfkmembdaaGreatDoorUtfRef
import Derived.Laws.BytesArg
import Derived.Lib.Strings
import Derived.Lib.RabinKarpLaws
import Derived.Lib.SmallJoins
namespace Go.Proofs.YtdgbjhfkmembdaaGreatDoor

/-- A string's bytes. -/
abbrev L (s : ByteArray) : List UInt8 := s.data.toList
theorem L_length (s : ByteArray) : (L s).length = s.size := by simp [L]
theorem toList_L (s : ByteArray) : s.toList = L s := by
  have h := Lib.extract_toList s 0 s.size
  have h2 := Lib.extract_data s 0 s.size
  have e : s.extract 0 s.size = s := by
    apply ByteArray.ext
    apply Array.toList_inj.1
    rw [h2, List.drop_zero, List.take_of_length_le (by rw [← L_length]; exact Nat.le_refl _)]
  rw [e] at h
  rw [h, List.drop_zero, List.take_of_length_le (by rw [← L_length]; exact Nat.le_refl _)]
theorem L_inj {a b : ByteArray} (h : L a = L b) : a = b := by
  apply ByteArray.ext
  exact Array.toList_inj.1 h
theorem str_beq (a b : ByteArray) : (a.toList == b.toList) = decide (L a = L b) := by
  rw [toList_L, toList_L, Bool.eq_iff_iff]
  simp
theorem B_L (s : ByteArray) (k : Nat) (h : k < s.size) : (L s)[k]? = some (s[k]'h) := Go.Proofs.byte_at s k h
theorem B_of (s : ByteArray) (k : Nat) (h : k < s.size) : B s k = (s[k]'h).toNat := by
  have := getB s k h
  omega

def num (l : List UInt8) : List Int := l.map fun c => (c.toNat : Int)
theorem num_inj {a b : List UInt8} (h : num a = num b) : a = b := by
  induction a generalizing b with
  | nil => cases b with
    | nil => rfl
    | cons _ _ => simp [num] at h
  | cons x a ih => cases b with
    | nil => simp [num] at h
    | cons y b =>
      simp only [num, List.map_cons, List.cons.injEq] at h
      have := ih h.2
      subst this
      have hx : x = y := UInt8.toNat_inj.1 (by omega)
      rw [hx]

theorem num_strOf {xs : List Int} (h : ∀ x ∈ xs, 0 ≤ x ∧ x < 256) : num (L (strOfNums xs)) = xs := by
  rw [L, strOfNums_data, num, List.map_map]
  conv => rhs; rw [← List.map_id xs]
  apply List.map_congr_left
  intro x hx
  have := h x hx
  simp
  omega

theorem encB_range {r : Int} (h0 : 0 ≤ r) (h1 : r ≤ 1114111) : ∀ x ∈ encB r, 0 ≤ x ∧ x < 256 := by
  rcases (by omega : r < 128 ∨ (128 ≤ r ∧ r < 2048) ∨ (2048 ≤ r ∧ r < 65536) ∨ 65536 ≤ r) with a | ⟨a, b⟩ | ⟨a, b⟩ | a
  · rw [encB1 a]; simp; omega
  · rw [encB2 a b]; simp; omega
  · rw [encB3 a b]; simp; omega
  · rw [encB4 a]; simp; omega

theorem num_take_succ (s : ByteArray) (i : Nat) (h : i < s.size) (k : Nat) : num (((L s).drop i).take (k + 1)) = (B s i : Int) :: num (((L s).drop (i + 1)).take k) := by
  have hl : i < (L s).length := by rw [L_length]; exact h
  rw [List.drop_eq_getElem_cons hl, List.take_succ_cons]
  have e : (L s)[i] = s[i]'h := Go.Proofs.byte_at' s i h hl
  rw [e, B_of s i h]
  rfl

theorem num_extract {s : ByteArray} {i k : Nat} (h1 : 1 ≤ k) (h4 : k ≤ 4) (hin : i + k ≤ s.size) : num (L (s.extract i (i + k))) = bytesAt s i k := by
  rw [L, Lib.extract_data, show i + k - i = k by omega]
  rcases (by omega : k = 1 ∨ k = 2 ∨ k = 3 ∨ k = 4) with rfl | rfl | rfl | rfl
  · rw [num_take_succ s i (by omega)]; rfl
  · rw [num_take_succ s i (by omega), num_take_succ s (i + 1) (by omega)]; rfl
  · rw [num_take_succ s i (by omega), num_take_succ s (i + 1) (by omega), num_take_succ s (i + 1 + 1) (by omega)]; rfl
  · rw [num_take_succ s i (by omega), num_take_succ s (i + 1) (by omega), num_take_succ s (i + 1 + 1) (by omega), num_take_succ s (i + 1 + 1 + 1) (by omega)]; rfl

theorem enc_beq {s : ByteArray} {i k : Nat} {v : Int} (h1 : 1 ≤ k) (h4 : k ≤ 4) (hin : i + k ≤ s.size) (h0 : 0 ≤ v) (hv : v ≤ 1114111) :
    ((strOfNums (encB v)).toList == (s.extract i (i + k)).toList) = decide (encB v = bytesAt s i k) := by
  rw [str_beq, Bool.eq_iff_iff, decide_eq_true_eq, decide_eq_true_eq, ← num_extract h1 h4 hin]
  constructor
  · intro h
    rw [← h, num_strOf (encB_range h0 hv)]
  · intro h
    apply num_inj
    rw [num_strOf (encB_range h0 hv), h]
end Go.Proofs.YtdgbjhfkmembdaaGreatDoor
