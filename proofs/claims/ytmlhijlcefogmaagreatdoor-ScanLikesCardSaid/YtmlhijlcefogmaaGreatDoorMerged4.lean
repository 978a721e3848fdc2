/-
  The reference's way to a rune (try one to four bytes, write what comes out, compare) finds just what the model's decoder finds. No conditions; no program.
  Plain facts on strings as lists of bytes: equality, cuts, the bytes as numbers. No conditions; no program.
-/
import Derived.Test.YtmlhijlcefogmaaGreatDoorMerged3
import Derived.Laws.BytesArg
import Derived.Lib.Strings
import Derived.Lib.RabinKarpLaws
import Derived.Lib.SmallJoins
namespace Go.Proofs.YtmlhijlcefogmaaGreatDoor

/-- A rune's bytes, as numbers. -/
def encB (r : Int) : List Int :=
  if r < 128 then [r] else if r < 2048 then [192 + r / 64, 128 + r % 64] else if r < 65536 then [224 + r / 4096, 128 + r / 64 % 64, 128 + r % 64]
  else [240 + r / 262144, 128 + r / 4096 % 64, 128 + r / 64 % 64, 128 + r % 64]
theorem encB1 {r : Int} (h : r < 128) : encB r = [r] := by unfold encB; rw [if_pos h]
theorem encB2 {r : Int} (h : 128 ≤ r) (h' : r < 2048) : encB r = [192 + r / 64, 128 + r % 64] := by
  unfold encB; rw [if_neg (by omega), if_pos h']
theorem encB3 {r : Int} (h : 2048 ≤ r) (h' : r < 65536) : encB r = [224 + r / 4096, 128 + r / 64 % 64, 128 + r % 64] := by
  unfold encB; rw [if_neg (by omega), if_neg (by omega), if_pos h']
theorem encB4 {r : Int} (h : 65536 ≤ r) : encB r = [240 + r / 262144, 128 + r / 4096 % 64, 128 + r / 64 % 64, 128 + r % 64] := by
  unfold encB; rw [if_neg (by omega), if_neg (by omega), if_neg (by omega)]

/-- What the reference reckons of k bytes. -/
def vOf (s : ByteArray) (i k : Nat) : Int :=
  if k = 1 then B s i else if k = 2 then ((B s i : Int) - 192) * 64 + B s (i + 1) - 128
  else if k = 3 then ((B s i : Int) - 224) * 4096 + ((B s (i + 1) : Int) - 128) * 64 + B s (i + 2) - 128
  else ((B s i : Int) - 240) * 262144 + ((B s (i + 1) : Int) - 128) * 4096 + ((B s (i + 2) : Int) - 128) * 64 + B s (i + 3) - 128

/-- k bytes from a place on, as numbers. -/
def bytesAt (s : ByteArray) (i k : Nat) : List Int :=
  if k = 1 then [(B s i : Int)] else if k = 2 then [(B s i : Int), B s (i + 1)] else if k = 3 then [(B s i : Int), B s (i + 1), B s (i + 2)]
  else [(B s i : Int), B s (i + 1), B s (i + 2), B s (i + 3)]

def hit (s : ByteArray) (i k : Nat) : Prop := okAt s i = true ∧ (Utf8.decode s i).2 = k

theorem cont_in {s : ByteArray} {k : Nat} (h : cont s k = true) : k < s.size ∧ B s k / 64 = 2 := by simpa [cont] using h

theorem vOf_hit {s : ByteArray} {i k : Nat} (h : hit s i k) : vOf s i k = (Utf8.decode s i).1 ∧ mayB (Utf8.decode s i).1 = true ∧ encB (Utf8.decode s i).1 = bytesAt s i k ∧ 1 ≤ k ∧ k ≤ 4 := by
  obtain ⟨ho, hw⟩ := h
  have lt := B_lt s i
  have lt1 := B_lt s (i + 1)
  have lt2 := B_lt s (i + 2)
  have lt3 := B_lt s (i + 3)
  rcases (by omega : B s i < 128 ∨ (128 ≤ B s i ∧ B s i < 192 ∨ 248 ≤ B s i) ∨ (192 ≤ B s i ∧ B s i < 224) ∨ (224 ≤ B s i ∧ B s i < 240) ∨ (240 ≤ B s i ∧ B s i < 248)) with h | h | h | h | h
  · obtain ⟨e, _⟩ := dec1 h
    rw [e] at hw ⊢
    subst hw
    refine ⟨rfl, by simp [mayB]; omega, ?_, by omega, by omega⟩
    rw [encB1 (by simp; omega)]; rfl
  · rw [dec_lone h] at ho; cases ho
  · cases g : cont s (i + 1)
    · rw [dec2_no h g] at ho; cases ho
    · have := cont_in g
      rcases dec2 h g with ⟨hv, e, _⟩ | ⟨_, e⟩
      · rw [e] at hw ⊢
        subst hw
        have ev : (v2 s i : Int) = ((B s i : Int) - 192) * 64 + B s (i + 1) - 128 := by unfold v2; omega
        refine ⟨ev.symm, by simp [mayB]; omega, ?_, by omega, by omega⟩
        rw [encB2 (by omega) (by simp only [ev]; omega)]
        simp only [ev, bytesAt]
        simp; omega
      · rw [e] at ho; cases ho
  · cases g : cont s (i + 1)
    · rw [dec3_no h (.inl g)] at ho; cases ho
    · cases g2 : cont s (i + 2)
      · rw [dec3_no h (.inr g2)] at ho; cases ho
      · have := cont_in g
        have := cont_in g2
        rcases dec3 h g g2 with ⟨hv, hm, e, _⟩ | ⟨_, e⟩
        · rw [e] at hw ⊢
          subst hw
          have ev : (v3 s i : Int) = ((B s i : Int) - 224) * 4096 + ((B s (i + 1) : Int) - 128) * 64 + B s (i + 2) - 128 := by unfold v3; omega
          refine ⟨ev.symm, hm, ?_, by omega, by omega⟩
          rw [encB3 (by omega) (by simp only [ev]; omega)]
          simp only [ev, bytesAt]
          simp; omega
        · rw [e] at ho; cases ho
  · cases g : cont s (i + 1)
    · rw [dec4_no h (.inl g)] at ho; cases ho
    · cases g2 : cont s (i + 2)
      · rw [dec4_no h (.inr (.inl g2))] at ho; cases ho
      · cases g3 : cont s (i + 3)
        · rw [dec4_no h (.inr (.inr g3))] at ho; cases ho
        · have := cont_in g
          have := cont_in g2
          have := cont_in g3
          rcases dec4 h g g2 g3 with ⟨hv, hm, e, _⟩ | ⟨_, e⟩
          · rw [e] at hw ⊢
            subst hw
            have ev : (v4 s i : Int) = ((B s i : Int) - 240) * 262144 + ((B s (i + 1) : Int) - 128) * 4096 + ((B s (i + 2) : Int) - 128) * 64 + B s (i + 3) - 128 := by unfold v4; omega
            refine ⟨ev.symm, hm, ?_, by omega, by omega⟩
            rw [encB4 (by omega)]
            simp only [ev, bytesAt]
            simp; omega
          · rw [e] at ho; cases ho

theorem may_range {r : Int} (h : mayB r = true) : 0 ≤ r ∧ r ≤ 1114111 ∧ (r < 55296 ∨ 57343 < r) := by
  simp [mayB] at h; omega

theorem vOf_miss {s : ByteArray} {i k : Nat} (h1 : 1 ≤ k) (h4 : k ≤ 4) (hin : i + k ≤ s.size) (hm : mayB (vOf s i k) = true) (he : encB (vOf s i k) = bytesAt s i k) : hit s i k := by
  have hr := may_range hm
  have lt := B_lt s i
  have lt1 := B_lt s (i + 1)
  have lt2 := B_lt s (i + 2)
  have lt3 := B_lt s (i + 3)
  have fin : ∀ {r n : Nat}, Utf8.decode s i = (r, n) → okAt s i = true → n = k → hit s i k := by
    intro r n e ho hn; exact ⟨ho, by rw [e]; exact hn⟩
  rcases (by omega : k = 1 ∨ k = 2 ∨ k = 3 ∨ k = 4) with rfl | rfl | rfl | rfl
  · rw [show vOf s i 1 = (B s i : Int) from rfl] at he hr
    rcases (by omega : (B s i : Int) < 128 ∨ 128 ≤ (B s i : Int)) with a | a
    · obtain ⟨e, ho⟩ := dec1 (s := s) (i := i) (by omega)
      exact fin e ho rfl
    · rw [encB2 a (by omega)] at he
      simp [bytesAt] at he
  · rw [show vOf s i 2 = ((B s i : Int) - 192) * 64 + B s (i + 1) - 128 from rfl] at he hr
    generalize hv : ((B s i : Int) - 192) * 64 + B s (i + 1) - 128 = v at he hr
    rcases (by omega : v < 128 ∨ (128 ≤ v ∧ v < 2048) ∨ (2048 ≤ v ∧ v < 65536) ∨ 65536 ≤ v) with a | ⟨a, b⟩ | ⟨a, b⟩ | a
    · rw [encB1 a] at he; simp [bytesAt] at he
    · rw [encB2 a b] at he
      simp [bytesAt] at he
      obtain ⟨e1, e2⟩ := he
      have h : 192 ≤ B s i ∧ B s i < 224 := by omega
      have g : cont s (i + 1) = true := cont_of (by omega) (by omega)
      rcases dec2 h g with ⟨_, e, ho⟩ | ⟨c, _⟩
      · exact fin e ho rfl
      · unfold v2 at c; omega
    · rw [encB3 a b] at he; simp [bytesAt] at he
    · rw [encB4 a] at he; simp [bytesAt] at he
  · rw [show vOf s i 3 = ((B s i : Int) - 224) * 4096 + ((B s (i + 1) : Int) - 128) * 64 + B s (i + 2) - 128 from rfl] at he hr hm
    generalize hv : ((B s i : Int) - 224) * 4096 + ((B s (i + 1) : Int) - 128) * 64 + B s (i + 2) - 128 = v at he hr hm
    rcases (by omega : v < 128 ∨ (128 ≤ v ∧ v < 2048) ∨ (2048 ≤ v ∧ v < 65536) ∨ 65536 ≤ v) with a | ⟨a, b⟩ | ⟨a, b⟩ | a
    · rw [encB1 a] at he; simp [bytesAt] at he
    · rw [encB2 a b] at he; simp [bytesAt] at he
    · rw [encB3 a b] at he
      simp [bytesAt] at he
      obtain ⟨e1, e2, e3⟩ := he
      have h : 224 ≤ B s i ∧ B s i < 240 := by omega
      have g : cont s (i + 1) = true := cont_of (by omega) (by omega)
      have g2 : cont s (i + 2) = true := cont_of (by omega) (by omega)
      have ev : (v3 s i : Int) = v := by unfold v3; omega
      rcases dec3 h g g2 with ⟨_, _, e, ho⟩ | ⟨c, _⟩
      · exact fin e ho rfl
      · rcases c with c | c
        · omega
        · rw [ev, hm] at c; cases c
    · rw [encB4 a] at he; simp [bytesAt] at he
  · rw [show vOf s i 4 = ((B s i : Int) - 240) * 262144 + ((B s (i + 1) : Int) - 128) * 4096 + ((B s (i + 2) : Int) - 128) * 64 + B s (i + 3) - 128 from rfl] at he hr hm
    generalize hv : ((B s i : Int) - 240) * 262144 + ((B s (i + 1) : Int) - 128) * 4096 + ((B s (i + 2) : Int) - 128) * 64 + B s (i + 3) - 128 = v at he hr hm
    rcases (by omega : v < 128 ∨ (128 ≤ v ∧ v < 2048) ∨ (2048 ≤ v ∧ v < 65536) ∨ 65536 ≤ v) with a | ⟨a, b⟩ | ⟨a, b⟩ | a
    · rw [encB1 a] at he; simp [bytesAt] at he
    · rw [encB2 a b] at he; simp [bytesAt] at he
    · rw [encB3 a b] at he; simp [bytesAt] at he
    · rw [encB4 a] at he
      simp [bytesAt] at he
      obtain ⟨e1, e2, e3, e4⟩ := he
      have h : 240 ≤ B s i ∧ B s i < 248 := by omega
      have g : cont s (i + 1) = true := cont_of (by omega) (by omega)
      have g2 : cont s (i + 2) = true := cont_of (by omega) (by omega)
      have g3 : cont s (i + 3) = true := cont_of (by omega) (by omega)
      have ev : (v4 s i : Int) = v := by unfold v4; omega
      rcases dec4 h g g2 g3 with ⟨_, _, e, ho⟩ | ⟨c, _⟩
      · exact fin e ho rfl
      · rcases c with c | c
        · omega
        · rw [ev, hm] at c; cases c

theorem vOf_range (s : ByteArray) (i k : Nat) : -100000000 ≤ vOf s i k ∧ vOf s i k ≤ 100000000 := by
  have lt := B_lt s i
  have lt1 := B_lt s (i + 1)
  have lt2 := B_lt s (i + 2)
  have lt3 := B_lt s (i + 3)
  unfold vOf
  split
  · omega
  · split
    · omega
    · split <;> omega
end Go.Proofs.YtmlhijlcefogmaaGreatDoor
namespace Go.Proofs.YtmlhijlcefogmaaGreatDoor

/-- A string's bytes. -/
abbrev L (s : ByteArray) : List UInt8 := s.data.toList
theorem L_length (s : ByteArray) : (L s).length = s.size := by simp [L]
theorem toList_L (s : ByteArray) : s.toList = L s := by
  have h := Lib.extract_toList s 0 s.size
  have h2 := Lib.extract_data s 0 s.size
  have e : s.extract 0 s.size = s := by
    apply ByteArray.ext
    apply Array.toList_inj.1
    rw [h2, List.drop_zero, List.take_of_length_le (by rw [← L_length]; exact Nat.le_refl _)]
  rw [e] at h
  rw [h, List.drop_zero, List.take_of_length_le (by rw [← L_length]; exact Nat.le_refl _)]
theorem str_beq (a b : ByteArray) : (a.toList == b.toList) = decide (L a = L b) := by
  rw [toList_L, toList_L, Bool.eq_iff_iff]
  simp
theorem B_of (s : ByteArray) (k : Nat) (h : k < s.size) : B s k = (s[k]'h).toNat := by
  have := getB s k h
  omega

def num (l : List UInt8) : List Int := l.map fun c => (c.toNat : Int)
theorem num_inj {a b : List UInt8} (h : num a = num b) : a = b := by
  induction a generalizing b with
  | nil => cases b with
    | nil => rfl
    | cons _ _ => simp [num] at h
  | cons x a ih => cases b with
    | nil => simp [num] at h
    | cons y b =>
      simp only [num, List.map_cons, List.cons.injEq] at h
      have := ih h.2
      subst this
      have hx : x = y := UInt8.toNat_inj.1 (by omega)
      rw [hx]

theorem num_strOf {xs : List Int} (h : ∀ x ∈ xs, 0 ≤ x ∧ x < 256) : num (L (strOfNums xs)) = xs := by
  rw [L, strOfNums_data, num, List.map_map]
  conv => rhs; rw [← List.map_id xs]
  apply List.map_congr_left
  intro x hx
  have := h x hx
  simp
  omega

theorem encB_range {r : Int} (h0 : 0 ≤ r) (h1 : r ≤ 1114111) : ∀ x ∈ encB r, 0 ≤ x ∧ x < 256 := by
  rcases (by omega : r < 128 ∨ (128 ≤ r ∧ r < 2048) ∨ (2048 ≤ r ∧ r < 65536) ∨ 65536 ≤ r) with a | ⟨a, b⟩ | ⟨a, b⟩ | a
  · rw [encB1 a]; simp; omega
  · rw [encB2 a b]; simp; omega
  · rw [encB3 a b]; simp; omega
  · rw [encB4 a]; simp; omega

theorem num_take_succ (s : ByteArray) (i : Nat) (h : i < s.size) (k : Nat) : num (((L s).drop i).take (k + 1)) = (B s i : Int) :: num (((L s).drop (i + 1)).take k) := by
  have hl : i < (L s).length := by rw [L_length]; exact h
  rw [List.drop_eq_getElem_cons hl, List.take_succ_cons]
  have e : (L s)[i] = s[i]'h := Go.Proofs.byte_at' s i h hl
  rw [e, B_of s i h]
  rfl

theorem num_extract {s : ByteArray} {i k : Nat} (h1 : 1 ≤ k) (h4 : k ≤ 4) (hin : i + k ≤ s.size) : num (L (s.extract i (i + k))) = bytesAt s i k := by
  rw [L, Lib.extract_data, show i + k - i = k by omega]
  rcases (by omega : k = 1 ∨ k = 2 ∨ k = 3 ∨ k = 4) with rfl | rfl | rfl | rfl
  · rw [num_take_succ s i (by omega)]; rfl
  · rw [num_take_succ s i (by omega), num_take_succ s (i + 1) (by omega)]; rfl
  · rw [num_take_succ s i (by omega), num_take_succ s (i + 1) (by omega), num_take_succ s (i + 1 + 1) (by omega)]; rfl
  · rw [num_take_succ s i (by omega), num_take_succ s (i + 1) (by omega), num_take_succ s (i + 1 + 1) (by omega), num_take_succ s (i + 1 + 1 + 1) (by omega)]; rfl

theorem enc_beq {s : ByteArray} {i k : Nat} {v : Int} (h1 : 1 ≤ k) (h4 : k ≤ 4) (hin : i + k ≤ s.size) (h0 : 0 ≤ v) (hv : v ≤ 1114111) :
    ((strOfNums (encB v)).toList == (s.extract i (i + k)).toList) = decide (encB v = bytesAt s i k) := by
  rw [str_beq, Bool.eq_iff_iff, decide_eq_true_eq, decide_eq_true_eq, ← num_extract h1 h4 hin]
  constructor
  · intro h
    rw [← h, num_strOf (encB_range h0 hv)]
  · intro h
    apply num_inj
    rw [num_strOf (encB_range h0 hv), h]
end Go.Proofs.YtmlhijlcefogmaaGreatDoor
