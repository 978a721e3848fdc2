/-
  Numbers, texts and ids as bytes, as plain functions: written, read; what is read is just what was written. No conditions; no program.
-/
import Derived.Test.YtdgbjhfkmembdaaGreatDoorStr
namespace Go.Proofs.YtdgbjhfkmembdaaGreatDoor

/-- A number's bytes: seven bits a byte, the lowest first. -/
def numB (n : Nat) : List UInt8 := if h : n < 128 then [UInt8.ofNat n] else UInt8.ofNat (n % 128 + 128) :: numB (n / 128)
termination_by n
decreasing_by omega
theorem numB_small {n : Nat} (h : n < 128) : numB n = [UInt8.ofNat n] := by rw [numB, dif_pos h]
theorem numB_big {n : Nat} (h : ¬ n < 128) : numB n = UInt8.ofNat (n % 128 + 128) :: numB (n / 128) := by rw [numB, dif_neg h]

/-- A number read, i bytes behind its beginning: what is left of it, and of how many bytes. -/
def getGo (i : Nat) : List UInt8 → Option (Nat × Nat)
  | [] => none
  | c :: r => if 128 ≤ c.toNat then (if 8 ≤ i then none else match getGo (i + 1) r with | some (n, k) => some (c.toNat - 128 + 128 * n, k + 1) | none => none)
    else if c.toNat = 0 ∧ 0 < i then none else some (c.toNat, 1)
def getS (l : List UInt8) : Option (Nat × Nat) := getGo 0 l

theorem u8_of {n : Nat} (h : n < 256) : (UInt8.ofNat n).toNat = n := by simp; omega

theorem getGo_k : ∀ (l : List UInt8) (i n k : Nat), getGo i l = some (n, k) → 1 ≤ k ∧ k ≤ l.length ∧ i + k ≤ 9 ∨ (8 < i ∧ k = 1)
  | [], _, _, _, h => by cases h
  | c :: r, i, n, k, h => by
    unfold getGo at h
    split at h
    · split at h
      · cases h
      · rename_i hi
        rcases hg : getGo (i + 1) r with _ | ⟨n', k'⟩
        · rw [hg] at h; cases h
        · rw [hg] at h
          cases h
          rcases getGo_k r (i + 1) n' k' hg with ⟨h1, h2, h3⟩ | ⟨h1, h2⟩
          · left; simp; omega
          · omega
    · split at h
      · cases h
      · cases h
        rcases (by omega : i ≤ 8 ∨ 8 < i) with e | e
        · left; simp; omega
        · right; exact ⟨e, rfl⟩
theorem getS_k {l : List UInt8} {n k : Nat} (h : getS l = some (n, k)) : 1 ≤ k ∧ k ≤ l.length ∧ k ≤ 9 := by
  rcases getGo_k l 0 n k h with ⟨h1, h2, h3⟩ | ⟨h1, _⟩
  · exact ⟨h1, h2, by omega⟩
  · omega
theorem getGo_bound : ∀ (l : List UInt8) (i n k : Nat), getGo i l = some (n, k) → n < 128 ^ k
  | [], _, _, _, h => by cases h
  | c :: r, i, n, k, h => by
    unfold getGo at h
    split at h
    · split at h
      · cases h
      · rcases hg : getGo (i + 1) r with _ | ⟨n', k'⟩
        · rw [hg] at h; cases h
        · rw [hg] at h
          cases h
          have := getGo_bound r (i + 1) n' k' hg
          have hc := c.toNat_lt
          rw [Nat.pow_succ]
          omega
    · split at h
      · cases h
      · cases h
        rw [Nat.pow_one]; omega
theorem getS_bound {l : List UInt8} {n k : Nat} (h : getS l = some (n, k)) : n < 9223372036854775808 := by
  have h1 := getGo_bound l 0 n k h
  have h2 := (getS_k h).2.2
  have : 128 ^ k ≤ 128 ^ 9 := Nat.pow_le_pow_right (by omega) h2
  have e : 128 ^ 9 = 9223372036854775808 := by decide
  omega
theorem numB_ne (n : Nat) : numB n ≠ [] := by
  unfold numB
  split <;> simp
theorem numB_pos (n : Nat) : 1 ≤ (numB n).length := by
  have := List.length_pos_iff.2 (numB_ne n)
  exact this
theorem numB_len : ∀ (k n : Nat), 1 ≤ k → n < 128 ^ k → (numB n).length ≤ k
  | 0, _, h, _ => by omega
  | k + 1, n, _, h => by
    by_cases hn : n < 128
    · rw [numB_small hn]; simp
    · rw [numB_big hn]
      rcases Nat.eq_zero_or_pos k with e | e
      · subst e; simp at h; omega
      · have := numB_len k (n / 128) e (by rw [Nat.pow_succ] at h; omega)
        simp; omega
/-- What was written is read. -/
theorem getGo_num : ∀ (k n i : Nat) (r : List UInt8), 1 ≤ k → n < 128 ^ k → i + k ≤ 9 → (0 < i → 0 < n) → getGo i (numB n ++ r) = some (n, (numB n).length)
  | 0, _, _, _, h, _, _, _ => by omega
  | k + 1, n, i, r, _, h, hi, h0 => by
    by_cases hn : n < 128
    · rw [numB_small hn]
      unfold getGo
      simp only [List.cons_append, List.nil_append]
      rw [u8_of (by omega), if_neg (by omega), if_neg (by omega)]
      rfl
    · rw [numB_big hn]
      unfold getGo
      simp only [List.cons_append]
      have hk : 1 ≤ k := by
        rcases Nat.eq_zero_or_pos k with e | e
        · subst e; simp at h; omega
        · exact e
      rw [u8_of (by omega), if_pos (by omega), if_neg (by omega), getGo_num k (n / 128) (i + 1) r hk (by rw [Nat.pow_succ] at h; omega) (by omega) (by omega)]
      simp only [List.length_cons, Option.some.injEq, Prod.mk.injEq, and_true]
      omega
theorem getS_num {n : Nat} (h : n < 9223372036854775808) (r : List UInt8) : getS (numB n ++ r) = some (n, (numB n).length) :=
  getGo_num 9 n 0 r (by omega) (by have e : 128 ^ 9 = 9223372036854775808 := by decide
                                   omega) (by omega) (by omega)
/-- What is read was written so. -/
theorem num_getGo : ∀ (l : List UInt8) (i n k : Nat), getGo i l = some (n, k) → l.take k = numB n ∧ (0 < i → 0 < n)
  | [], _, _, _, h => by cases h
  | c :: r, i, n, k, h => by
    have hc := c.toNat_lt
    unfold getGo at h
    split at h
    · rename_i h128
      split at h
      · cases h
      · rcases hg : getGo (i + 1) r with _ | ⟨n', k'⟩
        · rw [hg] at h; cases h
        · rw [hg] at h
          cases h
          obtain ⟨h1, h2⟩ := num_getGo r (i + 1) n' k' hg
          have h3 := h2 (by omega)
          refine ⟨?_, fun _ => by omega⟩
          rw [List.take_succ_cons, h1, numB_big (n := c.toNat - 128 + 128 * n') (by omega)]
          congr 1
          · apply UInt8.toNat_inj.1
            rw [u8_of (by omega)]
            omega
          · congr 1
            omega
    · split at h
      · cases h
      · cases h
        refine ⟨?_, by omega⟩
        rw [numB_small (by omega)]
        simp
theorem num_getS {l : List UInt8} {n k : Nat} (h : getS l = some (n, k)) : l.take k = numB n := (num_getGo l 0 n k h).1
theorem numB_inj {a b : Nat} (ha : a < 9223372036854775808) (hb : b < 9223372036854775808) {r s : List UInt8} (h : numB a ++ r = numB b ++ s) : a = b ∧ r = s := by
  have h1 := getS_num ha r
  rw [h, getS_num hb s] at h1
  simp only [Option.some.injEq, Prod.mk.injEq] at h1
  obtain ⟨rfl, _⟩ := h1
  exact ⟨rfl, List.append_cancel_left h⟩

/-- A text's bytes: their number, they. -/
def textB (l : List UInt8) : List UInt8 := numB l.length ++ l
/-- A text read: it, and of how many bytes it was; an error's number. -/
def getTextS (l : List UInt8) (most : Nat) : Option (List UInt8 × Nat) :=
  match getS l with
  | some (n, k) => if most < n then none else if l.length - k < n then none else some ((l.drop k).take n, k + n)
  | none => none
theorem getTextS_text {t : List UInt8} {most : Nat} (hm : t.length ≤ most) (h : t.length < 9223372036854775808) (r : List UInt8) : getTextS (textB t ++ r) most = some (t, (textB t).length) := by
  unfold getTextS textB
  rw [List.append_assoc, getS_num h]
  simp only
  have e : (numB t.length ++ (t ++ r)).drop (numB t.length).length = t ++ r := List.drop_left
  rw [if_neg (by omega), if_neg (by simp), e]
  simp
theorem text_getTextS {l t : List UInt8} {most k : Nat} (h : getTextS l most = some (t, k)) : l.take k = textB t ∧ k ≤ l.length ∧ t.length ≤ most := by
  unfold getTextS at h
  rcases hg : getS l with _ | ⟨n, j⟩
  · rw [hg] at h; cases h
  · rw [hg] at h
    simp only at h
    split at h
    · cases h
    · split at h
      · cases h
      · cases h
        have h1 := num_getS hg
        have h2 := getS_k hg
        have hlen : ((l.drop j).take n).length = n := by rw [List.length_take, List.length_drop]; omega
        refine ⟨?_, by omega, by omega⟩
        unfold textB
        rw [hlen, ← h1, List.take_add]
end Go.Proofs.YtdgbjhfkmembdaaGreatDoor
