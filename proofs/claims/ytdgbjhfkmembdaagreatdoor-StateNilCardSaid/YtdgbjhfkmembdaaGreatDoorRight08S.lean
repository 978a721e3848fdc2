/-
  Operations one behind the other: what is made, which may be. No conditions; no program runs here.
-/
import Derived.Test.YtdgbjhfkmembdaaGreatDoorObjBackS
namespace Go.Proofs.YtdgbjhfkmembdaaGreatDoor
set_option linter.unusedVariables false

def madeL (l : List OpD) : List MadeD := l.flatMap madeB
theorem opsB_snoc (deps : List (List UInt8)) (x : OpD) : ∀ (l : List OpD) (mk : List MadeD), opsB deps mk (l ++ [x]) = (opsB deps mk l && opB deps (mk ++ madeL l) x)
  | [], mk => by simp [opsB, madeL]
  | y :: l, mk => by
    rw [List.cons_append, opsB, opsB, opsB_snoc deps x l, Bool.and_assoc]
    simp [madeL]
theorem opsB_take {deps : List (List UInt8)} {mk : List MadeD} {l : List OpD} (h : opsB deps mk l = true) : ∀ i, opsB deps mk (l.take i) = true := by
  intro i
  induction l generalizing mk i with
  | nil => simpa using h
  | cons x l ih =>
    cases i with
    | zero => rfl
    | succ i =>
      rw [opsB, Bool.and_eq_true] at h
      rw [List.take_succ_cons, opsB, h.1, ih h.2 i]; rfl
/-- One operation more. -/
theorem opsB_next {deps : List (List UInt8)} {l : List OpD} {i : Nat} (hi : i < l.length) : opsB deps [] (l.take (i + 1)) = (opsB deps [] (l.take i) && opB deps (madeL (l.take i)) l[i]) := by
  rw [List.take_succ_eq_append_getElem hi, opsB_snoc, List.nil_append]
theorem opsB_stop {deps : List (List UInt8)} {l : List OpD} {i : Nat} (hi : i < l.length) (h : opB deps (madeL (l.take i)) l[i] = false) : opsB deps [] l = false := by
  rw [Bool.eq_false_iff]
  intro q
  have := opsB_take q (i + 1)
  rw [opsB_next hi, h, Bool.and_false] at this
  cases this
theorem madeL_next {l : List OpD} {i : Nat} (hi : i < l.length) : madeL (l.take (i + 1)) = madeL (l.take i) ++ madeB l[i] := by
  rw [List.take_succ_eq_append_getElem hi]
  unfold madeL
  rw [List.flatMap_append, List.flatMap_singleton]
theorem runesAt_len (s : ByteArray) : ∀ (n pos : Nat) (l : List Nat), s.size - pos ≤ n → runesAt s pos = some l → l.length ≤ s.size - pos
  | n, pos, l, h, e => by
    by_cases hp : pos < s.size
    · cases n with
      | zero => omega
      | succ n =>
        cases ho : okAt s pos with
        | false => rw [runesAt_bad hp ho] at e; cases e
        | true =>
          rw [runesAt_ok hp ho] at e
          obtain ⟨t, ht, rfl⟩ := Option.map_eq_some_iff.1 e
          have hd := dec_in hp
          have := runesAt_len s n _ t (by omega) ht
          simp
          omega
    · rw [runesAt_end (by omega)] at e
      cases e
      simp
theorem runesN_le (s : ByteArray) : runesN s ≤ s.size := by
  unfold runesN
  rcases h : runesOf s with _ | l
  · exact Nat.zero_le _
  · exact runesAt_len s _ 0 l (Nat.le_refl _) h
/-- So many runes from a place on. -/
def runesFrom (s : ByteArray) (k : Nat) : Nat := match runesAt s k with
  | some l => l.length
  | none => 0
theorem runesFrom_zero (s : ByteArray) : runesFrom s 0 = runesN s := rfl
theorem runesFrom_end {s : ByteArray} {k : Nat} (h : s.size ≤ k) : runesFrom s k = 0 := by
  unfold runesFrom; rw [runesAt_end h]; rfl
theorem runesFrom_next {s : ByteArray} {k : Nat} (hk : k < s.size) (ho : okAt s k = true) (h : (runesAt s (k + (Utf8.decode s k).2)).isSome = true) : runesFrom s k = runesFrom s (k + (Utf8.decode s k).2) + 1 := by
  unfold runesFrom
  rw [runesAt_ok hk ho]
  rcases hr : runesAt s (k + (Utf8.decode s k).2) with _ | l
  · rw [hr] at h; cases h
  · simp
/-- What is made stays small. -/
theorem madeB_len {deps : List (List UInt8)} {mk : List MadeD} {x : OpD} (h : opB deps mk x = true) : (madeB x).length ≤ 4096 := by
  unfold madeB
  split
  · simp
  · split
    · rename_i hk
      rw [List.length_replicate]
      have hp : partsOf x.1 = some (true, true, true, false, false) := by rw [hk]; rfl
      unfold opB at h
      rw [hp] at h
      simp only [hk, Bool.and_eq_true] at h
      have h2 := h.2
      simp only [decide_true, Bool.not_true, Bool.false_or, Bool.and_eq_true] at h2
      have := fileB_size h2.2
      have := runesN_le x.2.2.2.1
      omega
    · simp
theorem madeL_len {deps : List (List UInt8)} : ∀ {l : List OpD} {mk : List MadeD}, opsB deps mk l = true → (madeL l).length ≤ l.length * 4096
  | [], _, _ => by simp [madeL]
  | x :: l, mk, h => by
    rw [opsB, Bool.and_eq_true] at h
    have h1 := madeB_len h.1
    have h2 := madeL_len h.2
    simp only [madeL, List.flatMap_cons, List.length_append, List.length_cons] at h2 ⊢
    omega
end Go.Proofs.YtdgbjhfkmembdaaGreatDoor
