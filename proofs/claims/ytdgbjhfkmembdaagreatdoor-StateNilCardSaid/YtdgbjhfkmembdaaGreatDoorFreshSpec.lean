/-
  A path that clashes with none, as a plain function; that it is found within as many steps as there are taken paths. No conditions; no program.
-/
import Derived.Test.YtdgbjhfkmembdaaGreatDoorPathSpec
namespace Go.Proofs.YtdgbjhfkmembdaaGreatDoor

def valOf (l : List UInt8) : Nat := l.foldl (fun a c => 10 * a + (c.toNat - 48)) 0
theorem valOf_snoc (l : List UInt8) (c : UInt8) : valOf (l ++ [c]) = 10 * valOf l + (c.toNat - 48) := by simp [valOf]
theorem digit_toNat {d : Nat} (h : d < 10) : (UInt8.ofNat (48 + d)).toNat = 48 + d := by
  simp; omega
theorem decDigits_step {u : Nat} (h : ¬ u < 10) : Lib.decDigits u = Lib.decDigits (u / 10) ++ [UInt8.ofNat (48 + u % 10)] := by
  rw [Lib.decDigits, dif_neg h]
theorem valOf_digits : ∀ (n u : Nat), u ≤ n → valOf (Lib.decDigits u) = u := by
  intro n
  induction n with
  | zero => intro u hu; rw [show u = 0 by omega, Lib.decDigits_one (by omega)]; decide
  | succ n ih =>
    intro u hu
    by_cases h : u < 10
    · rw [Lib.decDigits_one h]
      have := valOf_snoc [] (UInt8.ofNat (48 + u))
      rw [List.nil_append] at this
      rw [this, digit_toNat h]
      simp [valOf]
    · rw [decDigits_step h, valOf_snoc, ih (u / 10) (by omega), digit_toNat (by omega)]
      omega
theorem decDigits_inj {a b : Nat} (h : Lib.decDigits a = Lib.decDigits b) : a = b := by
  have h1 := valOf_digits a a (Nat.le_refl _)
  have h2 := valOf_digits b b (Nat.le_refl _)
  rw [h] at h1; omega
theorem decDigits_mem : ∀ (n u : Nat), u ≤ n → ∀ c ∈ Lib.decDigits u, 48 ≤ c.toNat ∧ c.toNat ≤ 57 := by
  intro n
  induction n with
  | zero => intro u hu; rw [show u = 0 by omega, Lib.decDigits_one (by omega)]; decide
  | succ n ih =>
    intro u hu c hc
    by_cases h : u < 10
    · rw [Lib.decDigits_one h] at hc
      simp only [List.mem_singleton] at hc
      subst hc
      rw [digit_toNat h]; omega
    · rw [decDigits_step h] at hc
      rcases List.mem_append.1 hc with hc | hc
      · exact ih (u / 10) (by omega) c hc
      · simp only [List.mem_singleton] at hc
        subst hc
        rw [digit_toNat (by omega)]; omega

/-- What stands ahead of the first slash. -/
def firstc (l : List UInt8) : List UInt8 := l.takeWhile (· != 47)
def restc (l : List UInt8) : List UInt8 := l.dropWhile (· != 47)
theorem first_rest (l : List UInt8) : firstc l ++ restc l = l := List.takeWhile_append_dropWhile
theorem firstc_no (l : List UInt8) : (47 : UInt8) ∉ firstc l := by
  induction l with
  | nil => simp [firstc]
  | cons c l ih =>
    unfold firstc at ih ⊢
    rw [List.takeWhile_cons]
    split
    · rename_i hc
      simp only [List.mem_cons, not_or]
      exact ⟨fun e => by rw [← e] at hc; simp at hc, ih⟩
    · simp
theorem firstc_app {a : List UInt8} (ha : (47 : UInt8) ∉ a) (b : List UInt8) : firstc (a ++ 47 :: b) = a := by
  unfold firstc
  rw [List.takeWhile_append_of_pos]
  · simp
  · intro x hx
    simp only [bne_iff_ne]
    intro e; exact ha (e ▸ hx)
theorem firstc_lone {a : List UInt8} (ha : (47 : UInt8) ∉ a) : firstc a = a := by
  have := List.takeWhile_append_of_pos (p := (· != (47 : UInt8))) (l₁ := a) (l₂ := []) (by
    intro x hx
    simp only [bne_iff_ne]
    intro e; exact ha (e ▸ hx))
  simpa [firstc] using this
theorem restc_form (l : List UInt8) : restc l = [] ∨ ∃ b, restc l = 47 :: b := by
  rcases slash_cases l with h | ⟨a, b, rfl, ha⟩
  · left
    have := first_rest l
    rw [firstc_lone h] at this
    have := congrArg List.length this
    simp at this
    exact this
  · right
    have := first_rest (a ++ 47 :: b)
    rw [firstc_app ha] at this
    exact ⟨b, List.append_cancel_left this⟩

theorem under_first {a b : List UInt8} (h : underB a b = true) : firstc a = firstc b := by
  unfold underB at h
  rw [List.isPrefixOf_iff_prefix] at h
  obtain ⟨t, rfl⟩ := h
  rw [List.append_assoc]
  rcases slash_cases a with ha | ⟨x, y, rfl, hx⟩
  · rw [firstc_lone ha]; exact (firstc_app ha _).symm
  · rw [firstc_app hx, List.append_assoc]; exact (firstc_app hx _).symm
theorem clash_first {a b : List UInt8} (h : clashB a b = true) : firstc a = firstc b := by
  unfold clashB at h
  simp only [Bool.or_eq_true, decide_eq_true_eq] at h
  rcases h with (h | h) | h
  · rw [h]
  · exact under_first h
  · exact (under_first h).symm

/-- The candidate of a number. -/
def candS (l : List UInt8) (n : Nat) : List UInt8 := firstc l ++ [126] ++ Lib.decDigits n ++ restc l
theorem cand_first (l : List UInt8) (n : Nat) : firstc (candS l n) = firstc l ++ [126] ++ Lib.decDigits n := by
  have hno : (47 : UInt8) ∉ firstc l ++ [126] ++ Lib.decDigits n := by
    intro h
    rcases List.mem_append.1 h with h | h
    · rcases List.mem_append.1 h with h | h
      · exact firstc_no l h
      · simp at h
    · have := decDigits_mem n n (Nat.le_refl _) _ h
      simp at this
  unfold candS
  rcases restc_form l with h | ⟨b, h⟩
  · rw [h, List.append_nil, firstc_lone hno]
  · rw [h, firstc_app hno]
theorem cand_inj {l : List UInt8} {a b : Nat} (h : firstc (candS l a) = firstc (candS l b)) : a = b := by
  rw [cand_first, cand_first] at h
  exact decDigits_inj (List.append_cancel_left h)

def clashesB (t : List UInt8) (taken : List (List UInt8)) : Bool := taken.any (clashB t)

theorem pigeon {α : Type} [DecidableEq α] (f : Nat → α) (hf : ∀ a b, f a = f b → a = b) : ∀ (T : List α) (J : List Nat), J.Nodup → (∀ j ∈ J, f j ∈ T) → J.length ≤ T.length := by
  intro T
  induction T with
  | nil =>
    intro J _ h
    cases J with
    | nil => simp
    | cons j J => exact absurd (h j (by simp)) (by simp)
  | cons t T ih =>
    intro J hJ h
    by_cases he : ∃ j ∈ J, f j = t
    · obtain ⟨j0, hj0, hf0⟩ := he
      have h1 := ih (J.erase j0) (hJ.erase j0) (by
        intro j hj
        have hm := (List.Nodup.mem_erase_iff hJ).1 hj
        rcases List.mem_cons.1 (h j hm.2) with e | e
        · exact absurd (hf _ _ (e.trans hf0.symm)) hm.1
        · exact e)
      rw [List.length_erase_of_mem hj0] at h1
      simp only [List.length_cons]; omega
    · have h1 := ih J hJ (by
        intro j hj
        rcases List.mem_cons.1 (h j hj) with e | e
        · exact absurd ⟨j, hj, e⟩ he
        · exact e)
      simp only [List.length_cons]; omega

/-- Candidates that clash are no more than the taken ones. -/
theorem cand_few {l : List UInt8} {taken : List (List UInt8)} {m : Nat} (h : ∀ j, 1 ≤ j → j ≤ m → clashesB (candS l j) taken = true) : m ≤ taken.length := by
  have := pigeon (fun j => firstc (candS l (j + 1))) (fun a b e => by have := cand_inj e; omega) (taken.map firstc) (List.range m) List.nodup_range (by
    intro j hj
    have hj' : j < m := by simpa using hj
    have hc := h (j + 1) (by omega) (by omega)
    unfold clashesB at hc
    rw [List.any_eq_true] at hc
    obtain ⟨o, ho, hco⟩ := hc
    rw [show firstc (candS l (j + 1)) = firstc o from clash_first hco]
    exact List.mem_map_of_mem ho)
  simpa using this

/-- Tries on, at number n. -/
def freshGo (l : List UInt8) (taken : List (List UInt8)) : Nat → Nat → List UInt8 → List UInt8
  | 0, _, t => t
  | f + 1, n, t => if clashesB t taken then freshGo l taken f (n + 1) (candS l n) else t
/-- A path that clashes with none. -/
def freshS (l : List UInt8) (taken : List (List UInt8)) : List UInt8 := freshGo l taken (taken.length + 2) 1 l

theorem freshGo_clear {l : List UInt8} {taken : List (List UInt8)} : ∀ (f n : Nat), n + f = taken.length + 3 → 2 ≤ n → (∀ j, 1 ≤ j → j + 1 < n → clashesB (candS l j) taken = true) →
    clashesB (freshGo l taken f n (candS l (n - 1))) taken = false := by
  intro f
  induction f with
  | zero =>
    intro n hn h2 hc
    cases hcl : clashesB (candS l (n - 1)) taken
    · simpa [freshGo] using hcl
    · have := cand_few (l := l) (taken := taken) (m := n - 1) (by
        intro j h1 hj
        rcases (by omega : j + 1 < n ∨ j = n - 1) with a | a
        · exact hc j h1 a
        · rw [a]; exact hcl)
      omega
  | succ f ih =>
    intro n hn h2 hc
    unfold freshGo
    split
    · rename_i hcl
      have := ih (n + 1) (by omega) (by omega) (by
        intro j h1 hj
        rcases (by omega : j + 1 < n ∨ j = n - 1) with a | a
        · exact hc j h1 a
        · rw [a]; exact hcl)
      rwa [Nat.add_sub_cancel] at this
    · rename_i hcl
      simpa using hcl
/-- What is fresh clashes with none. -/
theorem fresh_clear (l : List UInt8) (taken : List (List UInt8)) : clashesB (freshS l taken) taken = false := by
  unfold freshS
  rw [freshGo]
  split
  · have := freshGo_clear (l := l) (taken := taken) (taken.length + 1) 2 (by omega) (by omega) (by intro j h1 h2; omega)
    simpa using this
  · rename_i h
    simpa using h
end Go.Proofs.YtdgbjhfkmembdaaGreatDoor
