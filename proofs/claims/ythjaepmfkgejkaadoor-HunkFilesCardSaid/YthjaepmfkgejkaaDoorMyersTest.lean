/-
  What the search's lists say of the whole's cost and of each move. No conditions; no program.
-/
import Derived.Test.YthjaepmfkgejkaaDoorMyersSpec
namespace Go.Proofs.YthjaepmfkgejkaaDoor
set_option linter.unusedVariables false

def leastS (a b : List Int) (d : Nat) (l : List Nat) (k : Int) : Nat :=
  if k - dg a b d 0 < 0 ∨ (k - dg a b d 0) % 2 ≠ 0 ∨ (l.length : Int) ≤ (k - dg a b d 0) / 2 then never else l.getD ((k - dg a b d 0) / 2).toNat never
section
variable {a b : List Int} {d i j : Nat} {k : Int}
theorem least_sound (h : leastS a b d (lst a b d) k ≠ never) : R a b d k (leastS a b d (lst a b d) k) := by
  unfold leastS at h ⊢
  split at h
  · exact absurd rfl h
  · rename_i hc
    rw [if_neg hc]
    rw [lst_length] at hc
    have h0 : dg a b d 0 = (a.length : Int) - b.length - d := by unfold dg; omega
    have e : dg a b d ((k - dg a b d 0) / 2).toNat = k := by
      have h1 : dg a b d ((k - dg a b d 0) / 2).toNat = (a.length : Int) - b.length - d + 2 * ((k - dg a b d 0) / 2).toNat := rfl
      omega
    have := lst_sound d ((k - dg a b d 0) / 2).toNat (by omega) h
    rwa [e] at this
theorem least_least (hn : a.length < never) (hD : d + k.natAbs ≤ C a b 0 0) {x : Nat} (hx : R a b d k x) (hp : (k - dg a b d 0) % 2 = 0) : leastS a b d (lst a b d) k ≤ x := by
  have hf := hx.far
  have h0 : dg a b d 0 = (a.length : Int) - b.length - d := by unfold dg; omega
  unfold leastS
  rw [lst_length, if_neg (by omega)]
  have e : dg a b d ((k - dg a b d 0) / 2).toNat = k := by
    have h1 : dg a b d ((k - dg a b d 0) / 2).toNat = (a.length : Int) - b.length - d + 2 * ((k - dg a b d 0) / 2).toNat := rfl
    omega
  exact lst_least hn d ((k - dg a b d 0) / 2).toNat (by omega) (by rw [e]; exact hD) x (by rw [e]; exact hx)
/-- The whole's cost is found where the beginnings are reached. -/
theorem least_zero (hn : a.length < never) (hd : d ≤ C a b 0 0) : leastS a b d (lst a b d) 0 = 0 ↔ d = C a b 0 0 := by
  have hf := C_far (a := a) (b := b) (i := 0) (j := 0) (by omega) (by omega)
  constructor
  · intro h
    have hs := least_sound (a := a) (b := b) (d := d) (k := 0) (by rw [h]; decide)
    rw [h] at hs
    have := hs.2
    simp at this
    omega
  · rintro rfl
    have h0 : dg a b (C a b 0 0) 0 = (a.length : Int) - b.length - C a b 0 0 := by unfold dg; omega
    have := least_least (a := a) (b := b) (d := C a b 0 0) (k := 0) hn (by simp) (x := 0) ⟨⟨by omega, by omega, by omega⟩, by simp⟩ (by rw [h0]; omega)
    omega
/-- Dropping is on a way of least cost just if the list says so. -/
theorem least_test (hn : a.length < never) (s : Nat) (hi : i < a.length) (hj : j ≤ b.length) (hne : a[i]? ≠ b[j]?) (hs : s + C a b i j = C a b 0 0) (h1 : (i : Int) - j ≤ s) (h2 : (j : Int) - i ≤ s) :
    leastS a b (C a b i j - 1) (lst a b (C a b i j - 1)) ((i : Int) + 1 - j) ≤ i + 1 ↔ (j = b.length ∨ C a b (i + 1) j ≤ C a b i (j + 1)) := by
  have hc : (j = b.length ∧ C a b i j = C a b (i + 1) j + 1) ∨ (j < b.length ∧ C a b i j = 1 + min (C a b (i + 1) j) (C a b i (j + 1))) := by
    rcases (by omega : j = b.length ∨ j < b.length) with h | h
    · left
      refine ⟨h, ?_⟩
      rw [C_end' h, C_end' h]
      omega
    · right
      refine ⟨h, C_ne hi h ?_⟩
      rw [List.getElem?_eq_getElem hi, List.getElem?_eq_getElem h] at hne
      exact fun e => hne (by rw [e])
  have ej : (((i + 1 : Nat) : Int) - ((i : Int) + 1 - j)).toNat = j := by omega
  have hf := C_far (a := a) (b := b) (i := i + 1) (j := j) (by omega) hj
  constructor
  · intro h
    have hs' := least_sound (a := a) (b := b) (d := C a b i j - 1) (k := (i : Int) + 1 - j) (by unfold never at *; omega)
    have hr := (hs'.up (i + 1) h (by omega) (by omega)).2
    rw [ej] at hr
    rcases hc with ⟨hc, _⟩ | ⟨hc, e⟩
    · exact .inl hc
    · right; omega
  · intro h
    have hr : C a b (i + 1) j = C a b i j - 1 := by
      rcases hc with ⟨hc, e⟩ | ⟨hc, e⟩
      · omega
      · rcases h with h | h <;> omega
    have hd0 : dg a b (C a b i j - 1) 0 = (a.length : Int) - b.length - (C a b i j - 1 : Nat) := by unfold dg; omega
    refine least_least hn (by omega) ⟨⟨by omega, by omega, by omega⟩, by rw [ej]; omega⟩ ?_
    rw [hd0]
    omega
end
end Go.Proofs.YthjaepmfkgejkaaDoor
