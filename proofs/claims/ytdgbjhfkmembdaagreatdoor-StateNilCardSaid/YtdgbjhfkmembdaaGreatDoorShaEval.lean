/-
  The sum of bytes, so that it can be worked out. Conditions: none.
-/
import Derived.Test.YtdgbjhfkmembdaaGreatDoorShaSpec
namespace Go.Proofs.YtdgbjhfkmembdaaGreatDoor
open Go.RowKit
set_option linter.unusedVariables false

/-- The next word, from those before (the last one first). -/
def nextW (l : List UInt8) (a t : Nat) (w : List Int) : Int :=
  if t < 16 then wordS (byteAt l (a + 4 * t)) (byteAt l (a + 4 * t + 1)) (byteAt l (a + 4 * t + 2)) (byteAt l (a + 4 * t + 3))
  else addS (addS (addS (xorS (xorS (rotS 17 (w.getD 1 0)) (rotS 19 (w.getD 1 0))) (w.getD 1 0 / 1024)) (w.getD 6 0)) (xorS (xorS (rotS 7 (w.getD 14 0)) (rotS 18 (w.getD 14 0))) (w.getD 14 0 / 8))) (w.getD 15 0)
def nextR (t : Nat) (x : Int) (p : St8 × List Int) : St8 × List Int := (stepS p.1 (keyS t) x, x :: p.2)
def runL (l : List UInt8) (a : Nat) (s : St8) : Nat → St8 × List Int
  | 0 => (s, [])
  | t + 1 => nextR t (nextW l a t (runL l a s t).2) (runL l a s t)
theorem runL_words (l : List UInt8) (a : Nat) (s : St8) : ∀ n, (∀ i, i < n → (runL l a s n).2.getD (n - 1 - i) 0 = schS l a i)
  | 0 => fun i h => by omega
  | n + 1 => fun i h => by
    have ih := runL_words l a s n
    have hn : nextW l a n (runL l a s n).2 = schS l a n := by
      unfold nextW
      by_cases h16 : n < 16
      · rw [if_pos h16, schS_lo h16]
      · rw [if_neg h16, schS_hi h16, ← ih (n - 2) (by omega), ← ih (n - 7) (by omega), ← ih (n - 15) (by omega), ← ih (n - 16) (by omega), show n - 1 - (n - 2) = 1 by omega, show n - 1 - (n - 7) = 6 by omega, show n - 1 - (n - 15) = 14 by omega, show n - 1 - (n - 16) = 15 by omega]
    unfold runL nextR
    rcases (by omega : i = n ∨ i < n) with rfl | hi
    · rw [show i + 1 - 1 - i = 0 by omega]; exact hn
    · rw [show n + 1 - 1 - i = (n - 1 - i) + 1 by omega, List.getD_cons_succ]; exact ih i hi
theorem runL_run (l : List UInt8) (a : Nat) (s : St8) : ∀ n, (runL l a s n).1 = runS l a s n
  | 0 => rfl
  | n + 1 => by
    have hn : nextW l a n (runL l a s n).2 = schS l a n := by
      have h := runL_words l a s (n + 1) n (by omega)
      rw [show n + 1 - 1 - n = 0 by omega] at h
      exact h
    unfold runL nextR runS
    dsimp only
    rw [hn, runL_run l a s n]
/-- The sum of what fits into one block. -/
theorem sha_one {l : List UInt8} (h : l.length < 56) : shaS l = outS (sumS (runL (padS l) 0 firstS 64).1 firstS) := by
  unfold shaS
  have h1 : (padS l).length / 64 = 1 := by rw [padS_length]; unfold zerosN; omega
  rw [h1, runL_run]
  rfl
end Go.Proofs.YtdgbjhfkmembdaaGreatDoor
