/-
  Words for memory, second part: append beside an iterator over a string. No conditions; no program.
-/
import Derived.Test.YthjaepmfkgejkaaGreatDoorMem
import Derived.Lib.OthersKept
namespace Go.Proofs.YthjaepmfkgejkaaGreatDoor
open Go.RowKit
set_option linter.unusedVariables false

theorem own_iter_ne {w : World} {base : Nat} {e : TypeId} {sz : Nat} {v : Value} {n : Nat} {xs : List Value} (h : w.ownsRow base e sz v n xs) {k : Nat} {s : ByteArray} {p : Nat} (hk : w.heap[k]? = some (.stringIter s p)) : v.ownBlock ≠ some k := by
  intro hv
  rcases h.2 with ⟨hn, _⟩ | ⟨g, cap, cur, hvv, _, hg, _⟩
  · rw [hn] at hv; simp [Value.ownBlock] at hv
  · rw [hvv] at hv
    have : g = k := by simpa [Value.ownBlock] using hv
    subst this
    rw [hg] at hk; cases hk
theorem own_iterAt {w : World} {base : Nat} {e : TypeId} {sz : Nat} {v : Value} {n : Nat} {xs : List Value} (h : w.ownsRow base e sz v n xs) {k : Nat} {s : ByteArray} {p : Nat} (hk : w.heap[k]? = some (.stringIter s p)) (p' : Nat) : (w.iterAt k s p').ownsRow base e sz v n xs := by
  have hne := own_iter_ne h hk
  refine h.kept (row := some k) ⟨rfl, rfl, rfl, by rw [Lib.iterAt_size]; exact Nat.le_refl _, fun j hj hjk => Lib.iterAt_other w k j s p' (fun e => hjk (by rw [e]))⟩ (.inr hne)
end Go.Proofs.YthjaepmfkgejkaaGreatDoor
