/-
  Words for memory, second part: append beside an iterator over a string. No conditions; no program.
-/
import Derived.Test.YtdgbjhfkmembdaaGreatDoorMem
import Derived.Lib.OthersKept
namespace Go.Proofs.YtdgbjhfkmembdaaGreatDoor
open Go.RowKit
set_option linter.unusedVariables false

/-- The same; and every other block that was there stands as it stood. -/
theorem wp_app1g {P : Program} {ops : Array Oper} {rest : List Oper} {o : Oper} {a : Act} {Q : Exit → Act → World → Prop} {w : World} (hgd : o.guard = none) (s x : Operand) (t : TypeId)
    (ho : o.op = .call { callee := .builtin .append, args := #[s, x], argTypes := #[t, t] })
    (base : Nat) (e : TypeId) (z : Value) (bytes : Nat) (ht : P.underlying t = some (.slice e)) (hinf : (P.info? e).map (fun i => (i.zero, i.size, i.bytes)) = some (some z, 1, bytes))
    (hz1 : z.cells.size = 1) (v : Value) (n : Nat) (xs : List Value) (hs : a.eval s = v) (hown : w.ownsRow base e 1 v n xs)
    (u : Value) (et : TypeId) (hx : a.eval x = .slice (some ⟨w.heap.size, 0, none⟩) 1 1) (hu : u.oneCell' = true)
    (hn : n + 1 ≤ maxLen) (hb : (n + 1) * bytes ≤ 140737488355328) (hbase : base ≤ w.heap.size)
    (h : ∀ v' w', w'.ownsRow base e 1 v' (n + 1) (xs ++ [u]) → (∀ B a, B ≤ base → Below B a w → Below B a w') → (∀ k, k < w.heap.size → v.ownBlock ≠ some k → w'.heap[k]? = w.heap[k]?) → wpList P ops Q rest (a.put o.dst v') w') :
    wpList P ops Q (o :: rest) a (w.alloc (.cells #[u] et)) := by
  obtain ⟨i0, hi, hz0, hz2, hz3⟩ := info_parts hinf
  refine wpList_append_own _ hgd s x t ho base e i0 z 1 bytes ht hi hz0 hz2 hz3 hz1 (by decide) v n xs hs (hown.alloc _) ⟨w.heap.size, 0, none⟩ 1 1 [u] hx rfl ?_ ?_ hn hb (by simp; omega) ?_
  · intro j u' hj
    match j, hj with
    | 0, hj => simp at hj; subst hj; simp [Addr.add]
  · intro u' hu'
    simp at hu'; subst hu'; exact hu
  · intro v' w' hown' hgrow _
    refine h v' w' hown' (fun B a hB hba => ?_) (fun k hk hne => ?_)
    · refine (hba.alloc (by omega) _).grown hgrow (by simp; omega) fun k hk => ?_
      have := (hown.lt k hk).1
      omega
    · rw [hgrow.block k (by simp; omega) (fun e => hne e.symm)]
      exact Below.heap_alloc _ _ _ hk
theorem own_iter_ne {w : World} {base : Nat} {e : TypeId} {sz : Nat} {v : Value} {n : Nat} {xs : List Value} (h : w.ownsRow base e sz v n xs) {k : Nat} {s : ByteArray} {p : Nat} (hk : w.heap[k]? = some (.stringIter s p)) : v.ownBlock ≠ some k := by
  intro hv
  rcases h.2 with ⟨hn, _⟩ | ⟨g, cap, cur, hvv, _, hg, _⟩
  · rw [hn] at hv; simp [Value.ownBlock] at hv
  · rw [hvv] at hv
    have : g = k := by simpa [Value.ownBlock] using hv
    subst this
    rw [hg] at hk; cases hk
theorem own_iterAt {w : World} {base : Nat} {e : TypeId} {sz : Nat} {v : Value} {n : Nat} {xs : List Value} (h : w.ownsRow base e sz v n xs) {k : Nat} {s : ByteArray} {p : Nat} (hk : w.heap[k]? = some (.stringIter s p)) (p' : Nat) : (w.iterAt k s p').ownsRow base e sz v n xs := by
  have hne := own_iter_ne h hk
  refine h.kept (row := some k) ⟨rfl, rfl, rfl, by rw [Lib.iterAt_size]; exact Nat.le_refl _, fun j hj hjk => Lib.iterAt_other w k j s p' (fun e => hjk (by rw [e]))⟩ (.inr hne)
end Go.Proofs.YtdgbjhfkmembdaaGreatDoor
