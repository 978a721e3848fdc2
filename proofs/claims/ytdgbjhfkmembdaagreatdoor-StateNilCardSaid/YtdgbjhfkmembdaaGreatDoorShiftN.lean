/-
  The copy of an insert: rows of wide elements go one place on. Over any program; conditions as it says.
-/
import Derived.Test.YtdgbjhfkmembdaaGreatDoorCopyN
import Derived.Test.YtdgbjhfkmembdaaGreatDoorBut
namespace Go.Proofs.YtdgbjhfkmembdaaGreatDoor
open Go.RowKit
set_option linter.unusedVariables false

theorem run_copy_noneN {P : Program} (w : World) (dT sT ty elem : TypeId) (sz : Nat) (d a : Option Addr) (dLen dCap sLen sCap : Nat) (hu : P.underlying dT = some (.slice elem)) (hs : (P.info? elem).map (·.size) = some sz) (hn : Nat.min sLen dLen = 0) :
    (Builtin.copy_ #[dT, sT] ty #[.slice d dLen dCap, .slice a sLen sCap]).run P w = .ok (goInt 0) w := by
  cases hq : P.info? elem with
  | none => simp [hq] at hs
  | some i =>
    have hl : ∀ (x : Addr), (loadCells x 0).run P w = .ok #[] w := fun x => by simpa using run_loadCells_list (P := P) w x [] (by simp)
    cases d <;> cases a <;> simp [Builtin.copy_, run_underlying hu, Builtin.lenOf, Builtin.firstCells, sizeOf, typeInfo, hq, hn, storeCells, hl]
theorem setRow_but (w : World) (g : Nat) (cs : Array Value) : But (fun k => k = g) w (w.setRow g cs) :=
  ⟨rfl, rfl, rfl, by simp [World.setRow], fun k hk hx => by
    unfold World.setRow
    simp only [Array.getElem?_modify]
    rw [if_neg (fun e => hx e.symm)]⟩
theorem run_shift {P : Program} {α : Type} {enc : α → List Value} {sz : Nat} (w : World) (dT sT ty elem : TypeId) (hu : P.underlying dT = some (.slice elem)) (hs : (P.info? elem).map (·.size) = some sz)
    {l : List α} (ho : ∀ x ∈ l, (enc x).length = sz) {i : Nat} (hi : i ≤ l.length) {z tail : List Value} (hz : z.length = sz) {g c : Nat} {t : TypeId}
    (hg : w.heap[g]? = some (.cells ((rowsV enc l ++ z) ++ tail).toArray t (0, 0))) (hc : l.length + 1 ≤ c) (h1 : ∀ u ∈ rowsV enc l, u.oneCell' = true) :
    ∃ m W, m.length = sz ∧ (Builtin.copy_ #[dT, sT] ty #[sliced (some ⟨g, 0, none⟩) (i + 1) (l.length + 1) c sz, sliced (some ⟨g, 0, none⟩) i (l.length + 1) c sz]).run P w = .ok (goInt ((l.length - i : Nat) : Int)) W ∧
      W.heap[g]? = some (.cells (rowsV enc (l.take i) ++ (m ++ (rowsV enc (l.drop i) ++ tail))).toArray t (0, 0)) ∧ But (fun k => k = g) w W ∧ W.heap.size = w.heap.size := by
  have hl := rowsV_length ho
  have hadd : ∀ x, (⟨g, 0, none⟩ : Addr).add x = ⟨g, 0 + x, none⟩ := fun x => by unfold Addr.add; split <;> simp_all
  rcases (by omega : i = l.length ∨ i < l.length) with rfl | hlt
  · refine ⟨z, w, hz, ?_, ?_, But.refl _ _, rfl⟩
    · rw [show ((l.length - l.length : Nat) : Int) = 0 by simp]
      exact run_copy_noneN w dT sT ty elem sz _ _ _ _ _ _ hu hs (by show min _ (l.length + 1 - (l.length + 1)) = 0; omega)
    · rw [hg, List.take_length, List.drop_length]
      simp [rowsV]
  · obtain ⟨m, hm, hsh⟩ := shift_rows ho hi (tail := tail) hz
    have hd : (rowsV enc (l.drop i)).length = (l.length - i) * sz := by rw [rowsV_length fun x hx => ho x (List.mem_of_mem_drop hx), List.length_drop]
    have e1 : sliced (some ⟨g, 0, none⟩) (i + 1) (l.length + 1) c sz = .slice (some ⟨g, 0 + (i + 1) * sz, none⟩) (l.length + 1 - (i + 1)) (c - (i + 1)) := by
      unfold sliced; rw [if_neg (by omega)]; simp [hadd]
    have e2 : sliced (some ⟨g, 0, none⟩) i (l.length + 1) c sz = .slice (some ⟨g, 0 + i * sz, none⟩) (l.length + 1 - i) (c - i) := by
      unfold sliced; rw [if_neg (by omega)]; simp [hadd]
    have hmin : Nat.min (l.length + 1 - i) (l.length + 1 - (i + 1)) = l.length - i := by show min _ _ = _; omega
    have hrun := run_copy_rowN (P := P) w dT sT ty elem sz g (0 + (i + 1) * sz) (l.length + 1 - (i + 1)) (c - (i + 1)) ⟨g, 0 + i * sz, none⟩ (l.length + 1 - i) (c - i) _ t (rowsV enc (l.drop i)) hu hs hg (by rw [hd, hmin])
      (fun j u hj => by
        have e3 : (⟨g, 0 + i * sz, none⟩ : Addr).add j = ⟨g, 0 + i * sz + j, none⟩ := by unfold Addr.add; split <;> simp_all
        have hj2 := hj
        rw [rowsV_drop ho hi, List.getElem?_drop] at hj2
        rw [e3, cells_at0 hg, show 0 + i * sz + j = i * sz + j by omega, List.append_assoc, List.getElem?_append_left (List.getElem?_eq_some_iff.1 hj2).1]
        exact hj2)
      (by
        rw [List.size_toArray, List.length_append, List.length_append, hl, hz, hd, Nat.zero_add, ← Nat.add_mul, show i + 1 + (l.length - i) = l.length + 1 by omega, Nat.succ_mul]
        omega)
      (fun u hu => h1 u (by rw [rowsV_drop ho hi] at hu; exact List.mem_of_mem_drop hu))
    refine ⟨m, _, hm, by rw [e1, e2, hrun, hmin], ?_, setRow_but _ _ _, by simp [World.setRow]⟩
    rw [setRow_heap w g _ _ t (0, 0) hg]
    simp only [Nat.zero_add]
    rw [hsh]
end Go.Proofs.YtdgbjhfkmembdaaGreatDoor
