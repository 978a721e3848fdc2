/-
  copy within rows whose elements are some cells wide. Over any program; conditions as it says.
-/
import Derived.Test.YtdgbjhfkmembdaaGreatDoorRowList
import Derived.Laws.CopyOwn
namespace Go.Proofs.YtdgbjhfkmembdaaGreatDoor
open Go.RowKit
set_option linter.unusedVariables false

theorem run_copy_rowN {P : Program} (w : World) (dT sT ty elem : TypeId) (sz g o dLen dCap : Nat) (a : Addr) (sLen sCap : Nat) (cur : Array Value) (t : TypeId) (cs : List Value)
    (hu : P.underlying dT = some (.slice elem)) (hs : (P.info? elem).map (·.size) = some sz)
    (hg : w.heap[g]? = some (.cells cur t (0, 0))) (hn : cs.length = Nat.min sLen dLen * sz)
    (hsrc : ∀ j v, cs[j]? = some v → w.cell? (a.add j) = some v) (hfit : o + cs.length ≤ cur.size) (h1 : ∀ v ∈ cs, v.oneCell' = true) :
    (Builtin.copy_ #[dT, sT] ty #[.slice (some ⟨g, o, none⟩) dLen dCap, .slice (some a) sLen sCap]).run P w =
      .ok (goInt (Nat.min sLen dLen)) (w.setRow g (cur.toList.take o ++ cs ++ cur.toList.drop (o + cs.length)).toArray) := by
  have hl := run_loadCells_list (P := P) w a cs hsrc
  have hst := run_storeCells_at P g o t cs 0 cur w hg (by simpa using hfit) h1
  cases hq : P.info? elem with
  | none => simp [hq] at hs
  | some i =>
    have hi : i.size = sz := by simpa [hq] using hs
    simp [Builtin.copy_, run_underlying hu, Builtin.lenOf, Builtin.firstCells, sizeOf, typeInfo, hq, hi, ← hn, hl, hst]
/-- A row of the call's own, with its spare cells. -/
theorem own_open {w : World} {B sz n : Nat} {e : TypeId} {v : Value} {xs : List Value} (h : w.ownsRow B e sz v n xs) (hn : 0 < n) :
    ∃ g cap tail, v = .slice (some ⟨g, 0, none⟩) n cap ∧ B ≤ g ∧ w.heap[g]? = some (.cells (xs ++ tail).toArray e (0, 0)) ∧ n ≤ cap ∧ cap ≤ maxLen ∧ tail.length = (cap - n) * sz := by
  obtain ⟨h1, h2⟩ := h
  rcases h2 with ⟨_, h0⟩ | ⟨g, cap, cur, hv, hB, hg, hc, hm, hs, ht⟩
  · omega
  · refine ⟨g, cap, cur.toList.drop (n * sz), hv, hB, ?_, hc, hm, ?_⟩
    · rw [← ht, List.take_append_drop]; simpa using hg
    · rw [List.length_drop, Array.length_toList, hs, Nat.sub_mul]
theorem own_shut {w : World} {B sz n g cap : Nat} {e : TypeId} {xs tail : List Value} (hl : xs.length = n * sz) (hB : B ≤ g) (hg : w.heap[g]? = some (.cells (xs ++ tail).toArray e (0, 0))) (hc : n ≤ cap) (hm : cap ≤ maxLen) (ht : tail.length = (cap - n) * sz) :
    w.ownsRow B e sz (.slice (some ⟨g, 0, none⟩) n cap) n xs := by
  refine ⟨hl, .inr ⟨g, cap, (xs ++ tail).toArray, rfl, hB, hg, hc, hm, ?_, ?_⟩⟩
  · rw [List.size_toArray, List.length_append, hl, ht, ← Nat.add_mul, show n + (cap - n) = cap by omega]
  · show (xs ++ tail).take (n * sz) = xs
    rw [← hl, List.take_left]
section
variable {α : Type} {enc : α → List Value} {sz : Nat}
theorem rowsV_take {l : List α} (ho : ∀ x ∈ l, (enc x).length = sz) {i : Nat} (hi : i ≤ l.length) : rowsV enc (l.take i) = (rowsV enc l).take (i * sz) := by
  have h1 : (rowsV enc (l.take i)).length = i * sz := by
    rw [rowsV_length fun x hx => ho x (List.mem_of_mem_take hx), List.length_take, Nat.min_eq_left hi]
  have h2 : rowsV enc l = rowsV enc (l.take i) ++ rowsV enc (l.drop i) := by rw [← rowsV_app, List.take_append_drop]
  rw [h2, ← h1, List.take_left]
theorem rowsV_drop {l : List α} (ho : ∀ x ∈ l, (enc x).length = sz) {i : Nat} (hi : i ≤ l.length) : rowsV enc (l.drop i) = (rowsV enc l).drop (i * sz) := by
  have h1 : (rowsV enc (l.take i)).length = i * sz := by
    rw [rowsV_length fun x hx => ho x (List.mem_of_mem_take hx), List.length_take, Nat.min_eq_left hi]
  have h2 : rowsV enc l = rowsV enc (l.take i) ++ rowsV enc (l.drop i) := by rw [← rowsV_app, List.take_append_drop]
  rw [h2, ← h1, List.drop_left]
/-- What an insert's copy leaves: the rows behind a place stand one further on. -/
theorem shift_rows {l : List α} (ho : ∀ x ∈ l, (enc x).length = sz) {i : Nat} (hi : i ≤ l.length) {z tail : List Value} (hz : z.length = sz) :
    ∃ m, m.length = sz ∧ ((rowsV enc l ++ z) ++ tail).take ((i + 1) * sz) ++ rowsV enc (l.drop i) ++ ((rowsV enc l ++ z) ++ tail).drop ((i + 1) * sz + (rowsV enc (l.drop i)).length) = rowsV enc (l.take i) ++ (m ++ (rowsV enc (l.drop i) ++ tail)) := by
  have hl := rowsV_length ho
  have hd : (rowsV enc (l.drop i)).length = (l.length - i) * sz := by rw [rowsV_length fun x hx => ho x (List.mem_of_mem_drop hx), List.length_drop]
  have ht : (rowsV enc (l.take i)).length = i * sz := by rw [rowsV_length fun x hx => ho x (List.mem_of_mem_take hx), List.length_take, Nat.min_eq_left hi]
  have hle : (i + 1) * sz ≤ (rowsV enc l ++ z).length := by
    rw [List.length_append, hl, hz, ← Nat.succ_mul]
    exact Nat.mul_le_mul_right _ (by omega)
  have hX : rowsV enc l = rowsV enc (l.take i) ++ rowsV enc (l.drop i) := by rw [← rowsV_app, List.take_append_drop]
  refine ⟨((rowsV enc (l.drop i) ++ z)).take sz, ?_, ?_⟩
  · rw [List.length_take, List.length_append, hz]; omega
  · have e1 : ((rowsV enc l ++ z) ++ tail).take ((i + 1) * sz) = rowsV enc (l.take i) ++ (rowsV enc (l.drop i) ++ z).take sz := by
      rw [List.take_append_of_le_length hle, hX, List.append_assoc, List.take_append, ht, show (i + 1) * sz - i * sz = sz by rw [Nat.succ_mul]; omega, List.take_of_length_le (by rw [ht, Nat.succ_mul]; omega)]
    have e2 : ((rowsV enc l ++ z) ++ tail).drop ((i + 1) * sz + (rowsV enc (l.drop i)).length) = tail := by
      have : (i + 1) * sz + (rowsV enc (l.drop i)).length = (rowsV enc l ++ z).length := by
        rw [List.length_append, hl, hz, hd, ← Nat.succ_mul, ← Nat.add_mul]
        congr 1
        omega
      rw [this, List.drop_left]
    rw [e1, e2]
    simp only [List.append_assoc]
end
end Go.Proofs.YtdgbjhfkmembdaaGreatDoor
