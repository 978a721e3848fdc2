/-
  Two texts' hunks: they stand apart; they make the one of the other; there are none just if the texts are the same. No conditions; no program.
-/
import Derived.Test.YthjaepmfkgejkaaDoorWay23
import Derived.Test.YthjaepmfkgejkaaDoorNear23
import Derived.Test.YthjaepmfkgejkaaDoorNumbers23
namespace Go.Proofs.YthjaepmfkgejkaaDoor
open Go.RowKit
set_option linter.unusedVariables false

def idxG : List (List UInt8) → List UInt8 → Nat
  | [], _ => 0
  | k :: K, s => if k = s then 0 else idxG K s + 1
theorem idxG_inj {s t : List UInt8} : ∀ {K : List (List UInt8)}, s ∈ K → t ∈ K → idxG K s = idxG K t → s = t
  | [], h, _, _ => absurd h (by simp)
  | k :: K, h, h', e => by
    unfold idxG at e
    by_cases e1 : k = s
    · by_cases e2 : k = t
      · exact e1.symm.trans e2
      · rw [if_pos e1, if_neg e2] at e; omega
    · by_cases e2 : k = t
      · rw [if_neg e1, if_pos e2] at e; omega
      · rw [if_neg e1, if_neg e2] at e
        exact idxG_inj ((List.mem_cons.1 h).resolve_left fun q => e1 q.symm) ((List.mem_cons.1 h').resolve_left fun q => e2 q.symm) (by omega)
def nosG (K l : List (List UInt8)) : List Int := l.map fun s => (idxG K s : Int)
/-- The script between two texts' lines. -/
def movesT (x y : List (List UInt8)) : List Nat := movesS (nosG (x ++ y) x) (nosG (x ++ y) y)
def hunksX (x y : List (List UInt8)) : List HunkD := (hunksTo (nearS (movesT x y)) (movesT x y) x y (movesT x y).length).2.2
/-- Two texts' hunks. -/
def hunksL (a b : List UInt8) : List HunkD := hunksX (linesS a) (linesS b)
theorem told_near (mv : List Nat) : ToldIs (nearS mv) mv := by
  intro k hk
  unfold nearS nearTo
  rw [List.any_eq_true]
  constructor
  · rintro ⟨j, hj, h⟩
    simp only [Bool.and_eq_true, decide_eq_true_eq] at h
    have hj' := List.mem_range.1 hj
    refine ⟨j, hj', ?_, h.1.2, h.2⟩
    have h1 := h.1.1
    rw [List.getD_eq_getElem?_getD, List.getElem?_eq_getElem hj'] at h1 ⊢
    exact h1
  · rintro ⟨j, hj, h1, h2, h3⟩
    refine ⟨j, List.mem_range.2 hj, ?_⟩
    simp only [Bool.and_eq_true, decide_eq_true_eq]
    refine ⟨⟨?_, h2⟩, h3⟩
    rw [List.getD_eq_getElem?_getD, List.getElem?_eq_getElem hj] at h1 ⊢
    exact h1
theorem moves_nos {K : List ByteArray} {xs ys : List ByteArray} (hx : ∀ s ∈ xs, s ∈ K) (hy : ∀ s ∈ ys, s ∈ K) : movesS (nosOf K xs) (nosOf K ys) = movesT (xs.map L) (ys.map L) := by
  have h := (cost_map (fun s : ByteArray => (idx K s : Int)) (fun s : ByteArray => (idxG (xs.map L ++ ys.map L) (L s) : Int)) _ xs ys (Nat.le_refl _) (fun u v hu hv => by
    have hm : ∀ s ∈ xs ++ ys, s ∈ K := fun s hs => by
      rcases List.mem_append.1 hs with q | q
      · exact hx s q
      · exact hy s q
    have hg : ∀ s ∈ xs ++ ys, L s ∈ xs.map L ++ ys.map L := fun s hs => by rw [← List.map_append]; exact List.mem_map_of_mem hs
    constructor
    · intro e
      rw [idx_inj (hm u hu) (hm v hv) (by omega)]
    · intro e
      rw [L_inj (idxG_inj (hg u hu) (hg v hv) (by omega))])).2
  unfold movesT nosG nosOf
  rw [List.map_map, List.map_map]
  exact h
theorem way_T (x y : List (List UInt8)) : Way (movesT x y) x y := by
  refine way_moves (by simp [nosG]) (by simp [nosG]) fun i j hi hj he => ?_
  simp only [nosG, List.length_map] at hi hj
  simp only [nosG, List.getElem?_map, List.getElem?_eq_getElem hi, List.getElem?_eq_getElem hj, Option.map_some, Option.some.injEq] at he ⊢
  exact idxG_inj (List.mem_append_left _ (List.getElem_mem hi)) (List.mem_append_right _ (List.getElem_mem hj)) (by omega)
theorem hunksX_apart (x y : List (List UInt8)) : apart (-1) (hunksX x y) ∧ ∀ h ∈ hunksX x y, Gd h :=
  hunks_apart (told_near _) (x := x) (y := y) (i := (hunksTo (nearS (movesT x y)) (movesT x y) x y (movesT x y).length).1) (j := (hunksTo (nearS (movesT x y)) (movesT x y) x y (movesT x y).length).2.1) rfl
theorem hunksX_apply (x y : List (List UInt8)) : hksOk x (0, []) (hunksX x y) ∧ (hksTo x (hunksX x y)).2 ++ (x.drop (hksTo x (hunksX x y)).1).flatten = y.flatten :=
  hunks_apply (told_near _) (way_T x y) (i := (hunksTo (nearS (movesT x y)) (movesT x y) x y (movesT x y).length).1) (j := (hunksTo (nearS (movesT x y)) (movesT x y) x y (movesT x y).length).2.1) rfl
theorem hunksX_same (x : List (List UInt8)) : hunksX x x = [] := by
  have hm : movesT x x = List.replicate (nosG (x ++ x) x).length 1 := moves_same _
  have h := hunks_none (told := nearS (movesT x x)) (mv := movesT x x) (x := x) (y := x) (fun k hk => by
    cases q : nearS (movesT x x) k with
    | false => rfl
    | true =>
      obtain ⟨j, hj, hne, _⟩ := (told_near _ k hk).1 q
      rw [hm] at hj hne
      rw [List.getD_eq_getElem?_getD, List.getElem?_replicate, if_pos (by simpa using hj)] at hne
      exact absurd rfl hne) _ (Nat.le_refl _)
  obtain ⟨i, j, h⟩ := h
  unfold hunksX
  rw [h]
/-- Applied to the one text the hunks give the other. -/
theorem hunksL_apply (a b : List UInt8) : hksOk (linesS a) (0, []) (hunksL a b) ∧ (hksTo (linesS a) (hunksL a b)).2 ++ ((linesS a).drop (hksTo (linesS a) (hunksL a b)).1).flatten = b := by
  have h := hunksX_apply (linesS a) (linesS b)
  rw [linesS_join b] at h
  exact h
theorem hunksL_none (a b : List UInt8) : hunksL a b = [] ↔ a = b := by
  constructor
  · intro h
    have h1 := (hunksL_apply a b).2
    rw [h] at h1
    rw [← h1]
    exact (linesS_join a).symm
  · rintro rfl
    exact hunksX_same _
theorem hunksL_apart (a b : List UInt8) : apart (-1) (hunksL a b) ∧ ∀ h ∈ hunksL a b, Gd h := hunksX_apart _ _
end Go.Proofs.YthjaepmfkgejkaaDoor
