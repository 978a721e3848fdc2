/-
  Two elements of several cells exchanged in a row of the call's own. Over any program; conditions as each says.
-/
import Derived.Test.YtfjmbcljohobeaaDoorRowList
import Derived.Deep.MidRow
namespace Go.Proofs.YtfjmbcljohobeaaDoor
open Go.RowKit
set_option linter.unusedVariables false

def swapL {α : Type} (l : List α) (x y : Nat) (hx : x < l.length) (hy : y < l.length) : List α := (l.set x l[y]).set y l[x]
theorem swapL_length {α : Type} (l : List α) (x y : Nat) (hx : x < l.length) (hy : y < l.length) : (swapL l x y hx hy).length = l.length := by simp [swapL]
theorem swapL_perm {α : Type} (l : List α) (x y : Nat) (hx : x < l.length) (hy : y < l.length) : (swapL l x y hx hy).Perm l := by
  have h := Array.swap_perm (xs := l.toArray) (i := x) (j := y) (by simpa using hx) (by simpa using hy)
  have h2 := Array.perm_iff_toList_perm.1 h
  have e : (l.toArray.swap x y (by simpa using hx) (by simpa using hy)).toList = swapL l x y hx hy := by simp [swapL, Array.swap]
  rw [e] at h2
  simpa using h2
theorem swapL_get {α : Type} (l : List α) (x y : Nat) (hx : x < l.length) (hy : y < l.length) (i : Nat) (hi : i < (swapL l x y hx hy).length) : (swapL l x y hx hy)[i] = if i = y then l[x] else if i = x then l[y] else l[i]'(by simpa [swapL] using hi) := by
  have hi2 : i < ((l.set x l[y]).set y l[x]).length := hi
  show ((l.set x l[y]).set y l[x])[i]'hi2 = _
  rw [List.getElem_set]
  by_cases e : y = i
  · subst e; simp
  · rw [if_neg e, if_neg (fun q => e q.symm), List.getElem_set]
    by_cases e2 : x = i
    · subst e2; simp
    · rw [if_neg e2, if_neg (fun q => e2 q.symm)]

section
variable {α : Type} {enc : α → List Value} {sz : Nat} {w : World}
theorem below_setCells {B : Nat} {w0 : World} {b : Nat} (hB : B ≤ b) : ∀ (vs : List Value) (o : Nat) (w : World), Below B w0 w → Below B w0 (w.setCells b o vs)
  | [], _, _, h => h
  | v :: r, o, w, h => by
    rw [World.setCells]
    exact below_setCells hB r (o + 1) _ (h.setCell (p := ⟨b, o, none⟩) hB _)
theorem size_setCells' {b : Nat} : ∀ (vs : List Value) (o : Nat) (w : World), (w.setCells b o vs).heap.size = w.heap.size
  | [], _, _ => rfl
  | v :: r, o, w => by
    rw [World.setCells, size_setCells' r (o + 1)]
    unfold World.setCell
    simp
theorem rows_of_each {b off : Nat} : ∀ {l : List α} (_ : ∀ x ∈ l, (enc x).length = sz) (_ : 0 < sz) (_ : ∀ (i : Nat) (h : i < l.length), w.rangeAt b (off + i * sz) (enc l[i])), ∀ j u, (rowsV enc l)[j]? = some u → w.cell? ⟨b, off + j, none⟩ = some u := by
  intro l ho hs h j u hj
  have hl := rowsV_length ho
  have hjl : j < l.length * sz := by have := (List.getElem?_eq_some_iff.1 hj).1; rwa [hl] at this
  have hi : j / sz < l.length := (Nat.div_lt_iff_lt_mul hs).2 hjl
  have hm : j % sz < sz := Nat.mod_lt _ hs
  have hd : j / sz * sz + j % sz = j := by rw [Nat.mul_comm]; exact Nat.div_add_mod j sz
  have hg := rowsV_get ho (j / sz) hi (j % sz) _ (List.getElem?_eq_getElem (by rw [ho _ (List.getElem_mem hi)]; exact hm))
  rw [hd, hj] at hg
  have := h (j / sz) hi (j % sz) _ (List.getElem?_eq_getElem (by rw [ho _ (List.getElem_mem hi)]; exact hm))
  rw [Nat.add_assoc, hd] at this
  rw [this, Option.some.inj hg]
theorem swap_rows {g : Nat} {l : List α} (ho : ∀ x ∈ l, (enc x).length = sz) (hrow : ∀ (i : Nat) (h : i < l.length), w.rangeAt g (i * sz) (enc l[i])) (hth : ∀ i, i < l.length → w.there g (i * sz) sz) {x y : Nat} (hx : x < l.length) (hy : y < l.length) :
    ∀ (i : Nat) (h : i < (swapL l x y hx hy).length), ((w.setCells g (x * sz) (enc l[y])).setCells g (y * sz) (enc l[x])).rangeAt g (i * sz) (enc (swapL l x y hx hy)[i]) := by
  intro i hi
  have hi' : i < l.length := by rwa [swapL_length] at hi
  rw [swapL_get]
  have hlx := ho _ (List.getElem_mem hx)
  have hly := ho _ (List.getElem_mem hy)
  have hap : ∀ a b : Nat, a ≠ b → a * sz + sz ≤ b * sz ∨ b * sz + sz ≤ a * sz := by
    intro a b h
    rcases Nat.lt_or_gt_of_ne h with q | q
    · left; have := Nat.mul_le_mul_right sz q; rw [Nat.succ_mul] at this; exact this
    · right; have := Nat.mul_le_mul_right sz q; rw [Nat.succ_mul] at this; exact this
  by_cases e1 : i = y
  · subst e1
    rw [if_pos rfl]
    exact World.rangeAt_setCells_same _ _ _ _ (World.there_setCells (by rw [hlx]; exact hth i hi') _ _ _)
  · rw [if_neg e1]
    by_cases e2 : i = x
    · subst e2
      rw [if_pos rfl]
      refine World.rangeAt_setCells_apart (World.rangeAt_setCells_same _ _ _ _ (by rw [hly]; exact hth i hi')) _ _ _ (.inr ?_)
      rw [hlx, hly]
      exact hap _ _ e1
    · rw [if_neg e2]
      have hli := ho _ (List.getElem_mem hi')
      refine World.rangeAt_setCells_apart (World.rangeAt_setCells_apart (hrow i hi') _ _ _ (.inr ?_)) _ _ _ (.inr ?_)
      · rw [hli, hly]; exact hap _ _ e2
      · rw [hli, hlx]; exact hap _ _ e1
/-- A row that the call owns is there, element by element. -/
theorem own_there {n cap g : Nat} {e : TypeId} {cur : Array Value} (hg : w.heap[g]? = some (.cells cur e (0, 0))) (hn : n ≤ cap) (hc : cur.size = cap * sz) (i : Nat) (hi : i < n) : w.there g (i * sz) sz := by
  intro j hj
  have h1 : i * sz + j < cur.size := by
    rw [hc]
    have := Nat.mul_le_mul_right sz (show i + 1 ≤ cap by omega)
    rw [Nat.succ_mul] at this
    omega
  exact ⟨by simp [World.cell?, hg, h1], by simp [World.frozen?, hg]⟩
theorem own_each {base n cap g : Nat} {e : TypeId} {l : List α} (h : w.ownsRow base e sz (.slice (some ⟨g, 0, none⟩) n cap) n (rowsV enc l)) (ho : ∀ x ∈ l, (enc x).length = sz) (hn : 0 < n) :
    ∀ (i : Nat) (hi : i < l.length), w.rangeAt g (i * sz) (enc l[i]) := by
  intro i hi
  rcases h.2 with ⟨h1, _⟩ | ⟨g2, cap2, cur, hv, _, hg, hle, hm, hcs, ht⟩
  · cases h1
  · simp only [Value.slice.injEq, Option.some.injEq, Addr.mk.injEq, and_true, true_and] at hv
    obtain ⟨rfl, rfl⟩ := hv
    have hl := rowsV_length ho
    have hcell : ∀ j u, (rowsV enc l)[j]? = some u → w.cell? ⟨g, 0 + j, none⟩ = some u := by
      intro j u hj
      rw [Nat.zero_add, cell_of_row w g j _ _ _ hg]
      have hj2 := (List.getElem?_eq_some_iff.1 hj).1
      rw [← ht, List.getElem?_take_of_lt (by have := h.1; omega)] at hj
      simpa using hj
    intro j u hj
    have := Sl.row ho hcell hi j u hj
    rwa [Nat.zero_add] at this
end
end Go.Proofs.YtfjmbcljohobeaaDoor
