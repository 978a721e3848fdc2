/-
  The places of keys in the keys' order, the same keys once: by insertion from behind. No conditions; no program.
-/
import Derived.Test.YtfjmbcljohobeaaGreatDoorMerged1
namespace Go.Proofs.YtfjmbcljohobeaaGreatDoor
set_option linter.unusedVariables false

def LeK (l : List KeyD) : Prop := l.Pairwise fun x y => cmpK x y ≤ 0
theorem cmpK_le_trans {a b c : KeyD} (h1 : cmpK a b ≤ 0) (h2 : cmpK b c ≤ 0) : cmpK a c ≤ 0 := by
  rcases cmpK_cases a b with h | rfl | h
  · rcases cmpK_cases b c with g | rfl | g
    · have := cmpK_trans h g; omega
    · omega
    · have := cmpK_pos.2 g; omega
  · exact h2
  · have := cmpK_pos.2 h; omega
theorem ins_sorted {f : Nat → KeyD} {o : List Nat} (h : LeK (o.map f)) {i k : Nat} (hk : k ≤ o.length) (hgt : ∀ x ∈ o.drop k, 0 < cmpK (f x) (f i)) (hle : ∀ h : 0 < k, cmpK (f (o[k - 1]'(by omega))) (f i) ≤ 0) :
    LeK ((o.take k ++ i :: o.drop k).map f) := by
  unfold LeK at *
  rw [List.pairwise_map] at *
  have hs := h
  rw [← List.take_append_drop k o, List.pairwise_append] at hs
  rw [List.pairwise_append, List.pairwise_cons]
  refine ⟨hs.1, ⟨fun y hy => ?_, hs.2.1⟩, fun x hx y hy => ?_⟩
  · have := cmpK_pos.1 (hgt y hy); omega
  · rcases List.mem_cons.1 hy with rfl | hy
    · obtain ⟨j, hj, rfl⟩ := List.getElem_of_mem hx
      rw [List.length_take] at hj
      rw [List.getElem_take]
      rcases (by omega : j < k - 1 ∨ j = k - 1) with e | e
      · exact cmpK_le_trans (List.pairwise_iff_getElem.1 h j (k - 1) (by omega) (by omega) e) (hle (by omega))
      · subst e; exact hle (by omega)
    · exact hs.2.2 x hx y hy
theorem ins_perm {o : List Nat} {i k n : Nat} (h : o.Perm (List.range n)) (hi : i = n) : (o.take k ++ i :: o.drop k).Perm (List.range (n + 1)) := by
  subst hi
  refine List.perm_middle.trans ?_
  rw [List.take_append_drop, List.range_succ]
  exact (List.Perm.cons i h).trans (List.perm_append_singleton i (List.range i)).symm

/-- The same keys once, from a list in order. -/
def dd (ms : List KeyD) : Nat → List KeyD
  | 0 => []
  | i + 1 => if 0 < i ∧ ms[i - 1]? = ms[i]? then dd ms i else dd ms i ++ ms[i]?.toList
theorem dd_skip {ms : List KeyD} {i : Nat} (h0 : 0 < i) (h : ms[i - 1]? = ms[i]?) : dd ms (i + 1) = dd ms i := by
  show (if 0 < i ∧ ms[i - 1]? = ms[i]? then _ else _) = _
  rw [if_pos ⟨h0, h⟩]
theorem dd_new {ms : List KeyD} {i : Nat} (hi : i < ms.length) (h : i = 0 ∨ ms[i - 1]? ≠ ms[i]?) : dd ms (i + 1) = dd ms i ++ [ms[i]] := by
  show (if 0 < i ∧ ms[i - 1]? = ms[i]? then _ else _) = _
  rw [if_neg (by rintro ⟨h0, h1⟩; rcases h with h | h; omega; exact h h1), List.getElem?_eq_getElem hi]
  rfl
theorem dd_is {ms : List KeyD} (h : LeK ms) : ∀ i, i ≤ ms.length → Rising (dd ms i) ∧ ∀ k, k ∈ dd ms i ↔ k ∈ ms.take i
  | 0, _ => ⟨List.Pairwise.nil, fun k => by simp [dd]⟩
  | i + 1, hi => by
    obtain ⟨h1, h2⟩ := dd_is h i (by omega)
    have htk : ms.take (i + 1) = ms.take i ++ [ms[i]] := List.take_succ_eq_append_getElem (by omega)
    have hg : ms[i]? = some ms[i] := List.getElem?_eq_getElem (by omega)
    by_cases hc : 0 < i ∧ ms[i - 1]? = ms[i]?
    · rw [dd_skip hc.1 hc.2]
      refine ⟨h1, fun k => ?_⟩
      rw [h2, htk, List.mem_append, List.mem_singleton]
      constructor
      · exact .inl
      · rintro (h | rfl)
        · exact h
        · refine List.mem_of_getElem? (i := i - 1) ?_
          rw [List.getElem?_take_of_lt (by omega), hc.2, hg]
    · rw [dd_new (by omega) (by by_cases h0 : i = 0; exact .inl h0; exact .inr fun e => hc ⟨by omega, e⟩)]
      refine ⟨?_, fun k => by rw [htk, List.mem_append, List.mem_append, h2]⟩
      unfold Rising
      rw [List.pairwise_append]
      refine ⟨h1, List.pairwise_singleton _ _, fun x hx y hy => ?_⟩
      obtain rfl := List.mem_singleton.1 hy
      obtain ⟨j, hj, rfl⟩ := List.getElem_of_mem ((h2 x).1 hx)
      rw [List.length_take] at hj
      rw [List.getElem_take]
      have hp := List.pairwise_iff_getElem.1 h
      have hle := hp j i (by omega) (by omega) (by omega)
      rcases (by omega : cmpK ms[j] ms[i] < 0 ∨ cmpK ms[j] ms[i] = 0) with e | e
      · exact e
      · have e' := cmpK_zero.1 e
        exfalso
        apply hc
        refine ⟨by omega, ?_⟩
        rw [hg, List.getElem?_eq_getElem (by omega)]
        congr 1
        have a1 : cmpK ms[j] ms[i - 1] ≤ 0 := by
          rcases (by omega : j < i - 1 ∨ j = i - 1) with q | q
          · exact hp j (i - 1) (by omega) (by omega) q
          · subst q; rw [cmpK_self]; exact Int.le_refl _
        have a2 := hp (i - 1) i (by omega) (by omega) (by omega)
        rw [e', cmpK_swap] at a1
        exact cmpK_zero.1 (by omega)
theorem dd_sort {ms docs : List KeyD} (h : LeK ms) (hp : ms.Perm docs) : dd ms ms.length = sortK docs :=
  Rising.ext (dd_is h _ (Nat.le_refl _)).1 (sortK_rising _) fun k => by rw [(dd_is h _ (Nat.le_refl _)).2, List.take_length, mem_sortK, hp.mem_iff]
theorem map_range_perm {α : Type} {o : List Nat} {l : List α} {f : Nat → α} (hp : o.Perm (List.range l.length)) (hf : ∀ i (h : i < l.length), f i = l[i]) : (o.map f).Perm l := by
  refine (hp.map f).trans ?_
  rw [show (List.range l.length).map f = l from List.ext_getElem (by simp) fun i h1 h2 => by rw [List.getElem_map, List.getElem_range]; exact hf i h2]
end Go.Proofs.YtfjmbcljohobeaaGreatDoor
