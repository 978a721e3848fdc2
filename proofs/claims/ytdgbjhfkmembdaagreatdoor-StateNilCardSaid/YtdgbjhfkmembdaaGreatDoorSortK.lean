/-
  A row of several-cell elements that the call owns, sorted by the library: between two vocabularies. Over any program; conditions as each says.
-/
import Derived.Test.YtdgbjhfkmembdaaGreatDoorRowList
import Derived.Test.YtdgbjhfkmembdaaGreatDoorGr
import Derived.Shelf.SlSortCmp.NoneTotal
namespace Go.Proofs.YtdgbjhfkmembdaaGreatDoor
open Go.RowKit Go.Sort
set_option linter.unusedVariables false

section
variable {α : Type} [Inhabited α] {enc : α → List Value} {k : Nat}
theorem flatK_is (hk : ∀ x, (enc x).length = k) (hk0 : 0 < k) (l : List α) : flatK enc k l.toArray = (rowsV enc l).toArray := by
  have hl : (rowsV enc l).length = l.length * k := rowsV_length fun x _ => hk x
  refine ext_get! (by simp [hl]) fun t ht => ?_
  have ht' : t < l.length * k := by simpa using ht
  rw [get_flatK enc k l.toArray t (by simpa using ht')]
  have hi : t / k < l.length := (Nat.div_lt_iff_lt_mul hk0).2 ht'
  have hm : t % k < k := Nat.mod_lt _ hk0
  have hg := rowsV_get (l := l) (fun x _ => hk x) (t / k) hi (t % k) _ (List.getElem?_eq_getElem (by rw [hk]; exact hm))
  rw [show t / k * k + t % k = t by rw [Nat.mul_comm]; exact Nat.div_add_mod t k] at hg
  rw [show (l.toArray)[t / k]! = l[t / k] by simp [hi], getElem!_pos _ _ (by rw [hk]; exact hm), getElem!_pos _ _ (by simpa [hl] using ht')]
  obtain ⟨_, h2⟩ := List.getElem?_eq_some_iff.1 hg
  simpa using h2.symm
variable {w : World} {base g cap : Nat} {e : TypeId} {cur : Array Value} {l : List α}
theorem holdsK_of_block (hk : ∀ x, (enc x).length = k) (hk0 : 0 < k) (hb : w.heap[g]? = some (.cells cur e (0, 0))) (ht : cur.toList.take (l.length * k) = rowsV enc l) : HoldsK enc k w g 0 l.toArray := by
  unfold HoldsK
  rw [flatK_is hk hk0]
  intro j hj
  have hl : (rowsV enc l).length = l.length * k := rowsV_length fun x _ => hk x
  have hj' : j < (rowsV enc l).length := by simpa using hj
  refine ⟨?_, by simp [World.frozen?, hb]⟩
  have h1 : (cur.toList.take (l.length * k))[j]? = (rowsV enc l)[j]? := by rw [ht]
  rw [List.getElem?_take_of_lt (by omega)] at h1
  simp only [World.cell?, hb, Nat.zero_add]
  simp only [Option.isSome_none, Bool.false_eq_true, if_false]
  rw [← Array.getElem?_toList, h1]
  simp [hj']
/-- Behind the sort the slice reads as the sorted list; what lay is as it was. -/
theorem sortedK_sl (hk : ∀ x, (enc x).length = k) (hk0 : 0 < k) (hb : w.heap[g]? = some (.cells cur e (0, 0))) (hH : HoldsK enc k w g 0 l.toArray) (hbase : base ≤ g) {t : List α} (ht : t.length = l.length) (m : Nat) (os : Array Obj) (w0 : World) (hw : Below base w0 w) :
    Sl (sortWorldK enc k w g 0 m t.toArray os) (sortWorldK enc k w g 0 m t.toArray os).heap.size (some ⟨g, 0, none⟩) l.length k (rowsV enc t) ∧ Below base w0 (sortWorldK enc k w g 0 m t.toArray os) := by
  have hg : g < w.heap.size := (Array.getElem?_eq_some_iff.1 hb).1
  have hlt : (rowsV enc t).length = t.length * k := rowsV_length fun x _ => hk x
  have hll : (rowsV enc l).length = l.length * k := rowsV_length fun x _ => hk x
  unfold HoldsK at hH
  rw [flatK_is hk hk0] at hH
  have hH2 : Holds id (Sort.ahead w m) g 0 (rowsV enc l).toArray := hH
  have hsz : (grow (putRow id (Sort.ahead w m) g 0 (rowsV enc t).toArray) os).heap.size = w.heap.size + os.size := by
    unfold grow putRow mapBlock Sort.ahead
    simp
  unfold sortWorldK putRowK
  rw [flatK_is hk hk0]
  refine ⟨⟨by rw [hlt, ht], fun _ => ⟨g, 0, rfl, by rw [hsz]; omega, fun j u hu => ?_⟩⟩, ?_⟩
  · obtain ⟨hj, hu2⟩ := List.getElem?_eq_some_iff.1 hu
    have hc := cell?_putRow id (Sort.ahead w m) g 0 (rowsV enc l).toArray (rowsV enc t).toArray hH2 (by simp [hlt, hll, ht]) j (by simpa using hj)
    have hc2 : (grow (putRow id (Sort.ahead w m) g 0 (rowsV enc t).toArray) os).cell? ⟨g, 0 + j, none⟩ = (putRow id (Sort.ahead w m) g 0 (rowsV enc t).toArray).cell? ⟨g, 0 + j, none⟩ := by
      unfold World.cell? grow
      simp only
      rw [Array.getElem?_append_left (by unfold putRow mapBlock Sort.ahead; simpa using hg)]
    rw [hc2, hc]
    simp [hj, hu2]
  · refine hw.trans ⟨rfl, rfl, rfl, by rw [hsz]; omega, fun q hq => ?_⟩
    unfold grow
    simp only
    rw [Array.getElem?_append_left (by unfold putRow mapBlock Sort.ahead; simp; omega)]
    unfold putRow mapBlock Sort.ahead
    simp only
    rw [Array.getElem?_modify, if_neg (by omega)]
end
end Go.Proofs.YtdgbjhfkmembdaaGreatDoor
