/-
  What the program's Tree gives. Conditions: texts of at most 2^47 bytes; the library's variable MaxLen holds a number.
-/
import Derived.Test.YtdgbjhfkmembdaaGreatDoorFiles
import Derived.Test.YtdgbjhfkmembdaaGreatDoorTreeSpec
import Derived.Test.YtdgbjhfkmembdaaGreatDoorRunes
namespace Go.Proofs.YtdgbjhfkmembdaaGreatDoor
open Go.RowKit
set_option linter.unusedVariables false

theorem bytesE_eq (s : ByteArray) : bytesS s = bytesE s := rfl
theorem bytesE_cases (s : ByteArray) : bytesE s = 0 ∨ bytesE s = 2 ∨ bytesE s = 5 := by
  unfold bytesE
  split
  · exact .inr (.inl rfl)
  · split
    · exact .inl rfl
    · exact .inr (.inr rfl)
theorem bcell {W w1 : World} (hb : Below W.heap.size W w1) : (∀ b o, b < W.heap.size → w1.cell? ⟨b, o, none⟩ = W.cell? ⟨b, o, none⟩) ∧ (∀ b o, b < W.heap.size → w1.frozen? ⟨b, o, none⟩ = W.frozen? ⟨b, o, none⟩) :=
  ⟨fun b o h => hb.cell (p := ⟨b, o, none⟩) h, fun b o h => hb.frozen (p := ⟨b, o, none⟩) h⟩

/-- Read up to i: what is left decides. -/
def Treeing (fs : List (ByteArray × ByteArray)) (i : Nat) : Prop := treeE fs = treeGo ((fs.take i).map fun f => L f.1) (fs.drop i)
theorem treeing_start {fs : List (ByteArray × ByteArray)} (h : ¬ 64 < fs.length) : Treeing fs 0 := by
  unfold Treeing treeE; rw [if_neg h]; rfl
theorem treeing_step {fs : List (ByteArray × ByteArray)} {i : Nat} (h : Treeing fs i) (hi : i < fs.length) :
    treeE fs = if pathB fs[i].1 = false then 10 else if bytesE fs[i].2 ≠ 0 then bytesE fs[i].2 else if clashesB (L fs[i].1) ((fs.take i).map fun f => L f.1) then 11 else treeGo ((fs.take (i + 1)).map fun f => L f.1) (fs.drop (i + 1)) := by
  rw [h, List.drop_eq_getElem_cons hi, treeGo, List.take_succ_eq_append_getElem hi, List.map_append]
  rfl
theorem treeing_end {fs : List (ByteArray × ByteArray)} {i : Nat} (h : Treeing fs i) (hi : fs.length ≤ i) : treeE fs = 0 := by
  rw [h, List.drop_eq_nil_of_le hi]; rfl
theorem clashes_take_no {fs : List (ByteArray × ByteArray)} {i : Nat} {l : List UInt8} (hi : i ≤ fs.length) (h : ∀ j (hj : j < fs.length), j < i → clashB l (L fs[j].1) = false) : clashesB l ((fs.take i).map fun f => L f.1) = false := by
  unfold clashesB
  rw [List.any_eq_false]
  intro x hx
  obtain ⟨f, hf, rfl⟩ := List.mem_map.1 hx
  obtain ⟨j, hj, rfl⟩ := List.getElem_of_mem hf
  rw [List.length_take] at hj
  rw [List.getElem_take]
  simp [h j (by omega) (by omega)]
theorem clashes_take_yes {fs : List (ByteArray × ByteArray)} {i j : Nat} {l : List UInt8} (hi : i ≤ fs.length) (hj : j < i) (h : clashB l (L (fs[j]'(by omega)).1) = true) : clashesB l ((fs.take i).map fun f => L f.1) = true := by
  unfold clashesB
  rw [List.any_eq_true]
  refine ⟨L (fs[j]'(by omega)).1, List.mem_map.2 ⟨fs[j]'(by omega), ?_, rfl⟩, h⟩
  rw [List.mem_take_iff_getElem]
  exact ⟨j, by omega, rfl⟩

end Go.Proofs.YtdgbjhfkmembdaaGreatDoor
