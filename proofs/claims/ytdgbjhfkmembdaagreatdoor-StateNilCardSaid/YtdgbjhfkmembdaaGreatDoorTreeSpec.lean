/-
  Why files may not be a tree, as a plain function; files of a tree are one without any one of them, and with two of them changed about. No conditions; no program.
-/
import Derived.Test.YtdgbjhfkmembdaaGreatDoorFreshSpec
namespace Go.Proofs.YtdgbjhfkmembdaaGreatDoor

def bytesE (s : ByteArray) : Int := if 4096 < s.size then 2 else if isText s then 0 else 5
def treeGo : List (List UInt8) → List (ByteArray × ByteArray) → Int
  | _, [] => 0
  | ahead, f :: r => if pathB f.1 = false then 10 else if bytesE f.2 ≠ 0 then bytesE f.2 else if clashesB (L f.1) ahead then 11 else treeGo (ahead ++ [L f.1]) r
def treeE (fs : List (ByteArray × ByteArray)) : Int := if 64 < fs.length then 3 else treeGo [] fs

theorem clash_symm (a b : List UInt8) : clashB a b = clashB b a := by
  unfold clashB
  rw [show decide (a = b) = decide (b = a) by rw [Bool.eq_iff_iff]; simp [eq_comm]]
  rw [Bool.or_assoc, Bool.or_assoc, Bool.or_comm (underB a b)]

def okFile (f : ByteArray × ByteArray) : Prop := pathB f.1 = true ∧ bytesE f.2 = 0
def apartF (f g : ByteArray × ByteArray) : Prop := clashB (L f.1) (L g.1) = false
theorem treeGo_iff : ∀ (fs : List (ByteArray × ByteArray)) (ahead : List (List UInt8)), treeGo ahead fs = 0 ↔ (∀ f ∈ fs, okFile f) ∧ (∀ f ∈ fs, clashesB (L f.1) ahead = false) ∧ fs.Pairwise apartF := by
  intro fs
  induction fs with
  | nil => intro ahead; simp [treeGo]
  | cons f fs ih =>
    intro ahead
    rw [treeGo]
    cases hp : pathB f.1
    · rw [if_pos rfl]
      refine ⟨fun h => by omega, fun h => ?_⟩
      have := (h.1 f (by simp)).1
      rw [hp] at this; cases this
    · rw [if_neg (by simp)]
      by_cases hb : bytesE f.2 = 0
      · rw [if_neg (by simp [hb])]
        cases hc : clashesB (L f.1) ahead
        · rw [if_neg (by simp), ih]
          have hca : ∀ g : ByteArray × ByteArray, clashesB (L g.1) (ahead ++ [L f.1]) = (clashesB (L g.1) ahead || clashB (L g.1) (L f.1)) := by
            intro g; simp [clashesB]
          simp only [List.mem_cons, List.pairwise_cons, hca, Bool.or_eq_false_iff]
          constructor
          · rintro ⟨h1, h2, h3⟩
            refine ⟨?_, ?_, ⟨fun g hg => ?_, h3⟩⟩
            · rintro g (rfl | hg)
              · exact ⟨hp, hb⟩
              · exact h1 g hg
            · rintro g (rfl | hg)
              · exact hc
              · exact (h2 g hg).1
            · unfold apartF
              rw [clash_symm]
              exact (h2 g hg).2
          · rintro ⟨h1, h2, h3, h4⟩
            refine ⟨fun g hg => h1 g (.inr hg), fun g hg => ⟨h2 g (.inr hg), ?_⟩, h4⟩
            rw [clash_symm]
            exact h3 g hg
        · rw [if_pos rfl]
          refine ⟨fun h => by omega, fun h => ?_⟩
          have := h.2.1 f (by simp)
          rw [hc] at this; cases this
      · rw [if_pos hb]
        refine ⟨fun h => absurd h hb, fun h => ?_⟩
        exact absurd (h.1 f (by simp)).2 hb
theorem treeE_iff (fs : List (ByteArray × ByteArray)) : treeE fs = 0 ↔ fs.length ≤ 64 ∧ (∀ f ∈ fs, okFile f) ∧ fs.Pairwise apartF := by
  unfold treeE
  split
  · refine ⟨fun h => by omega, fun h => by omega⟩
  · rw [treeGo_iff]
    have : ∀ f : ByteArray × ByteArray, clashesB (L f.1) [] = false := fun f => rfl
    simp only [this, implies_true, true_and]
    constructor
    · rintro ⟨h1, h2⟩; exact ⟨by omega, h1, h2⟩
    · rintro ⟨_, h1, h2⟩; exact ⟨h1, h2⟩
theorem tree_sub {fs gs : List (ByteArray × ByteArray)} (h : treeE fs = 0) (hs : gs.Sublist fs) : treeE gs = 0 := by
  rw [treeE_iff] at h ⊢
  exact ⟨Nat.le_trans hs.length_le h.1, fun f hf => h.2.1 f (hs.subset hf), h.2.2.sublist hs⟩
theorem tree_perm {fs gs : List (ByteArray × ByteArray)} (h : treeE fs = 0) (hp : gs.Perm fs) : treeE gs = 0 := by
  rw [treeE_iff] at h ⊢
  refine ⟨by rw [hp.length_eq]; exact h.1, fun f hf => h.2.1 f (hp.mem_iff.1 hf), ?_⟩
  exact (hp.pairwise_iff (R := apartF) (fun {x y} hxy => by unfold apartF at hxy ⊢; rw [clash_symm]; exact hxy)).2 h.2.2
theorem tree_swap {fs : List (ByteArray × ByteArray)} (h : treeE fs = 0) {a b : Nat} (ha : a < fs.length) (hb : b < fs.length) : treeE ((fs.set a fs[b]).set b fs[a]) = 0 :=
  tree_perm h (List.set_set_perm ha hb)
theorem tree_less {fs : List (ByteArray × ByteArray)} (h : treeE fs = 0) (a : Nat) : treeE (fs.eraseIdx a) = 0 := tree_sub h (List.eraseIdx_sublist _ _)
end Go.Proofs.YtdgbjhfkmembdaaGreatDoor
