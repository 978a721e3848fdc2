/-
  What paths documents have by any claims, as plain functions. No conditions; no program.
-/
import Derived.Test.YtdgbjhfkmembdaaGreatDoorKeySpec
import Derived.Test.YtdgbjhfkmembdaaGreatDoorFreshSpec
namespace Go.Proofs.YtdgbjhfkmembdaaGreatDoor

/-- A claim: its key, its document, its kind, its path. -/
abbrev ClaimD := KeyD × KeyD × Nat × ByteArray
def goodB (k : Nat) (p : ByteArray) : Bool := if k = 3 ∨ k = 4 then pathB p else if k = 5 then decide (p.size = 0) else false
def RightP (l : List ClaimD) : Prop := (∀ c ∈ l, goodB c.2.2.1 c.2.2.2 = true) ∧ (l.map (·.1)).Nodup
instance (l : List ClaimD) : Decidable (RightP l) := by unfold RightP; infer_instance
def rightC (l : List ClaimD) : Bool := decide (RightP l)

/-- A document's last claim. -/
def later (d : KeyD) (a : Option ClaimD) (c : ClaimD) : Option ClaimD :=
  if c.2.1 = d then (match a with | none => some c | some w => if 0 < cmpK c.1 w.1 then some c else some w) else a
def lastOf (l : List ClaimD) (d : KeyD) : Option ClaimD := l.foldl (later d) none
theorem lastOf_snoc (l : List ClaimD) (c : ClaimD) (d : KeyD) : lastOf (l ++ [c]) d = later d (lastOf l d) c := by simp [lastOf]

theorem lastOf_ne {d : KeyD} {x : ClaimD} {l : List ClaimD} (h1 : x ∈ l) (h2 : x.2.1 = d) : lastOf l d ≠ none := by
  suffices h : ∀ (l : List ClaimD) (a : Option ClaimD), (a ≠ none ∨ (x ∈ l ∧ x.2.1 = d)) → l.foldl (later d) a ≠ none from h l none (.inr ⟨h1, h2⟩)
  intro l
  induction l with
  | nil => exact fun a h => h.elim id (fun h => absurd h.1 (by simp))
  | cons y l ih =>
    intro a h
    rw [List.foldl_cons]
    apply ih
    rcases h with h | ⟨h, hd⟩
    · left
      unfold later
      split
      · split
        · simp
        · split <;> simp
      · exact h
    · rcases List.mem_cons.1 h with rfl | h
      · left
        unfold later
        rw [if_pos hd]
        split
        · simp
        · split <;> simp
      · exact .inr ⟨h, hd⟩
theorem lastOf_is {l : List ClaimD} {d : KeyD} {c : ClaimD} (h0 : lastOf l d = some c) : c ∈ l ∧ c.2.1 = d ∧ ∀ x ∈ l, x.2.1 = d → cmpK x.1 c.1 ≤ 0 := by
  suffices h : ∀ (n : Nat) (l : List ClaimD), l.length ≤ n → ∀ c, lastOf l d = some c → c ∈ l ∧ c.2.1 = d ∧ ∀ x ∈ l, x.2.1 = d → cmpK x.1 c.1 ≤ 0 from h _ l (Nat.le_refl _) c h0
  intro n
  induction n with
  | zero =>
    intro l hl c h
    rw [List.length_eq_zero_iff.1 (by omega : l.length = 0)] at h
    cases h
  | succ n ih =>
    intro l hl c h
    rcases List.eq_nil_or_concat l with e | ⟨l', y, e⟩
    · rw [e] at h; cases h
    · rw [List.concat_eq_append] at e
      subst e
      have hl' : l'.length ≤ n := by simp at hl; omega
      rw [lastOf_snoc] at h
      unfold later at h
      split at h
      · rename_i hd
        split at h
        · rename_i hn
          cases h
          refine ⟨by simp, hd, fun x hx hxd => ?_⟩
          rcases List.mem_append.1 hx with hx | hx
          · have : lastOf l' d ≠ none := lastOf_ne hx hxd
            exact absurd hn this
          · simp at hx; subst hx; rw [cmpK_self]; exact Int.le_refl _
        · rename_i w hw
          obtain ⟨g1, g2, g3⟩ := ih l' hl' w hw
          split at h
          · rename_i hc
            cases h
            refine ⟨by simp, hd, fun x hx hxd => ?_⟩
            rcases List.mem_append.1 hx with hx | hx
            · have h3 := g3 x hx hxd
              rcases cmpK_cases x.1 w.1 with e | e | e
              · have := cmpK_trans e (cmpK_pos.1 hc); omega
              · rw [e]; have := cmpK_pos.1 hc; omega
              · have := cmpK_pos.2 e; omega
            · simp at hx; subst hx; rw [cmpK_self]; exact Int.le_refl _
          · rename_i hc
            cases h
            refine ⟨by simp [g1], g2, fun x hx hxd => ?_⟩
            rcases List.mem_append.1 hx with hx | hx
            · exact g3 x hx hxd
            · simp at hx; subst hx; omega
      · rename_i hd
        obtain ⟨g1, g2, g3⟩ := ih l' hl' c h
        refine ⟨by simp [g1], g2, fun x hx hxd => ?_⟩
        rcases List.mem_append.1 hx with hx | hx
        · exact g3 x hx hxd
        · simp at hx; subst hx; exact absurd hxd hd
theorem lastOf_some {l : List ClaimD} {d : KeyD} {x : ClaimD} (h : x ∈ l) (hd : x.2.1 = d) : ∃ c, lastOf l d = some c := by
  rcases e : lastOf l d with _ | c
  · exact absurd e (lastOf_ne h hd)
  · exact ⟨c, rfl⟩
theorem lastOf_none {l : List ClaimD} {d : KeyD} : lastOf l d = none ↔ d ∉ l.map (·.2.1) := by
  constructor
  · intro h hm
    obtain ⟨x, hx, rfl⟩ := List.mem_map.1 hm
    obtain ⟨c, hc⟩ := lastOf_some hx rfl
    rw [hc] at h; cases h
  · intro h
    rcases e : lastOf l d with _ | c
    · rfl
    · obtain ⟨h1, h2, _⟩ := lastOf_is e
      exact absurd (List.mem_map.2 ⟨c, h1, h2⟩) h
/-- With keys of their own, the last claim is the one with the greatest key. -/
theorem lastOf_eq {l : List ClaimD} (hn : (l.map (·.1)).Nodup) {d : KeyD} {c : ClaimD} (h1 : c ∈ l) (h2 : c.2.1 = d) (h3 : ∀ x ∈ l, x.2.1 = d → cmpK x.1 c.1 ≤ 0) : lastOf l d = some c := by
  obtain ⟨w, hw⟩ := lastOf_some h1 h2
  obtain ⟨g1, g2, g3⟩ := lastOf_is hw
  have e1 := g3 c h1 h2
  have e2 := h3 w g1 g2
  have hk : w.1 = c.1 := by
    rcases cmpK_cases w.1 c.1 with e | e | e
    · have := cmpK_pos.2 e; omega
    · exact e
    · have := cmpK_pos.2 e; omega
  have : w = c := by
    obtain ⟨i, hi, rfl⟩ := List.getElem_of_mem g1
    obtain ⟨j, hj, rfl⟩ := List.getElem_of_mem h1
    have hp := List.pairwise_iff_getElem.1 hn
    rcases (by omega : i < j ∨ i = j ∨ j < i) with e | e | e
    · exact absurd (by rw [List.getElem_map, List.getElem_map]; exact hk) (hp i j (by simpa using hi) (by simpa using hj) e)
    · subst e; rfl
    · exact absurd (by rw [List.getElem_map, List.getElem_map]; exact hk.symm) (hp j i (by simpa using hj) (by simpa using hi) e)
  rw [hw, this]

/-- The documents in order, their paths. -/
def docsS (l : List ClaimD) : List KeyD := sortK (l.map (·.2.1))
def pathsGo (f : KeyD → Option ClaimD) : List KeyD → List (List UInt8) → List (KeyD × List UInt8)
  | [], _ => []
  | d :: r, taken => match f d with
    | some c => if c.2.2.1 = 5 then pathsGo f r taken else (d, freshS (L c.2.2.2) taken) :: pathsGo f r (taken ++ [freshS (L c.2.2.2) taken])
    | none => pathsGo f r taken
def pathsS (l : List ClaimD) : List (KeyD × List UInt8) := if rightC l then pathsGo (lastOf l) (docsS l) [] else []
def findS (l : List ClaimD) (p : List UInt8) : Option KeyD := ((pathsS l).find? fun n => n.2 == p).map (·.1)

theorem rightB_iff {l : List ClaimD} : rightC l = true ↔ RightP l := by simp [rightC]
theorem rightB_perm {l m : List ClaimD} (h : l.Perm m) : rightC l = rightC m := by
  rw [Bool.eq_iff_iff, rightB_iff, rightB_iff]
  unfold RightP
  rw [(h.map (·.1)).nodup_iff]
  constructor
  · rintro ⟨h1, h2⟩; exact ⟨fun c hc => h1 c (h.mem_iff.2 hc), h2⟩
  · rintro ⟨h1, h2⟩; exact ⟨fun c hc => h1 c (h.mem_iff.1 hc), h2⟩
theorem lastOf_perm {l m : List ClaimD} (h : l.Perm m) (hn : (l.map (·.1)).Nodup) (d : KeyD) : lastOf l d = lastOf m d := by
  rcases e : lastOf l d with _ | c
  · rw [lastOf_none] at e
    exact ((lastOf_none (l := m)).2 fun hm => e ((h.map (·.2.1)).mem_iff.2 hm)).symm
  · obtain ⟨h1, h2, h3⟩ := lastOf_is e
    exact (lastOf_eq ((h.map (·.1)).nodup_iff.1 hn) (h.mem_iff.1 h1) h2 (fun x hx => h3 x (h.mem_iff.2 hx))).symm
theorem docsS_perm {l m : List ClaimD} (h : l.Perm m) : docsS l = docsS m :=
  Rising.ext (sortK_rising _) (sortK_rising _) fun k => by
    unfold docsS
    rw [mem_sortK, mem_sortK]
    exact (h.map (·.2.1)).mem_iff
/-- In which order claims are listed makes no difference. -/
theorem pathsS_perm {l m : List ClaimD} (h : l.Perm m) : pathsS l = pathsS m := by
  unfold pathsS
  rw [rightB_perm h]
  split
  · rename_i hr
    rw [← rightB_perm h, rightB_iff] at hr
    rw [docsS_perm h, show lastOf l = lastOf m from funext (lastOf_perm h hr.2)]
  · rfl

theorem pathsGo_docs (f : KeyD → Option ClaimD) : ∀ (ds : List KeyD) (taken : List (List UInt8)), (pathsGo f ds taken).map (·.1) = ds.filter fun d => match f d with | some c => !decide (c.2.2.1 = 5) | none => false
  | [], _ => rfl
  | d :: r, taken => by
    unfold pathsGo
    rw [List.filter_cons]
    rcases hf : f d with _ | c
    · simp [pathsGo_docs f r taken]
    · by_cases hk : c.2.2.1 = 5
      · simp [hk, pathsGo_docs f r taken]
      · simp [hk, pathsGo_docs f r _]
theorem pathsGo_rising {f : KeyD → Option ClaimD} {ds : List KeyD} {taken : List (List UInt8)} (h : Rising ds) : Rising ((pathsGo f ds taken).map (·.1)) := by
  rw [pathsGo_docs]
  exact h.sublist List.filter_sublist
theorem pathsGo_apart (f : KeyD → Option ClaimD) : ∀ (ds : List KeyD) (taken : List (List UInt8)), ((pathsGo f ds taken).map (·.2)).Pairwise (fun a b => clashB b a = false) ∧ ∀ p ∈ (pathsGo f ds taken).map (·.2), clashesB p taken = false
  | [], _ => ⟨List.Pairwise.nil, fun p hp => by cases hp⟩
  | d :: r, taken => by
    unfold pathsGo
    rcases hf : f d with _ | c
    · exact pathsGo_apart f r taken
    · by_cases hk : c.2.2.1 = 5
      · simp only [hk, if_true]
        exact pathsGo_apart f r taken
      · simp only [hk, if_false]
        obtain ⟨h1, h2⟩ := pathsGo_apart f r (taken ++ [freshS (L c.2.2.2) taken])
        have hsplit : ∀ p, clashesB p (taken ++ [freshS (L c.2.2.2) taken]) = false → clashesB p taken = false ∧ clashB p (freshS (L c.2.2.2) taken) = false := by
          intro p h
          simpa [clashesB] using h
        refine ⟨?_, ?_⟩
        · rw [List.map_cons, List.pairwise_cons]
          exact ⟨fun p hp => (hsplit p (h2 p hp)).2, h1⟩
        · intro p hp
          rw [List.map_cons] at hp
          rcases List.mem_cons.1 hp with rfl | hp
          · exact fresh_clear _ _
          · exact (hsplit p (h2 p hp)).1
theorem clashB_self (a : List UInt8) : clashB a a = true := by simp [clashB]

theorem pathsS_rising (l : List ClaimD) : Rising ((pathsS l).map (·.1)) := by
  unfold pathsS
  split
  · exact pathsGo_rising (sortK_rising _)
  · exact List.Pairwise.nil
theorem pathsS_apart (l : List ClaimD) : ((pathsS l).map (·.2)).Pairwise (fun a b => clashB b a = false) := by
  unfold pathsS
  split
  · exact (pathsGo_apart _ _ _).1
  · exact List.Pairwise.nil
/-- Each path is found. -/
theorem findS_is (l : List ClaimD) {i : Nat} (hi : i < (pathsS l).length) : findS l (pathsS l)[i].2 = some (pathsS l)[i].1 := by
  have hp := pathsS_apart l
  unfold findS
  have : ((pathsS l).find? fun n => n.2 == (pathsS l)[i].2) = some (pathsS l)[i] := by
    rw [List.find?_eq_some_iff_getElem]
    refine ⟨by simp, i, hi, rfl, fun j hj => ?_⟩
    rw [List.pairwise_iff_getElem] at hp
    have := hp j i (by simp; omega) (by simpa using hi) hj
    simp only [List.getElem_map] at this
    simp only [Bool.not_eq_true', beq_eq_false_iff_ne, ne_eq]
    intro e
    rw [e, clashB_self] at this
    cases this
  rw [this]; rfl
/-- A claim behind all others decides. -/
theorem newest {l : List ClaimD} {x : ClaimD} (h : ∀ c ∈ l, cmpK c.1 x.1 < 0) (hr : rightC (l ++ [x]) = true) : lastOf (l ++ [x]) x.2.1 = some x ∧ (x.2.1 ∈ (pathsS (l ++ [x])).map (·.1) ↔ x.2.2.1 ≠ 5) := by
  have hR := rightB_iff.1 hr
  have hlast : lastOf (l ++ [x]) x.2.1 = some x := by
    refine lastOf_eq hR.2 (by simp) rfl fun y hy _ => ?_
    rcases List.mem_append.1 hy with hy | hy
    · have := h y hy; omega
    · simp at hy; subst hy; rw [cmpK_self]; exact Int.le_refl _
  refine ⟨hlast, ?_⟩
  unfold pathsS
  rw [hr, if_pos rfl, pathsGo_docs, List.mem_filter]
  unfold docsS
  rw [mem_sortK, hlast]
  simp
end Go.Proofs.YtdgbjhfkmembdaaGreatDoor
