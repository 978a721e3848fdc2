/-
  How much a state comes to, by its changes. No conditions; no program.
-/
import Derived.Test.YtdgbjhfkmembdaaGreatDoorStateSpec
import Derived.Test.YtdgbjhfkmembdaaGreatDoorBlockSize
namespace Go.Proofs.YtdgbjhfkmembdaaGreatDoor
set_option linter.unusedVariables false

/-- At most so many claims, no document with more elements. -/
structure StateLe (s : StateD) (c t : Nat) : Prop where
  claims : s.2.1.length ≤ c
  size : ∀ x ∈ s.1, sizeR x.2 ≤ t
def textsN (l : List OpD) : Nat := (l.map fun x => runesN x.2.2.2.1).sum
theorem StateLe.mono {s : StateD} {c t c' t' : Nat} (h : StateLe s c t) (hc : c ≤ c') (ht : t ≤ t') : StateLe s c' t' := ⟨Nat.le_trans h.claims hc, fun x hx => Nat.le_trans (h.size x hx) ht⟩
theorem runesN_is (s : ByteArray) : ((runesOf s).getD []).length = runesN s := by
  unfold runesN
  cases runesOf s <;> rfl
theorem StateLe.do {s : StateD} {c t : Nat} (h : StateLe s c t) (i : List UInt8) (tm : Int) (place next : Nat) (x : OpD) : StateLe (doAt s i tm place next x) (c + 1) (t + runesN x.2.2.2.1) := by
  have h1 := h.mono (Nat.le_succ c) (Nat.le_add_right t (runesN x.2.2.2.1))
  unfold doAt
  split
  · refine ⟨by simpa using h.claims, fun y hy => ?_⟩
    rcases mem_setDoc hy with hy | rfl
    · exact h1.size y hy
    · exact Nat.zero_le _
  · split
    · exact ⟨by simpa using h.claims, h1.size⟩
    · split
      · exact h1
      · rename_i d hd
        have hm := docAt_mem hd
        split
        · refine ⟨h1.claims, fun y hy => ?_⟩
          rcases mem_setDoc hy with hy | rfl
          · exact h1.size y hy
          · refine Nat.le_trans (sizeR_insert d _ _ _ _) ?_
            rw [runesN_is]
            exact Nat.add_le_add_right (h.size _ hm) _
        · split
          · refine ⟨h1.claims, fun y hy => ?_⟩
            rcases mem_setDoc hy with hy | rfl
            · exact h1.size y hy
            · show sizeR (deleteR d _ _).1 ≤ _
              rw [sizeR_delete]
              exact h1.size _ hm
          · exact h1
theorem StateLe.dos (i : List UInt8) (tm : Int) : ∀ (l : List OpD) (ns : List Nat) (place : Nat) {s : StateD} {c t : Nat}, StateLe s c t → StateLe (dosAt i tm place s l ns) (c + l.length) (t + textsN l)
  | [], ns, place, s, c, t, h => by cases ns <;> exact h.mono (Nat.le_add_right _ _) (Nat.le_add_right _ _)
  | x :: l, [], place, s, c, t, h => h.mono (Nat.le_add_right _ _) (Nat.le_add_right _ _)
  | x :: l, n :: ns, place, s, c, t, h => by
    have := StateLe.dos i tm l ns (place + 1) (h.do i tm place n x)
    refine this.mono ?_ ?_
    · simp only [List.length_cons]; omega
    · simp only [textsN, List.map_cons, List.sum_cons]; omega
/-- What all changes of a state come to. -/
def opsOf (s : StateD) : Nat := (s.2.2.map fun e => e.2.1.2.2.2.length).sum
def textsOf (s : StateD) : Nat := (s.2.2.map fun e => textsN e.2.1.2.2.2).sum
theorem StateLe.add {s : StateD} (h : StateLe s (opsOf s) (textsOf s)) (is i : List UInt8) (c : ChangeD) : StateLe (addAt s is i c).2 (opsOf (addAt s is i c).2) (textsOf (addAt s is i c).2) := by
  unfold addAt
  split
  · exact h
  · split
    · exact h
    · split
      · exact h
      · split
        · exact h
        · split
          · exact h
          · rename_i mk ns hf
            have h2 : StateLe (s.1, s.2.1, s.2.2 ++ [(i, c, mk)]) (opsOf s) (textsOf s) := ⟨h.claims, h.size⟩
            have h3 := StateLe.dos i c.1 c.2.2.2 ns 0 h2
            have e : (dosAt i c.1 0 (s.1, s.2.1, s.2.2 ++ [(i, c, mk)]) c.2.2.2 ns).2.2 = s.2.2 ++ [(i, c, mk)] := by
              have hch : ∀ (l : List OpD) (ns : List Nat) (place : Nat) (s : StateD), (dosAt i c.1 place s l ns).2.2 = s.2.2 := by
                intro l
                induction l with
                | nil => intro ns place s; cases ns <;> rfl
                | cons x l ih =>
                  intro ns place s
                  cases ns with
                  | nil => rfl
                  | cons n ns =>
                    show (dosAt i c.1 (place + 1) (doAt s i c.1 place n x) l ns).2.2 = s.2.2
                    rw [ih, doAt_changes]
              exact hch _ _ _ _
            refine h3.mono ?_ ?_
            · unfold opsOf
              dsimp only
              rw [e, List.map_append, List.sum_append]
              simp
            · unfold textsOf
              dsimp only
              rw [e, List.map_append, List.sum_append]
              simp
section
variable (enc : ChangeD → Int) (idf : ChangeD → List UInt8)
/-- What Add does, by a change's id. -/
def addF (s : StateD) (i : List UInt8) (c : ChangeD) : Int × StateD := if enc c ≠ 0 then (enc c, s) else addAt s (idf c) i c
/-- A state that some changes have come to. -/
structure StateOf (l : List ChangeD) (s : StateD) : Prop where
  ok : StateOk s
  le : StateLe s (opsOf s) (textsOf s)
  told : ∀ x ∈ s.2.2, x.2.1 ∈ l ∧ enc x.2.1 = 0 ∧ idf x.2.1 = x.1
theorem StateOf.new (l : List ChangeD) : StateOf enc idf l newState := ⟨newState_ok, ⟨Nat.le_refl _, fun x hx => by cases hx⟩, fun x hx => by cases hx⟩
variable {enc} {idf}
theorem StateOf.add {l : List ChangeD} {s : StateD} (h : StateOf enc idf l s) {c : ChangeD} (hc : c ∈ l) (i : List UInt8) : StateOf enc idf l (addF enc idf s i c).2 := by
  unfold addF
  split
  · exact h
  · rename_i h0
    have h0' : enc c = 0 := by simpa using h0
    obtain ⟨g1, g2, g3⟩ := h.ok.add (idf c) i c
    refine ⟨g1, h.le.add _ _ _, fun x hx => ?_⟩
    by_cases he : (addAt s (idf c) i c).1 = 0
    · obtain ⟨e1, _, mk, e2⟩ := g3 he
      rw [e2] at hx
      rcases List.mem_append.1 hx with hx | hx
      · exact h.told x hx
      · rw [List.mem_singleton] at hx
        subst hx
        exact ⟨hc, h0', e1⟩
    · rw [g2 he] at hx
      exact h.told x hx
theorem StateOf.bound {l : List ChangeD} {s : StateD} (h : StateOf enc idf l s) (f : ChangeD → Nat) : (s.2.2.map fun e => f e.2.1).sum ≤ (l.map f).sum := by
  have e : (s.2.2.map fun e => f e.2.1) = (s.2.2.map fun e => e.2.1).map f := by rw [List.map_map]; rfl
  rw [e]
  haveI : DecidableEq ChangeD := Classical.typeDecidableEq _
  refine sum_sub f _ _ ?_ fun x hx => ?_
  · have h1 : (s.2.2.map fun e => e.2.1).map idf = s.2.2.map (·.1) := by
      rw [List.map_map]
      exact List.map_congr_left fun x hx => (h.told x hx).2.2
    have h2 := h.ok.ids
    rw [← h1] at h2
    exact List.Pairwise.of_map idf (fun a b h e => h (by rw [e])) h2
  · obtain ⟨y, hy, rfl⟩ := List.mem_map.1 hx
    exact (h.told y hy).1
end
end Go.Proofs.YtdgbjhfkmembdaaGreatDoor
