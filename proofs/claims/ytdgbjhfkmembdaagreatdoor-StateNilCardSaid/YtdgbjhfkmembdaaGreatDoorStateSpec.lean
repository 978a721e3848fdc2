/-
  What some changes together come to, as plain functions. No conditions; no program.
-/
import Derived.Test.YtdgbjhfkmembdaaGreatDoorBlockSpec
import Derived.Test.YtdgbjhfkmembdaaGreatDoorRegSpec
import Derived.Test.YtdgbjhfkmembdaaGreatDoorObjSpec
namespace Go.Proofs.YtdgbjhfkmembdaaGreatDoor
set_option linter.unusedVariables false

/-- What an index of a change is: a document, or an element of one. -/
abbrev MakeD := Bool × KeyD
abbrev EntryD := ChangeD × List MakeD
/-- The documents, the claims, the changes. -/
abbrev StateD := List (KeyD × List RunD) × List ClaimD × List (List UInt8 × EntryD)
def docAt (s : StateD) (k : KeyD) : Option (List RunD) := (s.1.find? fun x => decide (x.1 = k)).map (·.2)
def entryAt (s : StateD) (i : List UInt8) : Option EntryD := (s.2.2.find? fun x => decide (x.1 = i)).map (·.2)
def timeAt (s : StateD) (i : List UInt8) : Int := ((entryAt s i).map (·.1.1)).getD 0
def keyAt (s : StateD) (i : List UInt8) (t : Int) (r : RefD) : KeyD := if r.1 = zero32 then (t, i, r.2) else (timeAt s r.1, r.1, r.2)
def makesAt (s : StateD) (mk : List MakeD) (r : RefD) : List MakeD := if r.1 = zero32 then mk else ((entryAt s r.1).map (·.2)).getD []
def whatAt (s : StateD) (mk : List MakeD) (r : RefD) (more : Nat) : Option MakeD :=
  if r.2 < ((makesAt s mk r).length : Int) - (more : Int) then (makesAt s mk r)[r.2.toNat + more]? else none
def elemAt (s : StateD) (i : List UInt8) (t : Int) (mk : List MakeD) (x : OpD) (more : Nat) : Bool := match whatAt s mk x.2.2.1 more with
  | some m => !m.1 && decide (m.2 = keyAt s i t x.2.1)
  | none => false
/-- What an operation makes besides, where it names what it may. -/
def fitAt (s : StateD) (i : List UInt8) (t : Int) (mk : List MakeD) (x : OpD) : Option (List MakeD) :=
  if x.1 = 3 then some (mk ++ [(true, (0, zero32, 0))])
  else match whatAt s mk x.2.1 0 with
    | none => none
    | some m =>
      if m.1 = false then none
      else if x.1 = 2 then (if (List.range x.2.2.2.2.1.toNat).all (elemAt s i t mk x) then some mk else none)
      else if x.1 = 1 then (if x.2.2.1 = x.2.1 ∨ elemAt s i t mk x 0 = true then some (mk ++ List.replicate (runesN x.2.2.2.1) (false, keyAt s i t x.2.1)) else none)
      else some mk
/-- The same of all operations, and each one's first index. -/
def fitsAt (s : StateD) (i : List UInt8) (t : Int) : List MakeD → List OpD → Option (List MakeD × List Nat)
  | mk, [] => some (mk, [])
  | mk, x :: l => match fitAt s i t mk x with
    | none => none
    | some mk2 => (fitsAt s i t mk2 l).map fun q => (q.1, mk.length :: q.2)
def setDoc (l : List (KeyD × List RunD)) (k : KeyD) (d : List RunD) : List (KeyD × List RunD) :=
  if l.any fun x => decide (x.1 = k) then l.map fun x => if x.1 = k then (k, d) else x else l ++ [(k, d)]
def doAt (s : StateD) (i : List UInt8) (t : Int) (place next : Nat) (x : OpD) : StateD :=
  if x.1 = 3 then (setDoc s.1 (t, i, (next : Int)) [], s.2.1 ++ [((t, i, (place : Int)), (t, i, (next : Int)), 3, x.2.2.2.2.2)], s.2.2)
  else if x.1 = 4 ∨ x.1 = 5 then (s.1, s.2.1 ++ [((t, i, (place : Int)), keyAt s i t x.2.1, x.1.toNat, x.2.2.2.2.2)], s.2.2)
  else match docAt s (keyAt s i t x.2.1) with
    | none => s
    | some d =>
      if x.1 = 1 then (setDoc s.1 (keyAt s i t x.2.1) (insertR d (t, i, (next : Int)) (keyAt s i t x.2.2.1) (decide (x.2.2.1 = x.2.1)) ((runesOf x.2.2.2.1).getD [])).1, s.2)
      else if x.1 = 2 then (setDoc s.1 (keyAt s i t x.2.1) (deleteR d (keyAt s i t x.2.2.1) x.2.2.2.2.1).1, s.2)
      else s
def dosAt (i : List UInt8) (t : Int) : Nat → StateD → List OpD → List Nat → StateD
  | place, s, x :: l, n :: ns => dosAt i t (place + 1) (doAt s i t place n x) l ns
  | _, s, _, _ => s
/-- A change that may be is added; `is` is its id. -/
def addAt (s : StateD) (is i : List UInt8) (c : ChangeD) : Int × StateD :=
  if is ≠ i then (18, s)
  else if (entryAt s i).isSome then (11, s)
  else if c.2.1.all (fun d => (entryAt s d).isSome) = false then (12, s)
  else if c.2.1.all (fun d => decide (timeAt s d < c.1)) = false then (21, s)
  else match fitsAt s i c.1 [] c.2.2.2 with
    | none => (22, s)
    | some (mk, ns) => (0, dosAt i c.1 0 (s.1, s.2.1, s.2.2 ++ [(i, c, mk)]) c.2.2.2 ns)
def newState : StateD := ([], [], [])

/-- The changes are told apart; each document, and each element, is of one of them. -/
structure StateOk (s : StateD) : Prop where
  ids : (s.2.2.map (·.1)).Nodup
  docs : (s.1.map (·.1)).Nodup
  of : ∀ x ∈ s.1, (entryAt s x.1.2.1).isSome = true
  runs : ∀ x ∈ s.1, RunsOf (fun k => (entryAt s k.2.1).isSome = true) x.2
theorem newState_ok : StateOk newState := ⟨List.nodup_nil, List.nodup_nil, (fun x hx => by cases hx), fun x hx => by cases hx⟩
theorem mem_setDoc {l : List (KeyD × List RunD)} {k : KeyD} {d : List RunD} {x : KeyD × List RunD} (h : x ∈ setDoc l k d) : x ∈ l ∨ x = (k, d) := by
  unfold setDoc at h
  split at h
  · obtain ⟨y, hy, e⟩ := List.mem_map.1 h
    split at e
    · exact .inr e.symm
    · subst e; exact .inl hy
  · rcases List.mem_append.1 h with h | h
    · exact .inl h
    · exact .inr (List.mem_singleton.1 h)
theorem setDoc_keys (l : List (KeyD × List RunD)) (k : KeyD) (d : List RunD) : (setDoc l k d).map (·.1) = l.map (·.1) ∨ (k ∉ l.map (·.1) ∧ (setDoc l k d).map (·.1) = l.map (·.1) ++ [k]) := by
  unfold setDoc
  split
  · left
    rw [List.map_map]
    apply List.map_congr_left
    intro x _
    simp only [Function.comp]
    split
    · rename_i e; exact e.symm
    · rfl
  · rename_i h
    right
    refine ⟨fun hm => h ?_, by simp⟩
    obtain ⟨x, hx, e⟩ := List.mem_map.1 hm
    exact List.any_eq_true.2 ⟨x, hx, decide_eq_true e⟩
theorem setDoc_nodup {l : List (KeyD × List RunD)} (h : (l.map (·.1)).Nodup) (k : KeyD) (d : List RunD) : ((setDoc l k d).map (·.1)).Nodup := by
  rcases setDoc_keys l k d with e | ⟨hn, e⟩
  · rw [e]; exact h
  · rw [e]
    exact List.nodup_append.2 ⟨h, by simp, fun a ha b hb hab => hn (by rw [List.mem_singleton] at hb; rw [← hb, ← hab]; exact ha)⟩
theorem docAt_mem {s : StateD} {k : KeyD} {d : List RunD} (h : docAt s k = some d) : (k, d) ∈ s.1 := by
  unfold docAt at h
  obtain ⟨x, hx, rfl⟩ := Option.map_eq_some_iff.1 h
  have h1 := List.mem_of_find?_eq_some hx
  have h2 := List.find?_some hx
  rw [decide_eq_true_eq] at h2
  subst h2
  exact h1
theorem find_set (k k' : KeyD) (d : List RunD) : ∀ l : List (KeyD × List RunD), l.any (fun x => decide (x.1 = k)) = true →
    ((l.map fun x => if x.1 = k then (k, d) else x).find? fun x => decide (x.1 = k')).map (·.2) = if k' = k then some d else (l.find? fun x => decide (x.1 = k')).map (·.2)
  | [], h => by cases h
  | x :: l, h => by
    rw [List.map_cons, List.find?_cons, List.find?_cons]
    by_cases hx : x.1 = k
    · rw [if_pos hx]
      by_cases hk : k' = k
      · subst hk; simp
      · rw [if_neg hk]
        have e1 : decide (((k, d) : KeyD × List RunD).1 = k') = false := decide_eq_false fun e => hk e.symm
        have e2 : decide (x.1 = k') = false := decide_eq_false fun e => hk (e.symm.trans hx)
        rw [e1, e2]
        by_cases ha : l.any (fun x => decide (x.1 = k)) = true
        · have := find_set k k' d l ha
          rw [if_neg hk] at this
          exact this
        · have : (l.map fun x => if x.1 = k then (k, d) else x) = l := by
            rw [List.map_congr_left (g := id)]
            · simp
            · intro y hy
              have : y.1 ≠ k := fun e => ha (List.any_eq_true.2 ⟨y, hy, decide_eq_true e⟩)
              rw [if_neg this]; rfl
          simp only [this]
    · rw [if_neg hx]
      have ha : l.any (fun x => decide (x.1 = k)) = true := by
        rw [List.any_cons, decide_eq_false hx, Bool.false_or] at h; exact h
      by_cases hk : x.1 = k'
      · have : k' ≠ k := fun e => hx (hk.trans e)
        rw [if_neg this, decide_eq_true hk]
      · rw [decide_eq_false hk]
        exact find_set k k' d l ha
theorem docAt_set (s : StateD) (k : KeyD) (d : List RunD) (r : List ClaimD × List (List UInt8 × EntryD)) (k' : KeyD) : docAt (setDoc s.1 k d, r) k' = if k' = k then some d else docAt s k' := by
  unfold docAt setDoc
  by_cases ha : s.1.any (fun x => decide (x.1 = k)) = true
  · rw [if_pos ha]; exact find_set k k' d s.1 ha
  · rw [if_neg ha]
    have hn : ∀ x ∈ s.1, x.1 ≠ k := fun x hx e => ha (List.any_eq_true.2 ⟨x, hx, decide_eq_true e⟩)
    show (List.find? _ (s.1 ++ [(k, d)])).map _ = _
    rw [List.find?_append]
    by_cases hk : k' = k
    · subst hk
      rw [if_pos rfl, List.find?_eq_none.2 (fun x hx => by simpa using hn x hx)]
      simp
    · rw [if_neg hk]
      have : decide (k = k') = false := decide_eq_false fun e => hk e.symm
      simp [List.find?_cons, this]
theorem docAt_rest (s : StateD) (r : List ClaimD × List (List UInt8 × EntryD)) (k : KeyD) : docAt (s.1, r) k = docAt s k := rfl
theorem StateOk.set {s : StateD} (h : StateOk s) {k : KeyD} {d : List RunD} (hk : (entryAt s k.2.1).isSome = true) (hd : RunsOf (fun k => (entryAt s k.2.1).isSome = true) d) (cl : List ClaimD) : StateOk (setDoc s.1 k d, cl, s.2.2) :=
  ⟨h.ids, setDoc_nodup h.docs k d, fun x hx => by
    rcases mem_setDoc hx with hx | rfl
    · exact h.of x hx
    · exact hk, fun x hx => by
    rcases mem_setDoc hx with hx | rfl
    · exact h.runs x hx
    · exact hd⟩
theorem StateOk.do {s : StateD} (h : StateOk s) {i : List UInt8} (hi : (entryAt s i).isSome = true) (t : Int) (place next : Nat) (x : OpD) : StateOk (doAt s i t place next x) := by
  unfold doAt
  split
  · exact h.set (k := (t, i, (next : Int))) (d := []) hi (fun r hr => by cases hr) _
  · split
    · exact ⟨h.ids, h.docs, h.of, h.runs⟩
    · split
      · exact h
      · rename_i d hd
        have hm := docAt_mem hd
        split
        · exact h.set (h.of _ hm) ((h.runs _ hm).insert (fun _ _ hk => hk) (by exact hi)) _
        · split
          · exact h.set (h.of _ hm) ((h.runs _ hm).delete (fun _ _ hk => hk) _ _) _
          · exact h
theorem doAt_changes (s : StateD) (i : List UInt8) (t : Int) (place next : Nat) (x : OpD) : (doAt s i t place next x).2.2 = s.2.2 := by
  unfold doAt
  split
  · rfl
  · split
    · rfl
    · split
      · rfl
      · split
        · rfl
        · split <;> rfl
theorem StateOk.dos {i : List UInt8} (t : Int) : ∀ (l : List OpD) (ns : List Nat) (place : Nat) {s : StateD}, StateOk s → (entryAt s i).isSome = true → StateOk (dosAt i t place s l ns) ∧ (dosAt i t place s l ns).2.2 = s.2.2
  | [], ns, place, s, h, hi => by cases ns <;> exact ⟨h, rfl⟩
  | x :: l, [], place, s, h, hi => ⟨h, rfl⟩
  | x :: l, n :: ns, place, s, h, hi => by
    have e := doAt_changes s i t place n x
    have hi2 : (entryAt (doAt s i t place n x) i).isSome = true := by
      unfold entryAt; rw [e]; exact hi
    obtain ⟨h1, h2⟩ := StateOk.dos t l ns (place + 1) (h.do hi t place n x) hi2
    exact ⟨h1, h2.trans e⟩
theorem entryAt_none {s : StateD} {i : List UInt8} (h : (entryAt s i).isSome = false) : i ∉ s.2.2.map (·.1) := fun hm => by
  obtain ⟨x, hx, e⟩ := List.mem_map.1 hm
  unfold entryAt at h
  rw [Option.isSome_map] at h
  have : (s.2.2.find? fun x => decide (x.1 = i)).isSome = true := List.find?_isSome.2 ⟨x, hx, decide_eq_true e⟩
  rw [this] at h
  cases h
theorem entryAt_snoc {s : StateD} {i : List UInt8} {d : List (KeyD × List RunD)} {cl : List ClaimD} {j : List UInt8} {e : EntryD} (h : (entryAt s j).isSome = true) : (entryAt (d, cl, s.2.2 ++ [(i, e)]) j) = entryAt s j := by
  unfold entryAt at h ⊢
  rw [Option.isSome_map] at h
  rw [List.find?_append]
  obtain ⟨x, hx⟩ := Option.isSome_iff_exists.1 h
  rw [hx]; rfl
theorem StateOk.add {s : StateD} (h : StateOk s) (is i : List UInt8) (c : ChangeD) : StateOk (addAt s is i c).2 ∧ ((addAt s is i c).1 ≠ 0 → (addAt s is i c).2 = s) ∧
    ((addAt s is i c).1 = 0 → is = i ∧ (entryAt s i).isSome = false ∧ ∃ mk, (addAt s is i c).2.2.2 = s.2.2 ++ [(i, c, mk)]) := by
  unfold addAt
  split
  · exact ⟨h, fun _ => rfl, fun e => by cases e⟩
  · rename_i h1
    split
    · exact ⟨h, fun _ => rfl, fun e => by cases e⟩
    · rename_i h2
      split
      · exact ⟨h, fun _ => rfl, fun e => by cases e⟩
      · split
        · exact ⟨h, fun _ => rfl, fun e => by cases e⟩
        · split
          · exact ⟨h, fun _ => rfl, fun e => by cases e⟩
          · rename_i mk ns hf
            have h2' : (entryAt s i).isSome = false := by cases hq : (entryAt s i).isSome <;> simp_all
            have hn := entryAt_none h2'
            have ho : StateOk (s.1, s.2.1, s.2.2 ++ [(i, c, mk)]) := by
              refine ⟨?_, h.docs, fun x hx => ?_, fun x hx r hr => ?_⟩
              · rw [List.map_append]
                exact List.nodup_append.2 ⟨h.ids, by simp, fun a ha b hb hab => hn (by simp at hb; rw [← hb, ← hab]; exact ha)⟩
              · rw [entryAt_snoc (h.of x hx)]; exact h.of x hx
              · obtain ⟨g1, g2⟩ := h.runs x hx r hr
                exact ⟨by show (entryAt _ r.1.2.1).isSome = true; rw [entryAt_snoc g1]; exact g1, g2⟩
            have hi : (entryAt (s.1, s.2.1, s.2.2 ++ [(i, c, mk)]) i).isSome = true := by
              unfold entryAt
              rw [Option.isSome_map]
              exact List.find?_isSome.2 ⟨(i, c, mk), by simp, by simp⟩
            obtain ⟨g1, g2⟩ := StateOk.dos c.1 c.2.2.2 ns 0 ho hi
            exact ⟨g1, fun e => absurd rfl e, fun _ => ⟨by simpa using h1, h2', mk, g2⟩⟩
end Go.Proofs.YtdgbjhfkmembdaaGreatDoor
