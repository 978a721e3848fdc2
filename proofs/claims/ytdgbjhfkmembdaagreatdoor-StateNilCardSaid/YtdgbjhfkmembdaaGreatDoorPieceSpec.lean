/-
  A document's text, its pieces, who wrote what, as plain functions. No conditions; no program.
-/
import Derived.Test.YtdgbjhfkmembdaaGreatDoorBlockSpec
namespace Go.Proofs.YtdgbjhfkmembdaaGreatDoor
set_option linter.unusedVariables false

/-- A rune's bytes. -/
def encU (r : Nat) : List UInt8 :=
  if r < 128 then [UInt8.ofNat r]
  else if r < 2048 then [UInt8.ofNat (192 + r / 64), UInt8.ofNat (128 + r % 64)]
  else if r < 65536 then [UInt8.ofNat (224 + r / 4096), UInt8.ofNat (128 + r / 64 % 64), UInt8.ofNat (128 + r % 64)]
  else [UInt8.ofNat (240 + r / 262144), UInt8.ofNat (128 + r / 4096 % 64), UInt8.ofNat (128 + r / 64 % 64), UInt8.ofNat (128 + r % 64)]
def mayN (r : Nat) : Bool := decide (r < 55296) || (decide (57343 < r) && decide (r ≤ 1114111))
def bytesU (l : List Nat) : List UInt8 := l.flatMap encU
theorem encU_ne (r : Nat) : encU r ≠ [] := by
  unfold encU
  split
  · simp
  · split
    · simp
    · split <;> simp
theorem encU_len (r : Nat) : (encU r).length ≤ 4 := by
  unfold encU
  split
  · simp
  · split
    · simp
    · split <;> simp
theorem bytesU_ne {l : List Nat} (h : l ≠ []) : bytesU l ≠ [] := by
  cases l with
  | nil => exact absurd rfl h
  | cons r l =>
    intro e
    unfold bytesU at e
    rw [List.flatMap_cons, List.append_eq_nil_iff] at e
    exact encU_ne r e.1
theorem bytesU_len : ∀ l : List Nat, (bytesU l).length ≤ 4 * l.length
  | [] => by simp [bytesU]
  | r :: l => by
    have h1 := encU_len r
    have h2 := bytesU_len l
    unfold bytesU at h2 ⊢
    rw [List.flatMap_cons, List.length_append, List.length_cons]
    omega
/-- The text of the live runs. -/
def textR (d : List RunD) : List UInt8 := d.flatMap fun r => if r.2.2 then [] else bytesU r.2.1
/-- Live elements, one behind the other: the first one's key, how many, their text. -/
abbrev PieceD := KeyD × Nat × List UInt8
def followsB (out : List PieceD) (k : KeyD) : Bool := match out.getLast? with
  | none => false
  | some p => decide (laterD p.1 (p.2.1 : Int) = k)
def moreP (out : List PieceD) (n : Nat) (s : List UInt8) : List PieceD := match out.getLast? with
  | none => out
  | some p => out.dropLast ++ [(p.1, p.2.1 + n, p.2.2 ++ s)]
def stepP (st : List PieceD × Bool) (r : RunD) : List PieceD × Bool :=
  if r.2.2 then (st.1, true)
  else if !st.2 && followsB st.1 r.1 then (moreP st.1 r.2.1.length (bytesU r.2.1), false)
  else (st.1 ++ [(r.1, r.2.1.length, bytesU r.2.1)], false)
def piecesR (d : List RunD) : List PieceD := (d.foldl stepP ([], true)).1
def textP (l : List PieceD) : List UInt8 := l.flatMap fun p => p.2.2
theorem last_split {α : Type} {l : List α} {x : α} (h : l.getLast? = some x) : l = l.dropLast ++ [x] := by
  have hne : l ≠ [] := fun e => by rw [e] at h; cases h
  rw [List.getLast?_eq_some_getLast hne] at h
  cases h
  exact (List.dropLast_concat_getLast hne).symm
theorem textP_more {out : List PieceD} {k : KeyD} (h : followsB out k = true) (n : Nat) (s : List UInt8) : textP (moreP out n s) = textP out ++ s := by
  unfold followsB at h
  cases hl : out.getLast? with
  | none => rw [hl] at h; cases h
  | some p =>
    unfold moreP
    rw [hl]
    have e := last_split hl
    conv => rhs; rw [e]
    simp [textP]
theorem textP_step (st : List PieceD × Bool) (r : RunD) : textP (stepP st r).1 = textP st.1 ++ (if r.2.2 then [] else bytesU r.2.1) := by
  unfold stepP
  split
  · simp
  · split
    · rename_i h
      simp only [Bool.and_eq_true] at h
      exact textP_more h.2 _ _
    · simp [textP]
theorem textP_fold : ∀ (d : List RunD) (st : List PieceD × Bool), textP (d.foldl stepP st).1 = textP st.1 ++ textR d
  | [], st => by simp [textR]
  | r :: d, st => by
    rw [List.foldl_cons, textP_fold d (stepP st r), textP_step]
    simp [textR]
/-- The pieces' texts are the text. -/
theorem textP_pieces (d : List RunD) : textP (piecesR d) = textR d := by
  unfold piecesR
  rw [textP_fold]
  rfl
/-- Each piece is of a run's change, and has a text. -/
def PiecesOf (p : List UInt8 → Prop) (l : List PieceD) : Prop := ∀ x ∈ l, p x.1.2.1 ∧ x.2.2 ≠ []
theorem pieces_of {p : List UInt8 → Prop} : ∀ (d : List RunD) (st : List PieceD × Bool), RunsOf (fun k => p k.2.1) d → PiecesOf p st.1 → PiecesOf p (d.foldl stepP st).1
  | [], st, _, h => h
  | r :: d, st, hd, h => by
    rw [List.foldl_cons]
    refine pieces_of d (stepP st r) (fun q hq => hd q (List.mem_cons_of_mem _ hq)) ?_
    obtain ⟨hr, hne⟩ := hd r (by simp)
    unfold stepP
    split
    · exact h
    · split
      · rename_i hf
        simp only [Bool.and_eq_true] at hf
        obtain ⟨_, hf⟩ := hf
        unfold followsB at hf
        cases hl : st.1.getLast? with
        | none => rw [hl] at hf; cases hf
        | some y =>
          unfold moreP
          rw [hl]
          have e := last_split hl
          intro x hx
          rcases List.mem_append.1 hx with hx | hx
          · exact h x (by rw [e]; exact List.mem_append_left _ hx)
          · rw [List.mem_singleton] at hx
            subst hx
            have hy := h y (by rw [e]; simp)
            exact ⟨hy.1, fun e => hy.2 (List.append_eq_nil_iff.1 e).1⟩
      · intro x hx
        rcases List.mem_append.1 hx with hx | hx
        · exact h x hx
        · rw [List.mem_singleton] at hx
          subst hx
          exact ⟨hr, bytesU_ne hne⟩
/-- Who wrote what: pieces of one change that stand side by side are one row. -/
abbrev BlameD := List UInt8 × ByteArray × List UInt8
def stepB (author : List UInt8 → ByteArray) (out : List BlameD) (p : PieceD) : List BlameD := match out.getLast? with
  | none => out ++ [(p.1.2.1, author p.1.2.1, p.2.2)]
  | some y => if y.1 = p.1.2.1 then out.dropLast ++ [(y.1, y.2.1, y.2.2 ++ p.2.2)] else out ++ [(p.1.2.1, author p.1.2.1, p.2.2)]
def blameR (author : List UInt8 → ByteArray) (l : List PieceD) : List BlameD := l.foldl (stepB author) []
/-- What a row of the blame is: of a change that is there, by its author, with a text; side by side they are of unlike changes. -/
structure BlameOk (p : List UInt8 → Prop) (author : List UInt8 → ByteArray) (l : List BlameD) : Prop where
  of : ∀ x ∈ l, p x.1 ∧ x.2.1 = author x.1 ∧ x.2.2 ≠ []
  apart : ∀ i (h : i + 1 < l.length), l[i].1 ≠ l[i + 1].1
theorem blame_step {p : List UInt8 → Prop} {author : List UInt8 → ByteArray} {out : List BlameD} {q : PieceD} (h : BlameOk p author out) (hq : p q.1.2.1) (hn : q.2.2 ≠ []) : BlameOk p author (stepB author out q) := by
  unfold stepB
  cases hl : out.getLast? with
  | none =>
    have : out = [] := by simpa using hl
    subst this
    exact ⟨fun x hx => by simp at hx; subst hx; exact ⟨hq, rfl, hn⟩, fun i hi => by simp at hi⟩
  | some y =>
    have e := last_split hl
    have hy := h.of y (by rw [e]; simp)
    dsimp only
    split
    · rename_i he
      refine ⟨fun x hx => ?_, fun i hi => ?_⟩
      · rcases List.mem_append.1 hx with hx | hx
        · exact h.of x (by rw [e]; exact List.mem_append_left _ hx)
        · rw [List.mem_singleton] at hx
          subst hx
          exact ⟨hy.1, hy.2.1, fun e => hy.2.2 (List.append_eq_nil_iff.1 e).1⟩
      · have hlen : out.length = out.dropLast.length + 1 := by conv => lhs; rw [e, List.length_append, List.length_singleton]
        rw [List.length_append, List.length_singleton] at hi
        have h1 := h.apart i (by omega)
        have g1 : out[i] = out.dropLast[i]'(by omega) := by rw [List.getElem_dropLast]
        rw [List.getElem_append_left (by omega)]
        rcases (by omega : i + 1 < out.dropLast.length ∨ i + 1 = out.dropLast.length) with h2 | h2
        · rw [List.getElem_append_left h2]
          have g2 : out[i + 1] = out.dropLast[i + 1]'h2 := by rw [List.getElem_dropLast]
          rw [g1, g2] at h1
          exact h1
        · rw [List.getElem_append_right (by omega)]
          simp only [h2, Nat.sub_self, List.getElem_cons_zero]
          have g2 : out[i + 1] = y := by
            have : out[out.length - 1]? = some y := by rw [← List.getLast?_eq_getElem?]; exact hl
            rw [show out.length - 1 = i + 1 by omega, List.getElem?_eq_getElem (by omega)] at this
            exact Option.some.inj this
          rw [g1, g2] at h1
          exact h1
    · rename_i he
      refine ⟨fun x hx => ?_, fun i hi => ?_⟩
      · rcases List.mem_append.1 hx with hx | hx
        · exact h.of x hx
        · rw [List.mem_singleton] at hx
          subst hx
          exact ⟨hq, rfl, hn⟩
      · rw [List.length_append, List.length_singleton] at hi
        rw [List.getElem_append_left (by omega)]
        rcases (by omega : i + 1 < out.length ∨ i + 1 = out.length) with h2 | h2
        · rw [List.getElem_append_left h2]; exact h.apart i h2
        · rw [List.getElem_append_right (by omega)]
          simp only [h2, Nat.sub_self, List.getElem_cons_zero]
          have g2 : out[i] = y := by
            have : out[out.length - 1]? = some y := by rw [← List.getLast?_eq_getElem?]; exact hl
            rw [show out.length - 1 = i by omega, List.getElem?_eq_getElem (by omega)] at this
            exact Option.some.inj this
          rw [g2]
          exact he
def textB15 (l : List BlameD) : List UInt8 := l.flatMap fun x => x.2.2
theorem textB_step (author : List UInt8 → ByteArray) (out : List BlameD) (q : PieceD) : textB15 (stepB author out q) = textB15 out ++ q.2.2 := by
  unfold stepB
  cases hl : out.getLast? with
  | none => simp [textB15]
  | some y =>
    have e := last_split hl
    dsimp only
    split
    · conv => rhs; rw [e]
      simp [textB15]
    · simp [textB15]
theorem blame_fold {p : List UInt8 → Prop} {author : List UInt8 → ByteArray} : ∀ (l : List PieceD) (out : List BlameD), PiecesOf p l → BlameOk p author out → BlameOk p author (l.foldl (stepB author) out) ∧ textB15 (l.foldl (stepB author) out) = textB15 out ++ textP l
  | [], out, _, h => ⟨h, by simp [textP]⟩
  | q :: l, out, hl, h => by
    obtain ⟨h1, h2⟩ := hl q (by simp)
    obtain ⟨g1, g2⟩ := blame_fold l (stepB author out q) (fun x hx => hl x (List.mem_cons_of_mem _ hx)) (blame_step h h1 h2)
    refine ⟨g1, ?_⟩
    rw [List.foldl_cons, g2, textB_step]
    simp [textP]
theorem blame_ok {p : List UInt8 → Prop} (author : List UInt8 → ByteArray) {d : List RunD} (h : RunsOf (fun k => p k.2.1) d) : BlameOk p author (blameR author (piecesR d)) ∧ textB15 (blameR author (piecesR d)) = textR d := by
  have h1 : PiecesOf p (piecesR d) := pieces_of d ([], true) h fun x hx => by cases hx
  obtain ⟨g1, g2⟩ := blame_fold (author := author) (piecesR d) [] h1 ⟨(fun x hx => by cases hx), fun i hi => by simp at hi⟩
  exact ⟨g1, by unfold blameR; rw [g2, textP_pieces]; rfl⟩
end Go.Proofs.YtdgbjhfkmembdaaGreatDoor
