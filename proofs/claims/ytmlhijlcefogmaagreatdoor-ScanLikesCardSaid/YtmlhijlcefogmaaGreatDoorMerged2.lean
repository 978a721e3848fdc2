/-
  What the search's lists say of the whole's cost and of each move. No conditions; no program.
  The script of least cost, move by move. No conditions; no program.
  The hunks of a script over lines, move by move. No conditions; no program.
  Hunks stand apart, with at most three lines around: what the law counts. No conditions; no program.
  The hunks between two texts make the one of the other: what applying them gives. No conditions; no program.
  The script of least cost is a way from the one row to the other; the same rows give the same script whatever the numbers. No conditions; no program.
  Words for memory: a slice that reads as a list; append of one element to a row of the call's own. No conditions; no program.
  Short names of what is said most often. Conditions: none.
-/
import Derived.Test.YtmlhijlcefogmaaGreatDoorMerged1
import Derived.WalkKit
import Derived.WalkSmall
import Derived.Lib.Hide
import Derived.Laws.Tables
import Derived.Laws.Rows
import Derived.Laws.ResultCell
import Derived.Deep.MidRow
set_option linter.unusedVariables false
namespace Go.Proofs.YtmlhijlcefogmaaGreatDoor

def leastS (a b : List Int) (d : Nat) (l : List Nat) (k : Int) : Nat :=
  if k - dg a b d 0 < 0 ∨ (k - dg a b d 0) % 2 ≠ 0 ∨ (l.length : Int) ≤ (k - dg a b d 0) / 2 then never else l.getD ((k - dg a b d 0) / 2).toNat never
section
variable {a b : List Int} {d i j : Nat} {k : Int}
theorem least_sound (h : leastS a b d (lst a b d) k ≠ never) : R a b d k (leastS a b d (lst a b d) k) := by
  unfold leastS at h ⊢
  split at h
  · exact absurd rfl h
  · rename_i hc
    rw [if_neg hc]
    rw [lst_length] at hc
    have h0 : dg a b d 0 = (a.length : Int) - b.length - d := by unfold dg; omega
    have e : dg a b d ((k - dg a b d 0) / 2).toNat = k := by
      have h1 : dg a b d ((k - dg a b d 0) / 2).toNat = (a.length : Int) - b.length - d + 2 * ((k - dg a b d 0) / 2).toNat := rfl
      omega
    have := lst_sound d ((k - dg a b d 0) / 2).toNat (by omega) h
    rwa [e] at this
theorem least_least (hn : a.length < never) (hD : d + k.natAbs ≤ C a b 0 0) {x : Nat} (hx : R a b d k x) (hp : (k - dg a b d 0) % 2 = 0) : leastS a b d (lst a b d) k ≤ x := by
  have hf := hx.far
  have h0 : dg a b d 0 = (a.length : Int) - b.length - d := by unfold dg; omega
  unfold leastS
  rw [lst_length, if_neg (by omega)]
  have e : dg a b d ((k - dg a b d 0) / 2).toNat = k := by
    have h1 : dg a b d ((k - dg a b d 0) / 2).toNat = (a.length : Int) - b.length - d + 2 * ((k - dg a b d 0) / 2).toNat := rfl
    omega
  exact lst_least hn d ((k - dg a b d 0) / 2).toNat (by omega) (by rw [e]; exact hD) x (by rw [e]; exact hx)
/-- The whole's cost is found where the beginnings are reached. -/
theorem least_zero (hn : a.length < never) (hd : d ≤ C a b 0 0) : leastS a b d (lst a b d) 0 = 0 ↔ d = C a b 0 0 := by
  have hf := C_far (a := a) (b := b) (i := 0) (j := 0) (by omega) (by omega)
  constructor
  · intro h
    have hs := least_sound (a := a) (b := b) (d := d) (k := 0) (by rw [h]; decide)
    rw [h] at hs
    have := hs.2
    simp at this
    omega
  · rintro rfl
    have h0 : dg a b (C a b 0 0) 0 = (a.length : Int) - b.length - C a b 0 0 := by unfold dg; omega
    have := least_least (a := a) (b := b) (d := C a b 0 0) (k := 0) hn (by simp) (x := 0) ⟨⟨by omega, by omega, by omega⟩, by simp⟩ (by rw [h0]; omega)
    omega
/-- Dropping is on a way of least cost just if the list says so. -/
theorem least_test (hn : a.length < never) (s : Nat) (hi : i < a.length) (hj : j ≤ b.length) (hne : a[i]? ≠ b[j]?) (hs : s + C a b i j = C a b 0 0) (h1 : (i : Int) - j ≤ s) (h2 : (j : Int) - i ≤ s) :
    leastS a b (C a b i j - 1) (lst a b (C a b i j - 1)) ((i : Int) + 1 - j) ≤ i + 1 ↔ (j = b.length ∨ C a b (i + 1) j ≤ C a b i (j + 1)) := by
  have hc : (j = b.length ∧ C a b i j = C a b (i + 1) j + 1) ∨ (j < b.length ∧ C a b i j = 1 + min (C a b (i + 1) j) (C a b i (j + 1))) := by
    rcases (by omega : j = b.length ∨ j < b.length) with h | h
    · left
      refine ⟨h, ?_⟩
      rw [C_end' h, C_end' h]
      omega
    · right
      refine ⟨h, C_ne hi h ?_⟩
      rw [List.getElem?_eq_getElem hi, List.getElem?_eq_getElem h] at hne
      exact fun e => hne (by rw [e])
  have ej : (((i + 1 : Nat) : Int) - ((i : Int) + 1 - j)).toNat = j := by omega
  have hf := C_far (a := a) (b := b) (i := i + 1) (j := j) (by omega) hj
  constructor
  · intro h
    have hs' := least_sound (a := a) (b := b) (d := C a b i j - 1) (k := (i : Int) + 1 - j) (by unfold never at *; omega)
    have hr := (hs'.up (i + 1) h (by omega) (by omega)).2
    rw [ej] at hr
    rcases hc with ⟨hc, _⟩ | ⟨hc, e⟩
    · exact .inl hc
    · right; omega
  · intro h
    have hr : C a b (i + 1) j = C a b i j - 1 := by
      rcases hc with ⟨hc, e⟩ | ⟨hc, e⟩
      · omega
      · rcases h with h | h <;> omega
    have hd0 : dg a b (C a b i j - 1) 0 = (a.length : Int) - b.length - (C a b i j - 1 : Nat) := by unfold dg; omega
    refine least_least hn (by omega) ⟨⟨by omega, by omega, by omega⟩, by rw [ej]; omega⟩ ?_
    rw [hd0]
    omega
end
end Go.Proofs.YtmlhijlcefogmaaGreatDoor
namespace Go.Proofs.YtmlhijlcefogmaaGreatDoor

/-- The moves from i and j on. -/
def mv (a b : List Int) (i j : Nat) : List Nat := movesS (a.drop i) (b.drop j)
theorem moves_nil' : ∀ x : List Int, movesS x [] = List.replicate x.length 2
  | [] => by unfold movesS; rfl
  | a :: x => by rw [movesS, moves_nil' x]; rfl
section
variable {a b : List Int} {i j : Nat}
theorem mv_keep (hi : i < a.length) (hj : j < b.length) (h : a[i] = b[j]) : mv a b i j = 1 :: mv a b (i + 1) (j + 1) ∧ C a b i j = C a b (i + 1) (j + 1) := by
  refine ⟨?_, C_match hi hj h⟩
  unfold mv
  rw [List.drop_eq_getElem_cons hi, List.drop_eq_getElem_cons hj, movesS, if_pos h]
theorem mv_drop (hi : i < a.length) (hj : j ≤ b.length) (hne : a[i]? ≠ b[j]?) (h : j = b.length ∨ C a b (i + 1) j ≤ C a b i (j + 1)) : mv a b i j = 2 :: mv a b (i + 1) j ∧ C a b i j = 1 + C a b (i + 1) j := by
  by_cases hjm : j = b.length
  · constructor
    · unfold mv
      rw [List.drop_eq_nil_of_le (i := j) (by omega), List.drop_eq_getElem_cons hi, movesS]
    · rw [C_end' hjm, C_end' hjm]; omega
  · have hjl : j < b.length := by omega
    have hab : a[i] ≠ b[j] := fun e => hne (by rw [List.getElem?_eq_getElem hi, List.getElem?_eq_getElem hjl, e])
    have hle : C a b (i + 1) j ≤ C a b i (j + 1) := h.resolve_left hjm
    refine ⟨?_, by rw [C_ne hi hjl hab]; omega⟩
    unfold C at hle
    rw [List.drop_eq_getElem_cons hi, List.drop_eq_getElem_cons hjl] at hle
    unfold mv
    rw [List.drop_eq_getElem_cons hi, List.drop_eq_getElem_cons hjl, movesS, if_neg hab, if_pos hle]
theorem mv_add (hi : i ≤ a.length) (hj : j < b.length) (hne : a[i]? ≠ b[j]?) (h : i = a.length ∨ ¬ C a b (i + 1) j ≤ C a b i (j + 1)) : mv a b i j = 3 :: mv a b i (j + 1) ∧ C a b i j = 1 + C a b i (j + 1) := by
  by_cases hin : i = a.length
  · constructor
    · unfold mv
      rw [List.drop_eq_nil_of_le (i := i) (by omega), movesS, movesS, List.length_drop, List.length_drop, show b.length - j = (b.length - (j + 1)) + 1 by omega]
      rfl
    · rw [C_end hin, C_end hin]; omega
  · have hil : i < a.length := by omega
    have hab : a[i] ≠ b[j] := fun e => hne (by rw [List.getElem?_eq_getElem hil, List.getElem?_eq_getElem hj, e])
    have hle : ¬ C a b (i + 1) j ≤ C a b i (j + 1) := h.resolve_left hin
    refine ⟨?_, by rw [C_ne hil hj hab]; omega⟩
    unfold C at hle
    rw [List.drop_eq_getElem_cons hil, List.drop_eq_getElem_cons hj] at hle
    unfold mv
    rw [List.drop_eq_getElem_cons hil, List.drop_eq_getElem_cons hj, movesS, if_neg hab, if_neg hle]
theorem mv_end (hi : i = a.length) (hj : j = b.length) : mv a b i j = [] ∧ C a b i j = 0 := by
  refine ⟨?_, by rw [C_end hi]; omega⟩
  unfold mv
  rw [List.drop_eq_nil_of_le (by omega), List.drop_eq_nil_of_le (by omega), movesS]
  rfl
end
end Go.Proofs.YtmlhijlcefogmaaGreatDoor
namespace Go.Proofs.YtmlhijlcefogmaaGreatDoor

/-- A hunk: from, to, its lines. -/
abbrev HunkD := Nat × Nat × List (List UInt8)
/-- The hunks ahead of move n, opened where one begins. -/
def opened (told : Nat → Bool) (n i j : Nat) (out : List HunkD) : List HunkD := if n = 0 ∨ told (n - 1) = false then out ++ [(i, j, [])] else out
section
variable {told : Nat → Bool} {mv : List Nat} {x y : List (List UInt8)} {n i j : Nat} {out : List HunkD}
end
end Go.Proofs.YtmlhijlcefogmaaGreatDoor
namespace Go.Proofs.YtmlhijlcefogmaaGreatDoor

/-- What the law counts in a hunk's lines: those of the first row, the kept ones ahead, the kept ones behind, the unlike ones. -/
def tstep (t : Nat × Nat × Nat × Nat) (s : List UInt8) : Nat × Nat × Nat × Nat :=
  (if s.headD 0 = 43 then t.1 else t.1 + 1, if s.headD 0 = 32 ∧ t.2.2.2 = 0 then t.2.1 + 1 else t.2.1, if s.headD 0 = 32 then t.2.2.1 + 1 else 0, if s.headD 0 = 32 then t.2.2.2 else t.2.2.2 + 1)
def tally (ls : List (List UInt8)) : Nat × Nat × Nat × Nat := ls.foldl tstep (0, 0, 0, 0)
def endH (h : HunkD) : Int := h.1 + (tally h.2.2).1
def apart : Int → List HunkD → Prop
  | _, [] => True
  | e, h :: t => e < h.1 ∧ apart (endH h) t
section
variable {told : Nat → Bool} {mv : List Nat} {x y : List (List UInt8)} {n i j : Nat} {out : List HunkD}
end
end Go.Proofs.YtmlhijlcefogmaaGreatDoor
namespace Go.Proofs.YtmlhijlcefogmaaGreatDoor

section
variable {told : Nat → Bool} {mv : List Nat} {x y : List (List UInt8)} {n i j : Nat} {out : List HunkD}
def nextAtM (m : Nat) (p : Nat × Nat) : Nat × Nat := if m = 1 then (p.1 + 1, p.2 + 1) else if m = 2 then (p.1 + 1, p.2) else (p.1, p.2 + 1)
/-- The places in both rows before move n. -/
def placeS (mv : List Nat) : Nat → Nat × Nat
  | 0 => (0, 0)
  | n + 1 => nextAtM (mv.getD n 0) (placeS mv n)
end
end Go.Proofs.YtmlhijlcefogmaaGreatDoor
namespace Go.Proofs.YtmlhijlcefogmaaGreatDoor

section
variable {a b : List Int} {x y : List (List UInt8)}
theorem drop_head {l : List Nat} {n m : Nat} {r : List Nat} (h : l.drop n = m :: r) : l.getD n 0 = m ∧ l.drop (n + 1) = r ∧ n < l.length := by
  have hn : n < l.length := by
    rcases Nat.lt_or_ge n l.length with q | q
    · exact q
    · rw [List.drop_eq_nil_of_le q] at h; cases h
  rw [List.drop_eq_getElem_cons hn] at h
  injection h with h1 h2
  refine ⟨?_, h2, hn⟩
  rw [List.getD_eq_getElem?_getD, List.getElem?_eq_getElem hn, h1]
  rfl
/-- What stands at a place of the script. -/
theorem mv_case (i j : Nat) (hi : i ≤ a.length) (hj : j ≤ b.length) :
    (i = a.length ∧ j = b.length ∧ mv a b i j = []) ∨ (∃ r, mv a b i j = 1 :: r ∧ r = mv a b (i + 1) (j + 1) ∧ i < a.length ∧ j < b.length ∧ a[i]? = b[j]?) ∨
    (∃ r, mv a b i j = 2 :: r ∧ r = mv a b (i + 1) j ∧ i < a.length) ∨ (∃ r, mv a b i j = 3 :: r ∧ r = mv a b i (j + 1) ∧ j < b.length) := by
  by_cases hie : i = a.length
  · by_cases hje : j = b.length
    · exact .inl ⟨hie, hje, (mv_end hie hje).1⟩
    · have hjl : j < b.length := by omega
      have hne : a[i]? ≠ b[j]? := by rw [List.getElem?_eq_none (by omega), List.getElem?_eq_getElem hjl]; exact fun h => by cases h
      exact .inr (.inr (.inr ⟨_, (mv_add hi hjl hne (.inl hie)).1, rfl, hjl⟩))
  · have hil : i < a.length := by omega
    by_cases hje : j = b.length
    · have hne : a[i]? ≠ b[j]? := by rw [List.getElem?_eq_none (l := b) (by omega), List.getElem?_eq_getElem hil]; exact fun h => by cases h
      exact .inr (.inr (.inl ⟨_, (mv_drop hil hj hne (.inl hje)).1, rfl, hil⟩))
    · have hjl : j < b.length := by omega
      by_cases he : a[i] = b[j]
      · exact .inr (.inl ⟨_, (mv_keep hil hjl he).1, rfl, hil, hjl, by rw [List.getElem?_eq_getElem hil, List.getElem?_eq_getElem hjl, he]⟩)
      · have hne : a[i]? ≠ b[j]? := by
          rw [List.getElem?_eq_getElem hil, List.getElem?_eq_getElem hjl]
          exact fun h => he (Option.some.inj h)
        by_cases hc : j = b.length ∨ C a b (i + 1) j ≤ C a b i (j + 1)
        · exact .inr (.inr (.inl ⟨_, (mv_drop hil hj hne hc).1, rfl, hil⟩))
        · exact .inr (.inr (.inr ⟨_, (mv_add hi hjl hne (.inr (fun q => hc (.inr q)))).1, rfl, hjl⟩))
theorem place_at : ∀ n, n ≤ (movesS a b).length → (placeS (movesS a b) n).1 ≤ a.length ∧ (placeS (movesS a b) n).2 ≤ b.length ∧ (movesS a b).drop n = mv a b (placeS (movesS a b) n).1 (placeS (movesS a b) n).2
  | 0, _ => ⟨Nat.zero_le _, Nat.zero_le _, by simp [mv, placeS]⟩
  | n + 1, hn => by
    obtain ⟨h1, h2, h3⟩ := place_at n (by omega)
    have hp : placeS (movesS a b) (n + 1) = nextAtM ((movesS a b).getD n 0) (placeS (movesS a b) n) := rfl
    generalize placeS (movesS a b) n = p at *
    rw [hp]
    rcases mv_case p.1 p.2 h1 h2 with ⟨_, _, e⟩ | ⟨r, e, rfl, q1, q2, _⟩ | ⟨r, e, rfl, q1⟩ | ⟨r, e, rfl, q1⟩
    · rw [e] at h3
      rw [List.drop_eq_nil_iff] at h3
      omega
    all_goals
      rw [e] at h3
      obtain ⟨g1, g2, _⟩ := drop_head h3
      rw [g1]
    · exact ⟨q1, q2, g2⟩
    · exact ⟨q1, h2, g2⟩
    · exact ⟨h1, q1, g2⟩
/-- Moves are 1, 2 or 3. -/
theorem moves_are : ∀ (s : Nat) (a b : List Int), a.length + b.length ≤ s → ∀ m ∈ movesS a b, m = 1 ∨ m = 2 ∨ m = 3
  | s, [], b, _ => by
    intro m hm
    unfold movesS at hm
    exact .inr (.inr (List.eq_of_mem_replicate hm))
  | s, c :: a, [], h => by
    intro m hm
    rw [moves_nil'] at hm
    exact .inr (.inl (List.eq_of_mem_replicate hm))
  | s, c :: a, e :: b, h => by
    intro m hm
    simp at h
    rw [movesS] at hm
    split at hm
    · rcases List.mem_cons.1 hm with q | q
      · exact .inl q
      · exact moves_are (s - 2) a b (by omega) m q
    · split at hm
      · rcases List.mem_cons.1 hm with q | q
        · exact .inr (.inl q)
        · exact moves_are (s - 1) a (e :: b) (by simp; omega) m q
      · rcases List.mem_cons.1 hm with q | q
        · exact .inr (.inr q)
        · exact moves_are (s - 1) (c :: a) b (by simp; omega) m q
theorem moves_length : ∀ (s : Nat) (a b : List Int), a.length + b.length ≤ s → (movesS a b).length ≤ a.length + b.length
  | s, [], b, _ => by unfold movesS; simp
  | s, c :: a, [], h => by rw [moves_nil']; simp
  | s, c :: a, e :: b, h => by
    simp at h
    rw [movesS]
    split
    · have := moves_length (s - 2) a b (by omega); simp; omega
    · split
      · have := moves_length (s - 1) a (e :: b) (by simp; omega); simp at this ⊢; omega
      · have := moves_length (s - 1) (c :: a) b (by simp; omega); simp at this ⊢; omega
end
end Go.Proofs.YtmlhijlcefogmaaGreatDoor
namespace Go.Proofs.YtmlhijlcefogmaaGreatDoor
open Go.RowKit

/-- The slice value '.slice A n c' holds the cells xs (sz of them an element), in a block below B. -/
def Sl (w : World) (B : Nat) (A : Option Addr) (n sz : Nat) (xs : List Value) : Prop :=
  xs.length = n * sz ∧ (0 < n → ∃ b off, A = some ⟨b, off, none⟩ ∧ b < B ∧ ∀ j u, xs[j]? = some u → w.cell? ⟨b, off + j, none⟩ = some u)

section
variable {w w' : World} {B B' n sz : Nat} {A : Option Addr} {xs : List Value}
theorem Sl.nil : Sl w B A 0 sz [] := ⟨by simp, fun h => absurd h (by omega)⟩
theorem Sl.keep (h : Sl w B A n sz xs) (hb : Below B w w') : Sl w' B A n sz xs := by
  refine ⟨h.1, fun hn => ?_⟩
  obtain ⟨b, off, e, hlt, hc⟩ := h.2 hn
  exact ⟨b, off, e, hlt, fun j u hu => (hb.cell (p := ⟨b, off + j, none⟩) hlt).trans (hc j u hu)⟩
theorem Sl.more (h : Sl w B A n sz xs) (hB : B ≤ B') : Sl w B' A n sz xs := by
  refine ⟨h.1, fun hn => ?_⟩
  obtain ⟨b, off, e, hlt, hc⟩ := h.2 hn
  exact ⟨b, off, e, by omega, hc⟩
theorem Sl.of_own {base : Nat} {e : TypeId} {c : Nat} (h : w.ownsRow base e sz (.slice A n c) n xs) : Sl w w.heap.size A n sz xs := by
  refine ⟨h.1, fun hn => ?_⟩
  rcases h.2 with ⟨_, h0⟩ | ⟨g, cap, cur, hv, hbg, hg, hle, hm, hcs, ht⟩
  · omega
  · injection hv with hA
    subst hA
    have hlt := (h.lt g (by simp [Value.ownBlock])).2
    refine ⟨g, 0, rfl, hlt, fun j u hu => ?_⟩
    have := h.cells (g := g) (by simp [Value.ownBlock]) j u hu
    have e : (⟨g, 0, none⟩ : Addr).add j = ⟨g, 0 + j, none⟩ := by unfold Addr.add; split <;> simp_all
    rw [← e]; exact this
theorem Sl.lt (h : Sl w B A n sz xs) (hn : 0 < n) (hs : 0 < sz) : ∃ b off, A = some ⟨b, off, none⟩ ∧ b < w.heap.size ∧ b < B := by
  obtain ⟨b, off, e, hlt, hc⟩ := h.2 hn
  have hl : 0 < xs.length := by rw [h.1]; exact Nat.mul_pos hn hs
  have := hc 0 _ (List.getElem?_eq_getElem hl)
  refine ⟨b, off, e, ?_, hlt⟩
  rcases Nat.lt_or_ge b w.heap.size with a | a
  · exact a
  · unfold World.cell? at this
    rw [Array.getElem?_eq_none a] at this
    cases this
/-- A slice that is there lies in the world's own blocks. -/
theorem Sl.here (h : Sl w B A n sz xs) (hs : 0 < sz) : Sl w w.heap.size A n sz xs := by
  refine ⟨h.1, fun hn => ?_⟩
  obtain ⟨b, off, e, hlt, _⟩ := h.lt hn hs
  obtain ⟨b', off', e', _, hc⟩ := h.2 hn
  rw [e] at e'
  injection e' with e'
  injection e' with e1 e2
  subst e1 e2
  exact ⟨b, off, e, hlt, hc⟩
end

/-- 'append(out, x)', x of one cell, at a row of the call's own: x has just been laid in a block. -/
theorem wp_app1 {P : Program} {ops : Array Oper} {rest : List Oper} {o : Oper} {a : Act} {Q : Exit → Act → World → Prop} {w : World} (hgd : o.guard = none) (s x : Operand) (t : TypeId)
    (ho : o.op = .call { callee := .builtin .append, args := #[s, x], argTypes := #[t, t] })
    (base : Nat) (e : TypeId) (z : Value) (bytes : Nat) (ht : P.underlying t = some (.slice e)) (hinf : (P.info? e).map (fun i => (i.zero, i.size, i.bytes)) = some (some z, 1, bytes))
    (hz1 : z.cells.size = 1) (v : Value) (n : Nat) (xs : List Value) (hs : a.eval s = v) (hown : w.ownsRow base e 1 v n xs)
    (u : Value) (et : TypeId) (hx : a.eval x = .slice (some ⟨w.heap.size, 0, none⟩) 1 1) (hu : u.oneCell' = true)
    (hn : n + 1 ≤ maxLen) (hb : (n + 1) * bytes ≤ 140737488355328) (hbase : base ≤ w.heap.size)
    (h : ∀ v' w', w'.ownsRow base e 1 v' (n + 1) (xs ++ [u]) → (∀ B a, B ≤ base → Below B a w → Below B a w') → wpList P ops Q rest (a.put o.dst v') w') :
    wpList P ops Q (o :: rest) a (w.alloc (.cells #[u] et)) := by
  obtain ⟨i0, hi, hz0, hz2, hz3⟩ := info_parts hinf
  refine wpList_append_own _ hgd s x t ho base e i0 z 1 bytes ht hi hz0 hz2 hz3 hz1 (by decide) v n xs hs (hown.alloc _) ⟨w.heap.size, 0, none⟩ 1 1 [u] hx rfl ?_ ?_ hn hb (by simp; omega) ?_
  · intro j u' hj
    match j, hj with
    | 0, hj => simp at hj; subst hj; simp [Addr.add]
  · intro u' hu'
    simp at hu'; subst hu'; exact hu
  · intro v' w' hown' hgrow _
    refine h v' w' hown' fun B a hB hba => ?_
    refine (hba.alloc (by omega) _).grown hgrow (by simp; omega) fun k hk => ?_
    have := (hown.lt k hk).1
    omega
end Go.Proofs.YtmlhijlcefogmaaGreatDoor
namespace Go.Proofs.YtmlhijlcefogmaaGreatDoor
open Go.RowKit

theorem qX {α : Type} {xs : Array α} {i : Nat} {a : α} (h : xs[i]? = some a) : i < xs.size := (Array.getElem?_eq_some_iff.1 h).1
theorem qR (n : Nat) : n ≤ n := Nat.le_refl n
theorem qT {a b c : Nat} (h : a ≤ b) (g : b ≤ c) : a ≤ c := Nat.le_trans h g
theorem qL {a b c : Nat} (h : a < b) (g : b ≤ c) : a < c := Nat.lt_of_lt_of_le h g
theorem qZ (n : Nat) : 0 + n = n := Nat.zero_add n
theorem qD (b : Nat) (w : World) : Below b w w.drew := (Below.refl b w).drew
theorem qB (b : Nat) (w : World) : Below b w w := Below.refl b w
abbrev qV := @run_loadVar_mid
end Go.Proofs.YtmlhijlcefogmaaGreatDoor
