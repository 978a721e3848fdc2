/-
  What layer 7's predicates say, as plain functions on a string's bytes and runes. No conditions; no program.
-/
import Derived.Test.YtmlkhloonmgkpaaDoorStr
import Derived.Lib.Split
import Derived.Lib.SplitLaws
import Derived.Lib.ItoaNum
namespace Go.Proofs.YtmlkhloonmgkpaaDoor

def signB (c : Nat) : Bool := (decide (97 ≤ c) && decide (c ≤ 122)) || (decide (65 ≤ c) && decide (c ≤ 90)) || (decide (48 ≤ c) && decide (c ≤ 57)) || c == 45 || c == 95 || c == 46
def shownB (r : Nat) : Bool := decide (32 ≤ r) && !(r == 127)
def plainB (s : ByteArray) (p : Nat → Bool) : Bool := match runesOf s with
  | some l => l.all p
  | none => false
def authorB (s : ByteArray) : Bool := decide (1 ≤ s.size) && decide (s.size ≤ 32) && plainB s shownB
def noteB (s : ByteArray) : Bool := decide (s.size ≤ 256) && isText s
def HEAD : ByteArray := ⟨#[72, 69, 65, 68]⟩
def nameB (s : ByteArray) : Bool := decide (1 ≤ s.size) && decide (s.size ≤ 32) && !(B s 0 == 46) && !(B s 0 == 45) && !decide (s = HEAD) && (List.range s.size).all fun i => signB (B s i)

/-- What stands between the slashes. -/
def pieces : List UInt8 → List (List UInt8)
  | [] => [[]]
  | c :: l => if c = 47 then [] :: pieces l else match pieces l with
    | p :: ps => (c :: p) :: ps
    | [] => [[c]]
def pieceB (p : List UInt8) : Bool := !decide (p = []) && !decide (p = [46]) && !decide (p = [46, 46])
def pathB (s : ByteArray) : Bool := decide (1 ≤ s.size) && decide (s.size ≤ 64) && plainB s shownB && (pieces (L s)).all pieceB

/-- Can two paths not stand beside one another? -/
def underB (a b : List UInt8) : Bool := (a ++ [47]).isPrefixOf b
def clashB (a b : List UInt8) : Bool := decide (a = b) || underB a b || underB b a

theorem pieces_ne : ∀ l, pieces l ≠ []
  | [] => by simp [pieces]
  | c :: l => by
    unfold pieces
    split
    · simp
    · split <;> simp
/-- A text without a slash is one piece. -/
theorem pieces_lone {l : List UInt8} (h : (47 : UInt8) ∉ l) : pieces l = [l] := by
  induction l with
  | nil => rfl
  | cons c l ih =>
    simp only [List.mem_cons, not_or] at h
    rw [pieces, if_neg (fun e => h.1 e.symm), ih h.2]
/-- The first slash ends the first piece. -/
theorem pieces_cut {a b : List UInt8} (h : (47 : UInt8) ∉ a) : pieces (a ++ 47 :: b) = a :: pieces b := by
  induction a with
  | nil => simp [pieces]
  | cons c a ih =>
    simp only [List.mem_cons, not_or] at h
    rw [List.cons_append, pieces, if_neg (fun e => h.1 e.symm), ih h.2]

theorem index_slash {a b : List UInt8} (h : (47 : UInt8) ∉ a) : Lib.index (a ++ 47 :: b) [47] = a.length := by
  induction a with
  | nil => simp [Lib.index]
  | cons c a ih =>
    simp only [List.mem_cons, not_or] at h
    have h1 : ¬ ((47 : UInt8) == c) = true := by simpa using h.1
    rw [List.cons_append, Lib.index, ih h.2]
    simp only [List.isPrefixOf, h1, Bool.false_and]
    simp
/-- A text is cut at its first slash, or has none. -/
theorem slash_cases (l : List UInt8) : (47 : UInt8) ∉ l ∨ ∃ a b, l = a ++ 47 :: b ∧ (47 : UInt8) ∉ a := by
  induction l with
  | nil => exact .inl (by simp)
  | cons c l ih =>
    by_cases hc : c = 47
    · exact .inr ⟨[], l, by simp [hc], by simp⟩
    · rcases ih with ih | ⟨a, b, rfl, ha⟩
      · exact .inl (by simp [ih]; exact fun e => hc e.symm)
      · exact .inr ⟨c :: a, b, rfl, by simp [ha]; exact fun e => hc e.symm⟩
/-- strings.Split at a slash. -/
theorem split_pieces : ∀ (n : Nat) (l : List UInt8), l.length ≤ n → Lib.splitK [47] 0 (l.count 47) l = pieces l := by
  intro n
  induction n with
  | zero =>
    intro l hl
    have : l = [] := List.length_eq_zero_iff.1 (by omega)
    subst this
    rfl
  | succ n ih =>
    intro l hl
    rcases slash_cases l with h | ⟨a, b, rfl, ha⟩
    · rw [pieces_lone h, List.count_eq_zero.2 h]; rfl
    · rw [pieces_cut ha, List.count_append, List.count_eq_zero.2 ha, List.count_cons_self, Nat.zero_add, Lib.splitK, index_slash ha]
      have hlen : (a ++ 47 :: b).length = a.length + b.length + 1 := by simp; omega
      have e1 : ((a.length : Int)).toNat = a.length := by omega
      rw [if_neg (by simp), e1, Nat.add_zero, List.take_left, show ([47] : List UInt8).length = 1 from rfl]
      have e2 : (a ++ 47 :: b).drop (a.length + 1) = b := by rw [List.drop_append]; simp
      rw [e2, ih b (by omega)]

def slashS : ByteArray := ⟨#[47]⟩
theorem splitB_pieces (s : ByteArray) : (Lib.splitB slashS 0 (Lib.countB s slashS) s).map L = pieces (L s) := by
  have h := Lib.splitB_data slashS 0 (Lib.countB s slashS) s
  have hc : Lib.countB s slashS = (L s).count 47 := Lib.count_one 47 (L s)
  have e : (Lib.splitB slashS 0 (Lib.countB s slashS) s).map L = (Lib.splitB slashS 0 (Lib.countB s slashS) s).map (·.data.toList) := rfl
  rw [e, h, hc]
  exact split_pieces _ (L s) (Nat.le_refl _)

theorem plainB_text {s : ByteArray} {p : Nat → Bool} (h : isText s = false) : plainB s p = false := by
  unfold plainB
  unfold isText at h
  cases hr : runesOf s
  · rfl
  · rw [hr] at h; cases h
theorem plainB_true {s : ByteArray} : plainB s (fun _ => true) = isText s := by
  unfold plainB isText
  cases runesOf s <;> simp
end Go.Proofs.YtmlkhloonmgkpaaDoor
