/-
  What layer 7's predicates say, as plain functions on a string's bytes and runes. No conditions; no program.
-/
import Derived.Test.YtdgbjhfkmembdaaGreatDoorStr
import Derived.Lib.Split
import Derived.Lib.SplitLaws
import Derived.Lib.ItoaNum
namespace Go.Proofs.YtdgbjhfkmembdaaGreatDoor

def signB (c : Nat) : Bool := (decide (97 ≤ c) && decide (c ≤ 122)) || (decide (65 ≤ c) && decide (c ≤ 90)) || (decide (48 ≤ c) && decide (c ≤ 57)) || c == 45 || c == 95 || c == 46
def shownB (r : Nat) : Bool := decide (32 ≤ r) && !(r == 127)
def plainB (s : ByteArray) (p : Nat → Bool) : Bool := match runesOf s with
  | some l => l.all p
  | none => false
def authorB (s : ByteArray) : Bool := decide (1 ≤ s.size) && decide (s.size ≤ 32) && plainB s shownB
def noteB (s : ByteArray) : Bool := decide (s.size ≤ 256) && isText s
def HEAD : ByteArray := ⟨#[72, 69, 65, 68]⟩
def nameB (s : ByteArray) : Bool := decide (1 ≤ s.size) && decide (s.size ≤ 32) && !(B s 0 == 46) && !(B s 0 == 45) && !decide (s = HEAD) && (List.range s.size).all fun i => signB (B s i)

/-- What stands between the slashes. -/
def pieces : List UInt8 → List (List UInt8)
  | [] => [[]]
  | c :: l => if c = 47 then [] :: pieces l else match pieces l with
    | p :: ps => (c :: p) :: ps
    | [] => [[c]]
def pieceB (p : List UInt8) : Bool := !decide (p = []) && !decide (p = [46]) && !decide (p = [46, 46])
def pathB (s : ByteArray) : Bool := decide (1 ≤ s.size) && decide (s.size ≤ 64) && plainB s shownB && (pieces (L s)).all pieceB

/-- Can two paths not stand beside one another? -/
def underB (a b : List UInt8) : Bool := (a ++ [47]).isPrefixOf b
def clashB (a b : List UInt8) : Bool := decide (a = b) || underB a b || underB b a

theorem pieces_ne : ∀ l, pieces l ≠ []
  | [] => by simp [pieces]
  | c :: l => by
    unfold pieces
    split
    · simp
    · split <;> simp
/-- A text without a slash is one piece. -/
theorem pieces_lone {l : List UInt8} (h : (47 : UInt8) ∉ l) : pieces l = [l] := by
  induction l with
  | nil => rfl
  | cons c l ih =>
    simp only [List.mem_cons, not_or] at h
    rw [pieces, if_neg (fun e => h.1 e.symm), ih h.2]
/-- The first slash ends the first piece. -/
theorem pieces_cut {a b : List UInt8} (h : (47 : UInt8) ∉ a) : pieces (a ++ 47 :: b) = a :: pieces b := by
  induction a with
  | nil => simp [pieces]
  | cons c a ih =>
    simp only [List.mem_cons, not_or] at h
    rw [List.cons_append, pieces, if_neg (fun e => h.1 e.symm), ih h.2]

theorem index_slash {a b : List UInt8} (h : (47 : UInt8) ∉ a) : Lib.index (a ++ 47 :: b) [47] = a.length := by
  induction a with
  | nil => simp [Lib.index]
  | cons c a ih =>
    simp only [List.mem_cons, not_or] at h
    have h1 : ¬ ((47 : UInt8) == c) = true := by simpa using h.1
    rw [List.cons_append, Lib.index, ih h.2]
    simp only [List.isPrefixOf, h1, Bool.false_and]
    simp
/-- A text is cut at its first slash, or has none. -/
theorem slash_cases (l : List UInt8) : (47 : UInt8) ∉ l ∨ ∃ a b, l = a ++ 47 :: b ∧ (47 : UInt8) ∉ a := by
  induction l with
  | nil => exact .inl (by simp)
  | cons c l ih =>
    by_cases hc : c = 47
    · exact .inr ⟨[], l, by simp [hc], by simp⟩
    · rcases ih with ih | ⟨a, b, rfl, ha⟩
      · exact .inl (by simp [ih]; exact fun e => hc e.symm)
      · exact .inr ⟨c :: a, b, rfl, by simp [ha]; exact fun e => hc e.symm⟩
/-- strings.Split at a slash. -/
theorem split_pieces : ∀ (n : Nat) (l : List UInt8), l.length ≤ n → Lib.splitK [47] 0 (l.count 47) l = pieces l := by
  intro n
  induction n with
  | zero =>
    intro l hl
    have : l = [] := List.length_eq_zero_iff.1 (by omega)
    subst this
    rfl
  | succ n ih =>
    intro l hl
    rcases slash_cases l with h | ⟨a, b, rfl, ha⟩
    · rw [pieces_lone h, List.count_eq_zero.2 h]; rfl
    · rw [pieces_cut ha, List.count_append, List.count_eq_zero.2 ha, List.count_cons_self, Nat.zero_add, Lib.splitK, index_slash ha]
      have hlen : (a ++ 47 :: b).length = a.length + b.length + 1 := by simp; omega
      have e1 : ((a.length : Int)).toNat = a.length := by omega
      rw [if_neg (by simp), e1, Nat.add_zero, List.take_left, show ([47] : List UInt8).length = 1 from rfl]
      have e2 : (a ++ 47 :: b).drop (a.length + 1) = b := by rw [List.drop_append]; simp
      rw [e2, ih b (by omega)]

def slashS : ByteArray := ⟨#[47]⟩
theorem splitB_pieces (s : ByteArray) : (Lib.splitB slashS 0 (Lib.countB s slashS) s).map L = pieces (L s) := by
  have h := Lib.splitB_data slashS 0 (Lib.countB s slashS) s
  have hc : Lib.countB s slashS = (L s).count 47 := Lib.count_one 47 (L s)
  have e : (Lib.splitB slashS 0 (Lib.countB s slashS) s).map L = (Lib.splitB slashS 0 (Lib.countB s slashS) s).map (·.data.toList) := rfl
  rw [e, h, hc]
  exact split_pieces _ (L s) (Nat.le_refl _)

theorem plainB_text {s : ByteArray} {p : Nat → Bool} (h : isText s = false) : plainB s p = false := by
  unfold plainB
  unfold isText at h
  cases hr : runesOf s
  · rfl
  · rw [hr] at h; cases h
theorem plainB_true {s : ByteArray} : plainB s (fun _ => true) = isText s := by
  unfold plainB isText
  cases runesOf s <;> simp

theorem drop_split {s : ByteArray} {f k : Nat} (hfk : f ≤ k) : (L s).drop f = L (s.extract f k) ++ (L s).drop k := by
  rw [show L (s.extract f k) = ((L s).drop f).take (k - f) from Lib.extract_data s f k]
  have : ((L s).drop f).drop (k - f) = (L s).drop k := by rw [List.drop_drop]; congr 1; omega
  rw [← this, List.take_append_drop]
theorem no_slash {s : ByteArray} {f k : Nat} (hk : k ≤ s.size) (h : ∀ j, f ≤ j → j < k → B s j ≠ 47) : (47 : UInt8) ∉ L (s.extract f k) := by
  intro hm
  obtain ⟨j, hj⟩ := List.getElem?_of_mem hm
  rw [L, Lib.extract_data, List.getElem?_take] at hj
  split at hj
  · rename_i hlt
    rw [List.getElem?_drop] at hj
    have hb := B_L s (f + j) (by omega)
    rw [L] at hb
    rw [hb] at hj
    have := B_of s (f + j) (by omega)
    have e : s[f + j]'(by omega) = 47 := Option.some.inj hj
    rw [e] at this
    exact h (f + j) (by omega) (by omega) this
  · cases hj
theorem drop_cons {s : ByteArray} {k : Nat} (hk : k < s.size) (h : B s k = 47) : (L s).drop k = 47 :: (L s).drop (k + 1) := by
  have hl : k < (L s).length := by rw [L_length]; exact hk
  rw [List.drop_eq_getElem_cons hl]
  have e : (L s)[k] = s[k]'hk := Go.Proofs.byte_at' s k hk hl
  have := B_of s k hk
  rw [e, show s[k]'hk = 47 from UInt8.toNat_inj.1 (by rw [← this, h]; rfl)]
theorem pieces_at {s : ByteArray} {f k : Nat} (hfk : f ≤ k) (hk : k < s.size) (h47 : B s k = 47) (h : ∀ j, f ≤ j → j < k → B s j ≠ 47) :
    pieces ((L s).drop f) = L (s.extract f k) :: pieces ((L s).drop (k + 1)) := by
  rw [drop_split hfk, drop_cons hk h47, pieces_cut (no_slash (by omega) h)]
theorem pieces_end {s : ByteArray} {f : Nat} (hf : f ≤ s.size) (h : ∀ j, f ≤ j → j < s.size → B s j ≠ 47) : pieces ((L s).drop f) = [L (s.extract f s.size)] := by
  rw [drop_split hf, List.drop_eq_nil_of_le (by rw [L_length]; exact Nat.le_refl _), List.append_nil, pieces_lone (no_slash (Nat.le_refl _) h)]

/-- A text put ahead of the first piece. -/
def glue (p : List UInt8) : List (List UInt8) → List (List UInt8)
  | x :: xs => (p ++ x) :: xs
  | [] => [p]
theorem glue_nil {ps : List (List UInt8)} (h : ps ≠ []) : glue [] ps = ps := by
  cases ps with
  | nil => exact absurd rfl h
  | cons x xs => rfl
theorem glue_glue (p q : List UInt8) (ps : List (List UInt8)) : glue p (glue q ps) = glue (p ++ q) ps := by
  cases ps <;> simp [glue]
theorem pieces_glue {a b : List UInt8} (h : (47 : UInt8) ∉ a) : pieces (a ++ b) = glue a (pieces b) := by
  induction a with
  | nil => rw [List.nil_append, glue_nil (pieces_ne b)]
  | cons c a ih =>
    simp only [List.mem_cons, not_or] at h
    rw [List.cons_append, pieces, if_neg (fun e => h.1 e.symm), ih h.2]
    cases hb : pieces b with
    | nil => exact absurd hb (pieces_ne b)
    | cons x xs => rfl

set_option maxRecDepth 1000000 in
theorem enc_L {r : Nat} (h : mayB (r : Int) = true) : num (L (Utf8.encode (r : Int))) = encB (r : Int) := by
  have hr := may_range h
  unfold Utf8.encode
  rw [valid_may, h]
  simp only [if_true, Int.toNat_natCast]
  rcases (by omega : r < 128 ∨ (128 ≤ r ∧ r < 2048) ∨ (2048 ≤ r ∧ r < 65536) ∨ 65536 ≤ r) with a | ⟨a, b⟩ | ⟨a, b⟩ | a
  · rw [if_pos a, encB1 (by omega)]
    simp [num, L]; omega
  · rw [if_neg (by omega), if_pos (by omega), encB2 (by omega) (by omega)]
    simp [num, L]; omega
  · rw [if_neg (by omega), if_neg (by omega), if_pos (by omega), encB3 (by omega) (by omega)]
    simp [num, L]; omega
  · rw [if_neg (by omega), if_neg (by omega), if_neg (by omega), encB4 (by omega)]
    simp [num, L]; omega
/-- A rune written anew is just the bytes that it was read from. -/
theorem enc_dec {s : ByteArray} {k : Nat} (hk : k < s.size) (ho : okAt s k = true) : L (Utf8.encode ((Utf8.decode s k).1 : Int)) = L (s.extract k (k + (Utf8.decode s k).2)) := by
  obtain ⟨_, h2, h3, h4, h5⟩ := vOf_hit (s := s) (i := k) ⟨ho, rfl⟩
  apply num_inj
  rw [enc_L h2, h3, num_extract h4 h5 (dec_in hk).1]
theorem dec_slash {s : ByteArray} {k : Nat} (hk : k < s.size) (ho : okAt s k = true) (h : (Utf8.decode s k).1 ≠ 47) : (47 : UInt8) ∉ L (s.extract k (k + (Utf8.decode s k).2)) := by
  rw [← enc_dec hk ho]
  obtain ⟨_, h2, _⟩ := vOf_hit (s := s) (i := k) ⟨ho, rfl⟩
  intro hm
  have h3 : (47 : Int) ∈ num (L (Utf8.encode ((Utf8.decode s k).1 : Int))) := List.mem_map.2 ⟨47, hm, rfl⟩
  rw [enc_L h2] at h3
  have hr := may_range h2
  rcases (by omega : ((Utf8.decode s k).1 : Int) < 128 ∨ (128 ≤ ((Utf8.decode s k).1 : Int) ∧ ((Utf8.decode s k).1 : Int) < 2048) ∨ (2048 ≤ ((Utf8.decode s k).1 : Int) ∧ ((Utf8.decode s k).1 : Int) < 65536) ∨ 65536 ≤ ((Utf8.decode s k).1 : Int)) with a | ⟨a, b⟩ | ⟨a, b⟩ | a
  · rw [encB1 a] at h3; simp at h3; omega
  · rw [encB2 a b] at h3; simp at h3; omega
  · rw [encB3 a b] at h3; simp at h3; omega
  · rw [encB4 a] at h3; simp at h3; omega
theorem dec_is_slash {s : ByteArray} {k : Nat} (_hk : k < s.size) (ho : okAt s k = true) (h : (Utf8.decode s k).1 = 47) : B s k = 47 ∧ (Utf8.decode s k).2 = 1 := by
  obtain ⟨_, _, h3, h4, h5⟩ := vOf_hit (s := s) (i := k) ⟨ho, rfl⟩
  rw [h, encB1 (by decide)] at h3
  have hl := congrArg List.length h3
  generalize (Utf8.decode s k).2 = n at *
  rcases (by omega : n = 1 ∨ n = 2 ∨ n = 3 ∨ n = 4) with rfl | rfl | rfl | rfl
  · simp [bytesAt] at h3; exact ⟨by omega, rfl⟩
  · simp [bytesAt] at hl
  · simp [bytesAt] at hl
  · simp [bytesAt] at hl
end Go.Proofs.YtdgbjhfkmembdaaGreatDoor
