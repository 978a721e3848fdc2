/-
  The model's decoder of UTF-8 by its bytes as numbers: which case a place of a string is in, and what the decoder gives there. No conditions; no program.
-/
import Derived.Laws.RangeAny
namespace Go.Proofs.YtdgbjhfkmembdaaGreatDoor

/-- Byte k of a string as a number, 0 behind its end. -/
def B (s : ByteArray) (k : Nat) : Nat := (s.get! k).toNat
theorem getB (s : ByteArray) : ∀ (n : Nat) (h : n < s.size), ((s[n]'h).toNat : Int) = (B s n : Int) := by
  intro n h
  unfold B
  have := get_at s n h
  simp at this
  rw [this]
theorem B_lt (s : ByteArray) (k : Nat) : B s k < 256 := by unfold B; exact (s.get! k).toNat_lt

/-- Is there a rune at this place, rightly written? -/
def okAt (s : ByteArray) (pos : Nat) : Bool := !((Utf8.decode s pos) == (0xFFFD, 1))

def cont (s : ByteArray) (k : Nat) : Bool := decide (k < s.size) && (B s k / 64 == 2)

theorem dec_eq (s : ByteArray) (i : Nat) : Utf8.decode s i =
    if B s i < 0x80 then (B s i, 1)
    else if (B s i / 32 == 6 && cont s (i + 1)) = true then
      (if (B s i % 32) * 64 + B s (i + 1) % 64 ≥ 0x80 then ((B s i % 32) * 64 + B s (i + 1) % 64, 2) else (0xFFFD, 1))
    else if (B s i / 16 == 14 && cont s (i + 1) && cont s (i + 2)) = true then
      (if ((B s i % 16) * 4096 + (B s (i + 1) % 64) * 64 + B s (i + 2) % 64 ≥ 0x800 && Utf8.valid ((B s i % 16) * 4096 + (B s (i + 1) % 64) * 64 + B s (i + 2) % 64 : Nat)) = true
        then ((B s i % 16) * 4096 + (B s (i + 1) % 64) * 64 + B s (i + 2) % 64, 3) else (0xFFFD, 1))
    else if (B s i / 8 == 30 && cont s (i + 1) && cont s (i + 2) && cont s (i + 3)) = true then
      (if ((B s i % 8) * 262144 + (B s (i + 1) % 64) * 4096 + (B s (i + 2) % 64) * 64 + B s (i + 3) % 64 ≥ 0x10000 && Utf8.valid ((B s i % 8) * 262144 + (B s (i + 1) % 64) * 4096 + (B s (i + 2) % 64) * 64 + B s (i + 3) % 64 : Nat)) = true
        then ((B s i % 8) * 262144 + (B s (i + 1) % 64) * 4096 + (B s (i + 2) % 64) * 64 + B s (i + 3) % 64, 4) else (0xFFFD, 1))
    else (0xFFFD, 1) := by
  rfl

/-- May a rune be? -/
def mayB (r : Int) : Bool := decide (0 ≤ r) && decide (r ≤ 1114111) && (decide (r < 55296) || decide (57343 < r))
theorem valid_may (r : Int) : Utf8.valid r = mayB r := by
  unfold Utf8.valid mayB
  rw [Bool.eq_iff_iff]
  simp only [Bool.or_eq_true, Bool.and_eq_true, decide_eq_true_eq]
  omega

def v2 (s : ByteArray) (i : Nat) : Nat := (B s i % 32) * 64 + B s (i + 1) % 64
def v3 (s : ByteArray) (i : Nat) : Nat := (B s i % 16) * 4096 + (B s (i + 1) % 64) * 64 + B s (i + 2) % 64
def v4 (s : ByteArray) (i : Nat) : Nat := (B s i % 8) * 262144 + (B s (i + 1) % 64) * 4096 + (B s (i + 2) % 64) * 64 + B s (i + 3) % 64

theorem ok_of {s : ByteArray} {i r n : Nat} (e : Utf8.decode s i = (r, n)) (h : ¬ (r = 0xFFFD ∧ n = 1)) : okAt s i = true := by
  simp [okAt, e]; omega
theorem bad_of {s : ByteArray} {i : Nat} (e : Utf8.decode s i = (0xFFFD, 1)) : okAt s i = false := by
  simp [okAt, e]

theorem cont_of {s : ByteArray} {k : Nat} (h : k < s.size) (b : B s k / 64 = 2) : cont s k = true := by simp [cont, h, b]
theorem not_cont {s : ByteArray} {k : Nat} (h : s.size ≤ k ∨ B s k / 64 ≠ 2) : cont s k = false := by
  simp [cont]; omega

theorem dec1 {s : ByteArray} {i : Nat} (h : B s i < 128) : Utf8.decode s i = (B s i, 1) ∧ okAt s i = true := by
  have e : Utf8.decode s i = (B s i, 1) := by rw [dec_eq, if_pos h]
  exact ⟨e, ok_of e (by omega)⟩
theorem dec_lone {s : ByteArray} {i : Nat} (h : 128 ≤ B s i ∧ B s i < 192 ∨ 248 ≤ B s i) : okAt s i = false := by
  have := B_lt s i
  refine bad_of ?_
  rw [dec_eq, if_neg (by omega), if_neg (by simp; omega), if_neg (by simp; omega), if_neg (by simp; omega)]
theorem dec2_no {s : ByteArray} {i : Nat} (h : 192 ≤ B s i ∧ B s i < 224) (g : cont s (i + 1) = false) : okAt s i = false := by
  refine bad_of ?_
  rw [dec_eq, if_neg (by omega), if_neg (by simp [g]), if_neg (by simp; omega), if_neg (by simp; omega)]
theorem dec2 {s : ByteArray} {i : Nat} (h : 192 ≤ B s i ∧ B s i < 224) (g : cont s (i + 1) = true) :
    (128 ≤ v2 s i ∧ Utf8.decode s i = (v2 s i, 2) ∧ okAt s i = true) ∨ (v2 s i < 128 ∧ okAt s i = false) := by
  by_cases v : 128 ≤ v2 s i
  · have e : Utf8.decode s i = (v2 s i, 2) := by
      rw [dec_eq, if_neg (by omega), if_pos (by simp [g]; omega), if_pos (by unfold v2 at v; omega)]; rfl
    exact .inl ⟨v, e, ok_of e (by omega)⟩
  · refine .inr ⟨by omega, bad_of ?_⟩
    rw [dec_eq, if_neg (by omega), if_pos (by simp [g]; omega), if_neg (by unfold v2 at v; omega)]
theorem dec3_no {s : ByteArray} {i : Nat} (h : 224 ≤ B s i ∧ B s i < 240) (g : cont s (i + 1) = false ∨ cont s (i + 2) = false) : okAt s i = false := by
  refine bad_of ?_
  rw [dec_eq, if_neg (by omega), if_neg (by simp; omega), if_neg (by rcases g with g | g <;> simp [g]), if_neg (by simp; omega)]
theorem dec3 {s : ByteArray} {i : Nat} (h : 224 ≤ B s i ∧ B s i < 240) (g : cont s (i + 1) = true) (g2 : cont s (i + 2) = true) :
    (2048 ≤ v3 s i ∧ mayB (v3 s i) = true ∧ Utf8.decode s i = (v3 s i, 3) ∧ okAt s i = true) ∨ ((v3 s i < 2048 ∨ mayB (v3 s i) = false) ∧ okAt s i = false) := by
  by_cases v : 2048 ≤ v3 s i ∧ mayB (v3 s i) = true
  · have e : Utf8.decode s i = (v3 s i, 3) := by
      rw [dec_eq, if_neg (by omega), if_neg (by simp; omega), if_pos (by simp [g, g2]; omega), if_pos]
      · rfl
      · rw [valid_may]
        show (decide (v3 s i ≥ 2048) && mayB (v3 s i)) = true
        simp [v]
    exact .inl ⟨v.1, v.2, e, ok_of e (by omega)⟩
  · refine .inr ⟨?_, bad_of ?_⟩
    · rcases Nat.lt_or_ge (v3 s i) 2048 with a | a
      · exact .inl a
      · right; simpa [a] using v
    · rw [dec_eq, if_neg (by omega), if_neg (by simp; omega), if_pos (by simp [g, g2]; omega), if_neg]
      rw [valid_may]
      show ¬ (decide (v3 s i ≥ 2048) && mayB (v3 s i)) = true
      simpa using v
theorem dec4_no {s : ByteArray} {i : Nat} (h : 240 ≤ B s i ∧ B s i < 248) (g : cont s (i + 1) = false ∨ cont s (i + 2) = false ∨ cont s (i + 3) = false) : okAt s i = false := by
  refine bad_of ?_
  rw [dec_eq, if_neg (by omega), if_neg (by simp; omega), if_neg (by simp; omega), if_neg (by rcases g with g | g | g <;> simp [g])]
theorem dec4 {s : ByteArray} {i : Nat} (h : 240 ≤ B s i ∧ B s i < 248) (g : cont s (i + 1) = true) (g2 : cont s (i + 2) = true) (g3 : cont s (i + 3) = true) :
    (65536 ≤ v4 s i ∧ mayB (v4 s i) = true ∧ Utf8.decode s i = (v4 s i, 4) ∧ okAt s i = true) ∨ ((v4 s i < 65536 ∨ mayB (v4 s i) = false) ∧ okAt s i = false) := by
  by_cases v : 65536 ≤ v4 s i ∧ mayB (v4 s i) = true
  · have e : Utf8.decode s i = (v4 s i, 4) := by
      rw [dec_eq, if_neg (by omega), if_neg (by simp; omega), if_neg (by simp; omega), if_pos (by simp [g, g2, g3]; omega), if_pos]
      · rfl
      · rw [valid_may]
        show (decide (v4 s i ≥ 65536) && mayB (v4 s i)) = true
        simp [v]
    exact .inl ⟨v.1, v.2, e, ok_of e (by omega)⟩
  · refine .inr ⟨?_, bad_of ?_⟩
    · rcases Nat.lt_or_ge (v4 s i) 65536 with a | a
      · exact .inl a
      · right; simpa [a] using v
    · rw [dec_eq, if_neg (by omega), if_neg (by simp; omega), if_neg (by simp; omega), if_pos (by simp [g, g2, g3]; omega), if_neg]
      rw [valid_may]
      show ¬ (decide (v4 s i ≥ 65536) && mayB (v4 s i)) = true
      simpa using v

/-- A rune that is rightly written lies within the text, and may be. -/
theorem dec_in {s : ByteArray} {i : Nat} (hi : i < s.size) : i + (Utf8.decode s i).2 ≤ s.size ∧ 1 ≤ (Utf8.decode s i).2 ∧ (Utf8.decode s i).2 ≤ 4 := by
  have hb : ∀ {r n : Nat}, Utf8.decode s i = (r, n) → i + n ≤ s.size → 1 ≤ n → n ≤ 4 → i + (Utf8.decode s i).2 ≤ s.size ∧ 1 ≤ (Utf8.decode s i).2 ∧ (Utf8.decode s i).2 ≤ 4 := by
    intro r n e h1 h2 h3; rw [e]; exact ⟨h1, h2, h3⟩
  have hbad : okAt s i = false → Utf8.decode s i = (0xFFFD, 1) := by intro h; simpa [okAt] using h
  have lt := B_lt s i
  have hc : ∀ {k}, cont s k = true → k < s.size := by intro k h; simp [cont] at h; exact h.1
  rcases (by omega : B s i < 128 ∨ (128 ≤ B s i ∧ B s i < 192 ∨ 248 ≤ B s i) ∨ (192 ≤ B s i ∧ B s i < 224) ∨ (224 ≤ B s i ∧ B s i < 240) ∨ (240 ≤ B s i ∧ B s i < 248)) with h | h | h | h | h
  · exact hb (dec1 h).1 (by omega) (by omega) (by omega)
  · exact hb (hbad (dec_lone h)) (by omega) (by omega) (by omega)
  · cases g : cont s (i + 1)
    · exact hb (hbad (dec2_no h g)) (by omega) (by omega) (by omega)
    · have := hc g
      rcases dec2 h g with ⟨_, e, _⟩ | ⟨_, e⟩
      · exact hb e (by omega) (by omega) (by omega)
      · exact hb (hbad e) (by omega) (by omega) (by omega)
  · cases g : cont s (i + 1)
    · exact hb (hbad (dec3_no h (.inl g))) (by omega) (by omega) (by omega)
    · cases g2 : cont s (i + 2)
      · exact hb (hbad (dec3_no h (.inr g2))) (by omega) (by omega) (by omega)
      · have := hc g2
        rcases dec3 h g g2 with ⟨_, _, e, _⟩ | ⟨_, e⟩
        · exact hb e (by omega) (by omega) (by omega)
        · exact hb (hbad e) (by omega) (by omega) (by omega)
  · cases g : cont s (i + 1)
    · exact hb (hbad (dec4_no h (.inl g))) (by omega) (by omega) (by omega)
    · cases g2 : cont s (i + 2)
      · exact hb (hbad (dec4_no h (.inr (.inl g2)))) (by omega) (by omega) (by omega)
      · cases g3 : cont s (i + 3)
        · exact hb (hbad (dec4_no h (.inr (.inr g3)))) (by omega) (by omega) (by omega)
        · have := hc g3
          rcases dec4 h g g2 g3 with ⟨_, _, e, _⟩ | ⟨_, e⟩
          · exact hb e (by omega) (by omega) (by omega)
          · exact hb (hbad e) (by omega) (by omega) (by omega)

/-- The runes from a place on, by at most so many; none: a place that is wrong. -/
def runesGo (s : ByteArray) : Nat → Nat → Option (List Nat)
  | 0, _ => some []
  | f + 1, pos => if pos < s.size then (if okAt s pos then (runesGo s f (pos + (Utf8.decode s pos).2)).map ((Utf8.decode s pos).1 :: ·) else none) else some []
/-- A text's runes; none: it is no text. -/
def runesOf (s : ByteArray) : Option (List Nat) := runesGo s s.size 0
def isText (s : ByteArray) : Bool := (runesOf s).isSome

/-- More steps than there are bytes left change nothing. -/
theorem runesGo_more (s : ByteArray) : ∀ (f g pos : Nat), s.size ≤ pos + f → f ≤ g → runesGo s g pos = runesGo s f pos
  | 0, 0, _, _, _ => rfl
  | 0, g + 1, pos, h, _ => by simp [runesGo]; omega
  | f + 1, 0, _, _, h => by omega
  | f + 1, g + 1, pos, h, hg => by
    unfold runesGo
    by_cases hp : pos < s.size
    · rw [if_pos hp, if_pos hp]
      by_cases ho : okAt s pos = true
      · rw [if_pos ho, if_pos ho, runesGo_more s f g _ (by have := (dec_in hp).2.1; omega) (by omega)]
      · rw [if_neg ho, if_neg ho]
    · rw [if_neg hp, if_neg hp]
/-- The runes from a place on. -/
def runesAt (s : ByteArray) (pos : Nat) : Option (List Nat) := runesGo s (s.size - pos) pos
theorem runesOf_eq (s : ByteArray) : runesOf s = runesAt s 0 := rfl
theorem runesAt_end {s : ByteArray} {pos : Nat} (h : s.size ≤ pos) : runesAt s pos = some [] := by
  unfold runesAt; rw [show s.size - pos = 0 by omega]; rfl
theorem runesAt_bad {s : ByteArray} {pos : Nat} (h : pos < s.size) (k : okAt s pos = false) : runesAt s pos = none := by
  unfold runesAt
  obtain ⟨f, hf⟩ : ∃ f, s.size - pos = f + 1 := ⟨s.size - pos - 1, by omega⟩
  rw [hf, runesGo, if_pos h, k]; rfl
theorem runesAt_ok {s : ByteArray} {pos : Nat} (h : pos < s.size) (k : okAt s pos = true) :
    runesAt s pos = (runesAt s (pos + (Utf8.decode s pos).2)).map ((Utf8.decode s pos).1 :: ·) := by
  unfold runesAt
  obtain ⟨f, hf⟩ : ∃ f, s.size - pos = f + 1 := ⟨s.size - pos - 1, by omega⟩
  rw [hf, runesGo, if_pos h, k, if_pos rfl, runesGo_more s (s.size - (pos + (Utf8.decode s pos).2)) f _ (by omega) (by have := (dec_in h).2.1; omega)]
end Go.Proofs.YtdgbjhfkmembdaaGreatDoor
