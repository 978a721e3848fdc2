/-
  The model's decoder of UTF-8 by its bytes as numbers: which case a place of a string is in, and what the decoder gives there. No conditions; no program.
  What utf's functions give: may, lead, decode, Check. Conditions: a place lies within the text.
-/
import Derived.Laws.RangeAny
import Derived.Test.YtmlhijlcefogmaaGreatDoorProg
import Derived.Handy
import Derived.PlainAid
import Derived.Lib.Hide
set_option linter.unusedVariables false
set_option maxHeartbeats 4000000
set_option maxRecDepth 100000
namespace Go.Proofs.YtmlhijlcefogmaaGreatDoor

/-- Byte k of a string as a number, 0 behind its end. -/
def B (s : ByteArray) (k : Nat) : Nat := (s.get! k).toNat
theorem getB (s : ByteArray) : ∀ (n : Nat) (h : n < s.size), ((s[n]'h).toNat : Int) = (B s n : Int) := by
  intro n h
  unfold B
  have := get_at s n h
  simp at this
  rw [this]
theorem B_lt (s : ByteArray) (k : Nat) : B s k < 256 := by unfold B; exact (s.get! k).toNat_lt

/-- Is there a rune at this place, rightly written? -/
def okAt (s : ByteArray) (pos : Nat) : Bool := !((Utf8.decode s pos) == (0xFFFD, 1))

def cont (s : ByteArray) (k : Nat) : Bool := decide (k < s.size) && (B s k / 64 == 2)

theorem dec_eq (s : ByteArray) (i : Nat) : Utf8.decode s i =
    if B s i < 0x80 then (B s i, 1)
    else if (B s i / 32 == 6 && cont s (i + 1)) = true then
      (if (B s i % 32) * 64 + B s (i + 1) % 64 ≥ 0x80 then ((B s i % 32) * 64 + B s (i + 1) % 64, 2) else (0xFFFD, 1))
    else if (B s i / 16 == 14 && cont s (i + 1) && cont s (i + 2)) = true then
      (if ((B s i % 16) * 4096 + (B s (i + 1) % 64) * 64 + B s (i + 2) % 64 ≥ 0x800 && Utf8.valid ((B s i % 16) * 4096 + (B s (i + 1) % 64) * 64 + B s (i + 2) % 64 : Nat)) = true
        then ((B s i % 16) * 4096 + (B s (i + 1) % 64) * 64 + B s (i + 2) % 64, 3) else (0xFFFD, 1))
    else if (B s i / 8 == 30 && cont s (i + 1) && cont s (i + 2) && cont s (i + 3)) = true then
      (if ((B s i % 8) * 262144 + (B s (i + 1) % 64) * 4096 + (B s (i + 2) % 64) * 64 + B s (i + 3) % 64 ≥ 0x10000 && Utf8.valid ((B s i % 8) * 262144 + (B s (i + 1) % 64) * 4096 + (B s (i + 2) % 64) * 64 + B s (i + 3) % 64 : Nat)) = true
        then ((B s i % 8) * 262144 + (B s (i + 1) % 64) * 4096 + (B s (i + 2) % 64) * 64 + B s (i + 3) % 64, 4) else (0xFFFD, 1))
    else (0xFFFD, 1) := by
  rfl

/-- May a rune be? -/
def mayB (r : Int) : Bool := decide (0 ≤ r) && decide (r ≤ 1114111) && (decide (r < 55296) || decide (57343 < r))
theorem valid_may (r : Int) : Utf8.valid r = mayB r := by
  unfold Utf8.valid mayB
  rw [Bool.eq_iff_iff]
  simp only [Bool.or_eq_true, Bool.and_eq_true, decide_eq_true_eq]
  omega

def v2 (s : ByteArray) (i : Nat) : Nat := (B s i % 32) * 64 + B s (i + 1) % 64
def v3 (s : ByteArray) (i : Nat) : Nat := (B s i % 16) * 4096 + (B s (i + 1) % 64) * 64 + B s (i + 2) % 64
def v4 (s : ByteArray) (i : Nat) : Nat := (B s i % 8) * 262144 + (B s (i + 1) % 64) * 4096 + (B s (i + 2) % 64) * 64 + B s (i + 3) % 64

theorem ok_of {s : ByteArray} {i r n : Nat} (e : Utf8.decode s i = (r, n)) (h : ¬ (r = 0xFFFD ∧ n = 1)) : okAt s i = true := by
  simp [okAt, e]; omega
theorem bad_of {s : ByteArray} {i : Nat} (e : Utf8.decode s i = (0xFFFD, 1)) : okAt s i = false := by
  simp [okAt, e]

theorem cont_of {s : ByteArray} {k : Nat} (h : k < s.size) (b : B s k / 64 = 2) : cont s k = true := by simp [cont, h, b]
theorem not_cont {s : ByteArray} {k : Nat} (h : s.size ≤ k ∨ B s k / 64 ≠ 2) : cont s k = false := by
  simp [cont]; omega

theorem dec1 {s : ByteArray} {i : Nat} (h : B s i < 128) : Utf8.decode s i = (B s i, 1) ∧ okAt s i = true := by
  have e : Utf8.decode s i = (B s i, 1) := by rw [dec_eq, if_pos h]
  exact ⟨e, ok_of e (by omega)⟩
theorem dec_lone {s : ByteArray} {i : Nat} (h : 128 ≤ B s i ∧ B s i < 192 ∨ 248 ≤ B s i) : okAt s i = false := by
  have := B_lt s i
  refine bad_of ?_
  rw [dec_eq, if_neg (by omega), if_neg (by simp; omega), if_neg (by simp; omega), if_neg (by simp; omega)]
theorem dec2_no {s : ByteArray} {i : Nat} (h : 192 ≤ B s i ∧ B s i < 224) (g : cont s (i + 1) = false) : okAt s i = false := by
  refine bad_of ?_
  rw [dec_eq, if_neg (by omega), if_neg (by simp [g]), if_neg (by simp; omega), if_neg (by simp; omega)]
theorem dec2 {s : ByteArray} {i : Nat} (h : 192 ≤ B s i ∧ B s i < 224) (g : cont s (i + 1) = true) :
    (128 ≤ v2 s i ∧ Utf8.decode s i = (v2 s i, 2) ∧ okAt s i = true) ∨ (v2 s i < 128 ∧ okAt s i = false) := by
  by_cases v : 128 ≤ v2 s i
  · have e : Utf8.decode s i = (v2 s i, 2) := by
      rw [dec_eq, if_neg (by omega), if_pos (by simp [g]; omega), if_pos (by unfold v2 at v; omega)]; rfl
    exact .inl ⟨v, e, ok_of e (by omega)⟩
  · refine .inr ⟨by omega, bad_of ?_⟩
    rw [dec_eq, if_neg (by omega), if_pos (by simp [g]; omega), if_neg (by unfold v2 at v; omega)]
theorem dec3_no {s : ByteArray} {i : Nat} (h : 224 ≤ B s i ∧ B s i < 240) (g : cont s (i + 1) = false ∨ cont s (i + 2) = false) : okAt s i = false := by
  refine bad_of ?_
  rw [dec_eq, if_neg (by omega), if_neg (by simp; omega), if_neg (by rcases g with g | g <;> simp [g]), if_neg (by simp; omega)]
theorem dec3 {s : ByteArray} {i : Nat} (h : 224 ≤ B s i ∧ B s i < 240) (g : cont s (i + 1) = true) (g2 : cont s (i + 2) = true) :
    (2048 ≤ v3 s i ∧ mayB (v3 s i) = true ∧ Utf8.decode s i = (v3 s i, 3) ∧ okAt s i = true) ∨ ((v3 s i < 2048 ∨ mayB (v3 s i) = false) ∧ okAt s i = false) := by
  by_cases v : 2048 ≤ v3 s i ∧ mayB (v3 s i) = true
  · have e : Utf8.decode s i = (v3 s i, 3) := by
      rw [dec_eq, if_neg (by omega), if_neg (by simp; omega), if_pos (by simp [g, g2]; omega), if_pos]
      · rfl
      · rw [valid_may]
        show (decide (v3 s i ≥ 2048) && mayB (v3 s i)) = true
        simp [v]
    exact .inl ⟨v.1, v.2, e, ok_of e (by omega)⟩
  · refine .inr ⟨?_, bad_of ?_⟩
    · rcases Nat.lt_or_ge (v3 s i) 2048 with a | a
      · exact .inl a
      · right; simpa [a] using v
    · rw [dec_eq, if_neg (by omega), if_neg (by simp; omega), if_pos (by simp [g, g2]; omega), if_neg]
      rw [valid_may]
      show ¬ (decide (v3 s i ≥ 2048) && mayB (v3 s i)) = true
      simpa using v
theorem dec4_no {s : ByteArray} {i : Nat} (h : 240 ≤ B s i ∧ B s i < 248) (g : cont s (i + 1) = false ∨ cont s (i + 2) = false ∨ cont s (i + 3) = false) : okAt s i = false := by
  refine bad_of ?_
  rw [dec_eq, if_neg (by omega), if_neg (by simp; omega), if_neg (by simp; omega), if_neg (by rcases g with g | g | g <;> simp [g])]
theorem dec4 {s : ByteArray} {i : Nat} (h : 240 ≤ B s i ∧ B s i < 248) (g : cont s (i + 1) = true) (g2 : cont s (i + 2) = true) (g3 : cont s (i + 3) = true) :
    (65536 ≤ v4 s i ∧ mayB (v4 s i) = true ∧ Utf8.decode s i = (v4 s i, 4) ∧ okAt s i = true) ∨ ((v4 s i < 65536 ∨ mayB (v4 s i) = false) ∧ okAt s i = false) := by
  by_cases v : 65536 ≤ v4 s i ∧ mayB (v4 s i) = true
  · have e : Utf8.decode s i = (v4 s i, 4) := by
      rw [dec_eq, if_neg (by omega), if_neg (by simp; omega), if_neg (by simp; omega), if_pos (by simp [g, g2, g3]; omega), if_pos]
      · rfl
      · rw [valid_may]
        show (decide (v4 s i ≥ 65536) && mayB (v4 s i)) = true
        simp [v]
    exact .inl ⟨v.1, v.2, e, ok_of e (by omega)⟩
  · refine .inr ⟨?_, bad_of ?_⟩
    · rcases Nat.lt_or_ge (v4 s i) 65536 with a | a
      · exact .inl a
      · right; simpa [a] using v
    · rw [dec_eq, if_neg (by omega), if_neg (by simp; omega), if_neg (by simp; omega), if_pos (by simp [g, g2, g3]; omega), if_neg]
      rw [valid_may]
      show ¬ (decide (v4 s i ≥ 65536) && mayB (v4 s i)) = true
      simpa using v

/-- A rune that is rightly written lies within the text, and may be. -/
theorem dec_in {s : ByteArray} {i : Nat} (hi : i < s.size) : i + (Utf8.decode s i).2 ≤ s.size ∧ 1 ≤ (Utf8.decode s i).2 ∧ (Utf8.decode s i).2 ≤ 4 := by
  have hb : ∀ {r n : Nat}, Utf8.decode s i = (r, n) → i + n ≤ s.size → 1 ≤ n → n ≤ 4 → i + (Utf8.decode s i).2 ≤ s.size ∧ 1 ≤ (Utf8.decode s i).2 ∧ (Utf8.decode s i).2 ≤ 4 := by
    intro r n e h1 h2 h3; rw [e]; exact ⟨h1, h2, h3⟩
  have hbad : okAt s i = false → Utf8.decode s i = (0xFFFD, 1) := by intro h; simpa [okAt] using h
  have lt := B_lt s i
  have hc : ∀ {k}, cont s k = true → k < s.size := by intro k h; simp [cont] at h; exact h.1
  rcases (by omega : B s i < 128 ∨ (128 ≤ B s i ∧ B s i < 192 ∨ 248 ≤ B s i) ∨ (192 ≤ B s i ∧ B s i < 224) ∨ (224 ≤ B s i ∧ B s i < 240) ∨ (240 ≤ B s i ∧ B s i < 248)) with h | h | h | h | h
  · exact hb (dec1 h).1 (by omega) (by omega) (by omega)
  · exact hb (hbad (dec_lone h)) (by omega) (by omega) (by omega)
  · cases g : cont s (i + 1)
    · exact hb (hbad (dec2_no h g)) (by omega) (by omega) (by omega)
    · have := hc g
      rcases dec2 h g with ⟨_, e, _⟩ | ⟨_, e⟩
      · exact hb e (by omega) (by omega) (by omega)
      · exact hb (hbad e) (by omega) (by omega) (by omega)
  · cases g : cont s (i + 1)
    · exact hb (hbad (dec3_no h (.inl g))) (by omega) (by omega) (by omega)
    · cases g2 : cont s (i + 2)
      · exact hb (hbad (dec3_no h (.inr g2))) (by omega) (by omega) (by omega)
      · have := hc g2
        rcases dec3 h g g2 with ⟨_, _, e, _⟩ | ⟨_, e⟩
        · exact hb e (by omega) (by omega) (by omega)
        · exact hb (hbad e) (by omega) (by omega) (by omega)
  · cases g : cont s (i + 1)
    · exact hb (hbad (dec4_no h (.inl g))) (by omega) (by omega) (by omega)
    · cases g2 : cont s (i + 2)
      · exact hb (hbad (dec4_no h (.inr (.inl g2)))) (by omega) (by omega) (by omega)
      · cases g3 : cont s (i + 3)
        · exact hb (hbad (dec4_no h (.inr (.inr g3)))) (by omega) (by omega) (by omega)
        · have := hc g3
          rcases dec4 h g g2 g3 with ⟨_, _, e, _⟩ | ⟨_, e⟩
          · exact hb e (by omega) (by omega) (by omega)
          · exact hb (hbad e) (by omega) (by omega) (by omega)

/-- The runes from a place on, by at most so many; none: a place that is wrong. -/
def runesGo (s : ByteArray) : Nat → Nat → Option (List Nat)
  | 0, _ => some []
  | f + 1, pos => if pos < s.size then (if okAt s pos then (runesGo s f (pos + (Utf8.decode s pos).2)).map ((Utf8.decode s pos).1 :: ·) else none) else some []
/-- A text's runes; none: it is no text. -/
def runesOf (s : ByteArray) : Option (List Nat) := runesGo s s.size 0
def isText (s : ByteArray) : Bool := (runesOf s).isSome

/-- More steps than there are bytes left change nothing. -/
theorem runesGo_more (s : ByteArray) : ∀ (f g pos : Nat), s.size ≤ pos + f → f ≤ g → runesGo s g pos = runesGo s f pos
  | 0, 0, _, _, _ => rfl
  | 0, g + 1, pos, h, _ => by simp [runesGo]; omega
  | f + 1, 0, _, _, h => by omega
  | f + 1, g + 1, pos, h, hg => by
    unfold runesGo
    by_cases hp : pos < s.size
    · rw [if_pos hp, if_pos hp]
      by_cases ho : okAt s pos = true
      · rw [if_pos ho, if_pos ho, runesGo_more s f g _ (by have := (dec_in hp).2.1; omega) (by omega)]
      · rw [if_neg ho, if_neg ho]
    · rw [if_neg hp, if_neg hp]
/-- The runes from a place on. -/
def runesAt (s : ByteArray) (pos : Nat) : Option (List Nat) := runesGo s (s.size - pos) pos
theorem runesOf_eq (s : ByteArray) : runesOf s = runesAt s 0 := rfl
theorem runesAt_end {s : ByteArray} {pos : Nat} (h : s.size ≤ pos) : runesAt s pos = some [] := by
  unfold runesAt; rw [show s.size - pos = 0 by omega]; rfl
theorem runesAt_bad {s : ByteArray} {pos : Nat} (h : pos < s.size) (k : okAt s pos = false) : runesAt s pos = none := by
  unfold runesAt
  obtain ⟨f, hf⟩ : ∃ f, s.size - pos = f + 1 := ⟨s.size - pos - 1, by omega⟩
  rw [hf, runesGo, if_pos h, k]; rfl
theorem runesAt_ok {s : ByteArray} {pos : Nat} (h : pos < s.size) (k : okAt s pos = true) :
    runesAt s pos = (runesAt s (pos + (Utf8.decode s pos).2)).map ((Utf8.decode s pos).1 :: ·) := by
  unfold runesAt
  obtain ⟨f, hf⟩ : ∃ f, s.size - pos = f + 1 := ⟨s.size - pos - 1, by omega⟩
  rw [hf, runesGo, if_pos h, k, if_pos rfl, runesGo_more s (s.size - (pos + (Utf8.decode s pos).2)) f _ (by omega) (by have := (dec_in h).2.1; omega)]
end Go.Proofs.YtmlhijlcefogmaaGreatDoor
namespace Go.Proofs.YtmlhijlcefogmaaGreatDoor
open Go.RowKit

theorem may_any (r : Int) (w : World) (h0 : 0 ≤ r) (h1 : r ≤ 2147483647) : Calls Tryz.prog 82 #[.int .i32 r] w fun e w' =>
    w = w' ∧ e = .returned (.bool (mayB r))  := by
  by_cases a1 : r ≤ 1114111
  · by_cases a2 : r < 55296
    · rw [show mayB r = true by simp [mayB, h0, a1, a2]]
      go_enter Tryz.func82, Tryz.ntmps82
      go_wp2
      go_ret
      exact ⟨rfl, rfl⟩
    · rw [show mayB r = decide (57343 < r) by simp [mayB, h0, a1]; omega]
      have : 55296 ≤ r := by omega
      go_enter Tryz.func82, Tryz.ntmps82
      go_wp2
      go_ret
      exact ⟨rfl, rfl⟩
  · rw [show mayB r = false by simp [mayB]; omega]
    go_enter Tryz.func82, Tryz.ntmps82
    go_wp2
    go_ret
    exact ⟨rfl, rfl⟩

def lead (c : Nat) : Int × Nat × Nat :=
  if c < 128 then (0, c, 0) else if c < 192 then (-1, 0, 0) else if c < 224 then (1, c % 32, 128) else if c < 240 then (2, c % 16, 2048)
  else if c < 248 then (3, c % 8, 65536) else (-1, 0, 0)
theorem lead1 {c : Nat} (h : c < 128) : lead c = (0, c, 0) := by simp [lead, h]
theorem leadX {c : Nat} (h : 128 ≤ c ∧ c < 192 ∨ 248 ≤ c) : lead c = (-1, 0, 0) := by
  unfold lead; rw [if_neg (by omega)]; by_cases b : c < 192
  · rw [if_pos b]
  · rw [if_neg b, if_neg (by omega), if_neg (by omega), if_neg (by omega)]
theorem lead2 {c : Nat} (h : 192 ≤ c ∧ c < 224) : lead c = (1, c % 32, 128) := by
  unfold lead; rw [if_neg (by omega), if_neg (by omega), if_pos (by omega)]
theorem lead3 {c : Nat} (h : 224 ≤ c ∧ c < 240) : lead c = (2, c % 16, 2048) := by
  unfold lead; rw [if_neg (by omega), if_neg (by omega), if_neg (by omega), if_pos (by omega)]
theorem lead4 {c : Nat} (h : 240 ≤ c ∧ c < 248) : lead c = (3, c % 8, 65536) := by
  unfold lead; rw [if_neg (by omega), if_neg (by omega), if_neg (by omega), if_neg (by omega), if_pos (by omega)]

theorem lead_any (c : Nat) (w : World) (hc : c < 256) : Calls Tryz.prog 81 #[.int .u8 c] w fun e w' =>
    w = w' ∧ e = .returned (.tuple #[.int .i64 (lead c).1, .int .i32 (lead c).2.1, .int .i32 (lead c).2.2])  := by
  rcases (by omega : c < 128 ∨ (128 ≤ c ∧ c < 192) ∨ (192 ≤ c ∧ c < 224) ∨ (224 ≤ c ∧ c < 240) ∨ (240 ≤ c ∧ c < 248) ∨ 248 ≤ c) with a | a | a | a | a | a
  · rw [lead1 a]
    go_enter Tryz.func81, Tryz.ntmps81
    go_wp2
    go_ret3
    exact ⟨rfl, rfl⟩
  · rw [leadX (.inl a)]
    go_enter Tryz.func81, Tryz.ntmps81
    go_wp2
    go_ret3
    exact ⟨rfl, rfl⟩
  · rw [lead2 a]
    go_enter Tryz.func81, Tryz.ntmps81
    go_wp2
    go_ret3
    exact ⟨rfl, rfl⟩
  · rw [lead3 a]
    go_enter Tryz.func81, Tryz.ntmps81
    go_wp2
    go_ret3
    exact ⟨rfl, rfl⟩
  · rw [lead4 a]
    go_enter Tryz.func81, Tryz.ntmps81
    go_wp2
    go_ret3
    exact ⟨rfl, rfl⟩
  · rw [leadX (.inr a)]
    go_enter Tryz.func81, Tryz.ntmps81
    go_wp2
    go_ret3
    exact ⟨rfl, rfl⟩

theorem high2 : ∀ c : Fin 256, (bits BinOp.and IntKind.u8 ((c.val : Nat) : Int) 192 == 128) = (c.val / 64 == 2) := by
  decide +kernel
theorem high_yes {c : Nat} (h : c < 256) (g : c / 64 = 2) : (bits BinOp.and IntKind.u8 (c : Int) 192 == 128) = true ∧ (bits BinOp.and IntKind.u8 (c : Int) 192 != 128) = false := by
  have := high2 ⟨c, h⟩
  simp only [g] at this
  exact ⟨this, by simp [bne, this]⟩
theorem high_no {c : Nat} (h : c < 256) (g : ¬ c / 64 = 2) : (bits BinOp.and IntKind.u8 (c : Int) 192 == 128) = false ∧ (bits BinOp.and IntKind.u8 (c : Int) 192 != 128) = true := by
  have := high2 ⟨c, h⟩
  simp only [beq_eq_false_iff_ne.2 g] at this
  exact ⟨this, by simp [bne, this]⟩

/-- What decode gives at a place: the rune and where its bytes end; or 'false'. -/
def DecGives (s : ByteArray) (i : Nat) (w : World) (e : Ending) (w' : World) : Prop :=
  w = w' ∧ (okAt s i = true ∧ e = .returned (.tuple #[.int .i32 (Utf8.decode s i).1, .int .i64 ((i + (Utf8.decode s i).2 : Nat) : Int), .bool true]) ∨
    okAt s i = false ∧ ∃ r n : Int, e = .returned (.tuple #[.int .i32 r, .int .i64 n, .bool false]))
theorem DecGives.yes {s : ByteArray} {i r n : Nat} {w : World} {e : Ending} (k : okAt s i = true) (d : Utf8.decode s i = (r, n)) (h : e = .returned (.tuple #[.int .i32 r, .int .i64 ((i + n : Nat) : Int), .bool true])) : DecGives s i w e w :=
  ⟨rfl, .inl ⟨k, by rw [d]; exact h⟩⟩
theorem DecGives.no {s : ByteArray} {i : Nat} {r n : Int} {w : World} {e : Ending} (k : okAt s i = false) (h : e = .returned (.tuple #[.int .i32 r, .int .i64 n, .bool false])) : DecGives s i w e w :=
  ⟨rfl, .inr ⟨k, _, _, h⟩⟩
theorem ret_tup3 {a b a' b' : Int} {x y : Bool} (h1 : a = a') (h2 : b = b') (h3 : x = y) : Ending.returned (.tuple #[.int .i32 a, .int .i64 b, .bool x]) = .returned (.tuple #[.int .i32 a', .int .i64 b', .bool y]) := by rw [h1, h2, h3]

theorem decode1 (s : ByteArray) (i : Nat) (w : World) (h0 : i < s.size) (hs : s.size ≤ maxLen) (h : B s i < 128) :
    Calls Tryz.prog 49 #[.string s, .int .i64 i] w (DecGives s i w) := by
  unfold maxLen at hs
  have hb := getB s
  have hB := B_lt s i
  have hsz : (i : Int) < (s.size : Int) := by omega
  go_enter Tryz.func49, Tryz.ntmps49
  go_wp2_with fail
  refine (lead_any _ _ hB).mono ?_
  rw [lead1 h]
  rintro e w' ⟨rfl, rfl⟩
  go_wp2_with fail
  refine wp_loop_rounds 1 ?_
  rw [rounds_succ]
  go_wp2_with (go_at_call 82; refine (may_any _ _ (by omega) (by omega)).mono ?_; rintro e w' ⟨rfl, rfl⟩)
  go_ret3
  have d := dec1 h
  exact .yes d.2 d.1 (ret_tup3 rfl (by omega) (by simp [mayB]; omega))

theorem decodeX (s : ByteArray) (i : Nat) (w : World) (h0 : i < s.size) (hs : s.size ≤ maxLen) (h : 128 ≤ B s i ∧ B s i < 192 ∨ 248 ≤ B s i) :
    Calls Tryz.prog 49 #[.string s, .int .i64 i] w (DecGives s i w) := by
  unfold maxLen at hs
  have hb := getB s
  have hB := B_lt s i
  have hsz : (i : Int) < (s.size : Int) := by omega
  go_enter Tryz.func49, Tryz.ntmps49
  go_wp2_with fail
  refine (lead_any _ _ hB).mono ?_
  rw [leadX h]
  rintro e w' ⟨rfl, rfl⟩
  go_wp2_with fail
  go_ret3
  exact .no (dec_lone h) rfl

set_option maxRecDepth 1000000 in
theorem decode2 (s : ByteArray) (i : Nat) (w : World) (h0 : i < s.size) (hs : s.size ≤ maxLen) (h : 192 ≤ B s i ∧ B s i < 224) :
    Calls Tryz.prog 49 #[.string s, .int .i64 i] w (DecGives s i w) := by
  unfold maxLen at hs
  have hb := getB s
  have hB := B_lt s i
  have hB1 := B_lt s (i + 1)
  have hsz : (i : Int) < (s.size : Int) := by omega
  go_enter Tryz.func49, Tryz.ntmps49
  by_cases hl : s.size ≤ i + 1
  · go_wp2_with fail
    refine (lead_any _ _ hB).mono ?_
    rw [lead2 h]
    rintro e w' ⟨rfl, rfl⟩
    go_wp2_with fail
    go_ret3
    exact .no (dec2_no h (not_cont (.inl (by omega)))) rfl
  by_cases c1 : ¬ B s (i + 1) / 64 = 2
  · have ⟨q1, p1⟩ := high_no hB1 c1
    go_wp2_with fail
    refine (lead_any _ _ hB).mono ?_
    rw [lead2 h]
    rintro e w' ⟨rfl, rfl⟩
    go_wp2_with fail
    refine wp_loop_rounds 1 ?_
    rw [rounds_succ]
    go_wp2_with fail
    go_ret3
    exact .no (dec2_no h (not_cont (.inr c1))) rfl
  have c1' : B s (i + 1) / 64 = 2 := by omega
  have ⟨q1, p1⟩ := high_yes hB1 c1'
  have G1 := Lib.hid (cont_of (s := s) (k := i + 1) (by omega) c1')
  clear c1 c1'
  have hv : (((B s i : Nat) : Int) % 32) * 64 + ((B s (i + 1) : Nat) : Int) % 64 = ((v2 s i : Nat) : Int) := by unfold v2; omega
  have HV := Lib.hid hv; clear hv
  by_cases v : 128 ≤ v2 s i
  · have v' : (128 : Int) ≤ (((B s i : Nat) : Int) % 32) * 64 + ((B s (i + 1) : Nat) : Int) % 64 := by rw [HV.out]; omega
    go_wp2_with fail
    refine (lead_any _ _ hB).mono ?_
    rw [lead2 h]
    rintro e w' ⟨rfl, rfl⟩
    go_wp2_with fail
    refine wp_loop_rounds 2 ?_
    rw [rounds_succ]
    go_wp2_with fail
    rw [rounds_succ]
    go_wp2_with (go_at_call 82; refine (may_any _ _ (by omega) (by omega)).mono ?_; rintro e w' ⟨rfl, rfl⟩)
    go_ret3
    rcases dec2 h G1.out with ⟨_, d, k⟩ | ⟨d, k⟩
    · exact .yes k d (ret_tup3 HV.out (by omega) (by simp [mayB]; omega))
    · omega
  · have v' : ¬ (128 : Int) ≤ (((B s i : Nat) : Int) % 32) * 64 + ((B s (i + 1) : Nat) : Int) % 64 := by rw [HV.out]; omega
    go_wp2_with fail
    refine (lead_any _ _ hB).mono ?_
    rw [lead2 h]
    rintro e w' ⟨rfl, rfl⟩
    go_wp2_with fail
    refine wp_loop_rounds 2 ?_
    rw [rounds_succ]
    go_wp2_with fail
    rw [rounds_succ]
    go_wp2_with fail
    go_ret3
    rcases dec2 h G1.out with ⟨d, _⟩ | ⟨_, k⟩
    · omega
    · exact .no k rfl

set_option maxRecDepth 1000000 in
theorem decode3 (s : ByteArray) (i : Nat) (w : World) (h0 : i < s.size) (hs : s.size ≤ maxLen) (h : 224 ≤ B s i ∧ B s i < 240) :
    Calls Tryz.prog 49 #[.string s, .int .i64 i] w (DecGives s i w) := by
  unfold maxLen at hs
  have hb := getB s
  have hB := B_lt s i
  have hB1 := B_lt s (i + 1)
  have hB2 := B_lt s (i + 1 + 1)
  have hsz : (i : Int) < (s.size : Int) := by omega
  go_enter Tryz.func49, Tryz.ntmps49
  by_cases hl : s.size ≤ i + 2
  · go_wp2_with fail
    refine (lead_any _ _ hB).mono ?_
    rw [lead3 h]
    rintro e w' ⟨rfl, rfl⟩
    go_wp2_with fail
    go_ret3
    exact .no (dec3_no h (.inr (not_cont (.inl (by omega))))) rfl
  by_cases c1 : ¬ B s (i + 1) / 64 = 2
  · have ⟨q1, p1⟩ := high_no hB1 c1
    go_wp2_with fail
    refine (lead_any _ _ hB).mono ?_
    rw [lead3 h]
    rintro e w' ⟨rfl, rfl⟩
    go_wp2_with fail
    refine wp_loop_rounds 1 ?_
    rw [rounds_succ]
    go_wp2_with fail
    go_ret3
    exact .no (dec3_no h (.inl (not_cont (.inr c1)))) rfl
  have c1' : B s (i + 1) / 64 = 2 := by omega
  have ⟨q1, p1⟩ := high_yes hB1 c1'
  have G1 := Lib.hid (cont_of (s := s) (k := i + 1) (by omega) c1')
  clear c1 c1'
  by_cases c2 : ¬ B s (i + 1 + 1) / 64 = 2
  · have ⟨q2, p2⟩ := high_no hB2 c2
    go_wp2_with fail
    refine (lead_any _ _ hB).mono ?_
    rw [lead3 h]
    rintro e w' ⟨rfl, rfl⟩
    go_wp2_with fail
    refine wp_loop_rounds 2 ?_
    rw [rounds_succ]
    go_wp2_with fail
    rw [rounds_succ]
    go_wp2_with fail
    go_ret3
    exact .no (dec3_no h (.inr (not_cont (.inr c2)))) rfl
  have c2' : B s (i + 1 + 1) / 64 = 2 := by omega
  have ⟨q2, p2⟩ := high_yes hB2 c2'
  have G2 := Lib.hid (cont_of (s := s) (k := i + 1 + 1) (by omega) c2')
  clear c2 c2'
  have hv : ((((B s i : Nat) : Int) % 16) * 64 + ((B s (i + 1) : Nat) : Int) % 64) * 64 + ((B s (i + 1 + 1) : Nat) : Int) % 64 = ((v3 s i : Nat) : Int) := by unfold v3; rw [show i + 2 = i + 1 + 1 from rfl]; omega
  have HV := Lib.hid hv; clear hv
  by_cases v : 2048 ≤ v3 s i
  · have v' : (2048 : Int) ≤ ((((B s i : Nat) : Int) % 16) * 64 + ((B s (i + 1) : Nat) : Int) % 64) * 64 + ((B s (i + 1 + 1) : Nat) : Int) % 64 := by rw [HV.out]; omega
    go_wp2_with fail
    refine (lead_any _ _ hB).mono ?_
    rw [lead3 h]
    rintro e w' ⟨rfl, rfl⟩
    go_wp2_with fail
    refine wp_loop_rounds 3 ?_
    rw [rounds_succ]
    go_wp2_with fail
    rw [rounds_succ]
    go_wp2_with fail
    rw [rounds_succ]
    go_wp2_with (go_at_call 82; refine (may_any _ _ (by omega) (by omega)).mono ?_; rintro e w' ⟨rfl, rfl⟩)
    go_ret3
    rcases dec3 h G1.out G2.out with ⟨_, hm, d, k⟩ | ⟨d, k⟩
    · exact .yes k d (ret_tup3 HV.out (by omega) (by rw [HV.out]; exact hm))
    · have hm : mayB (v3 s i) = false := d.resolve_left (by omega)
      exact .no k (ret_tup3 rfl rfl (by rw [HV.out]; exact hm))
  · have v' : ¬ (2048 : Int) ≤ ((((B s i : Nat) : Int) % 16) * 64 + ((B s (i + 1) : Nat) : Int) % 64) * 64 + ((B s (i + 1 + 1) : Nat) : Int) % 64 := by rw [HV.out]; omega
    go_wp2_with fail
    refine (lead_any _ _ hB).mono ?_
    rw [lead3 h]
    rintro e w' ⟨rfl, rfl⟩
    go_wp2_with fail
    refine wp_loop_rounds 3 ?_
    rw [rounds_succ]
    go_wp2_with fail
    rw [rounds_succ]
    go_wp2_with fail
    rw [rounds_succ]
    go_wp2_with fail
    go_ret3
    rcases dec3 h G1.out G2.out with ⟨d, _⟩ | ⟨_, k⟩
    · omega
    · exact .no k rfl

set_option maxRecDepth 1000000 in
theorem decode4 (s : ByteArray) (i : Nat) (w : World) (h0 : i < s.size) (hs : s.size ≤ maxLen) (h : 240 ≤ B s i ∧ B s i < 248) :
    Calls Tryz.prog 49 #[.string s, .int .i64 i] w (DecGives s i w) := by
  unfold maxLen at hs
  have hb := getB s
  have hB := B_lt s i
  have hB1 := B_lt s (i + 1)
  have hB2 := B_lt s (i + 1 + 1)
  have hB3 := B_lt s (i + 1 + 2)
  have hsz : (i : Int) < (s.size : Int) := by omega
  go_enter Tryz.func49, Tryz.ntmps49
  by_cases hl : s.size ≤ i + 3
  · go_wp2_with fail
    refine (lead_any _ _ hB).mono ?_
    rw [lead4 h]
    rintro e w' ⟨rfl, rfl⟩
    go_wp2_with fail
    go_ret3
    exact .no (dec4_no h (.inr (.inr (not_cont (.inl (by omega)))))) rfl
  by_cases c1 : ¬ B s (i + 1) / 64 = 2
  · have ⟨q1, p1⟩ := high_no hB1 c1
    go_wp2_with fail
    refine (lead_any _ _ hB).mono ?_
    rw [lead4 h]
    rintro e w' ⟨rfl, rfl⟩
    go_wp2_with fail
    refine wp_loop_rounds 1 ?_
    rw [rounds_succ]
    go_wp2_with fail
    go_ret3
    exact .no (dec4_no h (.inl (not_cont (.inr c1)))) rfl
  have c1' : B s (i + 1) / 64 = 2 := by omega
  have ⟨q1, p1⟩ := high_yes hB1 c1'
  have G1 := Lib.hid (cont_of (s := s) (k := i + 1) (by omega) c1')
  clear c1 c1'
  by_cases c2 : ¬ B s (i + 1 + 1) / 64 = 2
  · have ⟨q2, p2⟩ := high_no hB2 c2
    go_wp2_with fail
    refine (lead_any _ _ hB).mono ?_
    rw [lead4 h]
    rintro e w' ⟨rfl, rfl⟩
    go_wp2_with fail
    refine wp_loop_rounds 2 ?_
    rw [rounds_succ]
    go_wp2_with fail
    rw [rounds_succ]
    go_wp2_with fail
    go_ret3
    exact .no (dec4_no h (.inr (.inl (not_cont (.inr c2))))) rfl
  have c2' : B s (i + 1 + 1) / 64 = 2 := by omega
  have ⟨q2, p2⟩ := high_yes hB2 c2'
  have G2 := Lib.hid (cont_of (s := s) (k := i + 1 + 1) (by omega) c2')
  clear c2 c2'
  by_cases c3 : ¬ B s (i + 1 + 2) / 64 = 2
  · have ⟨q3, p3⟩ := high_no hB3 c3
    go_wp2_with fail
    refine (lead_any _ _ hB).mono ?_
    rw [lead4 h]
    rintro e w' ⟨rfl, rfl⟩
    go_wp2_with fail
    refine wp_loop_rounds 3 ?_
    rw [rounds_succ]
    go_wp2_with fail
    rw [rounds_succ]
    go_wp2_with fail
    rw [rounds_succ]
    go_wp2_with fail
    go_ret3
    exact .no (dec4_no h (.inr (.inr (not_cont (.inr c3))))) rfl
  have c3' : B s (i + 1 + 2) / 64 = 2 := by omega
  have ⟨q3, p3⟩ := high_yes hB3 c3'
  have G3 := Lib.hid (cont_of (s := s) (k := i + 1 + 2) (by omega) c3')
  clear c3 c3'
  have hv : (((((B s i : Nat) : Int) % 8) * 64 + ((B s (i + 1) : Nat) : Int) % 64) * 64 + ((B s (i + 1 + 1) : Nat) : Int) % 64) * 64 + ((B s (i + 1 + 2) : Nat) : Int) % 64 = ((v4 s i : Nat) : Int) := by unfold v4; rw [show i + 2 = i + 1 + 1 from rfl, show i + 3 = i + 1 + 2 from rfl]; omega
  have HV := Lib.hid hv; clear hv
  by_cases v : 65536 ≤ v4 s i
  · have v' : (65536 : Int) ≤ (((((B s i : Nat) : Int) % 8) * 64 + ((B s (i + 1) : Nat) : Int) % 64) * 64 + ((B s (i + 1 + 1) : Nat) : Int) % 64) * 64 + ((B s (i + 1 + 2) : Nat) : Int) % 64 := by rw [HV.out]; omega
    go_wp2_with fail
    refine (lead_any _ _ hB).mono ?_
    rw [lead4 h]
    rintro e w' ⟨rfl, rfl⟩
    go_wp2_with fail
    refine wp_loop_rounds 4 ?_
    rw [rounds_succ]
    go_wp2_with fail
    rw [rounds_succ]
    go_wp2_with fail
    rw [rounds_succ]
    go_wp2_with fail
    rw [rounds_succ]
    go_wp2_with (go_at_call 82; refine (may_any _ _ (by omega) (by omega)).mono ?_; rintro e w' ⟨rfl, rfl⟩)
    go_ret3
    rcases dec4 h G1.out G2.out G3.out with ⟨_, hm, d, k⟩ | ⟨d, k⟩
    · exact .yes k d (ret_tup3 HV.out (by omega) (by rw [HV.out]; exact hm))
    · have hm : mayB (v4 s i) = false := d.resolve_left (by omega)
      exact .no k (ret_tup3 rfl rfl (by rw [HV.out]; exact hm))
  · have v' : ¬ (65536 : Int) ≤ (((((B s i : Nat) : Int) % 8) * 64 + ((B s (i + 1) : Nat) : Int) % 64) * 64 + ((B s (i + 1 + 1) : Nat) : Int) % 64) * 64 + ((B s (i + 1 + 2) : Nat) : Int) % 64 := by rw [HV.out]; omega
    go_wp2_with fail
    refine (lead_any _ _ hB).mono ?_
    rw [lead4 h]
    rintro e w' ⟨rfl, rfl⟩
    go_wp2_with fail
    refine wp_loop_rounds 4 ?_
    rw [rounds_succ]
    go_wp2_with fail
    rw [rounds_succ]
    go_wp2_with fail
    rw [rounds_succ]
    go_wp2_with fail
    rw [rounds_succ]
    go_wp2_with fail
    go_ret3
    rcases dec4 h G1.out G2.out G3.out with ⟨d, _⟩ | ⟨_, k⟩
    · omega
    · exact .no k rfl


theorem decode_any (s : ByteArray) (i : Nat) (w : World) (h0 : i < s.size) (hs : s.size ≤ maxLen) :
    Calls Tryz.prog 49 #[.string s, .int .i64 i] w (DecGives s i w) := by
  have := B_lt s i
  rcases (by omega : B s i < 128 ∨ (128 ≤ B s i ∧ B s i < 192 ∨ 248 ≤ B s i) ∨ (192 ≤ B s i ∧ B s i < 224) ∨ (224 ≤ B s i ∧ B s i < 240) ∨ (240 ≤ B s i ∧ B s i < 248)) with h | h | h | h | h
  · exact decode1 s i w h0 hs h
  · exact decodeX s i w h0 hs h
  · exact decode2 s i w h0 hs h
  · exact decode3 s i w h0 hs h
  · exact decode4 s i w h0 hs h
end Go.Proofs.YtmlhijlcefogmaaGreatDoor
