/-
  The model's decoder of UTF-8 by its bytes as numbers: which case a place of a string is in, and what the decoder gives there. No conditions; no program.
  The reference's way to a rune (try one to four bytes, write what comes out, compare) finds just what the model's decoder finds. No conditions; no program.
  Plain facts on strings as lists of bytes: equality, cuts, the bytes as numbers. No conditions; no program.
  Numbers, texts and ids as bytes, as plain functions: written, read; what is read is just what was written. No conditions; no program.
-/
import Derived.Laws.RangeAny
import Derived.Laws.BytesArg
import Derived.Lib.Strings
import Derived.Lib.RabinKarpLaws
import Derived.Lib.SmallJoins
namespace Go.Proofs.YthjaepmfkgejkaaGreatDoor
def B (s : ByteArray) (k : Nat) : Nat := (s.get! k).toNat
theorem getB (s : ByteArray) : ∀ (n : Nat) (h : n < s.size), ((s[n]'h).toNat : Int) = (B s n : Int) := by
  intro n h
  unfold B
  have := get_at s n h
  simp at this
  rw [this]
theorem KA (s : ByteArray) (k : Nat) : B s k < 256 := by unfold B; exact (s.get! k).toNat_lt
def K4 (s : ByteArray) (pos : Nat) : Bool := !((Utf8.decode s pos) == (0xFFFD, 1))
def zN (s : ByteArray) (k : Nat) : Bool := decide (k < s.size) && (B s k / 64 == 2)
theorem Jw (s : ByteArray) (i : Nat) : Utf8.decode s i =
    if B s i < 0x80 then (B s i, 1)
    else if (B s i / 32 == 6 && zN s (i + 1)) = true then
      (if (B s i % 32) * 64 + B s (i + 1) % 64 ≥ 0x80 then ((B s i % 32) * 64 + B s (i + 1) % 64, 2) else (0xFFFD, 1))
    else if (B s i / 16 == 14 && zN s (i + 1) && zN s (i + 2)) = true then
      (if ((B s i % 16) * 4096 + (B s (i + 1) % 64) * 64 + B s (i + 2) % 64 ≥ 0x800 && Utf8.valid ((B s i % 16) * 4096 + (B s (i + 1) % 64) * 64 + B s (i + 2) % 64 : Nat)) = true
        then ((B s i % 16) * 4096 + (B s (i + 1) % 64) * 64 + B s (i + 2) % 64, 3) else (0xFFFD, 1))
    else if (B s i / 8 == 30 && zN s (i + 1) && zN s (i + 2) && zN s (i + 3)) = true then
      (if ((B s i % 8) * 262144 + (B s (i + 1) % 64) * 4096 + (B s (i + 2) % 64) * 64 + B s (i + 3) % 64 ≥ 0x10000 && Utf8.valid ((B s i % 8) * 262144 + (B s (i + 1) % 64) * 4096 + (B s (i + 2) % 64) * 64 + B s (i + 3) % 64 : Nat)) = true
        then ((B s i % 8) * 262144 + (B s (i + 1) % 64) * 4096 + (B s (i + 2) % 64) * 64 + B s (i + 3) % 64, 4) else (0xFFFD, 1))
    else (0xFFFD, 1) := by
  rfl
def K5 (r : Int) : Bool := decide (0 ≤ r) && decide (r ≤ 1114111) && (decide (r < 55296) || decide (57343 < r))
theorem ZR (r : Int) : Utf8.valid r = K5 r := by
  unfold Utf8.valid K5
  rw [Bool.eq_iff_iff]
  simp only [Bool.or_eq_true, Bool.and_eq_true, decide_eq_true_eq]
  omega
def v2 (s : ByteArray) (i : Nat) : Nat := (B s i % 32) * 64 + B s (i + 1) % 64
def v3 (s : ByteArray) (i : Nat) : Nat := (B s i % 16) * 4096 + (B s (i + 1) % 64) * 64 + B s (i + 2) % 64
def v4 (s : ByteArray) (i : Nat) : Nat := (B s i % 8) * 262144 + (B s (i + 1) % 64) * 4096 + (B s (i + 2) % 64) * 64 + B s (i + 3) % 64
theorem ok_of {s : ByteArray} {i r n : Nat} (e : Utf8.decode s i = (r, n)) (h : ¬ (r = 0xFFFD ∧ n = 1)) : K4 s i = true := by
  simp [K4, e]; omega
theorem vh {s : ByteArray} {i : Nat} (e : Utf8.decode s i = (0xFFFD, 1)) : K4 s i = false := by
  simp [K4, e]
theorem Ky {s : ByteArray} {k : Nat} (h : k < s.size) (b : B s k / 64 = 2) : zN s k = true := by simp [zN, h, b]
theorem KR {s : ByteArray} {k : Nat} (h : s.size ≤ k ∨ B s k / 64 ≠ 2) : zN s k = false := by
  simp [zN]; omega
theorem dec1 {s : ByteArray} {i : Nat} (h : B s i < 128) : Utf8.decode s i = (B s i, 1) ∧ K4 s i = true := by
  have e : Utf8.decode s i = (B s i, 1) := by rw [Jw, if_pos h]
  exact ⟨e, ok_of e (by omega)⟩
theorem uH {s : ByteArray} {i : Nat} (h : 128 ≤ B s i ∧ B s i < 192 ∨ 248 ≤ B s i) : K4 s i = false := by
  have := KA s i
  refine vh ?_
  rw [Jw, if_neg (by omega), if_neg (by simp; omega), if_neg (by simp; omega), if_neg (by simp; omega)]
theorem uB {s : ByteArray} {i : Nat} (h : 192 ≤ B s i ∧ B s i < 224) (g : zN s (i + 1) = false) : K4 s i = false := by
  refine vh ?_
  rw [Jw, if_neg (by omega), if_neg (by simp [g]), if_neg (by simp; omega), if_neg (by simp; omega)]
theorem dec2 {s : ByteArray} {i : Nat} (h : 192 ≤ B s i ∧ B s i < 224) (g : zN s (i + 1) = true) :
    (128 ≤ v2 s i ∧ Utf8.decode s i = (v2 s i, 2) ∧ K4 s i = true) ∨ (v2 s i < 128 ∧ K4 s i = false) := by
  by_cases v : 128 ≤ v2 s i
  · have e : Utf8.decode s i = (v2 s i, 2) := by
      rw [Jw, if_neg (by omega), if_pos (by simp [g]; omega), if_pos (by unfold v2 at v; omega)]; rfl
    exact .inl ⟨v, e, ok_of e (by omega)⟩
  · refine .inr ⟨by omega, vh ?_⟩
    rw [Jw, if_neg (by omega), if_pos (by simp [g]; omega), if_neg (by unfold v2 at v; omega)]
theorem Zf {s : ByteArray} {i : Nat} (h : 224 ≤ B s i ∧ B s i < 240) (g : zN s (i + 1) = false ∨ zN s (i + 2) = false) : K4 s i = false := by
  refine vh ?_
  rw [Jw, if_neg (by omega), if_neg (by simp; omega), if_neg (by rcases g with g | g <;> simp [g]), if_neg (by simp; omega)]
theorem dec3 {s : ByteArray} {i : Nat} (h : 224 ≤ B s i ∧ B s i < 240) (g : zN s (i + 1) = true) (g2 : zN s (i + 2) = true) :
    (2048 ≤ v3 s i ∧ K5 (v3 s i) = true ∧ Utf8.decode s i = (v3 s i, 3) ∧ K4 s i = true) ∨ ((v3 s i < 2048 ∨ K5 (v3 s i) = false) ∧ K4 s i = false) := by
  by_cases v : 2048 ≤ v3 s i ∧ K5 (v3 s i) = true
  ·
   have e : Utf8.decode s i = (v3 s i, 3) := by
     rw [Jw, if_neg (by omega), if_neg (by simp; omega), if_pos (by simp [g, g2]; omega), if_pos]
     · rfl
     · rw [ZR]
       show (decide (v3 s i ≥ 2048) && K5 (v3 s i)) = true
       simp [v]
   exact .inl ⟨v.1, v.2, e, ok_of e (by omega)⟩
  ·
   refine .inr ⟨?_, vh ?_⟩
   · rcases Nat.lt_or_ge (v3 s i) 2048 with a | a
     · exact .inl a
     · right; simpa [a] using v
   ·
    rw [Jw, if_neg (by omega), if_neg (by simp; omega), if_pos (by simp [g, g2]; omega), if_neg]
    rw [ZR]
    show ¬ (decide (v3 s i ≥ 2048) && K5 (v3 s i)) = true
    simpa using v
theorem Jf {s : ByteArray} {i : Nat} (h : 240 ≤ B s i ∧ B s i < 248) (g : zN s (i + 1) = false ∨ zN s (i + 2) = false ∨ zN s (i + 3) = false) : K4 s i = false := by
  refine vh ?_
  rw [Jw, if_neg (by omega), if_neg (by simp; omega), if_neg (by simp; omega), if_neg (by rcases g with g | g | g <;> simp [g])]
theorem dec4 {s : ByteArray} {i : Nat} (h : 240 ≤ B s i ∧ B s i < 248) (g : zN s (i + 1) = true) (g2 : zN s (i + 2) = true) (g3 : zN s (i + 3) = true) :
    (65536 ≤ v4 s i ∧ K5 (v4 s i) = true ∧ Utf8.decode s i = (v4 s i, 4) ∧ K4 s i = true) ∨ ((v4 s i < 65536 ∨ K5 (v4 s i) = false) ∧ K4 s i = false) := by
  by_cases v : 65536 ≤ v4 s i ∧ K5 (v4 s i) = true
  ·
   have e : Utf8.decode s i = (v4 s i, 4) := by
     rw [Jw, if_neg (by omega), if_neg (by simp; omega), if_neg (by simp; omega), if_pos (by simp [g, g2, g3]; omega), if_pos]
     · rfl
     · rw [ZR]
       show (decide (v4 s i ≥ 65536) && K5 (v4 s i)) = true
       simp [v]
   exact .inl ⟨v.1, v.2, e, ok_of e (by omega)⟩
  ·
   refine .inr ⟨?_, vh ?_⟩
   · rcases Nat.lt_or_ge (v4 s i) 65536 with a | a
     · exact .inl a
     · right; simpa [a] using v
   ·
    rw [Jw, if_neg (by omega), if_neg (by simp; omega), if_neg (by simp; omega), if_pos (by simp [g, g2, g3]; omega), if_neg]
    rw [ZR]
    show ¬ (decide (v4 s i ≥ 65536) && K5 (v4 s i)) = true
    simpa using v
theorem Jx {s : ByteArray} {i : Nat} (hi : i < s.size) : i + (Utf8.decode s i).2 ≤ s.size ∧ 1 ≤ (Utf8.decode s i).2 ∧ (Utf8.decode s i).2 ≤ 4 := by
  have hb : ∀ {r n : Nat}, Utf8.decode s i = (r, n) → i + n ≤ s.size → 1 ≤ n → n ≤ 4 → i + (Utf8.decode s i).2 ≤ s.size ∧ 1 ≤ (Utf8.decode s i).2 ∧ (Utf8.decode s i).2 ≤ 4 := by
    intro r n e h1 h2 h3; rw [e]; exact ⟨h1, h2, h3⟩
  have hbad : K4 s i = false → Utf8.decode s i = (0xFFFD, 1) := by intro h; simpa [K4] using h
  have lt := KA s i
  have hc : ∀ {k}, zN s k = true → k < s.size := by intro k h; simp [zN] at h; exact h.1
  rcases (by omega : B s i < 128 ∨ (128 ≤ B s i ∧ B s i < 192 ∨ 248 ≤ B s i) ∨ (192 ≤ B s i ∧ B s i < 224) ∨ (224 ≤ B s i ∧ B s i < 240) ∨ (240 ≤ B s i ∧ B s i < 248)) with h | h | h | h | h
  · exact hb (dec1 h).1 (by omega) (by omega) (by omega)
  · exact hb (hbad (uH h)) (by omega) (by omega) (by omega)
  ·
   cases g : zN s (i + 1)
   · exact hb (hbad (uB h g)) (by omega) (by omega) (by omega)
   ·
    have := hc g
    rcases dec2 h g with ⟨_, e, _⟩ | ⟨_, e⟩
    · exact hb e (by omega) (by omega) (by omega)
    · exact hb (hbad e) (by omega) (by omega) (by omega)
  ·
   cases g : zN s (i + 1)
   · exact hb (hbad (Zf h (.inl g))) (by omega) (by omega) (by omega)
   ·
    cases g2 : zN s (i + 2)
    · exact hb (hbad (Zf h (.inr g2))) (by omega) (by omega) (by omega)
    ·
     have := hc g2
     rcases dec3 h g g2 with ⟨_, _, e, _⟩ | ⟨_, e⟩
     · exact hb e (by omega) (by omega) (by omega)
     · exact hb (hbad e) (by omega) (by omega) (by omega)
  ·
   cases g : zN s (i + 1)
   · exact hb (hbad (Jf h (.inl g))) (by omega) (by omega) (by omega)
   ·
    cases g2 : zN s (i + 2)
    · exact hb (hbad (Jf h (.inr (.inl g2)))) (by omega) (by omega) (by omega)
    ·
     cases g3 : zN s (i + 3)
     · exact hb (hbad (Jf h (.inr (.inr g3)))) (by omega) (by omega) (by omega)
     ·
      have := hc g3
      rcases dec4 h g g2 g3 with ⟨_, _, e, _⟩ | ⟨_, e⟩
      · exact hb e (by omega) (by omega) (by omega)
      · exact hb (hbad e) (by omega) (by omega) (by omega)
def Kz (s : ByteArray) : Nat → Nat → Option (List Nat)
  | 0, _ => some []
  | f + 1, pos => if pos < s.size then (if K4 s pos then (Kz s f (pos + (Utf8.decode s pos).2)).map ((Utf8.decode s pos).1 :: ·) else none) else some []
def Ki (s : ByteArray) : Option (List Nat) := Kz s s.size 0
def K1 (s : ByteArray) : Bool := (Ki s).isSome
theorem vu (s : ByteArray) : ∀ (f g pos : Nat), s.size ≤ pos + f → f ≤ g → Kz s g pos = Kz s f pos
  | 0, 0, _, _, _ => rfl
  | 0, g + 1, pos, h, _ => by simp [Kz]; omega
  | f + 1, 0, _, _, h => by omega
  | f + 1, g + 1, pos, h, hg => by
    unfold Kz
    by_cases hp : pos < s.size
    ·
     rw [if_pos hp, if_pos hp]
     by_cases ho : K4 s pos = true
     · rw [if_pos ho, if_pos ho, vu s f g _ (by have := (Jx hp).2.1; omega) (by omega)]
     · rw [if_neg ho, if_neg ho]
    · rw [if_neg hp, if_neg hp]
def jB (s : ByteArray) (pos : Nat) : Option (List Nat) := Kz s (s.size - pos) pos
theorem vi (s : ByteArray) : Ki s = jB s 0 := rfl
theorem KG {s : ByteArray} {pos : Nat} (h : s.size ≤ pos) : jB s pos = some [] := by
  unfold jB; rw [show s.size - pos = 0 by omega]; rfl
theorem JM {s : ByteArray} {pos : Nat} (h : pos < s.size) (k : K4 s pos = false) : jB s pos = none := by
  unfold jB
  obtain ⟨f, hf⟩ : ∃ f, s.size - pos = f + 1 := ⟨s.size - pos - 1, by omega⟩
  rw [hf, Kz, if_pos h, k]; rfl
theorem KX {s : ByteArray} {pos : Nat} (h : pos < s.size) (k : K4 s pos = true) :
    jB s pos = (jB s (pos + (Utf8.decode s pos).2)).map ((Utf8.decode s pos).1 :: ·) := by
  unfold jB
  obtain ⟨f, hf⟩ : ∃ f, s.size - pos = f + 1 := ⟨s.size - pos - 1, by omega⟩
  rw [hf, Kz, if_pos h, k, if_pos rfl, vu s (s.size - (pos + (Utf8.decode s pos).2)) f _ (by omega) (by have := (Jx h).2.1; omega)]
end Go.Proofs.YthjaepmfkgejkaaGreatDoor
namespace Go.Proofs.YthjaepmfkgejkaaGreatDoor
def JL (r : Int) : List Int :=
  if r < 128 then [r] else if r < 2048 then [192 + r / 64, 128 + r % 64] else if r < 65536 then [224 + r / 4096, 128 + r / 64 % 64, 128 + r % 64]
  else [240 + r / 262144, 128 + r / 4096 % 64, 128 + r / 64 % 64, 128 + r % 64]
theorem Ux {r : Int} (h : r < 128) : JL r = [r] := by unfold JL; rw [if_pos h]
theorem uI {r : Int} (h : 128 ≤ r) (h' : r < 2048) : JL r = [192 + r / 64, 128 + r % 64] := by
  unfold JL; rw [if_neg (by omega), if_pos h']
theorem Uy {r : Int} (h : 2048 ≤ r) (h' : r < 65536) : JL r = [224 + r / 4096, 128 + r / 64 % 64, 128 + r % 64] := by
  unfold JL; rw [if_neg (by omega), if_neg (by omega), if_pos h']
theorem Uz {r : Int} (h : 65536 ≤ r) : JL r = [240 + r / 262144, 128 + r / 4096 % 64, 128 + r / 64 % 64, 128 + r % 64] := by
  unfold JL; rw [if_neg (by omega), if_neg (by omega), if_neg (by omega)]
def vOf (s : ByteArray) (i k : Nat) : Int :=
  if k = 1 then B s i else if k = 2 then ((B s i : Int) - 192) * 64 + B s (i + 1) - 128
  else if k = 3 then ((B s i : Int) - 224) * 4096 + ((B s (i + 1) : Int) - 128) * 64 + B s (i + 2) - 128
  else ((B s i : Int) - 240) * 262144 + ((B s (i + 1) : Int) - 128) * 4096 + ((B s (i + 2) : Int) - 128) * 64 + B s (i + 3) - 128
def zk (s : ByteArray) (i k : Nat) : List Int :=
  if k = 1 then [(B s i : Int)] else if k = 2 then [(B s i : Int), B s (i + 1)] else if k = 3 then [(B s i : Int), B s (i + 1), B s (i + 2)]
  else [(B s i : Int), B s (i + 1), B s (i + 2), B s (i + 3)]
def hit (s : ByteArray) (i k : Nat) : Prop := K4 s i = true ∧ (Utf8.decode s i).2 = k
theorem ZS {s : ByteArray} {k : Nat} (h : zN s k = true) : k < s.size ∧ B s k / 64 = 2 := by simpa [zN] using h
theorem UZ {s : ByteArray} {i k : Nat} (h : hit s i k) : vOf s i k = (Utf8.decode s i).1 ∧ K5 (Utf8.decode s i).1 = true ∧ JL (Utf8.decode s i).1 = zk s i k ∧ 1 ≤ k ∧ k ≤ 4 := by
  obtain ⟨ho, hw⟩ := h
  have lt := KA s i
  have lt1 := KA s (i + 1)
  have lt2 := KA s (i + 2)
  have lt3 := KA s (i + 3)
  rcases (by omega : B s i < 128 ∨ (128 ≤ B s i ∧ B s i < 192 ∨ 248 ≤ B s i) ∨ (192 ≤ B s i ∧ B s i < 224) ∨ (224 ≤ B s i ∧ B s i < 240) ∨ (240 ≤ B s i ∧ B s i < 248)) with h | h | h | h | h
  ·
   obtain ⟨e, _⟩ := dec1 h
   rw [e] at hw ⊢
   subst hw
   refine ⟨rfl, by simp [K5]; omega, ?_, by omega, by omega⟩
   rw [Ux (by simp; omega)]; rfl
  · rw [uH h] at ho; cases ho
  ·
   cases g : zN s (i + 1)
   · rw [uB h g] at ho; cases ho
   ·
    have := ZS g
    rcases dec2 h g with ⟨hv, e, _⟩ | ⟨_, e⟩
    ·
     rw [e] at hw ⊢
     subst hw
     have ev : (v2 s i : Int) = ((B s i : Int) - 192) * 64 + B s (i + 1) - 128 := by unfold v2; omega
     refine ⟨ev.symm, by simp [K5]; omega, ?_, by omega, by omega⟩
     rw [uI (by omega) (by simp only [ev]; omega)]
     simp only [ev, zk]
     simp; omega
    · rw [e] at ho; cases ho
  ·
   cases g : zN s (i + 1)
   · rw [Zf h (.inl g)] at ho; cases ho
   ·
    cases g2 : zN s (i + 2)
    · rw [Zf h (.inr g2)] at ho; cases ho
    ·
     have := ZS g
     have := ZS g2
     rcases dec3 h g g2 with ⟨hv, hm, e, _⟩ | ⟨_, e⟩
     ·
      rw [e] at hw ⊢
      subst hw
      have ev : (v3 s i : Int) = ((B s i : Int) - 224) * 4096 + ((B s (i + 1) : Int) - 128) * 64 + B s (i + 2) - 128 := by unfold v3; omega
      refine ⟨ev.symm, hm, ?_, by omega, by omega⟩
      rw [Uy (by omega) (by simp only [ev]; omega)]
      simp only [ev, zk]
      simp; omega
     · rw [e] at ho; cases ho
  ·
   cases g : zN s (i + 1)
   · rw [Jf h (.inl g)] at ho; cases ho
   ·
    cases g2 : zN s (i + 2)
    · rw [Jf h (.inr (.inl g2))] at ho; cases ho
    ·
     cases g3 : zN s (i + 3)
     · rw [Jf h (.inr (.inr g3))] at ho; cases ho
     ·
      have := ZS g
      have := ZS g2
      have := ZS g3
      rcases dec4 h g g2 g3 with ⟨hv, hm, e, _⟩ | ⟨_, e⟩
      ·
       rw [e] at hw ⊢
       subst hw
       have ev : (v4 s i : Int) = ((B s i : Int) - 240) * 262144 + ((B s (i + 1) : Int) - 128) * 4096 + ((B s (i + 2) : Int) - 128) * 64 + B s (i + 3) - 128 := by unfold v4; omega
       refine ⟨ev.symm, hm, ?_, by omega, by omega⟩
       rw [Uz (by omega)]
       simp only [ev, zk]
       simp; omega
      · rw [e] at ho; cases ho
theorem UA {r : Int} (h : K5 r = true) : 0 ≤ r ∧ r ≤ 1114111 ∧ (r < 55296 ∨ 57343 < r) := by
  simp [K5] at h; omega
theorem vOf_miss {s : ByteArray} {i k : Nat} (h1 : 1 ≤ k) (h4 : k ≤ 4) (hin : i + k ≤ s.size) (hm : K5 (vOf s i k) = true) (he : JL (vOf s i k) = zk s i k) : hit s i k := by
  have hr := UA hm
  have lt := KA s i
  have lt1 := KA s (i + 1)
  have lt2 := KA s (i + 2)
  have lt3 := KA s (i + 3)
  have fin : ∀ {r n : Nat}, Utf8.decode s i = (r, n) → K4 s i = true → n = k → hit s i k := by
    intro r n e ho hn; exact ⟨ho, by rw [e]; exact hn⟩
  rcases (by omega : k = 1 ∨ k = 2 ∨ k = 3 ∨ k = 4) with rfl | rfl | rfl | rfl
  ·
   rw [show vOf s i 1 = (B s i : Int) from rfl] at he hr
   rcases (by omega : (B s i : Int) < 128 ∨ 128 ≤ (B s i : Int)) with a | a
   · obtain ⟨e, ho⟩ := dec1 (s := s) (i := i) (by omega)
     exact fin e ho rfl
   · rw [uI a (by omega)] at he
     simp [zk] at he
  ·
   rw [show vOf s i 2 = ((B s i : Int) - 192) * 64 + B s (i + 1) - 128 from rfl] at he hr
   generalize hv : ((B s i : Int) - 192) * 64 + B s (i + 1) - 128 = v at he hr
   rcases (by omega : v < 128 ∨ (128 ≤ v ∧ v < 2048) ∨ (2048 ≤ v ∧ v < 65536) ∨ 65536 ≤ v) with a | ⟨a, b⟩ | ⟨a, b⟩ | a
   · rw [Ux a] at he; simp [zk] at he
   ·
    rw [uI a b] at he
    simp [zk] at he
    obtain ⟨e1, e2⟩ := he
    have h : 192 ≤ B s i ∧ B s i < 224 := by omega
    have g : zN s (i + 1) = true := Ky (by omega) (by omega)
    rcases dec2 h g with ⟨_, e, ho⟩ | ⟨c, _⟩
    · exact fin e ho rfl
    · unfold v2 at c; omega
   · rw [Uy a b] at he; simp [zk] at he
   · rw [Uz a] at he; simp [zk] at he
  ·
   rw [show vOf s i 3 = ((B s i : Int) - 224) * 4096 + ((B s (i + 1) : Int) - 128) * 64 + B s (i + 2) - 128 from rfl] at he hr hm
   generalize hv : ((B s i : Int) - 224) * 4096 + ((B s (i + 1) : Int) - 128) * 64 + B s (i + 2) - 128 = v at he hr hm
   rcases (by omega : v < 128 ∨ (128 ≤ v ∧ v < 2048) ∨ (2048 ≤ v ∧ v < 65536) ∨ 65536 ≤ v) with a | ⟨a, b⟩ | ⟨a, b⟩ | a
   · rw [Ux a] at he; simp [zk] at he
   · rw [uI a b] at he; simp [zk] at he
   ·
    rw [Uy a b] at he
    simp [zk] at he
    obtain ⟨e1, e2, e3⟩ := he
    have h : 224 ≤ B s i ∧ B s i < 240 := by omega
    have g : zN s (i + 1) = true := Ky (by omega) (by omega)
    have g2 : zN s (i + 2) = true := Ky (by omega) (by omega)
    have ev : (v3 s i : Int) = v := by unfold v3; omega
    rcases dec3 h g g2 with ⟨_, _, e, ho⟩ | ⟨c, _⟩
    · exact fin e ho rfl
    · rcases c with c | c
      · omega
      · rw [ev, hm] at c; cases c
   · rw [Uz a] at he; simp [zk] at he
  ·
   rw [show vOf s i 4 = ((B s i : Int) - 240) * 262144 + ((B s (i + 1) : Int) - 128) * 4096 + ((B s (i + 2) : Int) - 128) * 64 + B s (i + 3) - 128 from rfl] at he hr hm
   generalize hv : ((B s i : Int) - 240) * 262144 + ((B s (i + 1) : Int) - 128) * 4096 + ((B s (i + 2) : Int) - 128) * 64 + B s (i + 3) - 128 = v at he hr hm
   rcases (by omega : v < 128 ∨ (128 ≤ v ∧ v < 2048) ∨ (2048 ≤ v ∧ v < 65536) ∨ 65536 ≤ v) with a | ⟨a, b⟩ | ⟨a, b⟩ | a
   · rw [Ux a] at he; simp [zk] at he
   · rw [uI a b] at he; simp [zk] at he
   · rw [Uy a b] at he; simp [zk] at he
   ·
    rw [Uz a] at he
    simp [zk] at he
    obtain ⟨e1, e2, e3, e4⟩ := he
    have h : 240 ≤ B s i ∧ B s i < 248 := by omega
    have g : zN s (i + 1) = true := Ky (by omega) (by omega)
    have g2 : zN s (i + 2) = true := Ky (by omega) (by omega)
    have g3 : zN s (i + 3) = true := Ky (by omega) (by omega)
    have ev : (v4 s i : Int) = v := by unfold v4; omega
    rcases dec4 h g g2 g3 with ⟨_, _, e, ho⟩ | ⟨c, _⟩
    · exact fin e ho rfl
    · rcases c with c | c
      · omega
      · rw [ev, hm] at c; cases c
theorem vOf_range (s : ByteArray) (i k : Nat) : -100000000 ≤ vOf s i k ∧ vOf s i k ≤ 100000000 := by
  have lt := KA s i
  have lt1 := KA s (i + 1)
  have lt2 := KA s (i + 2)
  have lt3 := KA s (i + 3)
  unfold vOf
  split
  · omega
  · split
    · omega
    · split <;> omega
end Go.Proofs.YthjaepmfkgejkaaGreatDoor
namespace Go.Proofs.YthjaepmfkgejkaaGreatDoor
abbrev L (s : ByteArray) : List UInt8 := s.data.toList
theorem jV (s : ByteArray) : (L s).length = s.size := by simp [L]
theorem vw (s : ByteArray) : s.toList = L s := by
  have h := Lib.extract_toList s 0 s.size
  have h2 := Lib.extract_data s 0 s.size
  have e : s.extract 0 s.size = s := by
    apply ByteArray.ext
    apply Array.toList_inj.1
    rw [h2, List.drop_zero, List.take_of_length_le (by rw [← jV]; exact Nat.le_refl _)]
  rw [e] at h
  rw [h, List.drop_zero, List.take_of_length_le (by rw [← jV]; exact Nat.le_refl _)]
theorem L_inj {a b : ByteArray} (h : L a = L b) : a = b := by
  apply ByteArray.ext
  exact Array.toList_inj.1 h
theorem str_beq (a b : ByteArray) : (a.toList == b.toList) = decide (L a = L b) := by
  rw [vw, vw, Bool.eq_iff_iff]
  simp
theorem B_L (s : ByteArray) (k : Nat) (h : k < s.size) : (L s)[k]? = some (s[k]'h) := Go.Proofs.byte_at s k h
theorem B_of (s : ByteArray) (k : Nat) (h : k < s.size) : B s k = (s[k]'h).toNat := by
  have := getB s k h
  omega
def num (l : List UInt8) : List Int := l.map fun c => (c.toNat : Int)
theorem num_inj {a b : List UInt8} (h : num a = num b) : a = b := by
  induction a generalizing b with
  | nil => cases b with
    | nil => rfl
    | cons _ _ => simp [num] at h
  | cons x a ih => cases b with
    | nil => simp [num] at h
    | cons y b =>
      simp only [num, List.map_cons, List.cons.injEq] at h
      have := ih h.2
      subst this
      have hx : x = y := UInt8.toNat_inj.1 (by omega)
      rw [hx]
theorem UB {xs : List Int} (h : ∀ x ∈ xs, 0 ≤ x ∧ x < 256) : num (L (strOfNums xs)) = xs := by
  rw [L, strOfNums_data, num, List.map_map]
  conv => rhs; rw [← List.map_id xs]
  apply List.map_congr_left
  intro x hx
  have := h x hx
  simp
  omega
theorem uJ {r : Int} (h0 : 0 ≤ r) (h1 : r ≤ 1114111) : ∀ x ∈ JL r, 0 ≤ x ∧ x < 256 := by
  rcases (by omega : r < 128 ∨ (128 ≤ r ∧ r < 2048) ∨ (2048 ≤ r ∧ r < 65536) ∨ 65536 ≤ r) with a | ⟨a, b⟩ | ⟨a, b⟩ | a
  · rw [Ux a]; simp; omega
  · rw [uI a b]; simp; omega
  · rw [Uy a b]; simp; omega
  · rw [Uz a]; simp; omega
theorem jU (s : ByteArray) (i : Nat) (h : i < s.size) (k : Nat) : num (((L s).drop i).take (k + 1)) = (B s i : Int) :: num (((L s).drop (i + 1)).take k) := by
  have hl : i < (L s).length := by rw [jV]; exact h
  rw [List.drop_eq_getElem_cons hl, List.take_succ_cons]
  have e : (L s)[i] = s[i]'h := Go.Proofs.byte_at' s i h hl
  rw [e, B_of s i h]
  rfl
theorem num_extract {s : ByteArray} {i k : Nat} (h1 : 1 ≤ k) (h4 : k ≤ 4) (hin : i + k ≤ s.size) : num (L (s.extract i (i + k))) = zk s i k := by
  rw [L, Lib.extract_data, show i + k - i = k by omega]
  rcases (by omega : k = 1 ∨ k = 2 ∨ k = 3 ∨ k = 4) with rfl | rfl | rfl | rfl
  · rw [jU s i (by omega)]; rfl
  · rw [jU s i (by omega), jU s (i + 1) (by omega)]; rfl
  · rw [jU s i (by omega), jU s (i + 1) (by omega), jU s (i + 1 + 1) (by omega)]; rfl
  · rw [jU s i (by omega), jU s (i + 1) (by omega), jU s (i + 1 + 1) (by omega), jU s (i + 1 + 1 + 1) (by omega)]; rfl
theorem enc_beq {s : ByteArray} {i k : Nat} {v : Int} (h1 : 1 ≤ k) (h4 : k ≤ 4) (hin : i + k ≤ s.size) (h0 : 0 ≤ v) (hv : v ≤ 1114111) :
    ((strOfNums (JL v)).toList == (s.extract i (i + k)).toList) = decide (JL v = zk s i k) := by
  rw [str_beq, Bool.eq_iff_iff, decide_eq_true_eq, decide_eq_true_eq, ← num_extract h1 h4 hin]
  constructor
  · intro h
    rw [← h, UB (uJ h0 hv)]
  · intro h
    apply num_inj
    rw [UB (uJ h0 hv), h]
end Go.Proofs.YthjaepmfkgejkaaGreatDoor
namespace Go.Proofs.YthjaepmfkgejkaaGreatDoor
def kZ (n : Nat) : List UInt8 := if h : n < 128 then [UInt8.ofNat n] else UInt8.ofNat (n % 128 + 128) :: kZ (n / 128)
termination_by n
decreasing_by omega
theorem Jy {n : Nat} (h : n < 128) : kZ n = [UInt8.ofNat n] := by rw [kZ, dif_pos h]
theorem Zs {n : Nat} (h : ¬ n < 128) : kZ n = UInt8.ofNat (n % 128 + 128) :: kZ (n / 128) := by rw [kZ, dif_neg h]
def Ku (i : Nat) : List UInt8 → Option (Nat × Nat)
  | [] => none
  | c :: r => if 128 ≤ c.toNat then (if 8 ≤ i then none else match Ku (i + 1) r with | some (n, k) => some (c.toNat - 128 + 128 * n, k + 1) | none => none)
    else if c.toNat = 0 ∧ 0 < i then none else some (c.toNat, 1)
def KB (l : List UInt8) : Option (Nat × Nat) := Ku 0 l
theorem uK {n : Nat} (h : n < 256) : (UInt8.ofNat n).toNat = n := by simp; omega
theorem getGo_k : ∀ (l : List UInt8) (i n k : Nat), Ku i l = some (n, k) → 1 ≤ k ∧ k ≤ l.length ∧ i + k ≤ 9 ∨ (8 < i ∧ k = 1)
  | [], _, _, _, h => by cases h
  | c :: r, i, n, k, h => by
    unfold Ku at h
    split at h
    ·
     split at h
     · cases h
     ·
      rename_i hi
      rcases hg : Ku (i + 1) r with _ | ⟨n', k'⟩
      · rw [hg] at h; cases h
      ·
       rw [hg] at h
       cases h
       rcases getGo_k r (i + 1) n' k' hg with ⟨h1, h2, h3⟩ | ⟨h1, h2⟩
       · left; simp; omega
       · omega
    ·
     split at h
     · cases h
     ·
      cases h
      rcases (by omega : i ≤ 8 ∨ 8 < i) with e | e
      · left; simp; omega
      · right; exact ⟨e, rfl⟩
theorem vX {l : List UInt8} {n k : Nat} (h : KB l = some (n, k)) : 1 ≤ k ∧ k ≤ l.length ∧ k ≤ 9 := by
  rcases getGo_k l 0 n k h with ⟨h1, h2, h3⟩ | ⟨h1, _⟩
  · exact ⟨h1, h2, by omega⟩
  · omega
theorem uk : ∀ (l : List UInt8) (i n k : Nat), Ku i l = some (n, k) → n < 128 ^ k
  | [], _, _, _, h => by cases h
  | c :: r, i, n, k, h => by
    unfold Ku at h
    split at h
    ·
     split at h
     · cases h
     ·
      rcases hg : Ku (i + 1) r with _ | ⟨n', k'⟩
      · rw [hg] at h; cases h
      ·
       rw [hg] at h
       cases h
       have := uk r (i + 1) n' k' hg
       have hc := c.toNat_lt
       rw [Nat.pow_succ]
       omega
    ·
     split at h
     · cases h
     · cases h
       rw [Nat.pow_one]; omega
theorem Jz {l : List UInt8} {n k : Nat} (h : KB l = some (n, k)) : n < 9223372036854775808 := by
  have h1 := uk l 0 n k h
  have h2 := (vX h).2.2
  have : 128 ^ k ≤ 128 ^ 9 := Nat.pow_le_pow_right (by omega) h2
  have e : 128 ^ 9 = 9223372036854775808 := by decide
  omega
theorem numB_ne (n : Nat) : kZ n ≠ [] := by
  unfold kZ
  split <;> simp
theorem vx (n : Nat) : 1 ≤ (kZ n).length := by
  have := List.length_pos_iff.2 (numB_ne n)
  exact this
theorem numB_len : ∀ (k n : Nat), 1 ≤ k → n < 128 ^ k → (kZ n).length ≤ k
  | 0, _, h, _ => by omega
  | k + 1, n, _, h => by
    by_cases hn : n < 128
    · rw [Jy hn]; simp
    ·
     rw [Zs hn]
     rcases Nat.eq_zero_or_pos k with e | e
     · subst e; simp at h; omega
     · have := numB_len k (n / 128) e (by rw [Nat.pow_succ] at h; omega)
       simp; omega
theorem UC : ∀ (k n i : Nat) (r : List UInt8), 1 ≤ k → n < 128 ^ k → i + k ≤ 9 → (0 < i → 0 < n) → Ku i (kZ n ++ r) = some (n, (kZ n).length)
  | 0, _, _, _, h, _, _, _ => by omega
  | k + 1, n, i, r, _, h, hi, h0 => by
    by_cases hn : n < 128
    ·
     rw [Jy hn]
     unfold Ku
     simp only [List.cons_append, List.nil_append]
     rw [uK (by omega), if_neg (by omega), if_neg (by omega)]
     rfl
    ·
     rw [Zs hn]
     unfold Ku
     simp only [List.cons_append]
     have hk : 1 ≤ k := by
       rcases Nat.eq_zero_or_pos k with e | e
       · subst e; simp at h; omega
       · exact e
     rw [uK (by omega), if_pos (by omega), if_neg (by omega), UC k (n / 128) (i + 1) r hk (by rw [Nat.pow_succ] at h; omega) (by omega) (by omega)]
     simp only [List.length_cons, Option.some.injEq, Prod.mk.injEq, and_true]
     omega
theorem getS_num {n : Nat} (h : n < 9223372036854775808) (r : List UInt8) : KB (kZ n ++ r) = some (n, (kZ n).length) :=
  UC 9 n 0 r (by omega) (by have e : 128 ^ 9 = 9223372036854775808 := by decide
                            omega) (by omega) (by omega)
theorem UD : ∀ (l : List UInt8) (i n k : Nat), Ku i l = some (n, k) → l.take k = kZ n ∧ (0 < i → 0 < n)
  | [], _, _, _, h => by cases h
  | c :: r, i, n, k, h => by
    have hc := c.toNat_lt
    unfold Ku at h
    split at h
    ·
     rename_i h128
     split at h
     · cases h
     ·
      rcases hg : Ku (i + 1) r with _ | ⟨n', k'⟩
      · rw [hg] at h; cases h
      ·
       rw [hg] at h
       cases h
       obtain ⟨h1, h2⟩ := UD r (i + 1) n' k' hg
       have h3 := h2 (by omega)
       refine ⟨?_, fun _ => by omega⟩
       rw [List.take_succ_cons, h1, Zs (n := c.toNat - 128 + 128 * n') (by omega)]
       congr 1
       · apply UInt8.toNat_inj.1
         rw [uK (by omega)]
         omega
       · congr 1
         omega
    ·
     split at h
     · cases h
     ·
      cases h
      refine ⟨?_, by omega⟩
      rw [Jy (by omega)]
      simp
theorem num_getS {l : List UInt8} {n k : Nat} (h : KB l = some (n, k)) : l.take k = kZ n := (UD l 0 n k h).1
def kS (l : List UInt8) : List UInt8 := kZ l.length ++ l
def jC (l : List UInt8) (most : Nat) : Option (List UInt8 × Nat) :=
  match KB l with
  | some (n, k) => if most < n then none else if l.length - k < n then none else some ((l.drop k).take n, k + n)
  | none => none
theorem Up {t : List UInt8} {most : Nat} (hm : t.length ≤ most) (h : t.length < 9223372036854775808) (r : List UInt8) : jC (kS t ++ r) most = some (t, (kS t).length) := by
  unfold jC kS
  rw [List.append_assoc, getS_num h]
  simp only
  have e : (kZ t.length ++ (t ++ r)).drop (kZ t.length).length = t ++ r := List.drop_left
  rw [if_neg (by omega), if_neg (by simp), e]
  simp
theorem JS {l t : List UInt8} {most k : Nat} (h : jC l most = some (t, k)) : l.take k = kS t ∧ k ≤ l.length ∧ t.length ≤ most := by
  unfold jC at h
  rcases hg : KB l with _ | ⟨n, j⟩
  · rw [hg] at h; cases h
  ·
   rw [hg] at h
   simp only at h
   split at h
   · cases h
   ·
    split at h
    · cases h
    ·
     cases h
     have h1 := num_getS hg
     have h2 := vX hg
     have hlen : ((l.drop j).take n).length = n := by rw [List.length_take, List.length_drop]; omega
     refine ⟨?_, by omega, by omega⟩
     unfold kS
     rw [hlen, ← h1, List.take_add]
end Go.Proofs.YthjaepmfkgejkaaGreatDoor
