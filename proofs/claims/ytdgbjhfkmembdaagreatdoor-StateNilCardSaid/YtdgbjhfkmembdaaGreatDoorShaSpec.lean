/-
  The sum of bytes as plain arithmetic: a block's words, its rounds, the blocks, what is padded. Conditions: none.
-/
import Derived.Test.YtdgbjhfkmembdaaGreatDoorLebWalks
import Derived.Laws.Closers25b
namespace Go.Proofs.YtdgbjhfkmembdaaGreatDoor
open Go.RowKit
set_option linter.unusedVariables false

/-- A word's number: below 2^32. -/
def W32 (x : Int) : Prop := 0 ≤ x ∧ x ≤ 4294967295
def addS (a b : Int) : Int := (a + b) % 4294967296
def xorS (a b : Int) : Int := bits BinOp.xor IntKind.u32 a b
def andS (a b : Int) : Int := bits BinOp.and IntKind.u32 a b
def rotS (n : Nat) (x : Int) : Int := bits BinOp.or IntKind.u32 (x / 2 ^ n) (x * 2 ^ (32 - n) % 4294967296)
def notS (x : Int) : Int := bits BinOp.xor IntKind.u32 (if IntKind.u32.signed = true then -1 else IntKind.u32.max) x
theorem w32_add (a b : Int) : W32 (addS a b) := ⟨by unfold addS; omega, by unfold addS; omega⟩
theorem w32_xor (a b : Int) : W32 (xorS a b) := ⟨bits_lo_u32 _ _ _, bits_hi_u32 _ _ _⟩
theorem w32_and (a b : Int) : W32 (andS a b) := ⟨bits_lo_u32 _ _ _, bits_hi_u32 _ _ _⟩
theorem w32_rot (n : Nat) (x : Int) : W32 (rotS n x) := ⟨bits_lo_u32 _ _ _, bits_hi_u32 _ _ _⟩
theorem bits_or_comm (k : IntKind) (a b : Int) : bits BinOp.or k a b = bits BinOp.or k b a := by
  simp only [bits, BitVec.or_comm]
/-- A word of four bytes. -/
def wordS (a b c d : Nat) : Int := bits BinOp.or IntKind.u32 (bits BinOp.or IntKind.u32 (bits BinOp.or IntKind.u32 ((a : Int) * 16777216) ((b : Int) * 65536)) ((c : Int) * 256)) (d : Int)
theorem w32_word (a b c d : Nat) : W32 (wordS a b c d) := ⟨bits_lo_u32 _ _ _, bits_hi_u32 _ _ _⟩
def byteAt (l : List UInt8) (i : Nat) : Nat := (l.getD i 0).toNat
theorem byteAt_lt (l : List UInt8) (i : Nat) : byteAt l i < 256 := (l.getD i 0).toNat_lt
/-- The words of the block that begins at a place. -/
def schS (l : List UInt8) (at' t : Nat) : Int :=
  if t < 16 then wordS (byteAt l (at' + 4 * t)) (byteAt l (at' + 4 * t + 1)) (byteAt l (at' + 4 * t + 2)) (byteAt l (at' + 4 * t + 3))
  else
    addS (addS (addS (xorS (xorS (rotS 17 (schS l at' (t - 2))) (rotS 19 (schS l at' (t - 2)))) (schS l at' (t - 2) / 1024)) (schS l at' (t - 7)))
      (xorS (xorS (rotS 7 (schS l at' (t - 15))) (rotS 18 (schS l at' (t - 15)))) (schS l at' (t - 15) / 8))) (schS l at' (t - 16))
termination_by t
theorem schS_lo {l : List UInt8} {at' t : Nat} (h : t < 16) : schS l at' t = wordS (byteAt l (at' + 4 * t)) (byteAt l (at' + 4 * t + 1)) (byteAt l (at' + 4 * t + 2)) (byteAt l (at' + 4 * t + 3)) := by
  rw [schS, if_pos h]
theorem schS_hi {l : List UInt8} {at' t : Nat} (h : ¬ t < 16) : schS l at' t = addS (addS (addS (xorS (xorS (rotS 17 (schS l at' (t - 2))) (rotS 19 (schS l at' (t - 2)))) (schS l at' (t - 2) / 1024)) (schS l at' (t - 7)))
      (xorS (xorS (rotS 7 (schS l at' (t - 15))) (rotS 18 (schS l at' (t - 15)))) (schS l at' (t - 15) / 8))) (schS l at' (t - 16)) := by
  rw [schS, if_neg h]
theorem w32_sch (l : List UInt8) (at' t : Nat) : W32 (schS l at' t) := by
  by_cases h : t < 16
  · rw [schS_lo h]; exact w32_word _ _ _ _
  · rw [schS_hi h]; exact w32_add _ _
def keysS : List Int := [1116352408, 1899447441, 3049323471, 3921009573, 961987163, 1508970993, 2453635748, 2870763221, 3624381080, 310598401, 607225278, 1426881987, 1925078388, 2162078206, 2614888103, 3248222580, 3835390401, 4022224774, 264347078, 604807628, 770255983, 1249150122, 1555081692, 1996064986, 2554220882, 2821834349, 2952996808, 3210313671, 3336571891, 3584528711, 113926993, 338241895, 666307205, 773529912, 1294757372, 1396182291, 1695183700, 1986661051, 2177026350, 2456956037, 2730485921, 2820302411, 3259730800, 3345764771, 3516065817, 3600352804, 4094571909, 275423344, 430227734, 506948616, 659060556, 883997877, 958139571, 1322822218, 1537002063, 1747873779, 1955562222, 2024104815, 2227730452, 2361852424, 2428436474, 2756734187, 3204031479, 3329325298]
def keyS (t : Nat) : Int := keysS.getD t 0
theorem w32_key (t : Nat) : W32 (keyS t) := by
  by_cases h : t < 64
  · exact (show ∀ i : Fin 64, 0 ≤ keyS i.val ∧ keyS i.val ≤ 4294967295 by decide +kernel) ⟨t, h⟩
  · unfold keyS
    rw [List.getD_eq_getElem?_getD, List.getElem?_eq_none (by have : keysS.length = 64 := rfl; omega)]
    exact ⟨by decide, by decide⟩
abbrev St8 := Int × Int × Int × Int × Int × Int × Int × Int
def st8 (s : St8) : List Int := [s.1, s.2.1, s.2.2.1, s.2.2.2.1, s.2.2.2.2.1, s.2.2.2.2.2.1, s.2.2.2.2.2.2.1, s.2.2.2.2.2.2.2]
def firstS : St8 := (1779033703, 3144134277, 1013904242, 2773480762, 1359893119, 2600822924, 528734635, 1541459225)
def St8.ok (s : St8) : Prop := ∀ x ∈ st8 s, W32 x
def t1S (s : St8) (k w : Int) : Int :=
  let (_, _, _, _, e, f, g, h) := s
  addS (addS (addS (addS h (xorS (xorS (rotS 6 e) (rotS 11 e)) (rotS 25 e))) (xorS (andS e f) (andS (notS e) g))) k) w
def t2S (s : St8) : Int :=
  let (a, b, c, _, _, _, _, _) := s
  addS (xorS (xorS (rotS 2 a) (rotS 13 a)) (rotS 22 a)) (xorS (xorS (andS a b) (andS a c)) (andS b c))
def stepS (s : St8) (k w : Int) : St8 :=
  let (a, b, c, d, e, f, g, _) := s
  (addS (t1S s k w) (t2S s), a, b, c, addS d (t1S s k w), e, f, g)
def runS (l : List UInt8) (at' : Nat) (s : St8) : Nat → St8
  | 0 => s
  | t + 1 => stepS (runS l at' s t) (keyS t) (schS l at' t)
def sumS (a b : St8) : St8 := (addS a.1 b.1, addS a.2.1 b.2.1, addS a.2.2.1 b.2.2.1, addS a.2.2.2.1 b.2.2.2.1, addS a.2.2.2.2.1 b.2.2.2.2.1, addS a.2.2.2.2.2.1 b.2.2.2.2.2.1, addS a.2.2.2.2.2.2.1 b.2.2.2.2.2.2.1, addS a.2.2.2.2.2.2.2 b.2.2.2.2.2.2.2)
def blockS (l : List UInt8) (at' : Nat) (s : St8) : St8 := sumS (runS l at' s 64) s
/-- The state behind n blocks. -/
def hashS (l : List UInt8) (s : St8) : Nat → St8
  | 0 => s
  | n + 1 => blockS l (64 * n) (hashS l s n)
theorem first_ok : firstS.ok := by simp [St8.ok, st8, firstS, W32]
theorem ok_step {s : St8} (h : s.ok) (k w : Int) : (stepS s k w).ok := by
  obtain ⟨a, b, c, d, e, f, g, x⟩ := s
  simp only [St8.ok, st8, stepS, List.mem_cons, List.not_mem_nil, or_false, forall_eq_or_imp, forall_eq] at h ⊢
  exact ⟨w32_add _ _, h.1, h.2.1, h.2.2.1, w32_add _ _, h.2.2.2.2.1, h.2.2.2.2.2.1, h.2.2.2.2.2.2.1⟩
theorem ok_run {l : List UInt8} {at' : Nat} {s : St8} (h : s.ok) : ∀ t, (runS l at' s t).ok
  | 0 => h
  | t + 1 => ok_step (ok_run h t) _ _
theorem ok_sum (a b : St8) : (sumS a b).ok := by
  simp only [St8.ok, st8, sumS, List.mem_cons, List.not_mem_nil, or_false, forall_eq_or_imp, forall_eq]
  exact ⟨w32_add _ _, w32_add _ _, w32_add _ _, w32_add _ _, w32_add _ _, w32_add _ _, w32_add _ _, w32_add _ _⟩
theorem ok_hash {l : List UInt8} {s : St8} (h : s.ok) : ∀ n, (hashS l s n).ok
  | 0 => h
  | n + 1 => ok_sum _ _
/-- What stands behind the bytes. -/
def zerosN (n : Nat) : Nat := (119 - n % 64) % 64
def lenS (n : Nat) : List UInt8 := (List.range 8).map fun i => UInt8.ofNat (n * 8 / 2 ^ (56 - 8 * i))
def padS (l : List UInt8) : List UInt8 := l ++ (128 :: List.replicate (zerosN l.length) 0 ++ lenS l.length)
theorem padS_length (l : List UInt8) : (padS l).length = l.length + 1 + zerosN l.length + 8 := by
  unfold padS lenS
  simp
  omega
theorem padS_mod (l : List UInt8) : (padS l).length % 64 = 0 := by rw [padS_length]; unfold zerosN; omega
def outS (s : St8) : List UInt8 := (st8 s).flatMap fun x => [UInt8.ofNat (x.toNat / 16777216), UInt8.ofNat (x.toNat / 65536), UInt8.ofNat (x.toNat / 256), UInt8.ofNat x.toNat]
/-- The sum of bytes. -/
def shaS (l : List UInt8) : List UInt8 := outS (hashS (padS l) firstS ((padS l).length / 64))
theorem shaS_length (l : List UInt8) : (shaS l).length = 32 := rfl
/-- Blocks look at their own bytes alone. -/
theorem schS_congr {l m : List UInt8} {a b : Nat} (h : ∀ i, i < 64 → byteAt l (a + i) = byteAt m (b + i)) (t : Nat) : t < 64 → schS l a t = schS m b t := by
  induction t using Nat.strongRecOn with
  | ind t ih =>
    intro ht
    by_cases h16 : t < 16
    · rw [schS_lo h16, schS_lo h16, h (4 * t) (by omega), Nat.add_assoc a, Nat.add_assoc b, h (4 * t + 1) (by omega), Nat.add_assoc a, Nat.add_assoc b, h (4 * t + 2) (by omega), Nat.add_assoc a, Nat.add_assoc b, h (4 * t + 3) (by omega)]
    · rw [schS_hi h16, schS_hi h16, ih (t - 2) (by omega) (by omega), ih (t - 7) (by omega) (by omega), ih (t - 15) (by omega) (by omega), ih (t - 16) (by omega) (by omega)]
theorem runS_congr {l m : List UInt8} {a b : Nat} (h : ∀ i, i < 64 → byteAt l (a + i) = byteAt m (b + i)) (s : St8) : ∀ t, t ≤ 64 → runS l a s t = runS m b s t
  | 0, _ => rfl
  | t + 1, ht => by unfold runS; rw [runS_congr h s t (by omega), schS_congr h t (by omega)]
theorem blockS_congr {l m : List UInt8} {a b : Nat} (h : ∀ i, i < 64 → byteAt l (a + i) = byteAt m (b + i)) (s : St8) : blockS l a s = blockS m b s := by
  unfold blockS; rw [runS_congr h s 64 (Nat.le_refl _)]
theorem byteAt_app {l m : List UInt8} {i : Nat} (h : i < l.length) : byteAt (l ++ m) i = byteAt l i := by
  unfold byteAt; rw [List.getD_eq_getElem?_getD, List.getD_eq_getElem?_getD, List.getElem?_append_left h]
theorem hashS_app (l m : List UInt8) (s : St8) : ∀ n, 64 * n ≤ l.length → hashS (l ++ m) s n = hashS l s n
  | 0, _ => rfl
  | n + 1, h => by
    unfold hashS
    rw [hashS_app l m s n (by omega), blockS_congr (m := l) (b := 64 * n) fun i hi => byteAt_app (by omega)]
end Go.Proofs.YtdgbjhfkmembdaaGreatDoor
