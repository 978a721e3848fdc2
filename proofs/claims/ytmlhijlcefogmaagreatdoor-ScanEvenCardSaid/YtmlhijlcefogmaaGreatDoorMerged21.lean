/-
  The sum of bytes as plain arithmetic: a block's words, its rounds, the blocks, what is padded. Conditions: none.
  What turning a word gives, the program's and the document's; the document's key. Conditions: a word of 32 bits, turned by 1 to 31.
-/
import Derived.Test.YtmlhijlcefogmaaGreatDoorMerged14
import Derived.Laws.Closers25b
import Derived.Deep.Cut
import Derived.Deep.DeepCutAuto
set_option linter.unusedVariables false
set_option maxHeartbeats 4000000
set_option maxRecDepth 100000
namespace Go.Proofs.YtmlhijlcefogmaaGreatDoor
open Go.RowKit

/-- A word's number: below 2^32. -/
def W32 (x : Int) : Prop := 0 ≤ x ∧ x ≤ 4294967295
def addS (a b : Int) : Int := (a + b) % 4294967296
def xorS (a b : Int) : Int := bits BinOp.xor IntKind.u32 a b
def andS (a b : Int) : Int := bits BinOp.and IntKind.u32 a b
def rotS (n : Nat) (x : Int) : Int := bits BinOp.or IntKind.u32 (x / 2 ^ n) (x * 2 ^ (32 - n) % 4294967296)
def notS (x : Int) : Int := bits BinOp.xor IntKind.u32 (if IntKind.u32.signed = true then -1 else IntKind.u32.max) x
theorem w32_add (a b : Int) : W32 (addS a b) := ⟨by unfold addS; omega, by unfold addS; omega⟩
theorem bits_or_comm (k : IntKind) (a b : Int) : bits BinOp.or k a b = bits BinOp.or k b a := by
  simp only [bits, BitVec.or_comm]
/-- A word of four bytes. -/
def wordS (a b c d : Nat) : Int := bits BinOp.or IntKind.u32 (bits BinOp.or IntKind.u32 (bits BinOp.or IntKind.u32 ((a : Int) * 16777216) ((b : Int) * 65536)) ((c : Int) * 256)) (d : Int)
theorem w32_word (a b c d : Nat) : W32 (wordS a b c d) := ⟨bits_lo_u32 _ _ _, bits_hi_u32 _ _ _⟩
def byteAt (l : List UInt8) (i : Nat) : Nat := (l.getD i 0).toNat
theorem byteAt_lt (l : List UInt8) (i : Nat) : byteAt l i < 256 := (l.getD i 0).toNat_lt
/-- The words of the block that begins at a place. -/
def schS (l : List UInt8) (at' t : Nat) : Int :=
  if t < 16 then wordS (byteAt l (at' + 4 * t)) (byteAt l (at' + 4 * t + 1)) (byteAt l (at' + 4 * t + 2)) (byteAt l (at' + 4 * t + 3))
  else
    addS (addS (addS (xorS (xorS (rotS 17 (schS l at' (t - 2))) (rotS 19 (schS l at' (t - 2)))) (schS l at' (t - 2) / 1024)) (schS l at' (t - 7)))
      (xorS (xorS (rotS 7 (schS l at' (t - 15))) (rotS 18 (schS l at' (t - 15)))) (schS l at' (t - 15) / 8))) (schS l at' (t - 16))
  termination_by t
theorem schS_lo {l : List UInt8} {at' t : Nat} (h : t < 16) : schS l at' t = wordS (byteAt l (at' + 4 * t)) (byteAt l (at' + 4 * t + 1)) (byteAt l (at' + 4 * t + 2)) (byteAt l (at' + 4 * t + 3)) := by
  rw [schS, if_pos h]
theorem schS_hi {l : List UInt8} {at' t : Nat} (h : ¬ t < 16) : schS l at' t = addS (addS (addS (xorS (xorS (rotS 17 (schS l at' (t - 2))) (rotS 19 (schS l at' (t - 2)))) (schS l at' (t - 2) / 1024)) (schS l at' (t - 7)))
      (xorS (xorS (rotS 7 (schS l at' (t - 15))) (rotS 18 (schS l at' (t - 15)))) (schS l at' (t - 15) / 8))) (schS l at' (t - 16)) := by
  rw [schS, if_neg h]
theorem w32_sch (l : List UInt8) (at' t : Nat) : W32 (schS l at' t) := by
  by_cases h : t < 16
  · rw [schS_lo h]; exact w32_word _ _ _ _
  · rw [schS_hi h]; exact w32_add _ _
def keysS : List Int := [1116352408, 1899447441, 3049323471, 3921009573, 961987163, 1508970993, 2453635748, 2870763221, 3624381080, 310598401, 607225278, 1426881987, 1925078388, 2162078206, 2614888103, 3248222580, 3835390401, 4022224774, 264347078, 604807628, 770255983, 1249150122, 1555081692, 1996064986, 2554220882, 2821834349, 2952996808, 3210313671, 3336571891, 3584528711, 113926993, 338241895, 666307205, 773529912, 1294757372, 1396182291, 1695183700, 1986661051, 2177026350, 2456956037, 2730485921, 2820302411, 3259730800, 3345764771, 3516065817, 3600352804, 4094571909, 275423344, 430227734, 506948616, 659060556, 883997877, 958139571, 1322822218, 1537002063, 1747873779, 1955562222, 2024104815, 2227730452, 2361852424, 2428436474, 2756734187, 3204031479, 3329325298]
def keyS (t : Nat) : Int := keysS.getD t 0
theorem w32_key (t : Nat) : W32 (keyS t) := by
  by_cases h : t < 64
  · exact (show ∀ i : Fin 64, 0 ≤ keyS i.val ∧ keyS i.val ≤ 4294967295 by decide +kernel) ⟨t, h⟩
  · unfold keyS
    rw [List.getD_eq_getElem?_getD, List.getElem?_eq_none (by have : keysS.length = 64 := rfl; omega)]
    exact ⟨by decide, by decide⟩
abbrev St8 := Int × Int × Int × Int × Int × Int × Int × Int
def st8 (s : St8) : List Int := [s.1, s.2.1, s.2.2.1, s.2.2.2.1, s.2.2.2.2.1, s.2.2.2.2.2.1, s.2.2.2.2.2.2.1, s.2.2.2.2.2.2.2]
def firstS : St8 := (1779033703, 3144134277, 1013904242, 2773480762, 1359893119, 2600822924, 528734635, 1541459225)
def St8.ok (s : St8) : Prop := ∀ x ∈ st8 s, W32 x
def t1S (s : St8) (k w : Int) : Int :=
  let (_, _, _, _, e, f, g, h) := s
  addS (addS (addS (addS h (xorS (xorS (rotS 6 e) (rotS 11 e)) (rotS 25 e))) (xorS (andS e f) (andS (notS e) g))) k) w
def t2S (s : St8) : Int :=
  let (a, b, c, _, _, _, _, _) := s
  addS (xorS (xorS (rotS 2 a) (rotS 13 a)) (rotS 22 a)) (xorS (xorS (andS a b) (andS a c)) (andS b c))
def stepS (s : St8) (k w : Int) : St8 :=
  let (a, b, c, d, e, f, g, _) := s
  (addS (t1S s k w) (t2S s), a, b, c, addS d (t1S s k w), e, f, g)
def runS (l : List UInt8) (at' : Nat) (s : St8) : Nat → St8
  | 0 => s
  | t + 1 => stepS (runS l at' s t) (keyS t) (schS l at' t)
def sumS (a b : St8) : St8 := (addS a.1 b.1, addS a.2.1 b.2.1, addS a.2.2.1 b.2.2.1, addS a.2.2.2.1 b.2.2.2.1, addS a.2.2.2.2.1 b.2.2.2.2.1, addS a.2.2.2.2.2.1 b.2.2.2.2.2.1, addS a.2.2.2.2.2.2.1 b.2.2.2.2.2.2.1, addS a.2.2.2.2.2.2.2 b.2.2.2.2.2.2.2)
def blockS (l : List UInt8) (at' : Nat) (s : St8) : St8 := sumS (runS l at' s 64) s
/-- The state behind n blocks. -/
def hashS (l : List UInt8) (s : St8) : Nat → St8
  | 0 => s
  | n + 1 => blockS l (64 * n) (hashS l s n)
theorem first_ok : firstS.ok := by simp [St8.ok, st8, firstS, W32]
theorem ok_step {s : St8} (h : s.ok) (k w : Int) : (stepS s k w).ok := by
  obtain ⟨a, b, c, d, e, f, g, x⟩ := s
  simp only [St8.ok, st8, stepS, List.mem_cons, List.not_mem_nil, or_false, forall_eq_or_imp, forall_eq] at h ⊢
  exact ⟨w32_add _ _, h.1, h.2.1, h.2.2.1, w32_add _ _, h.2.2.2.2.1, h.2.2.2.2.2.1, h.2.2.2.2.2.2.1⟩
theorem ok_run {l : List UInt8} {at' : Nat} {s : St8} (h : s.ok) : ∀ t, (runS l at' s t).ok
  | 0 => h
  | t + 1 => ok_step (ok_run h t) _ _
theorem ok_sum (a b : St8) : (sumS a b).ok := by
  simp only [St8.ok, st8, sumS, List.mem_cons, List.not_mem_nil, or_false, forall_eq_or_imp, forall_eq]
  exact ⟨w32_add _ _, w32_add _ _, w32_add _ _, w32_add _ _, w32_add _ _, w32_add _ _, w32_add _ _, w32_add _ _⟩
theorem ok_hash {l : List UInt8} {s : St8} (h : s.ok) : ∀ n, (hashS l s n).ok
  | 0 => h
  | n + 1 => ok_sum _ _
/-- What stands behind the bytes. -/
def zerosN (n : Nat) : Nat := (119 - n % 64) % 64
def lenS (n : Nat) : List UInt8 := (List.range 8).map fun i => UInt8.ofNat (n * 8 / 2 ^ (56 - 8 * i))
def padS (l : List UInt8) : List UInt8 := l ++ (128 :: List.replicate (zerosN l.length) 0 ++ lenS l.length)
theorem padS_length (l : List UInt8) : (padS l).length = l.length + 1 + zerosN l.length + 8 := by
  unfold padS lenS
  simp
  omega
theorem padS_mod (l : List UInt8) : (padS l).length % 64 = 0 := by rw [padS_length]; unfold zerosN; omega
def outS (s : St8) : List UInt8 := (st8 s).flatMap fun x => [UInt8.ofNat (x.toNat / 16777216), UInt8.ofNat (x.toNat / 65536), UInt8.ofNat (x.toNat / 256), UInt8.ofNat x.toNat]
/-- The sum of bytes. -/
def shaS (l : List UInt8) : List UInt8 := outS (hashS (padS l) firstS ((padS l).length / 64))
/-- Blocks look at their own bytes alone. -/
theorem schS_congr {l m : List UInt8} {a b : Nat} (h : ∀ i, i < 64 → byteAt l (a + i) = byteAt m (b + i)) (t : Nat) : t < 64 → schS l a t = schS m b t := by
  induction t using Nat.strongRecOn with
  | ind t ih =>
    intro ht
    by_cases h16 : t < 16
    · rw [schS_lo h16, schS_lo h16, h (4 * t) (by omega), Nat.add_assoc a, Nat.add_assoc b, h (4 * t + 1) (by omega), Nat.add_assoc a, Nat.add_assoc b, h (4 * t + 2) (by omega), Nat.add_assoc a, Nat.add_assoc b, h (4 * t + 3) (by omega)]
    · rw [schS_hi h16, schS_hi h16, ih (t - 2) (by omega) (by omega), ih (t - 7) (by omega) (by omega), ih (t - 15) (by omega) (by omega), ih (t - 16) (by omega) (by omega)]
theorem runS_congr {l m : List UInt8} {a b : Nat} (h : ∀ i, i < 64 → byteAt l (a + i) = byteAt m (b + i)) (s : St8) : ∀ t, t ≤ 64 → runS l a s t = runS m b s t
  | 0, _ => rfl
  | t + 1, ht => by unfold runS; rw [runS_congr h s t (by omega), schS_congr h t (by omega)]
theorem blockS_congr {l m : List UInt8} {a b : Nat} (h : ∀ i, i < 64 → byteAt l (a + i) = byteAt m (b + i)) (s : St8) : blockS l a s = blockS m b s := by
  unfold blockS; rw [runS_congr h s 64 (Nat.le_refl _)]
theorem byteAt_app {l m : List UInt8} {i : Nat} (h : i < l.length) : byteAt (l ++ m) i = byteAt l i := by
  unfold byteAt; rw [List.getD_eq_getElem?_getD, List.getD_eq_getElem?_getD, List.getElem?_append_left h]
theorem hashS_app (l m : List UInt8) (s : St8) : ∀ n, 64 * n ≤ l.length → hashS (l ++ m) s n = hashS l s n
  | 0, _ => rfl
  | n + 1, h => by
    unfold hashS
    rw [hashS_app l m s n (by omega), blockS_congr (m := l) (b := 64 * n) fun i hi => byteAt_app (by omega)]
end Go.Proofs.YtmlhijlcefogmaaGreatDoor
namespace Go.Proofs.YtmlhijlcefogmaaGreatDoor
open Go.RowKit Go.Maps

theorem refRot_any (x : Int) (n : Nat) (hx : W32 x) (h0 : 1 ≤ n) (h1 : n ≤ 31) (w : World) : Calls Tryz.prog 147 #[.int .u32 x, .int .u64 (n : Int)] w fun e w' => e = .returned (.int .u32 (rotS n x)) ∧ w = w' := by
  obtain ⟨x0, x1⟩ := hx
  go_enter Tryz.func147, Tryz.ntmps147
  go_wp2
  go_ret
  exact ⟨rfl, rfl⟩
theorem and31 : ∀ n : Fin 32, 1 ≤ n.val → bits BinOp.and IntKind.u64 (IntKind.u64.wrap (-(n.val : Int))) 31 = ((32 - n.val : Nat) : Int) := by decide +kernel
theorem rotL_any (x : Int) (n : Nat) (hx : W32 x) (h0 : 1 ≤ n) (h1 : n ≤ 31) (w : World) : Calls Tryz.prog 259 #[.int .u32 x, .int .i64 (-(n : Int))] w fun e w' => e = .returned (.int .u32 (rotS n x)) ∧ w = w' := by
  obtain ⟨x0, x1⟩ := hx
  have ha := and31 ⟨n, by omega⟩ h0
  obtain ⟨m, hm⟩ : ∃ m, 32 - n = m := ⟨_, rfl⟩
  simp only at ha
  rw [hm] at ha
  have h2 : 1 ≤ m := by omega
  have h3 : m ≤ 31 := by omega
  have HM := Lib.hid hm
  clear hm
  go_enter Tryz.func259, Tryz.ntmps259
  go_wp2
  go_ret
  refine ⟨?_, rfl⟩
  show Ending.returned (.int .u32 (bits BinOp.or IntKind.u32 (x * 2 ^ m % 4294967296) (x / 2 ^ (32 - m)))) = _
  have e1 : 32 - m = n := by have := HM.out; omega
  unfold rotS
  rw [bits_or_comm, HM.out, e1]
theorem turn_any (x : Int) (n : Nat) (hx : W32 x) (h0 : 1 ≤ n) (h1 : n ≤ 31) (w : World) : Calls Tryz.prog 227 #[.int .u32 x, .int .i64 (n : Int)] w fun e w' => e = .returned (.int .u32 (rotS n x)) ∧ w = w' := by
  go_enter Tryz.func227, Tryz.ntmps227
  go_wp2_with (go_at_call 259; refine (rotL_any x n hx h0 h1 w).mono ?_; rintro e w' ⟨rfl, rfl⟩)
  go_ret
  exact ⟨rfl, rfl⟩
def w32V (l : List Int) : List Value := l.map fun x => .int .u32 x
theorem w32V_one (l : List Int) : ∀ u ∈ w32V l, u.oneCell' = true := by
  intro u hu
  obtain ⟨x, _, rfl⟩ := List.mem_map.1 hu
  rfl
theorem w32V_at {l : List Int} {i : Nat} (h : i < l.length) : (w32V l)[i]? = some (.int .u32 (l.getD i 0)) := by
  unfold w32V
  rw [List.getElem?_map, List.getElem?_eq_getElem h, List.getD_eq_getElem?_getD, List.getElem?_eq_getElem h]
  rfl
theorem keys_built (w : World) : (Instr.build 271 #[(0, .int .u32 1116352408), (1, .int .u32 1899447441), (2, .int .u32 3049323471), (3, .int .u32 3921009573), (4, .int .u32 961987163), (5, .int .u32 1508970993), (6, .int .u32 2453635748), (7, .int .u32 2870763221), (8, .int .u32 3624381080), (9, .int .u32 310598401), (10, .int .u32 607225278), (11, .int .u32 1426881987), (12, .int .u32 1925078388), (13, .int .u32 2162078206), (14, .int .u32 2614888103), (15, .int .u32 3248222580), (16, .int .u32 3835390401), (17, .int .u32 4022224774), (18, .int .u32 264347078), (19, .int .u32 604807628), (20, .int .u32 770255983), (21, .int .u32 1249150122), (22, .int .u32 1555081692), (23, .int .u32 1996064986), (24, .int .u32 2554220882), (25, .int .u32 2821834349), (26, .int .u32 2952996808), (27, .int .u32 3210313671), (28, .int .u32 3336571891), (29, .int .u32 3584528711), (30, .int .u32 113926993), (31, .int .u32 338241895), (32, .int .u32 666307205), (33, .int .u32 773529912), (34, .int .u32 1294757372), (35, .int .u32 1396182291), (36, .int .u32 1695183700), (37, .int .u32 1986661051), (38, .int .u32 2177026350), (39, .int .u32 2456956037), (40, .int .u32 2730485921), (41, .int .u32 2820302411), (42, .int .u32 3259730800), (43, .int .u32 3345764771), (44, .int .u32 3516065817), (45, .int .u32 3600352804), (46, .int .u32 4094571909), (47, .int .u32 275423344), (48, .int .u32 430227734), (49, .int .u32 506948616), (50, .int .u32 659060556), (51, .int .u32 883997877), (52, .int .u32 958139571), (53, .int .u32 1322822218), (54, .int .u32 1537002063), (55, .int .u32 1747873779), (56, .int .u32 1955562222), (57, .int .u32 2024104815), (58, .int .u32 2227730452), (59, .int .u32 2361852424), (60, .int .u32 2428436474), (61, .int .u32 2756734187), (62, .int .u32 3204031479), (63, .int .u32 3329325298)]).run Tryz.prog w = .ok (.agg (w32V keysS).toArray) w := by kernel_rfl
theorem refKey_any (t : Nat) (ht : t < 64) (w : World) : Calls Tryz.prog 148 #[.int .i64 (t : Int)] w fun e w' => e = .returned (.int .u32 (keyS t)) ∧ Below w.heap.size w w' := by
  go_enter Tryz.func148, Tryz.ntmps148
  go_upto_region 2 with (first
    | (refine wp_val (by rfl) (ex_build 271 _ rfl (keys_built _)) ?_)
    | (with_reducible refine at_alloc ?_
       refine wp_allocM (by rfl) 271 rfl (List.replicate 64 (.int .u32 0)) (by kernel_rfl) ?_
       intro W0 hb0 hz0 hs0
       have HB0 := Lib.hid hb0; have HZ0 := Lib.hid hz0; have HS0 := Lib.hid hs0
       clear hb0 hz0 hs0)
    | (with_reducible refine at_store ?_
       refine wp_storeM (by rfl) 271 _ _ rfl w.heap.size 0 [] (List.replicate 64 (.int .u32 0)) [] (w32V keysS) 271 (.agg (w32V keysS).toArray) rfl rfl rfl rfl (by simpa using HZ0.out) rfl (by kernel_rfl) (w32V_one _) ?_
       intro W1 hb1 hy1 hs1
       have HB1 := Lib.hid (HB0.out.trans (hb1.below HB0.out.size (fun k hk e => by omega)))
       have HY1 : Hid (W1.heap[w.heap.size]? = some (.cells (w32V keysS).toArray 271 (0, 0))) := Lib.hid (by simpa using hy1)
       clear hb1 hy1 hs1))
  have ck : W1.cell? ⟨w.heap.size, t, none⟩ = some (.int .u32 (keyS t)) := (cells_at0 HY1.out t).trans (w32V_at (l := keysS) ht)
  go_wp2
  go_ret
  exact ⟨rfl, HB1.out⟩
end Go.Proofs.YtmlhijlcefogmaaGreatDoor
