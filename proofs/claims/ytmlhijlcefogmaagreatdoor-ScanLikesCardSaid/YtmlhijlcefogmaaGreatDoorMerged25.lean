/-
  The sum of bytes as plain arithmetic: a block's words, its rounds, the blocks, what is padded. Conditions: none.
  What turning a word gives, the program's and the document's; the document's key. Conditions: a word of 32 bits, turned by 1 to 31.
  The words of a block, as the program makes them. Conditions: 64 bytes that lie in memory.
-/
import Derived.Test.YtmlhijlcefogmaaGreatDoorMerged17
import Derived.Laws.Closers25b
import Derived.Test.YtmlhijlcefogmaaGreatDoorMerged16
import Derived.Deep.Cut
import Derived.Deep.DeepCutAuto
import Derived.Test.YtmlhijlcefogmaaGreatDoorMerged2
import Derived.Test.YtmlhijlcefogmaaGreatDoorMerged8
import Derived.Test.YtmlhijlcefogmaaGreatDoorMerged9
import Derived.Test.YtmlhijlcefogmaaGreatDoorMerged11
import Derived.Test.YtmlhijlcefogmaaGreatDoorMerged14
set_option linter.unusedVariables false
set_option linter.unusedSimpArgs false
set_option maxHeartbeats 4000000
set_option maxRecDepth 100000
namespace Go.Proofs.YtmlhijlcefogmaaGreatDoor
open Go.RowKit

/-- A word's number: below 2^32. -/
def W32 (x : Int) : Prop := 0 ≤ x ∧ x ≤ 4294967295
def addS (a b : Int) : Int := (a + b) % 4294967296
def xorS (a b : Int) : Int := bits BinOp.xor IntKind.u32 a b
def andS (a b : Int) : Int := bits BinOp.and IntKind.u32 a b
def rotS (n : Nat) (x : Int) : Int := bits BinOp.or IntKind.u32 (x / 2 ^ n) (x * 2 ^ (32 - n) % 4294967296)
def notS (x : Int) : Int := bits BinOp.xor IntKind.u32 (if IntKind.u32.signed = true then -1 else IntKind.u32.max) x
theorem w32_add (a b : Int) : W32 (addS a b) := ⟨by unfold addS; omega, by unfold addS; omega⟩
theorem bits_or_comm (k : IntKind) (a b : Int) : bits BinOp.or k a b = bits BinOp.or k b a := by
  simp only [bits, BitVec.or_comm]
/-- A word of four bytes. -/
def wordS (a b c d : Nat) : Int := bits BinOp.or IntKind.u32 (bits BinOp.or IntKind.u32 (bits BinOp.or IntKind.u32 ((a : Int) * 16777216) ((b : Int) * 65536)) ((c : Int) * 256)) (d : Int)
theorem w32_word (a b c d : Nat) : W32 (wordS a b c d) := ⟨bits_lo_u32 _ _ _, bits_hi_u32 _ _ _⟩
def byteAt (l : List UInt8) (i : Nat) : Nat := (l.getD i 0).toNat
theorem byteAt_lt (l : List UInt8) (i : Nat) : byteAt l i < 256 := (l.getD i 0).toNat_lt
/-- The words of the block that begins at a place. -/
def schS (l : List UInt8) (at' t : Nat) : Int :=
  if t < 16 then wordS (byteAt l (at' + 4 * t)) (byteAt l (at' + 4 * t + 1)) (byteAt l (at' + 4 * t + 2)) (byteAt l (at' + 4 * t + 3))
  else
    addS (addS (addS (xorS (xorS (rotS 17 (schS l at' (t - 2))) (rotS 19 (schS l at' (t - 2)))) (schS l at' (t - 2) / 1024)) (schS l at' (t - 7)))
      (xorS (xorS (rotS 7 (schS l at' (t - 15))) (rotS 18 (schS l at' (t - 15)))) (schS l at' (t - 15) / 8))) (schS l at' (t - 16))
  termination_by t
theorem schS_lo {l : List UInt8} {at' t : Nat} (h : t < 16) : schS l at' t = wordS (byteAt l (at' + 4 * t)) (byteAt l (at' + 4 * t + 1)) (byteAt l (at' + 4 * t + 2)) (byteAt l (at' + 4 * t + 3)) := by
  rw [schS, if_pos h]
theorem schS_hi {l : List UInt8} {at' t : Nat} (h : ¬ t < 16) : schS l at' t = addS (addS (addS (xorS (xorS (rotS 17 (schS l at' (t - 2))) (rotS 19 (schS l at' (t - 2)))) (schS l at' (t - 2) / 1024)) (schS l at' (t - 7)))
      (xorS (xorS (rotS 7 (schS l at' (t - 15))) (rotS 18 (schS l at' (t - 15)))) (schS l at' (t - 15) / 8))) (schS l at' (t - 16)) := by
  rw [schS, if_neg h]
theorem w32_sch (l : List UInt8) (at' t : Nat) : W32 (schS l at' t) := by
  by_cases h : t < 16
  · rw [schS_lo h]; exact w32_word _ _ _ _
  · rw [schS_hi h]; exact w32_add _ _
def keysS : List Int := [1116352408, 1899447441, 3049323471, 3921009573, 961987163, 1508970993, 2453635748, 2870763221, 3624381080, 310598401, 607225278, 1426881987, 1925078388, 2162078206, 2614888103, 3248222580, 3835390401, 4022224774, 264347078, 604807628, 770255983, 1249150122, 1555081692, 1996064986, 2554220882, 2821834349, 2952996808, 3210313671, 3336571891, 3584528711, 113926993, 338241895, 666307205, 773529912, 1294757372, 1396182291, 1695183700, 1986661051, 2177026350, 2456956037, 2730485921, 2820302411, 3259730800, 3345764771, 3516065817, 3600352804, 4094571909, 275423344, 430227734, 506948616, 659060556, 883997877, 958139571, 1322822218, 1537002063, 1747873779, 1955562222, 2024104815, 2227730452, 2361852424, 2428436474, 2756734187, 3204031479, 3329325298]
def keyS (t : Nat) : Int := keysS.getD t 0
theorem w32_key (t : Nat) : W32 (keyS t) := by
  by_cases h : t < 64
  · exact (show ∀ i : Fin 64, 0 ≤ keyS i.val ∧ keyS i.val ≤ 4294967295 by decide +kernel) ⟨t, h⟩
  · unfold keyS
    rw [List.getD_eq_getElem?_getD, List.getElem?_eq_none (by have : keysS.length = 64 := rfl; omega)]
    exact ⟨by decide, by decide⟩
abbrev St8 := Int × Int × Int × Int × Int × Int × Int × Int
def st8 (s : St8) : List Int := [s.1, s.2.1, s.2.2.1, s.2.2.2.1, s.2.2.2.2.1, s.2.2.2.2.2.1, s.2.2.2.2.2.2.1, s.2.2.2.2.2.2.2]
def firstS : St8 := (1779033703, 3144134277, 1013904242, 2773480762, 1359893119, 2600822924, 528734635, 1541459225)
def St8.ok (s : St8) : Prop := ∀ x ∈ st8 s, W32 x
def t1S (s : St8) (k w : Int) : Int :=
  let (_, _, _, _, e, f, g, h) := s
  addS (addS (addS (addS h (xorS (xorS (rotS 6 e) (rotS 11 e)) (rotS 25 e))) (xorS (andS e f) (andS (notS e) g))) k) w
def t2S (s : St8) : Int :=
  let (a, b, c, _, _, _, _, _) := s
  addS (xorS (xorS (rotS 2 a) (rotS 13 a)) (rotS 22 a)) (xorS (xorS (andS a b) (andS a c)) (andS b c))
def stepS (s : St8) (k w : Int) : St8 :=
  let (a, b, c, d, e, f, g, _) := s
  (addS (t1S s k w) (t2S s), a, b, c, addS d (t1S s k w), e, f, g)
def runS (l : List UInt8) (at' : Nat) (s : St8) : Nat → St8
  | 0 => s
  | t + 1 => stepS (runS l at' s t) (keyS t) (schS l at' t)
def sumS (a b : St8) : St8 := (addS a.1 b.1, addS a.2.1 b.2.1, addS a.2.2.1 b.2.2.1, addS a.2.2.2.1 b.2.2.2.1, addS a.2.2.2.2.1 b.2.2.2.2.1, addS a.2.2.2.2.2.1 b.2.2.2.2.2.1, addS a.2.2.2.2.2.2.1 b.2.2.2.2.2.2.1, addS a.2.2.2.2.2.2.2 b.2.2.2.2.2.2.2)
def blockS (l : List UInt8) (at' : Nat) (s : St8) : St8 := sumS (runS l at' s 64) s
/-- The state behind n blocks. -/
def hashS (l : List UInt8) (s : St8) : Nat → St8
  | 0 => s
  | n + 1 => blockS l (64 * n) (hashS l s n)
theorem first_ok : firstS.ok := by simp [St8.ok, st8, firstS, W32]
theorem ok_step {s : St8} (h : s.ok) (k w : Int) : (stepS s k w).ok := by
  obtain ⟨a, b, c, d, e, f, g, x⟩ := s
  simp only [St8.ok, st8, stepS, List.mem_cons, List.not_mem_nil, or_false, forall_eq_or_imp, forall_eq] at h ⊢
  exact ⟨w32_add _ _, h.1, h.2.1, h.2.2.1, w32_add _ _, h.2.2.2.2.1, h.2.2.2.2.2.1, h.2.2.2.2.2.2.1⟩
theorem ok_run {l : List UInt8} {at' : Nat} {s : St8} (h : s.ok) : ∀ t, (runS l at' s t).ok
  | 0 => h
  | t + 1 => ok_step (ok_run h t) _ _
theorem ok_sum (a b : St8) : (sumS a b).ok := by
  simp only [St8.ok, st8, sumS, List.mem_cons, List.not_mem_nil, or_false, forall_eq_or_imp, forall_eq]
  exact ⟨w32_add _ _, w32_add _ _, w32_add _ _, w32_add _ _, w32_add _ _, w32_add _ _, w32_add _ _, w32_add _ _⟩
theorem ok_hash {l : List UInt8} {s : St8} (h : s.ok) : ∀ n, (hashS l s n).ok
  | 0 => h
  | n + 1 => ok_sum _ _
/-- What stands behind the bytes. -/
def zerosN (n : Nat) : Nat := (119 - n % 64) % 64
def lenS (n : Nat) : List UInt8 := (List.range 8).map fun i => UInt8.ofNat (n * 8 / 2 ^ (56 - 8 * i))
def padS (l : List UInt8) : List UInt8 := l ++ (128 :: List.replicate (zerosN l.length) 0 ++ lenS l.length)
theorem padS_length (l : List UInt8) : (padS l).length = l.length + 1 + zerosN l.length + 8 := by
  unfold padS lenS
  simp
  omega
theorem padS_mod (l : List UInt8) : (padS l).length % 64 = 0 := by rw [padS_length]; unfold zerosN; omega
def outS (s : St8) : List UInt8 := (st8 s).flatMap fun x => [UInt8.ofNat (x.toNat / 16777216), UInt8.ofNat (x.toNat / 65536), UInt8.ofNat (x.toNat / 256), UInt8.ofNat x.toNat]
/-- The sum of bytes. -/
def shaS (l : List UInt8) : List UInt8 := outS (hashS (padS l) firstS ((padS l).length / 64))
/-- Blocks look at their own bytes alone. -/
theorem schS_congr {l m : List UInt8} {a b : Nat} (h : ∀ i, i < 64 → byteAt l (a + i) = byteAt m (b + i)) (t : Nat) : t < 64 → schS l a t = schS m b t := by
  induction t using Nat.strongRecOn with
  | ind t ih =>
    intro ht
    by_cases h16 : t < 16
    · rw [schS_lo h16, schS_lo h16, h (4 * t) (by omega), Nat.add_assoc a, Nat.add_assoc b, h (4 * t + 1) (by omega), Nat.add_assoc a, Nat.add_assoc b, h (4 * t + 2) (by omega), Nat.add_assoc a, Nat.add_assoc b, h (4 * t + 3) (by omega)]
    · rw [schS_hi h16, schS_hi h16, ih (t - 2) (by omega) (by omega), ih (t - 7) (by omega) (by omega), ih (t - 15) (by omega) (by omega), ih (t - 16) (by omega) (by omega)]
theorem runS_congr {l m : List UInt8} {a b : Nat} (h : ∀ i, i < 64 → byteAt l (a + i) = byteAt m (b + i)) (s : St8) : ∀ t, t ≤ 64 → runS l a s t = runS m b s t
  | 0, _ => rfl
  | t + 1, ht => by unfold runS; rw [runS_congr h s t (by omega), schS_congr h t (by omega)]
theorem blockS_congr {l m : List UInt8} {a b : Nat} (h : ∀ i, i < 64 → byteAt l (a + i) = byteAt m (b + i)) (s : St8) : blockS l a s = blockS m b s := by
  unfold blockS; rw [runS_congr h s 64 (Nat.le_refl _)]
theorem byteAt_app {l m : List UInt8} {i : Nat} (h : i < l.length) : byteAt (l ++ m) i = byteAt l i := by
  unfold byteAt; rw [List.getD_eq_getElem?_getD, List.getD_eq_getElem?_getD, List.getElem?_append_left h]
theorem hashS_app (l m : List UInt8) (s : St8) : ∀ n, 64 * n ≤ l.length → hashS (l ++ m) s n = hashS l s n
  | 0, _ => rfl
  | n + 1, h => by
    unfold hashS
    rw [hashS_app l m s n (by omega), blockS_congr (m := l) (b := 64 * n) fun i hi => byteAt_app (by omega)]
end Go.Proofs.YtmlhijlcefogmaaGreatDoor
namespace Go.Proofs.YtmlhijlcefogmaaGreatDoor
open Go.RowKit Go.Maps

theorem refRot_any (x : Int) (n : Nat) (hx : W32 x) (h0 : 1 ≤ n) (h1 : n ≤ 31) (w : World) : Calls Tryz.prog 147 #[.int .u32 x, .int .u64 (n : Int)] w fun e w' => e = .returned (.int .u32 (rotS n x)) ∧ w = w' := by
  obtain ⟨x0, x1⟩ := hx
  go_enter Tryz.func147, Tryz.ntmps147
  go_wp2
  go_ret
  exact ⟨rfl, rfl⟩
theorem and31 : ∀ n : Fin 32, 1 ≤ n.val → bits BinOp.and IntKind.u64 (IntKind.u64.wrap (-(n.val : Int))) 31 = ((32 - n.val : Nat) : Int) := by decide +kernel
theorem rotL_any (x : Int) (n : Nat) (hx : W32 x) (h0 : 1 ≤ n) (h1 : n ≤ 31) (w : World) : Calls Tryz.prog 259 #[.int .u32 x, .int .i64 (-(n : Int))] w fun e w' => e = .returned (.int .u32 (rotS n x)) ∧ w = w' := by
  obtain ⟨x0, x1⟩ := hx
  have ha := and31 ⟨n, by omega⟩ h0
  obtain ⟨m, hm⟩ : ∃ m, 32 - n = m := ⟨_, rfl⟩
  simp only at ha
  rw [hm] at ha
  have h2 : 1 ≤ m := by omega
  have h3 : m ≤ 31 := by omega
  have HM := Lib.hid hm
  clear hm
  go_enter Tryz.func259, Tryz.ntmps259
  go_wp2
  go_ret
  refine ⟨?_, rfl⟩
  show Ending.returned (.int .u32 (bits BinOp.or IntKind.u32 (x * 2 ^ m % 4294967296) (x / 2 ^ (32 - m)))) = _
  have e1 : 32 - m = n := by have := HM.out; omega
  unfold rotS
  rw [bits_or_comm, HM.out, e1]
theorem turn_any (x : Int) (n : Nat) (hx : W32 x) (h0 : 1 ≤ n) (h1 : n ≤ 31) (w : World) : Calls Tryz.prog 227 #[.int .u32 x, .int .i64 (n : Int)] w fun e w' => e = .returned (.int .u32 (rotS n x)) ∧ w = w' := by
  go_enter Tryz.func227, Tryz.ntmps227
  go_wp2_with (go_at_call 259; refine (rotL_any x n hx h0 h1 w).mono ?_; rintro e w' ⟨rfl, rfl⟩)
  go_ret
  exact ⟨rfl, rfl⟩
def w32V (l : List Int) : List Value := l.map fun x => .int .u32 x
theorem w32V_one (l : List Int) : ∀ u ∈ w32V l, u.oneCell' = true := by
  intro u hu
  obtain ⟨x, _, rfl⟩ := List.mem_map.1 hu
  rfl
theorem w32V_at {l : List Int} {i : Nat} (h : i < l.length) : (w32V l)[i]? = some (.int .u32 (l.getD i 0)) := by
  unfold w32V
  rw [List.getElem?_map, List.getElem?_eq_getElem h, List.getD_eq_getElem?_getD, List.getElem?_eq_getElem h]
  rfl
theorem keys_built (w : World) : (Instr.build 271 #[(0, .int .u32 1116352408), (1, .int .u32 1899447441), (2, .int .u32 3049323471), (3, .int .u32 3921009573), (4, .int .u32 961987163), (5, .int .u32 1508970993), (6, .int .u32 2453635748), (7, .int .u32 2870763221), (8, .int .u32 3624381080), (9, .int .u32 310598401), (10, .int .u32 607225278), (11, .int .u32 1426881987), (12, .int .u32 1925078388), (13, .int .u32 2162078206), (14, .int .u32 2614888103), (15, .int .u32 3248222580), (16, .int .u32 3835390401), (17, .int .u32 4022224774), (18, .int .u32 264347078), (19, .int .u32 604807628), (20, .int .u32 770255983), (21, .int .u32 1249150122), (22, .int .u32 1555081692), (23, .int .u32 1996064986), (24, .int .u32 2554220882), (25, .int .u32 2821834349), (26, .int .u32 2952996808), (27, .int .u32 3210313671), (28, .int .u32 3336571891), (29, .int .u32 3584528711), (30, .int .u32 113926993), (31, .int .u32 338241895), (32, .int .u32 666307205), (33, .int .u32 773529912), (34, .int .u32 1294757372), (35, .int .u32 1396182291), (36, .int .u32 1695183700), (37, .int .u32 1986661051), (38, .int .u32 2177026350), (39, .int .u32 2456956037), (40, .int .u32 2730485921), (41, .int .u32 2820302411), (42, .int .u32 3259730800), (43, .int .u32 3345764771), (44, .int .u32 3516065817), (45, .int .u32 3600352804), (46, .int .u32 4094571909), (47, .int .u32 275423344), (48, .int .u32 430227734), (49, .int .u32 506948616), (50, .int .u32 659060556), (51, .int .u32 883997877), (52, .int .u32 958139571), (53, .int .u32 1322822218), (54, .int .u32 1537002063), (55, .int .u32 1747873779), (56, .int .u32 1955562222), (57, .int .u32 2024104815), (58, .int .u32 2227730452), (59, .int .u32 2361852424), (60, .int .u32 2428436474), (61, .int .u32 2756734187), (62, .int .u32 3204031479), (63, .int .u32 3329325298)]).run Tryz.prog w = .ok (.agg (w32V keysS).toArray) w := by kernel_rfl
theorem refKey_any (t : Nat) (ht : t < 64) (w : World) : Calls Tryz.prog 148 #[.int .i64 (t : Int)] w fun e w' => e = .returned (.int .u32 (keyS t)) ∧ Below w.heap.size w w' := by
  go_enter Tryz.func148, Tryz.ntmps148
  go_upto_region 2 with (first
    | (refine wp_val (by rfl) (ex_build 271 _ rfl (keys_built _)) ?_)
    | (with_reducible refine at_alloc ?_
       refine wp_allocM (by rfl) 271 rfl (List.replicate 64 (.int .u32 0)) (by kernel_rfl) ?_
       intro W0 hb0 hz0 hs0
       have HB0 := Lib.hid hb0; have HZ0 := Lib.hid hz0; have HS0 := Lib.hid hs0
       clear hb0 hz0 hs0)
    | (with_reducible refine at_store ?_
       refine wp_storeM (by rfl) 271 _ _ rfl w.heap.size 0 [] (List.replicate 64 (.int .u32 0)) [] (w32V keysS) 271 (.agg (w32V keysS).toArray) rfl rfl rfl rfl (by simpa using HZ0.out) rfl (by kernel_rfl) (w32V_one _) ?_
       intro W1 hb1 hy1 hs1
       have HB1 := Lib.hid (HB0.out.trans (hb1.below HB0.out.size (fun k hk e => by omega)))
       have HY1 : Hid (W1.heap[w.heap.size]? = some (.cells (w32V keysS).toArray 271 (0, 0))) := Lib.hid (by simpa using hy1)
       clear hb1 hy1 hs1))
  have ck : W1.cell? ⟨w.heap.size, t, none⟩ = some (.int .u32 (keyS t)) := (cells_at0 HY1.out t).trans (w32V_at (l := keysS) ht)
  go_wp2
  go_ret
  exact ⟨rfl, HB1.out⟩
end Go.Proofs.YtmlhijlcefogmaaGreatDoor
namespace Go.Proofs.YtmlhijlcefogmaaGreatDoor
open Go.RowKit Go.Maps

def schL (l : List UInt8) (a t : Nat) : List Int := (List.range 64).map fun k => if k < t then schS l a k else 0
def schV (l : List UInt8) (a t : Nat) : List Value := w32V (schL l a t)
theorem schV_length (l : List UInt8) (a t : Nat) : (schV l a t).length = 64 := by simp [schV, schL, w32V]
theorem schV_at {l : List UInt8} {a t k : Nat} (hk : k < t) (ht : t ≤ 64) : (schV l a t)[k]? = some (.int .u32 (schS l a k)) := by
  unfold schV w32V schL
  rw [List.map_map, List.getElem?_map, List.getElem?_range (by omega)]
  simp [hk]
theorem schV_set {l : List UInt8} {a t : Nat} (ht : t < 64) : (schV l a t).toArray.setIfInBounds t (.int .u32 (schS l a t)) = (schV l a (t + 1)).toArray := by
  rw [List.setIfInBounds_toArray]
  congr 1
  apply List.ext_getElem?
  intro i
  rw [List.getElem?_set]
  by_cases hi : t = i
  · subst hi
    rw [if_pos rfl, if_pos (by rw [schV_length]; exact ht), schV_at (by omega) (by omega)]
  · rw [if_neg hi]
    unfold schV w32V schL
    rw [List.map_map, List.map_map, List.getElem?_map, List.getElem?_map]
    by_cases h6 : i < 64
    · rw [List.getElem?_range h6]
      by_cases h7 : i < t
      · simp [h7, show i < t + 1 by omega]
      · simp [h7, show ¬ i < t + 1 by omega]
    · rw [List.getElem?_eq_none (by simp; omega)]; rfl
theorem set_blk {w : World} {b j : Nat} {cs : Array Value} {t : TypeId} {fz : Nat × Nat} (h : w.heap[b]? = some (.cells cs t fz)) (v : Value) : (w.setCell ⟨b, j, none⟩ v).heap[b]? = some (.cells (cs.setIfInBounds j v) t fz) := by
  have hlt := (qX h)
  have h' : w.heap[b] = .cells cs t fz := by simpa [Array.getElem?_eq_getElem hlt] using h
  show (w.heap.modify b _)[b]? = _
  rw [Array.getElem?_eq_getElem (by simpa using hlt), Array.getElem_modify_self, h']
  rfl
/-- What stands while a block's words are made. -/
structure SchAt (w : World) (z : Nat) (l : List UInt8) (a t : Nat) (wx : World) : Prop where
  but : But (fun k => k = z) w wx
  row : wx.heap[z]? = some (.cells (schV l a t).toArray 271 (0, 0))
theorem SchAt.lt {w : World} {z : Nat} {l : List UInt8} {a t : Nat} {wx : World} (h : SchAt w z l a t wx) : z < wx.heap.size := (qX h.row)
theorem SchAt.keep {w : World} {z : Nat} {l : List UInt8} {a t : Nat} {wx wy : World} (h : SchAt w z l a t wx) (hb : Below wx.heap.size wx wy) : SchAt w z l a t wy :=
  ⟨h.but.andBelow hb, (hb.block z h.lt).trans h.row⟩
theorem SchAt.cell {w : World} {z : Nat} {l : List UInt8} {a t : Nat} {wx : World} (h : SchAt w z l a t wx) {k : Nat} (hk : k < t) (ht : t ≤ 64) : wx.cell? ⟨z, k, none⟩ = some (.int .u32 (schS l a k)) := (cells_at0 h.row k).trans (schV_at hk ht)
theorem SchAt.any {w : World} {z : Nat} {l : List UInt8} {a t : Nat} {wx : World} (h : SchAt w z l a t wx) {k : Nat} (hk : k < 64) : ∃ u, wx.cell? ⟨z, k, none⟩ = some u :=
  ⟨(schV l a t)[k]'(by rw [schV_length]; exact hk), (cells_at0 h.row k).trans (List.getElem?_eq_getElem _)⟩
theorem SchAt.fr {w : World} {z : Nat} {l : List UInt8} {a t : Nat} {wx : World} (h : SchAt w z l a t wx) (k : Nat) : wx.frozen? ⟨z, k, none⟩ = false := frozen_of_row _ _ _ _ _ h.row
theorem SchAt.next {w : World} {z : Nat} {l : List UInt8} {a t : Nat} {wx : World} (h : SchAt w z l a t wx) (ht : t < 64) {x : Int} (hx : schS l a t = x) : SchAt w z l a (t + 1) (wx.setCell ⟨z, t, none⟩ (.int .u32 x)) := by
  refine ⟨h.but.setCell (fun _ => rfl) _, ?_⟩
  rw [← schV_set ht, hx]
  exact set_blk h.row _
theorem schedule_any (b off c : Nat) (l : List UInt8) (w : World) (hl : l.length = 64) (hbw : b < w.heap.size) (hb : ∀ j (hj : j < 64), w.cell? ⟨b, off + j, none⟩ = some (.int .u8 (byteAt l j : Int))) (hc : 64 ≤ c) :
    Calls Tryz.prog 226 #[.slice (some ⟨b, off, none⟩) 64 c] w fun e w' => e = .returned (.agg (schV l 0 64).toArray) ∧ Below w.heap.size w w' := by
  have HBY := Lib.hid hb
  clear hb
  go_enter Tryz.func226, Tryz.ntmps226
  go_upto_region 1 with (first
    | (with_reducible refine at_alloc ?_
       refine wp_allocM (by rfl) 271 rfl (List.replicate 64 (.int .u32 0)) (by kernel_rfl) ?_
       intro W0 hb0 hz0 hs0
       have HB0 := Lib.hid hb0; have HZ0 := Lib.hid hz0; have HS0 := Lib.hid hs0
       clear hb0 hz0 hs0))
  go_upto_region 3 with (first
    | (with_reducible refine at_alloc ?_
       refine wp_allocM (by rfl) 271 rfl (List.replicate 64 (.int .u32 0)) (by kernel_rfl) ?_
       intro W1 hb1 hz1 hs1
       have HB1 := Lib.hid hb1; have HZ1 := Lib.hid hz1; have HS1 := Lib.hid hs1
       clear hb1 hz1 hs1))
  obtain ⟨y, hy⟩ : ∃ y, w.heap.size = y := ⟨_, rfl⟩
  obtain ⟨z, hz⟩ : ∃ z, W0.heap.size = z := ⟨_, rfl⟩
  have HYR : Hid (W1.heap[y]? = some (.cells (List.replicate 64 (.int .u32 0)).toArray 271 (0, 0))) := Lib.hid (by rw [← hy]; exact (HB1.out.block _ (by have := HS0.out; omega)).trans HZ0.out)
  have HS : Hid (SchAt W1 z l 0 0 W1) := Lib.hid ⟨But.refl _ _, by rw [← hz]; exact HZ1.out⟩
  have HYZ : Hid (y < z ∧ w.heap.size ≤ y ∧ z < W1.heap.size) := Lib.hid (by have := HS0.out; have := HS1.out; omega)
  have HBW := Lib.hid (HB0.out.trans (HB1.out.mono HB0.out.size))
  have HB1L : Hid (b < W1.heap.size) := Lib.hid (qL hbw HBW.out.size)
  have HBX := Lib.hid (fun (u : World) (hu : But (fun k => k = z) W1 u) (j : Nat) (hj : j < 64) => (show u.cell? ⟨b, off + j, none⟩ = some (.int .u8 (byteAt l j : Int)) from (hu.cell HB1L.out (by have := HYZ.out; omega)).trans ((HBW.out.cell (p := ⟨b, off + j, none⟩) hbw).trans (HBY.out j hj))))
  clear HBY
  rw [hy]
  rw [hz]
  try simp only [Act.put, List.setIfInBounds_toArray, List.set_cons_zero, List.set_cons_succ]
  clear HZ0 HZ1 HB0 HB1 HS0 HS1 hz hy
  go_loopw [10] (fun t10 wr => ∃ t : Nat, t ≤ 16 ∧ t10 = .int .i64 (t : Int) ∧ Hid (SchAt W1 z l 0 t wr)) (fun t10 _ => 16 - (intOf t10).toNat)
  case atStart => exact ⟨0, by omega, rfl, HS⟩
  case round =>
    obtain ⟨t, ht, rfl, HS⟩ := hrel
    by_cases hlt : t < 16
    · have i1 : (t : Int) < 16 := by omega
      obtain ⟨m, hm⟩ : ∃ m, 4 * t = m := ⟨_, rfl⟩
      have e4 : IntKind.i64.wrap (4 * (t : Int)) = ((m : Nat) : Int) := by rw [IntWalk.i64_in _ (by omega)]; omega
      have e5 : IntKind.i64.wrap ((m : Int) + 1) = ((m + 1 : Nat) : Int) := by rw [IntWalk.i64_in _ (by omega)]; omega
      have e6 : IntKind.i64.wrap ((m : Int) + 2) = ((m + 2 : Nat) : Int) := by rw [IntWalk.i64_in _ (by omega)]; omega
      have e7 : IntKind.i64.wrap ((m : Int) + 3) = ((m + 3 : Nat) : Int) := by rw [IntWalk.i64_in _ (by omega)]; omega
      have hm3 : m + 3 < 64 := by omega
      have hbl : b < wr.heap.size := qL HB1L.out HS.out.but.size
      obtain ⟨k0, hk0⟩ : ∃ k, byteAt l m = k := ⟨_, rfl⟩
      obtain ⟨k1, hk1⟩ : ∃ k, byteAt l (m + 1) = k := ⟨_, rfl⟩
      obtain ⟨k2, hk2⟩ : ∃ k, byteAt l (m + 2) = k := ⟨_, rfl⟩
      obtain ⟨k3, hk3⟩ : ∃ k, byteAt l (m + 3) = k := ⟨_, rfl⟩
      have F0 := Wg.cell (hk0 ▸ HBX.out wr HS.out.but m (by omega)) hbl
      have F1 := Wg.cell (hk1 ▸ HBX.out wr HS.out.but (m + 1) (by omega)) hbl
      have F2 := Wg.cell (hk2 ▸ HBX.out wr HS.out.but (m + 2) (by omega)) hbl
      have F3 := Wg.cell (hk3 ▸ HBX.out wr HS.out.but (m + 3) (by omega)) hbl
      have q0 : k0 < 256 := hk0 ▸ byteAt_lt _ _
      have q1 : k1 < 256 := hk1 ▸ byteAt_lt _ _
      have q2 : k2 < 256 := hk2 ▸ byteAt_lt _ _
      have q3 : k3 < 256 := hk3 ▸ byteAt_lt _ _
      have HW := Lib.hid (show schS l 0 t = wordS k0 k1 k2 k3 by rw [schS_lo hlt, qZ, hm, hk0, hk1, hk2, hk3])
      clear hk0 hk1 hk2 hk3 hm
      go_upto_region 5 with fail
      refine wp_region_tail_wg 35 (by kernel_rfl) (by kernel_rfl) (by kernel_rfl) (by kernel_rfl) (by kernel_rfl) ?_
      simp only [List.take_succ_cons, List.take_zero, List.drop_succ_cons, List.drop_zero]
      repeat (first
        | go_big_quiet_skip
        | (go_big_quiet_want
           first
             | (go_big_quiet_op
                first
                  | go_big_quiet_on
                  | go_big_quiet_call (first | (fail)))))
      refine wpQuiet_nil ?_
      rintro w' ⟨kk, rfl⟩
      have hk9 := kk.2
      generalize kk.val = w9 at *
      clear kk
      clear F0 F1 F2 F3 e4 e5 e6 e7
      have HS9 := Lib.hid (HS.out.keep hk9.below)
      obtain ⟨u9, c9⟩ := HS9.out.any (show t < 64 by omega)
      have f9 := HS9.out.fr t
      go_wp2_with fail
      go_roundw
      case rel =>
        refine ⟨t + 1, by omega, by go_num, Lib.hid (HS9.out.next (by omega) ?_)⟩
        rw [HW.out]; rfl
      case measure => (simp [intOf]) <;> omega
    · have i1 : ¬ (t : Int) < 16 := by omega
      obtain rfl : t = 16 := by omega
      go_upto_region 8 with fail
      go_loopw [5] (fun t5 wr => ∃ t : Nat, 16 ≤ t ∧ t ≤ 64 ∧ t5 = .int .i64 (t : Int) ∧ Hid (SchAt W1 z l 0 t wr)) (fun t5 _ => 64 - (intOf t5).toNat)
      case atStart => exact ⟨16, by omega, by omega, rfl, HS⟩
      case round =>
        clear HS
        obtain ⟨t, ht0, ht, rfl, HS⟩ := hrel
        by_cases hlt : t < 64
        · have i2 : (t : Int) < 64 := by omega
          obtain ⟨m2, hm2⟩ : ∃ m, t - 2 = m := ⟨_, rfl⟩
          obtain ⟨m7, hm7⟩ : ∃ m, t - 7 = m := ⟨_, rfl⟩
          obtain ⟨m15, hm15⟩ : ∃ m, t - 15 = m := ⟨_, rfl⟩
          obtain ⟨m16, hm16⟩ : ∃ m, t - 16 = m := ⟨_, rfl⟩
          have e2 : IntKind.i64.wrap ((t : Int) - 2) = ((m2 : Nat) : Int) := by rw [IntWalk.i64_in _ (by omega)]; omega
          have e7 : IntKind.i64.wrap ((t : Int) - 7) = ((m7 : Nat) : Int) := by rw [IntWalk.i64_in _ (by omega)]; omega
          have e15 : IntKind.i64.wrap ((t : Int) - 15) = ((m15 : Nat) : Int) := by rw [IntWalk.i64_in _ (by omega)]; omega
          have e16 : IntKind.i64.wrap ((t : Int) - 16) = ((m16 : Nat) : Int) := by rw [IntWalk.i64_in _ (by omega)]; omega
          have l2 : m2 < 64 := by omega
          have l7 : m7 < 64 := by omega
          have l15 : m15 < 64 := by omega
          have l16 : m16 < 64 := by omega
          obtain ⟨Y, hY⟩ : ∃ x, schS l 0 m2 = x := ⟨_, rfl⟩
          obtain ⟨V, hV⟩ : ∃ x, schS l 0 m7 = x := ⟨_, rfl⟩
          obtain ⟨X, hX⟩ : ∃ x, schS l 0 m15 = x := ⟨_, rfl⟩
          obtain ⟨U, hU⟩ : ∃ x, schS l 0 m16 = x := ⟨_, rfl⟩
          have HCX := Lib.hid (fun (u : World) (hu : Below wr.heap.size wr u) => (show u.cell? ⟨z, m2, none⟩ = some (.int .u32 Y) ∧ u.cell? ⟨z, m7, none⟩ = some (.int .u32 V) ∧ u.cell? ⟨z, m15, none⟩ = some (.int .u32 X) ∧ u.cell? ⟨z, m16, none⟩ = some (.int .u32 U) from by
            have h := HS.out.keep hu
            rw [← hY, ← hV, ← hX, ← hU]
            exact ⟨h.cell (by omega) ht, h.cell (by omega) ht, h.cell (by omega) ht, h.cell (by omega) ht⟩))
          have HYW : Hid (W32 Y) := Lib.hid (hY ▸ w32_sch _ _ _)
          have HXW : Hid (W32 X) := Lib.hid (hX ▸ w32_sch _ _ _)
          have HVW : Hid (W32 V) := Lib.hid (hV ▸ w32_sch _ _ _)
          have HUW : Hid (W32 U) := Lib.hid (hU ▸ w32_sch _ _ _)
          have HE := Lib.hid (show schS l 0 t = addS (addS (addS (xorS (xorS (rotS 17 Y) (rotS 19 Y)) (Y / 1024)) V) (xorS (xorS (rotS 7 X) (rotS 18 X)) (X / 8))) U by rw [schS_hi (by omega), hm2, hm7, hm15, hm16, hY, hV, hX, hU])
          clear hm2 hm7 hm15 hm16 hY hV hX hU
          obtain ⟨y0, y1⟩ := HYW.out
          obtain ⟨x0, x1⟩ := HXW.out
          obtain ⟨c2, c7, c15, c16⟩ := HCX.out wr (qB _ _)
          have hzl := HS.out.lt
          have F2 := Wg.cell c2 hzl
          have F15 := Wg.cell c15 hzl
          clear c2 c7 c15 c16
          go_upto_region 10 with fail
          refine wp_region_wr (by kernel_rfl) (by kernel_rfl) ?_
          repeat (first
            | go_big_quiet_skip
            | (go_big_quiet_want
               first
                 | (go_big_quiet_op
                    first
                      | go_big_quiet_on
                      | go_big_quiet_call (first | (fail)))))
          refine wpQuiet_nil ?_
          rintro w' ⟨kk, rfl⟩
          have hk9 := kk.2
          generalize kk.val = w9 at *
          clear kk
          clear F2 F15
          have HT7 : Hid (∀ u : World, Calls Tryz.prog 227 #[.int .u32 X, .int .i64 7] u fun ee ww => ee = .returned (.int .u32 (rotS 7 X)) ∧ u = ww) := Lib.hid (fun u => turn_any X 7 HXW.out (by decide) (by decide) u)
          have HT18 : Hid (∀ u : World, Calls Tryz.prog 227 #[.int .u32 X, .int .i64 18] u fun ee ww => ee = .returned (.int .u32 (rotS 18 X)) ∧ u = ww) := Lib.hid (fun u => turn_any X 18 HXW.out (by decide) (by decide) u)
          have HT17 : Hid (∀ u : World, Calls Tryz.prog 227 #[.int .u32 Y, .int .i64 17] u fun ee ww => ee = .returned (.int .u32 (rotS 17 Y)) ∧ u = ww) := Lib.hid (fun u => turn_any Y 17 HYW.out (by decide) (by decide) u)
          have HT19 : Hid (∀ u : World, Calls Tryz.prog 227 #[.int .u32 Y, .int .i64 19] u fun ee ww => ee = .returned (.int .u32 (rotS 19 Y)) ∧ u = ww) := Lib.hid (fun u => turn_any Y 19 HYW.out (by decide) (by decide) u)
          go_upto_region 13 with (first | (go_at_call 227; (with_reducible refine (HT7.out _).mono ?_); rintro e w' ⟨rfl, rfl⟩) | (go_at_call 227; (with_reducible refine (HT18.out _).mono ?_); rintro e w' ⟨rfl, rfl⟩) | (go_at_call 227; (with_reducible refine (HT17.out _).mono ?_); rintro e w' ⟨rfl, rfl⟩) | (go_at_call 227; (with_reducible refine (HT19.out _).mono ?_); rintro e w' ⟨rfl, rfl⟩))
          generalize hL : bits BinOp.xor IntKind.u32 (bits BinOp.xor IntKind.u32 (rotS 7 X) (rotS 18 X)) (X / 8) = L
          generalize hH : bits BinOp.xor IntKind.u32 (bits BinOp.xor IntKind.u32 (rotS 17 Y) (rotS 19 Y)) (Y / 1024) = H
          have HE2 : Hid (schS l 0 t = addS (addS (addS H V) L) U) := Lib.hid (by rw [HE.out, ← hL, ← hH]; rfl)
          obtain ⟨p0, p1⟩ : 0 ≤ L ∧ L ≤ 4294967295 := by rw [← hL]; exact ⟨bits_lo_u32 _ _ _, bits_hi_u32 _ _ _⟩
          obtain ⟨r0, r1⟩ : 0 ≤ H ∧ H ≤ 4294967295 := by rw [← hH]; exact ⟨bits_lo_u32 _ _ _, bits_hi_u32 _ _ _⟩
          obtain ⟨v0, v1⟩ := HVW.out
          obtain ⟨s0, s1⟩ := HUW.out
          clear hL hH HT7 HT18 HT17 HT19 HE
          obtain ⟨c2, c7, c15, c16⟩ := HCX.out w9 hk9.below
          have HS9 := Lib.hid (HS.out.keep hk9.below)
          have hzl9 := HS9.out.lt
          have F7 := Wg.cell c7 hzl9
          have F16 := Wg.cell c16 hzl9
          clear c2 c7 c15 c16 hk9
          refine wp_region_tail_wg 15 (by kernel_rfl) (by kernel_rfl) (by kernel_rfl) (by kernel_rfl) (by kernel_rfl) ?_
          simp only [List.take_succ_cons, List.take_zero, List.drop_succ_cons, List.drop_zero]
          repeat (first
            | go_big_quiet_skip
            | (go_big_quiet_want
               first
                 | (go_big_quiet_op
                    first
                      | go_big_quiet_on
                      | go_big_quiet_call (first | (fail)))))
          refine wpQuiet_nil ?_
          rintro w' ⟨kk, rfl⟩
          have hk8 := kk.2
          generalize kk.val = w8 at *
          clear kk
          clear F7 F16 e2 e7 e15 e16
          have HS8 := Lib.hid (HS9.out.keep hk8.below)
          obtain ⟨u8, c8⟩ := HS8.out.any (show t < 64 by omega)
          have f8 := HS8.out.fr t
          go_wp2_with fail
          go_roundw
          case rel =>
            refine ⟨t + 1, by omega, by omega, by go_num, Lib.hid (HS8.out.next (by omega) ?_)⟩
            rw [HE2.out]; unfold addS; omega
          case measure => (simp [intOf]) <;> omega
        · have i2 : ¬ (t : Int) < 64 := by omega
          obtain rfl : t = 64 := by omega
          have HYF := Lib.hid ((HS.out.but.block y (by have := HYZ.out; omega) (by have := HYZ.out; omega)).trans HYR.out)
          go_wp2_with (first
            | (with_reducible refine at_load ?_
               refine wp_val (by rfl) (ex_load 271 _ rfl (p := ⟨z, 0, none⟩) rfl (qV _ _ _ _ (schV l 0 64) _ (fun j u hj => by rw [qZ]; exact (cells_at0 HS.out.row j).trans hj) Tryz.underlying271 rfl (by rw [schV_length]; kernel_rfl))) ?_)
            | (with_reducible refine at_store ?_
               refine wp_storeM (by rfl) 271 _ _ rfl y 0 [] (List.replicate 64 (.int .u32 0)) [] (schV l 0 64) 271 (.agg (schV l 0 64).toArray) rfl rfl rfl rfl (by simpa using HYF.out) (by rw [schV_length]; rfl) (by rw [schV_length]; kernel_rfl) (w32V_one _) ?_
               intro W9 hb9 hy9 hs9
               have HB9 := Lib.hid hb9
               have HY9 : Hid (W9.heap[y]? = some (.cells (schV l 0 64).toArray 271 (0, 0))) := Lib.hid (by simpa using hy9)
               clear hb9 hy9 hs9))
          refine bodyPost_ret (results_one Tryz.results226 _ _ rfl (qV _ y 0 271 (schV l 0 64) _ (fun j u hj => by rw [qZ]; exact (cells_at0 HY9.out j).trans hj) Tryz.underlying271 rfl (by rw [schV_length]; kernel_rfl))) rfl ?_
          exact ⟨rfl, HBW.out.trans ((HS.out.but.below HBW.out.size (fun k hk e => by have := HYZ.out; omega)).trans (HB9.out.below (qT HBW.out.size HS.out.but.size) fun k hk e => by have := HYZ.out; omega))⟩
end Go.Proofs.YtmlhijlcefogmaaGreatDoor
