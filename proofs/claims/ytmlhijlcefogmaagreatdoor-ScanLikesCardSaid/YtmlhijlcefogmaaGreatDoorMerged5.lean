/-
  What the functions of utf (Check) and of the reference's layer 3 (May, Bytes, One) give. Conditions: a place lies within the text; a rune lies in its range.
  What layer 7's predicates say, as plain functions on a string's bytes and runes. No conditions; no program.
  The contracts of Go's library that this claim uses, laid at this program by the kit's tools (lay-shelf, lay-plain). Conditions: as each says.
  What layer 7's predicates of one text give: sign, shown, plain, Author, Note, Name, Path. Conditions: none but that a text's length is an int's; Path asks that the library's variable MaxLen holds a number.
  What Author, Note, Name and Path give. Path asks that the library's variable MaxLen holds a number.
  A path that clashes with none, as a plain function; that it is found within as many steps as there are taken paths. No conditions; no program.
  What Clash and Fresh give. Conditions: texts of at most 2^47 bytes; at most 97 taken paths (Fresh).
-/
import Derived.Test.YtmlhijlcefogmaaGreatDoorMerged3
import Derived.Test.YtmlhijlcefogmaaGreatDoorMerged4
import Derived.Deep.RegionWith
import Derived.Deep.DeepCutAuto
import Derived.Deep.CutBlock
import Derived.Deep.LoopGhost
import Derived.Deep.QuietTactic
import Derived.BigQuiet
import Derived.WalkSmall
import Derived.WalkSpells
import Derived.WalkLawsBesides
import Derived.Lib.Split
import Derived.Lib.SplitLaws
import Derived.Lib.ItoaNum
import Derived.Shelf.Small.Strs
import Derived.Shelf.Strconv.Itoa3
import Derived.Shelf.Strings.Prefix
import Derived.Shelf.Strings.Split
import Derived.Test.YtmlhijlcefogmaaGreatDoorProg
import Derived.Test.YtmlhijlcefogmaaGreatDoorMerged2
import Derived.Lib.OthersKept
set_option linter.unusedVariables false
set_option maxHeartbeats 4000000
set_option maxRecDepth 100000
namespace Go.Proofs.YtmlhijlcefogmaaGreatDoor
open Go.RowKit

/-- What Check says: 0, OK; or a place, ErrText. -/
def ChkGives (s : ByteArray) (w : World) (e : Ending) (w' : World) : Prop :=
  w = w' ∧ (isText s = true ∧ e = .returned (.tuple #[.int .i64 0, .int .i64 0]) ∨ isText s = false ∧ ∃ n : Int, e = .returned (.tuple #[.int .i64 n, .int .i64 5]))

theorem check_any (s : ByteArray) (w : World) (hs : s.size ≤ maxLen) :
    Calls Tryz.prog 23 #[.string s] w (ChkGives s w) := by
  have hs' := hs
  unfold maxLen at hs
  go_enter Tryz.func23, Tryz.ntmps23
  go_wp2
  go_loop [2] (fun t => ∃ k : Nat, k ≤ s.size ∧ t = .int .i64 k ∧ Hid (isText s = (runesAt s k).isSome)) (fun t => s.size - (intOf t).toNat)
  case atStart => exact ⟨0, Nat.zero_le _, rfl, Lib.hid rfl⟩
  case round =>
    obtain ⟨k, hk, rfl, hR⟩ := hrel
    by_cases hlt : k < s.size
    · have hin := dec_in hlt
      go_wp2_with fail
      refine (decode_any s k _ hlt hs').mono ?_
      rintro e w' ⟨rfl, ⟨ho, rfl⟩ | ⟨ho, r, n, rfl⟩⟩
      · have HO := Lib.hid ho; clear ho
        go_wp2_with fail
        go_round
        case rel => exact ⟨k + (Utf8.decode s k).2, by omega, rfl, Lib.hid (by rw [hR.out, runesAt_ok hlt HO.out]; simp)⟩
        case measure => simp [intOf]; omega
      · have HO := Lib.hid ho; clear ho
        go_wp2_with fail
        go_ret2
        exact ⟨rfl, .inr ⟨by rw [hR.out, runesAt_bad hlt HO.out]; rfl, _, rfl⟩⟩
    · go_wp2_with fail
      go_ret2
      exact ⟨rfl, .inl ⟨by rw [hR.out, runesAt_end (by omega)]; rfl, rfl⟩⟩

theorem refMay_any (r : Int) (w : World) (h0 : 0 ≤ r) (h1 : r ≤ 2147483647) : Calls Tryz.prog 86 #[.int .i32 r] w fun e w' =>
    w = w' ∧ e = .returned (.bool (mayB r))  := by
  by_cases a2 : r < 55296
  · rw [show mayB r = true by simp [mayB]; omega]
    go_enter Tryz.func86, Tryz.ntmps86
    go_wp2
    go_ret
    exact ⟨rfl, rfl⟩
  · have : 55296 ≤ r := by omega
    by_cases a3 : 57343 < r
    · rw [show mayB r = decide (r ≤ 1114111) by unfold mayB; rw [Bool.eq_iff_iff]; simp; omega]
      go_enter Tryz.func86, Tryz.ntmps86
      go_wp2
      go_ret
      exact ⟨rfl, rfl⟩
    · rw [show mayB r = false by unfold mayB; rw [Bool.eq_false_iff]; simp; omega]
      go_enter Tryz.func86, Tryz.ntmps86
      go_wp2
      go_ret
      exact ⟨rfl, rfl⟩

theorem refBytes_any (r : Int) (w : World) (h0 : 0 ≤ r) (h1 : r ≤ 1114111) : Calls Tryz.prog 32 #[.int .i32 r] w fun e w' =>
    w.alloc (.cells ((encB r).map (Value.int .u8)).toArray 5) = w' ∧ e = .returned (.slice (some ⟨w.heap.size, 0, none⟩) (encB r).length (encB r).length) := by
  rcases (by omega : r < 128 ∨ (128 ≤ r ∧ r < 2048) ∨ (2048 ≤ r ∧ r < 65536) ∨ 65536 ≤ r) with a | ⟨a, b⟩ | ⟨a, b⟩ | a
  · rw [encB1 a]
    go_enter Tryz.func32, Tryz.ntmps32
    go_wp2
    go_ret
    exact ⟨rfl, rfl⟩
  · rw [encB2 a b]
    go_enter Tryz.func32, Tryz.ntmps32
    go_wp2
    go_ret
    exact ⟨rfl, rfl⟩
  · rw [encB3 a b]
    go_enter Tryz.func32, Tryz.ntmps32
    go_wp2
    go_ret
    exact ⟨rfl, rfl⟩
  · rw [encB4 a]
    go_enter Tryz.func32, Tryz.ntmps32
    go_wp2
    go_ret
    exact ⟨rfl, rfl⟩

/-- What One gives: the rune and how many bytes; or 0, 0. -/
def OneGives (s : ByteArray) (i : Nat) (w : World) (e : Ending) (w' : World) : Prop :=
  Below w.heap.size w w' ∧ (okAt s i = true ∧ e = .returned (.tuple #[.int .i32 (Utf8.decode s i).1, .int .i64 ((Utf8.decode s i).2 : Int)]) ∨
    okAt s i = false ∧ e = .returned (.tuple #[.int .i32 0, .int .i64 0]))

theorem not_hit_more {s : ByteArray} {i k : Nat} (h : okAt s i = true → k ≤ (Utf8.decode s i).2) (n : ¬ hit s i k) : okAt s i = true → k + 1 ≤ (Utf8.decode s i).2 := by
  intro ho
  have := h ho
  rcases Nat.lt_or_ge k (Utf8.decode s i).2 with a | a
  · exact a
  · exact absurd ⟨ho, by omega⟩ n

theorem one_any (s : ByteArray) (i : Nat) (w : World) (hi : i < s.size) (hs : s.size ≤ maxLen) : Calls Tryz.prog 53 #[.string s, .int .i64 i] w (OneGives s i w) := by
  unfold maxLen at hs
  have hb := getB s
  have hB := B_lt s i
  have hB1 := B_lt s (i + 1)
  have hB2 := B_lt s (i + 2)
  have hB3 := B_lt s (i + 3)
  have hsz : (i : Int) < (s.size : Int) := by omega
  go_enter Tryz.func53, Tryz.ntmps53
  go_wp2
  go_loopw [6] (fun n wr => ∃ k : Nat, 1 ≤ k ∧ n = .int .i64 k ∧ Below w.heap.size w wr ∧ Hid (okAt s i = true → k ≤ (Utf8.decode s i).2)) (fun n _ => 5 - (intOf n).toNat)
  case atStart => exact ⟨1, by omega, rfl, Below.refl _ _, Lib.hid fun _ => (dec_in hi).2.1⟩
  case round =>
    obtain ⟨k, hk, rfl, hbw, hR⟩ := hrel
    by_cases hin : k ≤ 4 ∧ i + k ≤ s.size
    · obtain ⟨hk4, hik⟩ := hin
      have hvr := vOf_range s i k
      go_upto_block 2 with (fail)
      go_cut [7] (fun s7 wx => s7 = .int .i64 (vOf s i k) ∧ Below w.heap.size w wx)
      case first =>
        rcases (by omega : k = 1 ∨ k = 2 ∨ k = 3 ∨ k = 4) with rfl | rfl | rfl | rfl
        · go_wp2_with fail
          go_meet
          exact ⟨rfl, hbw⟩
        · have h1 : (i : Int) + 1 < s.size := by omega
          go_wp2_with fail
          go_quiet (fail)
          go_wp2_with fail
          go_meet
          exact ⟨rfl, below_drewN hbw _⟩
        · have h1 : (i : Int) + 1 < s.size := by omega
          have h2 : (i : Int) + 2 < s.size := by omega
          go_wp2_with fail
          go_quiet (fail)
          go_wp2_with fail
          go_meet
          exact ⟨rfl, below_drewN hbw _⟩
        · have h1 : (i : Int) + 1 < s.size := by omega
          have h2 : (i : Int) + 2 < s.size := by omega
          have h3 : (i : Int) + 3 < s.size := by omega
          go_wp2_with fail
          go_quiet (fail)
          go_wp2_with fail
          go_meet
          exact ⟨rfl, below_drewN hbw _⟩
      case rest =>
        obtain ⟨rfl, hbx⟩ := hcut
        by_cases hm : mayB (vOf s i k) = true
        · have hmr := may_range hm
          have HM := Lib.hid hm; clear hm
          generalize hv : vOf s i k = v at *
          have HV := Lib.hid hv; clear hv
          have hw1 : IntKind.i32.wrap v = v := IntWalk.i32_in _ (by omega)
          go_wp2_with (go_at_call 86; refine (refMay_any _ _ (by omega) (by omega)).mono ?_; rw [HM.out]; rintro e w' ⟨rfl, rfl⟩)
          have hconv : ∀ wx : World, (convert 78 9 (.slice (some ⟨wx.heap.size, 0, none⟩) (encB v).length (encB v).length)).run Tryz.prog (wx.alloc (.cells ((encB v).map (Value.int .u8)).toArray 5)).drew = .ok (.string (strOfNums (encB v))) (wx.alloc (.cells ((encB v).map (Value.int .u8)).toArray 5)).drew := by
            intro wx
            refine run_convert_bytes_arg _ 78 5 Tryz.underlying78 Tryz.underlying5 _ 0 _ _ _ rfl ?_ 9 Tryz.underlying9
            intro j hj
            rw [Nat.zero_add]
            show (wx.alloc _).cell? _ = _
            rw [World.cell?_alloc_new]
            simp [List.getD, hj]
          have hw2 : IntKind.i64.wrap ((i : Int) + (k : Int)) = (i : Int) + k := IntWalk.i64_in _ (by omega)
          have hsl : ∀ wx : World, (Instr.slice 9 (.string s) (some (.int .i64 (i : Int))) (some (.int .i64 ((i : Int) + (k : Int)))) none).run Tryz.prog wx = .ok (.string (s.extract i (i + k))) wx := by
            intro wx
            have := run_slice_string (P := Tryz.prog) (w := wx) 9 s .i64 .i64 (i : Int) ((i : Int) + k) Tryz.underlying9 (by omega) (by omega) (by omega)
            rw [this]
            congr 2
          have heq := enc_beq (v := v) hk hk4 hik (by omega) (by omega)
          by_cases hh : encB v = bytesAt s i k
          · rw [decide_eq_true hh] at heq
            have HH := Lib.hid hh; clear hh
            go_region_with (go_at_call 32; refine (refBytes_any _ _ (by omega) (by omega)).mono ?_; rintro e w' ⟨rfl, rfl⟩)
            go_wp2_with fail
            go_ret2
            have ht : hit s i k := vOf_miss hk hk4 hik (by rw [HV.out]; exact HM.out) (by rw [HV.out]; exact HH.out)
            obtain ⟨e1, _⟩ := vOf_hit ht
            refine ⟨(hbx.alloc hbx.size _).drew, .inl ⟨ht.1, ?_⟩⟩
            rw [← e1, ht.2, HV.out]
            rfl
          · rw [decide_eq_false hh] at heq
            have HH := Lib.hid hh; clear hh
            go_region_with (go_at_call 32; refine (refBytes_any _ _ (by omega) (by omega)).mono ?_; rintro e w' ⟨rfl, rfl⟩)
            go_wp2_with fail
            go_roundw
            case rel =>
              refine ⟨k + 1, by omega, by go_num, (hbx.alloc hbx.size _).drew, Lib.hid (not_hit_more hR.out ?_)⟩
              intro ht
              obtain ⟨e1, _, e3, _⟩ := vOf_hit ht
              rw [← e1, HV.out] at e3
              exact HH.out e3
            case measure => simp [intOf]; omega
        · have hno : ¬ hit s i k := by
            intro ht
            obtain ⟨e1, e2, _⟩ := vOf_hit ht
            rw [← e1] at e2
            exact hm e2
          have HN := Lib.hid hno; clear hno
          have hmf : mayB (vOf s i k) = false := by simpa using hm
          clear hm
          have HM := Lib.hid hmf; clear hmf
          generalize hv : vOf s i k = v at *
          clear hv
          by_cases hr : 0 ≤ v ∧ v ≤ 1114111
          · have hw1 : IntKind.i32.wrap v = v := IntWalk.i32_in _ (by omega)
            go_wp2_with (go_at_call 86; refine (refMay_any _ _ (by omega) (by omega)).mono ?_; rw [HM.out]; rintro e w' ⟨rfl, rfl⟩)
            go_roundw
            case rel => exact ⟨k + 1, by omega, by go_num, hbx, Lib.hid (not_hit_more hR.out HN.out)⟩
            case measure => simp [intOf]; omega
          · by_cases hr0 : v < 0
            · go_wp2_with fail
              go_roundw
              case rel => exact ⟨k + 1, by omega, by go_num, hbx, Lib.hid (not_hit_more hR.out HN.out)⟩
              case measure => simp [intOf]; omega
            · have hr1 : 1114111 < v := by omega
              go_wp2_with fail
              go_roundw
              case rel => exact ⟨k + 1, by omega, by go_num, hbx, Lib.hid (not_hit_more hR.out HN.out)⟩
              case measure => simp [intOf]; omega
    · have hend : OneGives s i w (.returned (.tuple #[.int .i32 0, .int .i64 0])) wr := by
        refine ⟨hbw, .inr ⟨?_, rfl⟩⟩
        cases ho : okAt s i
        · rfl
        · have := hR.out ho
          have := dec_in hi
          omega
      by_cases hk4 : k ≤ 4
      · go_wp2_with fail
        go_ret2
        exact hend
      · go_wp2_with fail
        go_ret2
        exact hend
end Go.Proofs.YtmlhijlcefogmaaGreatDoor
namespace Go.Proofs.YtmlhijlcefogmaaGreatDoor

/-- Can two paths not stand beside one another? -/
def underB (a b : List UInt8) : Bool := (a ++ [47]).isPrefixOf b
def clashB (a b : List UInt8) : Bool := decide (a = b) || underB a b || underB b a

/-- A text is cut at its first slash, or has none. -/
theorem slash_cases (l : List UInt8) : (47 : UInt8) ∉ l ∨ ∃ a b, l = a ++ 47 :: b ∧ (47 : UInt8) ∉ a := by
  induction l with
  | nil => exact .inl (by simp)
  | cons c l ih =>
    by_cases hc : c = 47
    · exact .inr ⟨[], l, by simp [hc], by simp⟩
    · rcases ih with ih | ⟨a, b, rfl, ha⟩
      · exact .inl (by simp [ih]; exact fun e => hc e.symm)
      · exact .inr ⟨c :: a, b, rfl, by simp [ha]; exact fun e => hc e.symm⟩
end Go.Proofs.YtmlhijlcefogmaaGreatDoor
namespace Go.Proofs
open Go.Shelf
end Go.Proofs
namespace Go.Proofs.YtmlhijlcefogmaaGreatDoor
open Go.RowKit

/-- A text that is one: each place that is come to is right. -/
def okFrom (s : ByteArray) (k : Nat) : Prop := (runesAt s k).isSome = true
theorem okFrom.at_ {s : ByteArray} {k : Nat} (h : okFrom s k) (hk : k < s.size) : okAt s k = true ∧ okFrom s (k + (Utf8.decode s k).2) := by
  cases ho : okAt s k
  · unfold okFrom at h; rw [runesAt_bad hk ho] at h; cases h
  · refine ⟨rfl, ?_⟩
    unfold okFrom at h ⊢
    rw [runesAt_ok hk ho] at h
    simpa using h

end Go.Proofs.YtmlhijlcefogmaaGreatDoor
namespace Go.Proofs.YtmlhijlcefogmaaGreatDoor
open Go.RowKit

theorem ba (a b c : Bool) (h : a = true) (h' : b = true) : (a && b && c) = c := by rw [h, h']; simp

/-- The library's variable MaxLen holds a number. -/
def Glob (w : World) : Prop := ∃ m : Int, w.cell? ⟨1, 0, none⟩ = some (.int .i64 m)
theorem Glob.keep {w w' : World} {B : Nat} (h : Glob w) (hb : Below B w w') (hB : 1 < B) : Glob w' := by
  obtain ⟨m, hm⟩ := h
  exact ⟨m, (hb.cell (p := ⟨1, 0, none⟩) hB).trans hm⟩
theorem Glob.lt {w : World} (h : Glob w) : 1 < w.heap.size := by
  obtain ⟨m, hm⟩ := h
  rcases Nat.lt_or_ge 1 w.heap.size with a | a
  · exact a
  · unfold World.cell? at hm
    rw [Array.getElem?_eq_none a] at hm
    cases hm
theorem Glob.next {w w' : World} (h : Glob w) (hb : Below w.heap.size w w') : Glob w' := h.keep hb h.lt

end Go.Proofs.YtmlhijlcefogmaaGreatDoor
namespace Go.Proofs.YtmlhijlcefogmaaGreatDoor

def valOf (l : List UInt8) : Nat := l.foldl (fun a c => 10 * a + (c.toNat - 48)) 0
theorem valOf_snoc (l : List UInt8) (c : UInt8) : valOf (l ++ [c]) = 10 * valOf l + (c.toNat - 48) := by simp [valOf]
theorem digit_toNat {d : Nat} (h : d < 10) : (UInt8.ofNat (48 + d)).toNat = 48 + d := by
  simp; omega
theorem decDigits_step {u : Nat} (h : ¬ u < 10) : Lib.decDigits u = Lib.decDigits (u / 10) ++ [UInt8.ofNat (48 + u % 10)] := by
  rw [Lib.decDigits, dif_neg h]
theorem valOf_digits : ∀ (n u : Nat), u ≤ n → valOf (Lib.decDigits u) = u := by
  intro n
  induction n with
  | zero => intro u hu; rw [show u = 0 by omega, Lib.decDigits_one (by omega)]; decide
  | succ n ih =>
    intro u hu
    by_cases h : u < 10
    · rw [Lib.decDigits_one h]
      have := valOf_snoc [] (UInt8.ofNat (48 + u))
      rw [List.nil_append] at this
      rw [this, digit_toNat h]
      simp [valOf]
    · rw [decDigits_step h, valOf_snoc, ih (u / 10) (by omega), digit_toNat (by omega)]
      omega
theorem decDigits_inj {a b : Nat} (h : Lib.decDigits a = Lib.decDigits b) : a = b := by
  have h1 := valOf_digits a a (Nat.le_refl _)
  have h2 := valOf_digits b b (Nat.le_refl _)
  rw [h] at h1; omega
theorem decDigits_mem : ∀ (n u : Nat), u ≤ n → ∀ c ∈ Lib.decDigits u, 48 ≤ c.toNat ∧ c.toNat ≤ 57 := by
  intro n
  induction n with
  | zero => intro u hu; rw [show u = 0 by omega, Lib.decDigits_one (by omega)]; decide
  | succ n ih =>
    intro u hu c hc
    by_cases h : u < 10
    · rw [Lib.decDigits_one h] at hc
      simp only [List.mem_singleton] at hc
      subst hc
      rw [digit_toNat h]; omega
    · rw [decDigits_step h] at hc
      rcases List.mem_append.1 hc with hc | hc
      · exact ih (u / 10) (by omega) c hc
      · simp only [List.mem_singleton] at hc
        subst hc
        rw [digit_toNat (by omega)]; omega

/-- What stands ahead of the first slash. -/
def firstc (l : List UInt8) : List UInt8 := l.takeWhile (· != 47)
def restc (l : List UInt8) : List UInt8 := l.dropWhile (· != 47)
theorem first_rest (l : List UInt8) : firstc l ++ restc l = l := List.takeWhile_append_dropWhile
theorem firstc_no (l : List UInt8) : (47 : UInt8) ∉ firstc l := by
  induction l with
  | nil => simp [firstc]
  | cons c l ih =>
    unfold firstc at ih ⊢
    rw [List.takeWhile_cons]
    split
    · rename_i hc
      simp only [List.mem_cons, not_or]
      exact ⟨fun e => by rw [← e] at hc; simp at hc, ih⟩
    · simp
theorem firstc_app {a : List UInt8} (ha : (47 : UInt8) ∉ a) (b : List UInt8) : firstc (a ++ 47 :: b) = a := by
  unfold firstc
  rw [List.takeWhile_append_of_pos]
  · simp
  · intro x hx
    simp only [bne_iff_ne]
    intro e; exact ha (e ▸ hx)
theorem firstc_lone {a : List UInt8} (ha : (47 : UInt8) ∉ a) : firstc a = a := by
  have := List.takeWhile_append_of_pos (p := (· != (47 : UInt8))) (l₁ := a) (l₂ := []) (by
    intro x hx
    simp only [bne_iff_ne]
    intro e; exact ha (e ▸ hx))
  simpa [firstc] using this
theorem restc_form (l : List UInt8) : restc l = [] ∨ ∃ b, restc l = 47 :: b := by
  rcases slash_cases l with h | ⟨a, b, rfl, ha⟩
  · left
    have := first_rest l
    rw [firstc_lone h] at this
    have := congrArg List.length this
    simp at this
    exact this
  · right
    have := first_rest (a ++ 47 :: b)
    rw [firstc_app ha] at this
    exact ⟨b, List.append_cancel_left this⟩

theorem under_first {a b : List UInt8} (h : underB a b = true) : firstc a = firstc b := by
  unfold underB at h
  rw [List.isPrefixOf_iff_prefix] at h
  obtain ⟨t, rfl⟩ := h
  rw [List.append_assoc]
  rcases slash_cases a with ha | ⟨x, y, rfl, hx⟩
  · rw [firstc_lone ha]; exact (firstc_app ha _).symm
  · rw [firstc_app hx, List.append_assoc]; exact (firstc_app hx _).symm
theorem clash_first {a b : List UInt8} (h : clashB a b = true) : firstc a = firstc b := by
  unfold clashB at h
  simp only [Bool.or_eq_true, decide_eq_true_eq] at h
  rcases h with (h | h) | h
  · rw [h]
  · exact under_first h
  · exact (under_first h).symm

/-- The candidate of a number. -/
def candS (l : List UInt8) (n : Nat) : List UInt8 := firstc l ++ [126] ++ Lib.decDigits n ++ restc l
theorem cand_first (l : List UInt8) (n : Nat) : firstc (candS l n) = firstc l ++ [126] ++ Lib.decDigits n := by
  have hno : (47 : UInt8) ∉ firstc l ++ [126] ++ Lib.decDigits n := by
    intro h
    rcases List.mem_append.1 h with h | h
    · rcases List.mem_append.1 h with h | h
      · exact firstc_no l h
      · simp at h
    · have := decDigits_mem n n (Nat.le_refl _) _ h
      simp at this
  unfold candS
  rcases restc_form l with h | ⟨b, h⟩
  · rw [h, List.append_nil, firstc_lone hno]
  · rw [h, firstc_app hno]
theorem cand_inj {l : List UInt8} {a b : Nat} (h : firstc (candS l a) = firstc (candS l b)) : a = b := by
  rw [cand_first, cand_first] at h
  exact decDigits_inj (List.append_cancel_left h)

def clashesB (t : List UInt8) (taken : List (List UInt8)) : Bool := taken.any (clashB t)

theorem pigeon {α : Type} [DecidableEq α] (f : Nat → α) (hf : ∀ a b, f a = f b → a = b) : ∀ (T : List α) (J : List Nat), J.Nodup → (∀ j ∈ J, f j ∈ T) → J.length ≤ T.length := by
  intro T
  induction T with
  | nil =>
    intro J _ h
    cases J with
    | nil => simp
    | cons j J => exact absurd (h j (by simp)) (by simp)
  | cons t T ih =>
    intro J hJ h
    by_cases he : ∃ j ∈ J, f j = t
    · obtain ⟨j0, hj0, hf0⟩ := he
      have h1 := ih (J.erase j0) (hJ.erase j0) (by
        intro j hj
        have hm := (List.Nodup.mem_erase_iff hJ).1 hj
        rcases List.mem_cons.1 (h j hm.2) with e | e
        · exact absurd (hf _ _ (e.trans hf0.symm)) hm.1
        · exact e)
      rw [List.length_erase_of_mem hj0] at h1
      simp only [List.length_cons]; omega
    · have h1 := ih J hJ (by
        intro j hj
        rcases List.mem_cons.1 (h j hj) with e | e
        · exact absurd ⟨j, hj, e⟩ he
        · exact e)
      simp only [List.length_cons]; omega

/-- Candidates that clash are no more than the taken ones. -/
theorem cand_few {l : List UInt8} {taken : List (List UInt8)} {m : Nat} (h : ∀ j, 1 ≤ j → j ≤ m → clashesB (candS l j) taken = true) : m ≤ taken.length := by
  have := pigeon (fun j => firstc (candS l (j + 1))) (fun a b e => by have := cand_inj e; omega) (taken.map firstc) (List.range m) List.nodup_range (by
    intro j hj
    have hj' : j < m := by simpa using hj
    have hc := h (j + 1) (by omega) (by omega)
    unfold clashesB at hc
    rw [List.any_eq_true] at hc
    obtain ⟨o, ho, hco⟩ := hc
    rw [show firstc (candS l (j + 1)) = firstc o from clash_first hco]
    exact List.mem_map_of_mem ho)
  simpa using this

/-- Tries on, at number n. -/
def freshGo (l : List UInt8) (taken : List (List UInt8)) : Nat → Nat → List UInt8 → List UInt8
  | 0, _, t => t
  | f + 1, n, t => if clashesB t taken then freshGo l taken f (n + 1) (candS l n) else t
/-- A path that clashes with none. -/
def freshS (l : List UInt8) (taken : List (List UInt8)) : List UInt8 := freshGo l taken (taken.length + 2) 1 l

end Go.Proofs.YtmlhijlcefogmaaGreatDoor
namespace Go.Proofs.YtmlhijlcefogmaaGreatDoor
open Go.RowKit

/-- The loop's state: at number k, with f steps left, the text t is tried. -/
structure Trying (s : ByteArray) (taken : List (List UInt8)) (k f : Nat) (t : ByteArray) : Prop where
  one : 1 ≤ k
  sum : k + f = taken.length + 3
  size : t.size ≤ s.size + 4
  is : freshS (L s) taken = freshGo (L s) taken f k (L t)
  cand : 2 ≤ k → L t = candS (L s) (k - 1)
  behind : ∀ j, 1 ≤ j → j + 1 < k → clashesB (candS (L s) j) taken = true

theorem Trying.start (s : ByteArray) (taken : List (List UInt8)) : Trying s taken 1 (taken.length + 2) s :=
  ⟨by omega, by omega, by omega, rfl, fun h => absurd h (by omega), fun j h1 h2 => absurd h2 (by omega)⟩
theorem Trying.left {s t : ByteArray} {taken : List (List UInt8)} {k f : Nat} (h : Trying s taken k f t) : ∃ g, f = g + 1 ∧ k ≤ taken.length + 2 := by
  have := cand_few (l := L s) (taken := taken) (m := k - 2) (fun j h1 h2 => h.behind j h1 (by omega))
  have := h.sum
  exact ⟨f - 1, by omega, by omega⟩
theorem Trying.next {s t t' : ByteArray} {taken : List (List UInt8)} {k f : Nat} (h : Trying s taken k (f + 1) t) (hc : clashesB (L t) taken = true) (ht : L t' = candS (L s) k) (hz : t'.size ≤ s.size + 4) : Trying s taken (k + 1) f t' := by
  have h1 := h.one
  refine ⟨by omega, by have := h.sum; omega, hz, ?_, fun _ => by rw [Nat.add_sub_cancel]; exact ht, fun j hj hk => ?_⟩
  · rw [h.is, freshGo, if_pos hc, ht]
  · rcases (by omega : j + 1 < k ∨ j = k - 1) with a | a
    · exact h.behind j hj a
    · subst a
      rw [← h.cand (by omega)]; exact hc
theorem Trying.done {s t : ByteArray} {taken : List (List UInt8)} {k f : Nat} (h : Trying s taken k (f + 1) t) (hc : clashesB (L t) taken = false) : L t = freshS (L s) taken := by
  rw [h.is, freshGo, if_neg (by rw [hc]; simp)]

end Go.Proofs.YtmlhijlcefogmaaGreatDoor
