/-
  What the functions of utf (Check) and of the reference's layer 3 (May, Bytes, One) give. Conditions: a place lies within the text; a rune lies in its range.
  The contracts of Go's library that this claim uses, laid at this program by the kit's tools (lay-shelf, lay-plain). Conditions: as each says.
  What layer 7's predicates of one text give: sign, shown, plain, Author, Note, Name, Path. Conditions: none but that a text's length is an int's; Path asks that the library's variable MaxLen holds a number.
-/
import Derived.Test.YthjaepmfkgejkaaGreatDoorUtfWalks
import Derived.Test.YthjaepmfkgejkaaGreatDoorMerged1
import Derived.Deep.RegionWith
import Derived.Deep.DeepCutAuto
import Derived.Deep.CutBlock
import Derived.Deep.LoopGhost
import Derived.Deep.QuietTactic
import Derived.BigQuiet
import Derived.WalkSmall
import Derived.WalkSpells
import Derived.WalkLawsBesides
import Derived.Shelf.Strings.Split
import Derived.Test.YthjaepmfkgejkaaGreatDoorProg
import Derived.Test.YthjaepmfkgejkaaGreatDoorMerged3
import Derived.Test.YthjaepmfkgejkaaGreatDoorMerged2
import Derived.Lib.OthersKept
set_option linter.unusedVariables false
set_option maxHeartbeats 4000000
set_option maxRecDepth 100000
namespace Go.Proofs.YthjaepmfkgejkaaGreatDoor
open Lib (hid)
open Go.RowKit
def ChkGives (s : ByteArray) (w : World) (e : Ending) (w' : World) : Prop :=
  w = w' ∧ (K1 s = true ∧ e = .returned (.tuple #[.int .i64 0, .int .i64 0]) ∨ K1 s = false ∧ ∃ n : Int, e = .returned (.tuple #[.int .i64 n, .int .i64 5]))
theorem Z1 (s : ByteArray) (w : World) (hs : s.size ≤ maxLen) :
    Calls Tryz.prog 82 #[.string s] w (ChkGives s w) := by
  have hs' := hs
  unfold maxLen at hs
  go_enter Tryz.func82, Tryz.ntmps82
  go_wp2
  go_loop [2] (fun t => ∃ k : Nat, k ≤ s.size ∧ t = .int .i64 k ∧ Hid (K1 s = (jB s k).isSome)) (fun t => s.size - (intOf t).toNat)
  case atStart => exact ⟨0, Nat.zero_le _, rfl, hid rfl⟩
  case round =>
    obtain ⟨k, hk, rfl, hR⟩ := hrel
    by_cases hlt : k < s.size
    ·
     have hin := Jx hlt
     go_wp2_with fail
     refine (decode_any s k _ hlt hs').mono ?_
     rintro e w' ⟨rfl, ⟨ho, rfl⟩ | ⟨ho, r, n, rfl⟩⟩
     ·
      have HO := hid ho; clear ho
      go_wp2_with fail
      go_round
      case rel => exact ⟨k + (Utf8.decode s k).2, by omega, rfl, hid (by rw [hR.out, KX hlt HO.out]; simp)⟩
      case measure => simp [intOf]; omega
     ·
      have HO := hid ho; clear ho
      go_wp2_with fail
      go_ret2
      exact ⟨rfl, .inr ⟨by rw [hR.out, JM hlt HO.out]; rfl, _, rfl⟩⟩
    · go_wp2_with fail
      go_ret2
      exact ⟨rfl, .inl ⟨by rw [hR.out, KG (by omega)]; rfl, rfl⟩⟩
theorem U0 (r : Int) (w : World) (h0 : 0 ≤ r) (h1 : r ≤ 2147483647) : Calls Tryz.prog 113 #[.int .i32 r] w fun e w' =>
    w = w' ∧ e = .returned (.bool (K5 r))  := by
  by_cases a2 : r < 55296
  ·
   rw [show K5 r = true by simp [K5]; omega]
   go_enter Tryz.func113, Tryz.ntmps113
   go_wp2
   go_ret
   exact ⟨rfl, rfl⟩
  ·
   have : 55296 ≤ r := by omega
   by_cases a3 : 57343 < r
   ·
    rw [show K5 r = decide (r ≤ 1114111) by unfold K5; rw [Bool.eq_iff_iff]; simp; omega]
    go_enter Tryz.func113, Tryz.ntmps113
    go_wp2
    go_ret
    exact ⟨rfl, rfl⟩
   ·
    rw [show K5 r = false by unfold K5; rw [Bool.eq_false_iff]; simp; omega]
    go_enter Tryz.func113, Tryz.ntmps113
    go_wp2
    go_ret
    exact ⟨rfl, rfl⟩
theorem vB (r : Int) (w : World) (h0 : 0 ≤ r) (h1 : r ≤ 1114111) : Calls Tryz.prog 114 #[.int .i32 r] w fun e w' =>
    w.alloc (.cells ((JL r).map (Value.int .u8)).toArray 5) = w' ∧ e = .returned (.slice (some ⟨w.heap.size, 0, none⟩) (JL r).length (JL r).length) := by
  rcases (by omega : r < 128 ∨ (128 ≤ r ∧ r < 2048) ∨ (2048 ≤ r ∧ r < 65536) ∨ 65536 ≤ r) with a | ⟨a, b⟩ | ⟨a, b⟩ | a
  ·
   rw [Ux a]
   go_enter Tryz.func114, Tryz.ntmps114
   go_wp2
   go_ret
   exact ⟨rfl, rfl⟩
  ·
   rw [uI a b]
   go_enter Tryz.func114, Tryz.ntmps114
   go_wp2
   go_ret
   exact ⟨rfl, rfl⟩
  ·
   rw [Uy a b]
   go_enter Tryz.func114, Tryz.ntmps114
   go_wp2
   go_ret
   exact ⟨rfl, rfl⟩
  ·
   rw [Uz a]
   go_enter Tryz.func114, Tryz.ntmps114
   go_wp2
   go_ret
   exact ⟨rfl, rfl⟩
def OneGives (s : ByteArray) (i : Nat) (w : World) (e : Ending) (w' : World) : Prop :=
  Below w.heap.size w w' ∧ (K4 s i = true ∧ e = .returned (.tuple #[.int .i32 (Utf8.decode s i).1, .int .i64 ((Utf8.decode s i).2 : Int)]) ∨
    K4 s i = false ∧ e = .returned (.tuple #[.int .i32 0, .int .i64 0]))
theorem Zg {s : ByteArray} {i k : Nat} (h : K4 s i = true → k ≤ (Utf8.decode s i).2) (n : ¬ hit s i k) : K4 s i = true → k + 1 ≤ (Utf8.decode s i).2 := by
  intro ho
  have := h ho
  rcases Nat.lt_or_ge k (Utf8.decode s i).2 with a | a
  · exact a
  · exact absurd ⟨ho, by omega⟩ n
theorem one_any (s : ByteArray) (i : Nat) (w : World) (hi : i < s.size) (hs : s.size ≤ maxLen) : Calls Tryz.prog 83 #[.string s, .int .i64 i] w (OneGives s i w) := by
  unfold maxLen at hs
  have hb := getB s
  have hB := KA s i
  have hB1 := KA s (i + 1)
  have hB2 := KA s (i + 2)
  have hB3 := KA s (i + 3)
  have hsz : (i : Int) < (s.size : Int) := by omega
  go_enter Tryz.func83, Tryz.ntmps83
  go_wp2
  go_loopw [6] (fun n wr => ∃ k : Nat, 1 ≤ k ∧ n = .int .i64 k ∧ Below w.heap.size w wr ∧ Hid (K4 s i = true → k ≤ (Utf8.decode s i).2)) (fun n _ => 5 - (intOf n).toNat)
  case atStart => exact ⟨1, by omega, rfl, Below.refl _ _, hid fun _ => (Jx hi).2.1⟩
  case round =>
    obtain ⟨k, hk, rfl, hbw, hR⟩ := hrel
    by_cases hin : k ≤ 4 ∧ i + k ≤ s.size
    ·
     obtain ⟨hk4, hik⟩ := hin
     have hvr := vOf_range s i k
     go_upto_block 2 with (fail)
     go_cut [7] (fun s7 wx => s7 = .int .i64 (vOf s i k) ∧ Below w.heap.size w wx)
     case first =>
       rcases (by omega : k = 1 ∨ k = 2 ∨ k = 3 ∨ k = 4) with rfl | rfl | rfl | rfl
       · go_wp2_with fail
         go_meet
         exact ⟨rfl, hbw⟩
       ·
        have h1 : (i : Int) + 1 < s.size := by omega
        go_wp2_with fail
        go_quiet (fail)
        go_wp2_with fail
        go_meet
        exact ⟨rfl, below_drewN hbw _⟩
       ·
        have h1 : (i : Int) + 1 < s.size := by omega
        have h2 : (i : Int) + 2 < s.size := by omega
        go_wp2_with fail
        go_quiet (fail)
        go_wp2_with fail
        go_meet
        exact ⟨rfl, below_drewN hbw _⟩
       ·
        have h1 : (i : Int) + 1 < s.size := by omega
        have h2 : (i : Int) + 2 < s.size := by omega
        have h3 : (i : Int) + 3 < s.size := by omega
        go_wp2_with fail
        go_quiet (fail)
        go_wp2_with fail
        go_meet
        exact ⟨rfl, below_drewN hbw _⟩
     case rest =>
       obtain ⟨rfl, hbx⟩ := hcut
       by_cases hm : K5 (vOf s i k) = true
       ·
        have hmr := UA hm
        have HM := hid hm; clear hm
        generalize hv : vOf s i k = v at *
        have HV := hid hv; clear hv
        have hw1 : IntKind.i32.wrap v = v := IntWalk.i32_in _ (by omega)
        go_wp2_with (go_at_call 113; refine (U0 _ _ (by omega) (by omega)).mono ?_; rw [HM.out]; rintro e w' ⟨rfl, rfl⟩)
        have hconv : ∀ wx : World, (convert 22 9 (.slice (some ⟨wx.heap.size, 0, none⟩) (JL v).length (JL v).length)).run Tryz.prog (wx.alloc (.cells ((JL v).map (Value.int .u8)).toArray 5)).drew = .ok (.string (strOfNums (JL v))) (wx.alloc (.cells ((JL v).map (Value.int .u8)).toArray 5)).drew := by
          intro wx
          refine run_convert_bytes_arg _ 22 5 Tryz.underlying22 Tryz.underlying5 _ 0 _ _ _ rfl ?_ 9 Tryz.underlying9
          intro j hj
          rw [Nat.zero_add]
          show (wx.alloc _).cell? _ = _
          rw [World.cell?_alloc_new]
          simp [List.getD, hj]
        have hw2 : IntKind.i64.wrap ((i : Int) + (k : Int)) = (i : Int) + k := IntWalk.i64_in _ (by omega)
        have hsl : ∀ wx : World, (Instr.slice 9 (.string s) (some (.int .i64 (i : Int))) (some (.int .i64 ((i : Int) + (k : Int)))) none).run Tryz.prog wx = .ok (.string (s.extract i (i + k))) wx := by
          intro wx
          have := run_slice_string (P := Tryz.prog) (w := wx) 9 s .i64 .i64 (i : Int) ((i : Int) + k) Tryz.underlying9 (by omega) (by omega) (by omega)
          rw [this]
          congr 2
        have heq := enc_beq (v := v) hk hk4 hik (by omega) (by omega)
        by_cases hh : JL v = zk s i k
        ·
         rw [decide_eq_true hh] at heq
         have HH := hid hh; clear hh
         go_region_with (go_at_call 114; refine (vB _ _ (by omega) (by omega)).mono ?_; rintro e w' ⟨rfl, rfl⟩)
         go_wp2_with fail
         go_ret2
         have ht : hit s i k := vOf_miss hk hk4 hik (by rw [HV.out]; exact HM.out) (by rw [HV.out]; exact HH.out)
         obtain ⟨e1, _⟩ := UZ ht
         refine ⟨(hbx.alloc hbx.size _).drew, .inl ⟨ht.1, ?_⟩⟩
         rw [← e1, ht.2, HV.out]
         rfl
        ·
         rw [decide_eq_false hh] at heq
         have HH := hid hh; clear hh
         go_region_with (go_at_call 114; refine (vB _ _ (by omega) (by omega)).mono ?_; rintro e w' ⟨rfl, rfl⟩)
         go_wp2_with fail
         go_roundw
         case rel =>
           refine ⟨k + 1, by omega, by go_num, (hbx.alloc hbx.size _).drew, hid (Zg hR.out ?_)⟩
           intro ht
           obtain ⟨e1, _, e3, _⟩ := UZ ht
           rw [← e1, HV.out] at e3
           exact HH.out e3
         case measure => simp [intOf]; omega
       ·
        have hno : ¬ hit s i k := by
          intro ht
          obtain ⟨e1, e2, _⟩ := UZ ht
          rw [← e1] at e2
          exact hm e2
        have HN := hid hno; clear hno
        have hmf : K5 (vOf s i k) = false := by simpa using hm
        clear hm
        have HM := hid hmf; clear hmf
        generalize hv : vOf s i k = v at *
        clear hv
        by_cases hr : 0 ≤ v ∧ v ≤ 1114111
        ·
         have hw1 : IntKind.i32.wrap v = v := IntWalk.i32_in _ (by omega)
         go_wp2_with (go_at_call 113; refine (U0 _ _ (by omega) (by omega)).mono ?_; rw [HM.out]; rintro e w' ⟨rfl, rfl⟩)
         go_roundw
         case rel => exact ⟨k + 1, by omega, by go_num, hbx, hid (Zg hR.out HN.out)⟩
         case measure => simp [intOf]; omega
        ·
         by_cases hr0 : v < 0
         rotate_left
         focus
           have hr1 : 1114111 < v := by omega
         all_goals
           go_wp2_with fail
           go_roundw
           case rel => exact ⟨k + 1, by omega, by go_num, hbx, hid (Zg hR.out HN.out)⟩
           case measure => simp [intOf]; omega
    ·
     have hend : OneGives s i w (.returned (.tuple #[.int .i32 0, .int .i64 0])) wr := by
       refine ⟨hbw, .inr ⟨?_, rfl⟩⟩
       cases ho : K4 s i
       · rfl
       · have := hR.out ho
         have := Jx hi
         omega
     by_cases hk4 : k ≤ 4
     · go_wp2_with fail
       go_ret2
       exact hend
     · go_wp2_with fail
       go_ret2
       exact hend
end Go.Proofs.YthjaepmfkgejkaaGreatDoor
namespace Go.Proofs
open Go.Shelf
def Tryz.lays146_ren : Go.Shelf.Ren := ⟨fun | 146 => 124 | 221 => 131 | 268 => 133 | 138 => 134 | 143 => 135 | 195 => 136 | 197 => 137 | 218 => 138 | 219 => 139 | 260 => 140 | 217 => 141 | 225 => 142 | 224 => 143 | 267 => 144 | 266 => 145 | 314 => 146 | n => n, fun | 9 => 9 | 31 => 175 | 3 => 3 | 4 => 4 | 0 => 0 | 105 => 135 | 21 => 21 | 5 => 5 | 46 => 86 | 119 => 188 | 139 => 191 | 138 => 190 | 146 => 192 | 51 => 83 | n => n, fun | 1 => 2 | 3 => 3 | 4 => 4 | n => n⟩
theorem Tryz.lays146 : Go.Proofs.Lays.n146 Tryz.prog Tryz.lays146_ren := {
  mixed := by kernel_rfl
  f138 := Tryz.func134.trans (congrArg some (by kernel_rfl))
  f143 := Tryz.func135.trans (congrArg some (by kernel_rfl))
  f146 := Tryz.func124.trans (congrArg some (by kernel_rfl))
  f195 := Tryz.func136.trans (congrArg some (by kernel_rfl))
  f197 := Tryz.func137.trans (congrArg some (by kernel_rfl))
  f217 := Tryz.func141.trans (congrArg some (by kernel_rfl))
  f218 := Tryz.func138.trans (congrArg some (by kernel_rfl))
  f219 := Tryz.func139.trans (congrArg some (by kernel_rfl))
  f221 := Tryz.func131.trans (congrArg some (by kernel_rfl))
  f224 := Tryz.func143.trans (congrArg some (by kernel_rfl))
  f225 := Tryz.func142.trans (congrArg some (by kernel_rfl))
  f260 := Tryz.func140.trans (congrArg some (by kernel_rfl))
  f266 := Tryz.func145.trans (congrArg some (by kernel_rfl))
  f267 := Tryz.func144.trans (congrArg some (by kernel_rfl))
  f268 := Tryz.func133.trans (congrArg some (by kernel_rfl))
  f314 := Tryz.func146.trans (congrArg some (by kernel_rfl))
  t0 := Tryz.underlying0
  a0 := Tryz.isAgg0
  z0 := Tryz.sizeOf0
  v0 := Tryz.zeroValue0
  t3 := Tryz.underlying3
  a3 := Tryz.isAgg3
  z3 := Tryz.sizeOf3
  v3 := Tryz.zeroValue3
  t4 := Tryz.underlying4
  a4 := Tryz.isAgg4
  z4 := Tryz.sizeOf4
  v4 := Tryz.zeroValue4
  t5 := Tryz.underlying5
  a5 := Tryz.isAgg5
  z5 := Tryz.sizeOf5
  v5 := Tryz.zeroValue5
  t9 := Tryz.underlying9
  a9 := Tryz.isAgg9
  z9 := Tryz.sizeOf9
  v9 := Tryz.zeroValue9
  t21 := Tryz.underlying21
  a21 := Tryz.isAgg21
  z21 := Tryz.sizeOf21
  v21 := Tryz.zeroValue21
  t31 := Tryz.underlying175
  a31 := Tryz.isAgg175
  z31 := Tryz.sizeOf175
  v31 := Tryz.zeroValue175
  t46 := Tryz.underlying86
  a46 := Tryz.isAgg86
  z46 := Tryz.sizeOf86
  v46 := Tryz.zeroValue86
  t51 := Tryz.underlying83
  a51 := Tryz.isAgg83
  z51 := Tryz.sizeOf83
  v51 := Tryz.zeroValue83
  t105 := Tryz.underlying135
  a105 := Tryz.isAgg135
  z105 := Tryz.sizeOf135
  v105 := Tryz.zeroValue135
  t119 := Tryz.underlying188
  a119 := Tryz.isAgg188
  z119 := Tryz.sizeOf188
  t138 := Tryz.underlying190
  a138 := Tryz.isAgg190
  z138 := Tryz.sizeOf190
  v138 := Tryz.zeroValue190
  t139 := Tryz.underlying191
  a139 := Tryz.isAgg191
  z139 := Tryz.sizeOf191
  v139 := Tryz.zeroValue191
  t146 := Tryz.underlying192
  a146 := Tryz.isAgg192
  z146 := Tryz.sizeOf192
  v146 := Tryz.zeroValue192
  g1 := by kernel_rfl
  g3 := by kernel_rfl
  g4 := by kernel_rfl }
open Go.RowKit Go.Lib in
theorem Tryz.strings_Split (s sep : ByteArray) (m : Int) (w : World) (hs : s.size < 4294967281) (hm : w.cell? ⟨2, 0, none⟩ = some (.int .i64 m)) (h1 : 1 ≤ sep.size) :
    Calls Tryz.prog 124 #[.string s, .string sep] w fun e w' =>
      e = .returned (.slice (some ⟨w.heap.size, 0, none⟩) (Lib.countB s sep + 1) (Lib.countB s sep + 1)) ∧ w' = w.alloc (.cells ((Lib.splitB sep 0 (Lib.countB s sep) s).map Value.string).toArray 9) := Any.strings_Split Tryz.lays146 (by kernel_rfl) s sep m w hs hm h1
end Go.Proofs
namespace Go.Proofs.YthjaepmfkgejkaaGreatDoor
open Lib (hid)
open Go.RowKit
theorem vC {a b : Bool} (h : a = b) : Ending.returned (.bool a) = .returned (.bool b) := by rw [h]
theorem shown_any (r : Nat) (w : World) (hr : r ≤ 2147483647) : Calls Tryz.prog 98 #[.int .i32 r] w fun e w' => w = w' ∧ e = .returned (.bool (jD r)) := by
  have hy : 32 ≤ r ∧ r ≠ 127 → jD r = true := by intro h; simp [jD, h]
  have hn : ¬ (32 ≤ r ∧ r ≠ 127) → jD r = false := by intro h; rw [Bool.eq_false_iff]; simp [jD]; omega
  rcases (by omega : r < 32 ∨ r = 127 ∨ (32 ≤ r ∧ r < 127) ∨ 127 < r) with h | h | h | h
  all_goals
    first
    | rw [hy (by omega)]
    | rw [hn (by omega)]
    clear hy hn
    first
    | (subst h; go_enter Tryz.func98, Tryz.ntmps98; go_wp2; go_ret; refine ⟨rfl, vC ?_⟩; simp; done)
    | (go_enter Tryz.func98, Tryz.ntmps98; go_wp2; go_ret; refine ⟨rfl, vC ?_⟩; simp; omega)
    | (go_enter Tryz.func98, Tryz.ntmps98; go_wp2; go_ret; refine ⟨rfl, vC ?_⟩; simp; done)
    | (go_enter Tryz.func98, Tryz.ntmps98; go_wp2; go_ret; refine ⟨rfl, vC ?_⟩; simp; omega)
theorem yes_any (r : Nat) (w : World) : Calls Tryz.prog 104 #[.int .i32 r] w fun e w' => w = w' ∧ e = .returned (.bool true) := by
  go_enter Tryz.func104, Tryz.ntmps104
  go_wp2
  go_ret
  exact ⟨rfl, rfl⟩
theorem vD {p : Nat → Bool} {s : ByteArray} {k : Nat} (h : k < s.size) (ho : K4 s k = true) :
    ((jB s k).map (·.all p)) = (((jB s (k + (Utf8.decode s k).2)).map (·.all p)).map (p (Utf8.decode s k).1 && ·)) := by
  rw [KX h ho]
  cases jB s (k + (Utf8.decode s k).2) <;> simp
def okFrom (s : ByteArray) (k : Nat) : Prop := (jB s k).isSome = true
theorem okFrom.at_ {s : ByteArray} {k : Nat} (h : okFrom s k) (hk : k < s.size) : K4 s k = true ∧ okFrom s (k + (Utf8.decode s k).2) := by
  cases ho : K4 s k
  · unfold okFrom at h; rw [JM hk ho] at h; cases h
  ·
   refine ⟨rfl, ?_⟩
   unfold okFrom at h ⊢
   rw [KX hk ho] at h
   simpa using h
theorem Zx (s : ByteArray) (w : World) (hs : s.size ≤ maxLen) :
    Calls Tryz.prog 97 #[.string s, .func (.func 98) #[] #[]] w fun e w' => Below w.heap.size w w' ∧ e = .returned (.bool (jS s jD)) := by
  go_enter Tryz.func97, Tryz.ntmps97
  go_wp2_with fail
  refine (Z1 s _ hs).mono ?_
  rintro e w1 ⟨rfl, ⟨ht, rfl⟩ | ⟨ht, n, rfl⟩⟩
  ·
   have hpl : jS s jD = ((jB s 0).map (·.all jD)).getD false := by
     unfold jS; rw [vi]
     cases jB s 0 <;> rfl
   have HP := hid hpl; clear hpl
   have hok : okFrom s 0 := ht
   have HK := hid hok; clear hok
   clear ht
   unfold maxLen at hs
   go_wp2_with fail
   go_loopw [] (fun wr => ∃ k : Nat, k ≤ s.size ∧ wr = w.iter s k ∧ Hid (okFrom s k) ∧ Hid (jS s jD = ((jB s k).map (·.all jD)).getD false)) (fun wr => s.size - wr.iterPos w.heap.size)
   case atStart => exact ⟨0, by omega, rfl, HK, HP⟩
   case round =>
     obtain ⟨k, hk, rfl, hK, hR⟩ := hrel
     by_cases hp : k < s.size
     ·
      have hnx : ∀ ty, (Instr.next (.pointer (some ⟨w.heap.size, 0, none⟩)) true ty).run Tryz.prog (w.iter s k) = _ := fun ty => run_next_any w s k ty hp
      have hin := Jx hp
      have hrl := decode_le s k
      obtain ⟨ho, hk2⟩ := hK.out.at_ hp
      have HO := hid ho; clear ho
      have HK2 := hid hk2; clear hk2
      cases hpr : jD (Utf8.decode s k).1
      all_goals
        have HPR := hid hpr; clear hpr
        go_wp2_with fail
        refine (shown_any _ _ hrl).mono ?_
        rintro e w2 ⟨rfl, rfl⟩
        rw [HPR.out]
        go_wp2_with fail
      ·
       go_ret
       refine ⟨(Below.refl _ w).alloc (Nat.le_refl _) _, ?_⟩
       rw [hR.out, vD hp HO.out, HPR.out]
       cases jB s (k + (Utf8.decode s k).2) <;> rfl
      ·
       go_roundw
       case rel =>
         refine ⟨k + (Utf8.decode s k).2, by omega, rfl, HK2, hid ?_⟩
         rw [hR.out, vD hp HO.out, HPR.out]
         cases jB s (k + (Utf8.decode s k).2) <;> simp
       case measure => simp; omega
     ·
      have hnx : ∀ ty, (Instr.next (.pointer (some ⟨w.heap.size, 0, none⟩)) true ty).run Tryz.prog (w.iter s k) = _ := fun ty => run_next_end w s k ty hp
      go_wp2_with fail
      go_ret
      refine ⟨(Below.refl _ w).alloc (Nat.le_refl _) _, ?_⟩
      rw [hR.out, KG (by omega)]; rfl
  ·
   have HT := hid ht; clear ht
   go_wp2_with fail
   go_ret
   exact ⟨Below.refl _ _, by rw [um HT.out]; rfl⟩
def qf (_ : Nat) : Bool := true
theorem anyB_text (s : ByteArray) : jS s qf = K1 s := plainB_true
theorem yes_any' (r : Nat) (w : World) : Calls Tryz.prog 104 #[.int .i32 r] w fun e w' => w = w' ∧ e = .returned (.bool (qf r)) := yes_any r w
theorem plain_yes (s : ByteArray) (w : World) (hs : s.size ≤ maxLen) :
    Calls Tryz.prog 97 #[.string s, .func (.func 104) #[] #[]] w fun e w' => Below w.heap.size w w' ∧ e = .returned (.bool (jS s qf)) := by
  go_enter Tryz.func97, Tryz.ntmps97
  go_wp2_with fail
  refine (Z1 s _ hs).mono ?_
  rintro e w1 ⟨rfl, ⟨ht, rfl⟩ | ⟨ht, n, rfl⟩⟩
  ·
   have hpl : jS s qf = ((jB s 0).map (·.all qf)).getD false := by
     unfold jS; rw [vi]
     cases jB s 0 <;> rfl
   have HP := hid hpl; clear hpl
   have hok : okFrom s 0 := ht
   have HK := hid hok; clear hok
   clear ht
   unfold maxLen at hs
   go_wp2_with fail
   go_loopw [] (fun wr => ∃ k : Nat, k ≤ s.size ∧ wr = w.iter s k ∧ Hid (okFrom s k) ∧ Hid (jS s qf = ((jB s k).map (·.all qf)).getD false)) (fun wr => s.size - wr.iterPos w.heap.size)
   case atStart => exact ⟨0, by omega, rfl, HK, HP⟩
   case round =>
     obtain ⟨k, hk, rfl, hK, hR⟩ := hrel
     by_cases hp : k < s.size
     ·
      have hnx : ∀ ty, (Instr.next (.pointer (some ⟨w.heap.size, 0, none⟩)) true ty).run Tryz.prog (w.iter s k) = _ := fun ty => run_next_any w s k ty hp
      have hin := Jx hp
      have hrl := decode_le s k
      obtain ⟨ho, hk2⟩ := hK.out.at_ hp
      have HO := hid ho; clear ho
      have HK2 := hid hk2; clear hk2
      cases hpr : qf (Utf8.decode s k).1
      all_goals
        have HPR := hid hpr; clear hpr
        go_wp2_with fail
        refine (yes_any' _ _).mono ?_
        rintro e w2 ⟨rfl, rfl⟩
        rw [HPR.out]
        go_wp2_with fail
      ·
       go_ret
       refine ⟨(Below.refl _ w).alloc (Nat.le_refl _) _, ?_⟩
       rw [hR.out, vD hp HO.out, HPR.out]
       cases jB s (k + (Utf8.decode s k).2) <;> rfl
      ·
       go_roundw
       case rel =>
         refine ⟨k + (Utf8.decode s k).2, by omega, rfl, HK2, hid ?_⟩
         rw [hR.out, vD hp HO.out, HPR.out]
         cases jB s (k + (Utf8.decode s k).2) <;> simp
       case measure => simp; omega
     ·
      have hnx : ∀ ty, (Instr.next (.pointer (some ⟨w.heap.size, 0, none⟩)) true ty).run Tryz.prog (w.iter s k) = _ := fun ty => run_next_end w s k ty hp
      go_wp2_with fail
      go_ret
      refine ⟨(Below.refl _ w).alloc (Nat.le_refl _) _, ?_⟩
      rw [hR.out, KG (by omega)]; rfl
  ·
   have HT := hid ht; clear ht
   go_wp2_with fail
   go_ret
   exact ⟨Below.refl _ _, by rw [um HT.out]; rfl⟩
end Go.Proofs.YthjaepmfkgejkaaGreatDoor
