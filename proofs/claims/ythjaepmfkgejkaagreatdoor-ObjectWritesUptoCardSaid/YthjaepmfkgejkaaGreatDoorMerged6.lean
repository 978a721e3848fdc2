/-
  What the functions of utf (Check) and of the reference's layer 3 (May, Bytes, One) give. Conditions: a place lies within the text; a rune lies in its range.
  The contracts of Go's library that this claim uses, laid at this program by the kit's tools (lay-shelf, lay-plain). Conditions: as each says.
  What layer 7's predicates of one text give: sign, shown, plain, Author, Note, Name, Path. Conditions: none but that a text's length is an int's; Path asks that the library's variable MaxLen holds a number.
  What Author, Note, Name and Path give. Path asks that the library's variable MaxLen holds a number.
  A path that clashes with none, as a plain function; that it is found within as many steps as there are taken paths. No conditions; no program.
  What Clash and Fresh give. Conditions: texts of at most 2^47 bytes; at most 97 taken paths (Fresh).
-/
import Derived.Test.YthjaepmfkgejkaaGreatDoorMerged5
import Derived.Test.YthjaepmfkgejkaaGreatDoorMerged4
import Derived.Deep.RegionWith
import Derived.Deep.DeepCutAuto
import Derived.Deep.CutBlock
import Derived.Deep.LoopGhost
import Derived.Deep.QuietTactic
import Derived.BigQuiet
import Derived.WalkSmall
import Derived.WalkSpells
import Derived.WalkLawsBesides
import Derived.Shelf.Strings.Split
import Derived.Test.YthjaepmfkgejkaaGreatDoorProg
import Derived.Test.YthjaepmfkgejkaaGreatDoorMerged1
import Derived.Lib.OthersKept
set_option linter.unusedVariables false
set_option maxHeartbeats 4000000
set_option maxRecDepth 100000
namespace Go.Proofs.YthjaepmfkgejkaaGreatDoor
open Lib (hid)
open Go.RowKit
def ChkGives (s : ByteArray) (w : World) (e : Ending) (w' : World) : Prop :=
  w = w' ∧ (zG s = true ∧ e = .returned (.tuple #[.int .i64 0, .int .i64 0]) ∨ zG s = false ∧ ∃ n : Int, e = .returned (.tuple #[.int .i64 n, .int .i64 5]))
theorem Zi (s : ByteArray) (w : World) (hs : s.size ≤ maxLen) :
    Calls Tryz.prog 82 #[.string s] w (ChkGives s w) := by
  have hs' := hs
  unfold maxLen at hs
  go_enter Tryz.func82, Tryz.ntmps82
  go_wp2
  go_loop [2] (fun t => ∃ k : Nat, k ≤ s.size ∧ t = .int .i64 k ∧ Hid (zG s = (jn s k).isSome)) (fun t => s.size - (intOf t).toNat)
  case atStart => exact ⟨0, Nat.zero_le _, rfl, hid rfl⟩
  case round =>
    obtain ⟨k, hk, rfl, hR⟩ := hrel
    by_cases hlt : k < s.size
    ·
     have hin := JP hlt
     go_wp2_with fail
     refine (decode_any s k _ hlt hs').mono ?_
     rintro e w' ⟨rfl, ⟨ho, rfl⟩ | ⟨ho, r, n, rfl⟩⟩
     ·
      have HO := hid ho; clear ho
      go_wp2_with fail
      go_round
      case rel => exact ⟨k + (Utf8.decode s k).2, by omega, rfl, hid (by rw [hR.out, Jc hlt HO.out]; simp)⟩
      case measure => simp [intOf]; omega
     ·
      have HO := hid ho; clear ho
      go_wp2_with fail
      go_ret2
      exact ⟨rfl, .inr ⟨by rw [hR.out, Z2 hlt HO.out]; rfl, _, rfl⟩⟩
    · go_wp2_with fail
      go_ret2
      exact ⟨rfl, .inl ⟨by rw [hR.out, KN (by omega)]; rfl, rfl⟩⟩
theorem UJ (r : Int) (w : World) (h0 : 0 ≤ r) (h1 : r ≤ 2147483647) : Calls Tryz.prog 113 #[.int .i32 r] w fun e w' =>
    w = w' ∧ e = .returned (.bool (K4 r))  := by
  by_cases a2 : r < 55296
  ·
   rw [show K4 r = true by simp [K4]; omega]
   go_enter Tryz.func113, Tryz.ntmps113
   go_wp2
   go_ret
   exact ⟨rfl, rfl⟩
  ·
   have : 55296 ≤ r := by omega
   by_cases a3 : 57343 < r
   ·
    rw [show K4 r = decide (r ≤ 1114111) by unfold K4; rw [Bool.eq_iff_iff]; simp; omega]
    go_enter Tryz.func113, Tryz.ntmps113
    go_wp2
    go_ret
    exact ⟨rfl, rfl⟩
   ·
    rw [show K4 r = false by unfold K4; rw [Bool.eq_false_iff]; simp; omega]
    go_enter Tryz.func113, Tryz.ntmps113
    go_wp2
    go_ret
    exact ⟨rfl, rfl⟩
theorem uk (r : Int) (w : World) (h0 : 0 ≤ r) (h1 : r ≤ 1114111) : Calls Tryz.prog 114 #[.int .i32 r] w fun e w' =>
    w.alloc (.cells ((Z1 r).map (Value.int .u8)).toArray 5) = w' ∧ e = .returned (.slice (some ⟨w.heap.size, 0, none⟩) (Z1 r).length (Z1 r).length) := by
  rcases (by omega : r < 128 ∨ (128 ≤ r ∧ r < 2048) ∨ (2048 ≤ r ∧ r < 65536) ∨ 65536 ≤ r) with a | ⟨a, b⟩ | ⟨a, b⟩ | a
  ·
   rw [qH a]
   go_enter Tryz.func114, Tryz.ntmps114
   go_wp2
   go_ret
   exact ⟨rfl, rfl⟩
  ·
   rw [Uy a b]
   go_enter Tryz.func114, Tryz.ntmps114
   go_wp2
   go_ret
   exact ⟨rfl, rfl⟩
  ·
   rw [qI a b]
   go_enter Tryz.func114, Tryz.ntmps114
   go_wp2
   go_ret
   exact ⟨rfl, rfl⟩
  ·
   rw [qJ a]
   go_enter Tryz.func114, Tryz.ntmps114
   go_wp2
   go_ret
   exact ⟨rfl, rfl⟩
def OneGives (s : ByteArray) (i : Nat) (w : World) (e : Ending) (w' : World) : Prop :=
  Below w.heap.size w w' ∧ (K3 s i = true ∧ e = .returned (.tuple #[.int .i32 (Utf8.decode s i).1, .int .i64 ((Utf8.decode s i).2 : Int)]) ∨
    K3 s i = false ∧ e = .returned (.tuple #[.int .i32 0, .int .i64 0]))
theorem Zy {s : ByteArray} {i k : Nat} (h : K3 s i = true → k ≤ (Utf8.decode s i).2) (n : ¬ hit s i k) : K3 s i = true → k + 1 ≤ (Utf8.decode s i).2 := by
  intro ho
  have := h ho
  rcases Nat.lt_or_ge k (Utf8.decode s i).2 with a | a
  · exact a
  · exact absurd ⟨ho, by omega⟩ n
theorem one_any (s : ByteArray) (i : Nat) (w : World) (hi : i < s.size) (hs : s.size ≤ maxLen) : Calls Tryz.prog 83 #[.string s, .int .i64 i] w (OneGives s i w) := by
  unfold maxLen at hs
  have hb := getB s
  have hB := KJ s i
  have hB1 := KJ s (i + 1)
  have hB2 := KJ s (i + 2)
  have hB3 := KJ s (i + 3)
  have hsz : (i : Int) < (s.size : Int) := by omega
  go_enter Tryz.func83, Tryz.ntmps83
  go_wp2
  go_loopw [6] (fun n wr => ∃ k : Nat, 1 ≤ k ∧ n = .int .i64 k ∧ Below w.heap.size w wr ∧ Hid (K3 s i = true → k ≤ (Utf8.decode s i).2)) (fun n _ => 5 - (intOf n).toNat)
  case atStart => exact ⟨1, by omega, rfl, Below.refl _ _, hid fun _ => (JP hi).2.1⟩
  case round =>
    obtain ⟨k, hk, rfl, hbw, hR⟩ := hrel
    by_cases hin : k ≤ 4 ∧ i + k ≤ s.size
    ·
     obtain ⟨hk4, hik⟩ := hin
     have hvr := vOf_range s i k
     go_upto_block 2 with (fail)
     go_cut [7] (fun s7 wx => s7 = .int .i64 (vOf s i k) ∧ Below w.heap.size w wx)
     case first =>
       rcases (by omega : k = 1 ∨ k = 2 ∨ k = 3 ∨ k = 4) with rfl | rfl | rfl | rfl
       · go_wp2_with fail
         go_meet
         exact ⟨rfl, hbw⟩
       ·
        have h1 : (i : Int) + 1 < s.size := by omega
        go_wp2_with fail
        go_quiet (fail)
        go_wp2_with fail
        go_meet
        exact ⟨rfl, below_drewN hbw _⟩
       ·
        have h1 : (i : Int) + 1 < s.size := by omega
        have h2 : (i : Int) + 2 < s.size := by omega
        go_wp2_with fail
        go_quiet (fail)
        go_wp2_with fail
        go_meet
        exact ⟨rfl, below_drewN hbw _⟩
       ·
        have h1 : (i : Int) + 1 < s.size := by omega
        have h2 : (i : Int) + 2 < s.size := by omega
        have h3 : (i : Int) + 3 < s.size := by omega
        go_wp2_with fail
        go_quiet (fail)
        go_wp2_with fail
        go_meet
        exact ⟨rfl, below_drewN hbw _⟩
     case rest =>
       obtain ⟨rfl, hbx⟩ := hcut
       by_cases hm : K4 (vOf s i k) = true
       ·
        have hmr := qK hm
        have HM := hid hm; clear hm
        generalize hv : vOf s i k = v at *
        have HV := hid hv; clear hv
        have hw1 : IntKind.i32.wrap v = v := IntWalk.i32_in _ (by omega)
        go_wp2_with (go_at_call 113; refine (UJ _ _ (by omega) (by omega)).mono ?_; rw [HM.out]; rintro e w' ⟨rfl, rfl⟩)
        have hconv : ∀ wx : World, (convert 22 9 (.slice (some ⟨wx.heap.size, 0, none⟩) (Z1 v).length (Z1 v).length)).run Tryz.prog (wx.alloc (.cells ((Z1 v).map (Value.int .u8)).toArray 5)).drew = .ok (.string (strOfNums (Z1 v))) (wx.alloc (.cells ((Z1 v).map (Value.int .u8)).toArray 5)).drew := by
          intro wx
          refine run_convert_bytes_arg _ 22 5 Tryz.underlying22 Tryz.underlying5 _ 0 _ _ _ rfl ?_ 9 Tryz.underlying9
          intro j hj
          rw [Nat.zero_add]
          show (wx.alloc _).cell? _ = _
          rw [World.cell?_alloc_new]
          simp [List.getD, hj]
        have hw2 : IntKind.i64.wrap ((i : Int) + (k : Int)) = (i : Int) + k := IntWalk.i64_in _ (by omega)
        have hsl : ∀ wx : World, (Instr.slice 9 (.string s) (some (.int .i64 (i : Int))) (some (.int .i64 ((i : Int) + (k : Int)))) none).run Tryz.prog wx = .ok (.string (s.extract i (i + k))) wx := by
          intro wx
          have := run_slice_string (P := Tryz.prog) (w := wx) 9 s .i64 .i64 (i : Int) ((i : Int) + k) Tryz.underlying9 (by omega) (by omega) (by omega)
          rw [this]
          congr 2
        have heq := enc_beq (v := v) hk hk4 hik (by omega) (by omega)
        by_cases hh : Z1 v = jT s i k
        ·
         rw [decide_eq_true hh] at heq
         have HH := hid hh; clear hh
         go_region_with (go_at_call 114; refine (uk _ _ (by omega) (by omega)).mono ?_; rintro e w' ⟨rfl, rfl⟩)
         go_wp2_with fail
         go_ret2
         have ht : hit s i k := vOf_miss hk hk4 hik (by rw [HV.out]; exact HM.out) (by rw [HV.out]; exact HH.out)
         obtain ⟨e1, _⟩ := Qp ht
         refine ⟨(hbx.alloc hbx.size _).drew, .inl ⟨ht.1, ?_⟩⟩
         rw [← e1, ht.2, HV.out]
         rfl
        ·
         rw [decide_eq_false hh] at heq
         have HH := hid hh; clear hh
         go_region_with (go_at_call 114; refine (uk _ _ (by omega) (by omega)).mono ?_; rintro e w' ⟨rfl, rfl⟩)
         go_wp2_with fail
         go_roundw
         case rel =>
           refine ⟨k + 1, by omega, by go_num, (hbx.alloc hbx.size _).drew, hid (Zy hR.out ?_)⟩
           intro ht
           obtain ⟨e1, _, e3, _⟩ := Qp ht
           rw [← e1, HV.out] at e3
           exact HH.out e3
         case measure => simp [intOf]; omega
       ·
        have hno : ¬ hit s i k := by
          intro ht
          obtain ⟨e1, e2, _⟩ := Qp ht
          rw [← e1] at e2
          exact hm e2
        have HN := hid hno; clear hno
        have hmf : K4 (vOf s i k) = false := by simpa using hm
        clear hm
        have HM := hid hmf; clear hmf
        generalize hv : vOf s i k = v at *
        clear hv
        by_cases hr : 0 ≤ v ∧ v ≤ 1114111
        ·
         have hw1 : IntKind.i32.wrap v = v := IntWalk.i32_in _ (by omega)
         go_wp2_with (go_at_call 113; refine (UJ _ _ (by omega) (by omega)).mono ?_; rw [HM.out]; rintro e w' ⟨rfl, rfl⟩)
         go_roundw
         case rel => exact ⟨k + 1, by omega, by go_num, hbx, hid (Zy hR.out HN.out)⟩
         case measure => simp [intOf]; omega
        ·
         by_cases hr0 : v < 0
         rotate_left
         focus
           have hr1 : 1114111 < v := by omega
         all_goals
           go_wp2_with fail
           go_roundw
           case rel => exact ⟨k + 1, by omega, by go_num, hbx, hid (Zy hR.out HN.out)⟩
           case measure => simp [intOf]; omega
    ·
     have hend : OneGives s i w (.returned (.tuple #[.int .i32 0, .int .i64 0])) wr := by
       refine ⟨hbw, .inr ⟨?_, rfl⟩⟩
       cases ho : K3 s i
       · rfl
       · have := hR.out ho
         have := JP hi
         omega
     by_cases hk4 : k ≤ 4
     · go_wp2_with fail
       go_ret2
       exact hend
     · go_wp2_with fail
       go_ret2
       exact hend
end Go.Proofs.YthjaepmfkgejkaaGreatDoor
namespace Go.Proofs
open Go.Shelf
def Tryz.lays146_ren : Go.Shelf.Ren := ⟨fun | 146 => 124 | 221 => 131 | 268 => 133 | 138 => 134 | 143 => 135 | 195 => 136 | 197 => 137 | 218 => 138 | 219 => 139 | 260 => 140 | 217 => 141 | 225 => 142 | 224 => 143 | 267 => 144 | 266 => 145 | 314 => 146 | n => n, fun | 9 => 9 | 31 => 175 | 3 => 3 | 4 => 4 | 0 => 0 | 105 => 135 | 21 => 21 | 5 => 5 | 46 => 86 | 119 => 188 | 139 => 191 | 138 => 190 | 146 => 192 | 51 => 83 | n => n, fun | 1 => 2 | 3 => 3 | 4 => 4 | n => n⟩
theorem Tryz.lays146 : Go.Proofs.Lays.n146 Tryz.prog Tryz.lays146_ren := {
  mixed := by kernel_rfl
  f138 := Tryz.func134.trans (congrArg some (by kernel_rfl))
  f143 := Tryz.func135.trans (congrArg some (by kernel_rfl))
  f146 := Tryz.func124.trans (congrArg some (by kernel_rfl))
  f195 := Tryz.func136.trans (congrArg some (by kernel_rfl))
  f197 := Tryz.func137.trans (congrArg some (by kernel_rfl))
  f217 := Tryz.func141.trans (congrArg some (by kernel_rfl))
  f218 := Tryz.func138.trans (congrArg some (by kernel_rfl))
  f219 := Tryz.func139.trans (congrArg some (by kernel_rfl))
  f221 := Tryz.func131.trans (congrArg some (by kernel_rfl))
  f224 := Tryz.func143.trans (congrArg some (by kernel_rfl))
  f225 := Tryz.func142.trans (congrArg some (by kernel_rfl))
  f260 := Tryz.func140.trans (congrArg some (by kernel_rfl))
  f266 := Tryz.func145.trans (congrArg some (by kernel_rfl))
  f267 := Tryz.func144.trans (congrArg some (by kernel_rfl))
  f268 := Tryz.func133.trans (congrArg some (by kernel_rfl))
  f314 := Tryz.func146.trans (congrArg some (by kernel_rfl))
  t0 := Tryz.underlying0
  a0 := Tryz.isAgg0
  z0 := Tryz.sizeOf0
  v0 := Tryz.zeroValue0
  t3 := Tryz.underlying3
  a3 := Tryz.isAgg3
  z3 := Tryz.sizeOf3
  v3 := Tryz.zeroValue3
  t4 := Tryz.underlying4
  a4 := Tryz.isAgg4
  z4 := Tryz.sizeOf4
  v4 := Tryz.zeroValue4
  t5 := Tryz.underlying5
  a5 := Tryz.isAgg5
  z5 := Tryz.sizeOf5
  v5 := Tryz.zeroValue5
  t9 := Tryz.underlying9
  a9 := Tryz.isAgg9
  z9 := Tryz.sizeOf9
  v9 := Tryz.zeroValue9
  t21 := Tryz.underlying21
  a21 := Tryz.isAgg21
  z21 := Tryz.sizeOf21
  v21 := Tryz.zeroValue21
  t31 := Tryz.underlying175
  a31 := Tryz.isAgg175
  z31 := Tryz.sizeOf175
  v31 := Tryz.zeroValue175
  t46 := Tryz.underlying86
  a46 := Tryz.isAgg86
  z46 := Tryz.sizeOf86
  v46 := Tryz.zeroValue86
  t51 := Tryz.underlying83
  a51 := Tryz.isAgg83
  z51 := Tryz.sizeOf83
  v51 := Tryz.zeroValue83
  t105 := Tryz.underlying135
  a105 := Tryz.isAgg135
  z105 := Tryz.sizeOf135
  v105 := Tryz.zeroValue135
  t119 := Tryz.underlying188
  a119 := Tryz.isAgg188
  z119 := Tryz.sizeOf188
  t138 := Tryz.underlying190
  a138 := Tryz.isAgg190
  z138 := Tryz.sizeOf190
  v138 := Tryz.zeroValue190
  t139 := Tryz.underlying191
  a139 := Tryz.isAgg191
  z139 := Tryz.sizeOf191
  v139 := Tryz.zeroValue191
  t146 := Tryz.underlying192
  a146 := Tryz.isAgg192
  z146 := Tryz.sizeOf192
  v146 := Tryz.zeroValue192
  g1 := by kernel_rfl
  g3 := by kernel_rfl
  g4 := by kernel_rfl }
open Go.RowKit Go.Lib in
theorem Tryz.strings_Split (s sep : ByteArray) (m : Int) (w : World) (hs : s.size < 4294967281) (hm : w.cell? ⟨2, 0, none⟩ = some (.int .i64 m)) (h1 : 1 ≤ sep.size) :
    Calls Tryz.prog 124 #[.string s, .string sep] w fun e w' =>
      e = .returned (.slice (some ⟨w.heap.size, 0, none⟩) (Lib.countB s sep + 1) (Lib.countB s sep + 1)) ∧ w' = w.alloc (.cells ((Lib.splitB sep 0 (Lib.countB s sep) s).map Value.string).toArray 9) := Any.strings_Split Tryz.lays146 (by kernel_rfl) s sep m w hs hm h1
end Go.Proofs
namespace Go.Proofs.YthjaepmfkgejkaaGreatDoor
open Lib (hid)
open Go.RowKit
theorem ul {a b : Bool} (h : a = b) : Ending.returned (.bool a) = .returned (.bool b) := by rw [h]
theorem shown_any (r : Nat) (w : World) (hr : r ≤ 2147483647) : Calls Tryz.prog 98 #[.int .i32 r] w fun e w' => w = w' ∧ e = .returned (.bool (jo r)) := by
  have hy : 32 ≤ r ∧ r ≠ 127 → jo r = true := by intro h; simp [jo, h]
  have hn : ¬ (32 ≤ r ∧ r ≠ 127) → jo r = false := by intro h; rw [Bool.eq_false_iff]; simp [jo]; omega
  rcases (by omega : r < 32 ∨ r = 127 ∨ (32 ≤ r ∧ r < 127) ∨ 127 < r) with h | h | h | h
  all_goals
    first
    | rw [hy (by omega)]
    | rw [hn (by omega)]
    clear hy hn
    first
    | (subst h; go_enter Tryz.func98, Tryz.ntmps98; go_wp2; go_ret; refine ⟨rfl, ul ?_⟩; simp; done)
    | (go_enter Tryz.func98, Tryz.ntmps98; go_wp2; go_ret; refine ⟨rfl, ul ?_⟩; simp; omega)
    | (go_enter Tryz.func98, Tryz.ntmps98; go_wp2; go_ret; refine ⟨rfl, ul ?_⟩; simp; done)
    | (go_enter Tryz.func98, Tryz.ntmps98; go_wp2; go_ret; refine ⟨rfl, ul ?_⟩; simp; omega)
theorem yes_any (r : Nat) (w : World) : Calls Tryz.prog 104 #[.int .i32 r] w fun e w' => w = w' ∧ e = .returned (.bool true) := by
  go_enter Tryz.func104, Tryz.ntmps104
  go_wp2
  go_ret
  exact ⟨rfl, rfl⟩
theorem um {p : Nat → Bool} {s : ByteArray} {k : Nat} (h : k < s.size) (ho : K3 s k = true) :
    ((jn s k).map (·.all p)) = (((jn s (k + (Utf8.decode s k).2)).map (·.all p)).map (p (Utf8.decode s k).1 && ·)) := by
  rw [Jc h ho]
  cases jn s (k + (Utf8.decode s k).2) <;> simp
def okFrom (s : ByteArray) (k : Nat) : Prop := (jn s k).isSome = true
theorem okFrom.at_ {s : ByteArray} {k : Nat} (h : okFrom s k) (hk : k < s.size) : K3 s k = true ∧ okFrom s (k + (Utf8.decode s k).2) := by
  cases ho : K3 s k
  · unfold okFrom at h; rw [Z2 hk ho] at h; cases h
  ·
   refine ⟨rfl, ?_⟩
   unfold okFrom at h ⊢
   rw [Jc hk ho] at h
   simpa using h
theorem ZT (s : ByteArray) (w : World) (hs : s.size ≤ maxLen) :
    Calls Tryz.prog 97 #[.string s, .func (.func 98) #[] #[]] w fun e w' => Below w.heap.size w w' ∧ e = .returned (.bool (jE s jo)) := by
  go_enter Tryz.func97, Tryz.ntmps97
  go_wp2_with fail
  refine (Zi s _ hs).mono ?_
  rintro e w1 ⟨rfl, ⟨ht, rfl⟩ | ⟨ht, n, rfl⟩⟩
  ·
   have hpl : jE s jo = ((jn s 0).map (·.all jo)).getD false := by
     unfold jE; rw [vP]
     cases jn s 0 <;> rfl
   have HP := hid hpl; clear hpl
   have hok : okFrom s 0 := ht
   have HK := hid hok; clear hok
   clear ht
   unfold maxLen at hs
   go_wp2_with fail
   go_loopw [] (fun wr => ∃ k : Nat, k ≤ s.size ∧ wr = w.iter s k ∧ Hid (okFrom s k) ∧ Hid (jE s jo = ((jn s k).map (·.all jo)).getD false)) (fun wr => s.size - wr.iterPos w.heap.size)
   case atStart => exact ⟨0, by omega, rfl, HK, HP⟩
   case round =>
     obtain ⟨k, hk, rfl, hK, hR⟩ := hrel
     by_cases hp : k < s.size
     ·
      have hnx : ∀ ty, (Instr.next (.pointer (some ⟨w.heap.size, 0, none⟩)) true ty).run Tryz.prog (w.iter s k) = _ := fun ty => run_next_any w s k ty hp
      have hin := JP hp
      have hrl := decode_le s k
      obtain ⟨ho, hk2⟩ := hK.out.at_ hp
      have HO := hid ho; clear ho
      have HK2 := hid hk2; clear hk2
      cases hpr : jo (Utf8.decode s k).1
      all_goals
        have HPR := hid hpr; clear hpr
        go_wp2_with fail
        refine (shown_any _ _ hrl).mono ?_
        rintro e w2 ⟨rfl, rfl⟩
        rw [HPR.out]
        go_wp2_with fail
      ·
       go_ret
       refine ⟨(qB _ w).alloc (qR _) _, ?_⟩
       rw [hR.out, um hp HO.out, HPR.out]
       cases jn s (k + (Utf8.decode s k).2) <;> rfl
      ·
       go_roundw
       case rel =>
         refine ⟨k + (Utf8.decode s k).2, by omega, rfl, HK2, hid ?_⟩
         rw [hR.out, um hp HO.out, HPR.out]
         cases jn s (k + (Utf8.decode s k).2) <;> simp
       case measure => simp; omega
     ·
      have hnx : ∀ ty, (Instr.next (.pointer (some ⟨w.heap.size, 0, none⟩)) true ty).run Tryz.prog (w.iter s k) = _ := fun ty => run_next_end w s k ty hp
      go_wp2_with fail
      go_ret
      refine ⟨(qB _ w).alloc (qR _) _, ?_⟩
      rw [hR.out, KN (by omega)]; rfl
  ·
   have HT := hid ht; clear ht
   go_wp2_with fail
   go_ret
   exact ⟨qB _ _, by rw [U0 HT.out]; rfl⟩
def Qt (_ : Nat) : Bool := true
theorem anyB_text (s : ByteArray) : jE s Qt = zG s := plainB_true
theorem yes_any' (r : Nat) (w : World) : Calls Tryz.prog 104 #[.int .i32 r] w fun e w' => w = w' ∧ e = .returned (.bool (Qt r)) := yes_any r w
theorem plain_yes (s : ByteArray) (w : World) (hs : s.size ≤ maxLen) :
    Calls Tryz.prog 97 #[.string s, .func (.func 104) #[] #[]] w fun e w' => Below w.heap.size w w' ∧ e = .returned (.bool (jE s Qt)) := by
  go_enter Tryz.func97, Tryz.ntmps97
  go_wp2_with fail
  refine (Zi s _ hs).mono ?_
  rintro e w1 ⟨rfl, ⟨ht, rfl⟩ | ⟨ht, n, rfl⟩⟩
  ·
   have hpl : jE s Qt = ((jn s 0).map (·.all Qt)).getD false := by
     unfold jE; rw [vP]
     cases jn s 0 <;> rfl
   have HP := hid hpl; clear hpl
   have hok : okFrom s 0 := ht
   have HK := hid hok; clear hok
   clear ht
   unfold maxLen at hs
   go_wp2_with fail
   go_loopw [] (fun wr => ∃ k : Nat, k ≤ s.size ∧ wr = w.iter s k ∧ Hid (okFrom s k) ∧ Hid (jE s Qt = ((jn s k).map (·.all Qt)).getD false)) (fun wr => s.size - wr.iterPos w.heap.size)
   case atStart => exact ⟨0, by omega, rfl, HK, HP⟩
   case round =>
     obtain ⟨k, hk, rfl, hK, hR⟩ := hrel
     by_cases hp : k < s.size
     ·
      have hnx : ∀ ty, (Instr.next (.pointer (some ⟨w.heap.size, 0, none⟩)) true ty).run Tryz.prog (w.iter s k) = _ := fun ty => run_next_any w s k ty hp
      have hin := JP hp
      have hrl := decode_le s k
      obtain ⟨ho, hk2⟩ := hK.out.at_ hp
      have HO := hid ho; clear ho
      have HK2 := hid hk2; clear hk2
      cases hpr : Qt (Utf8.decode s k).1
      all_goals
        have HPR := hid hpr; clear hpr
        go_wp2_with fail
        refine (yes_any' _ _).mono ?_
        rintro e w2 ⟨rfl, rfl⟩
        rw [HPR.out]
        go_wp2_with fail
      ·
       go_ret
       refine ⟨(qB _ w).alloc (qR _) _, ?_⟩
       rw [hR.out, um hp HO.out, HPR.out]
       cases jn s (k + (Utf8.decode s k).2) <;> rfl
      ·
       go_roundw
       case rel =>
         refine ⟨k + (Utf8.decode s k).2, by omega, rfl, HK2, hid ?_⟩
         rw [hR.out, um hp HO.out, HPR.out]
         cases jn s (k + (Utf8.decode s k).2) <;> simp
       case measure => simp; omega
     ·
      have hnx : ∀ ty, (Instr.next (.pointer (some ⟨w.heap.size, 0, none⟩)) true ty).run Tryz.prog (w.iter s k) = _ := fun ty => run_next_end w s k ty hp
      go_wp2_with fail
      go_ret
      refine ⟨(qB _ w).alloc (qR _) _, ?_⟩
      rw [hR.out, KN (by omega)]; rfl
  ·
   have HT := hid ht; clear ht
   go_wp2_with fail
   go_ret
   exact ⟨qB _ _, by rw [U0 HT.out]; rfl⟩
end Go.Proofs.YthjaepmfkgejkaaGreatDoor
namespace Go.Proofs.YthjaepmfkgejkaaGreatDoor
open Lib (hid)
open Go.RowKit
theorem ba (a b c : Bool) (h : a = true) (h' : b = true) : (a && b && c) = c := by rw [h, h']; simp
theorem Kk (s : ByteArray) (w : World) (hs : s.size ≤ maxLen) : Calls Tryz.prog 75 #[.string s] w fun e w' => Below w.heap.size w w' ∧ e = .returned (.bool (jM s)) := by
  have hs' := hs
  unfold maxLen at hs
  by_cases h1 : 1 ≤ s.size
  ·
   by_cases h2 : s.size ≤ 32
   ·
    rw [show jM s = jE s jo by simp [jM, h1, h2]]
    go_enter Tryz.func75, Tryz.ntmps75
    go_wp2_with (go_at_call 97; refine (ZT s _ hs').mono ?_; rintro e w1 ⟨hb1, rfl⟩)
    go_ret
    exact ⟨hb1, rfl⟩
   ·
    rw [show jM s = false by simp [jM, h2]]
    go_enter Tryz.func75, Tryz.ntmps75
    go_wp2_with fail
    go_ret
    exact ⟨Below.refl _ _, rfl⟩
  ·
   rw [show jM s = false by simp [jM, h1]]
   go_enter Tryz.func75, Tryz.ntmps75
   go_wp2_with fail
   go_ret
   exact ⟨Below.refl _ _, rfl⟩
theorem UK (s : ByteArray) (w : World) (hs : s.size ≤ maxLen) : Calls Tryz.prog 77 #[.string s] w fun e w' => Below w.heap.size w w' ∧ e = .returned (.bool (JQ s)) := by
  have hs' := hs
  unfold maxLen at hs
  by_cases h2 : s.size ≤ 256
  ·
   rw [show JQ s = jE s Qt by simp [JQ, h2, anyB_text]]
   go_enter Tryz.func77, Tryz.ntmps77
   go_wp2_with (go_at_call 97; refine (plain_yes s _ hs').mono ?_; rintro e w1 ⟨hb1, rfl⟩)
   go_ret
   exact ⟨hb1, rfl⟩
  ·
   rw [show JQ s = false by simp [JQ, h2]]
   go_enter Tryz.func77, Tryz.ntmps77
   go_wp2_with fail
   go_ret
   exact ⟨Below.refl _ _, rfl⟩
def Glob (w : World) : Prop := ∃ m : Int, w.cell? ⟨2, 0, none⟩ = some (.int .i64 m)
theorem Glob.keep {w w' : World} {B : Nat} (h : Glob w) (hb : Below B w w') (hB : 2 < B) : Glob w' := by
  obtain ⟨m, hm⟩ := h
  exact ⟨m, (hb.cell (p := ⟨2, 0, none⟩) hB).trans hm⟩
theorem Glob.lt {w : World} (h : Glob w) : 2 < w.heap.size := by
  obtain ⟨m, hm⟩ := h
  rcases Nat.lt_or_ge 2 w.heap.size with a | a
  · exact a
  · unfold World.cell? at hm
    rw [Array.getElem?_eq_none a] at hm
    cases hm
theorem Glob.next {w w' : World} (h : Glob w) (hb : Below w.heap.size w w') : Glob w' := h.keep hb h.lt
theorem piece_eq (p : ByteArray) : Kv (L p) = (!p.toList.isEmpty && !(p.toList == [46]) && !(p.toList == [46, 46])) := by
  rw [ug, Bool.eq_iff_iff]
  simp [Kv]
theorem un (s : ByteArray) (w : World) (hs : s.size ≤ maxLen) (hg : Glob w) : Calls Tryz.prog 101 #[.string s] w fun e w' => Below w.heap.size w w' ∧ e = .returned (.bool (jK s)) := by
  have hs' := hs
  unfold maxLen at hs
  by_cases h1 : s.size < 1
  ·
   rw [show jK s = false by simp [jK]; omega]
   go_enter Tryz.func101, Tryz.ntmps101
   go_wp2_with fail
   go_ret
   exact ⟨Below.refl _ _, rfl⟩
  by_cases h2 : 64 < s.size
  ·
   rw [show jK s = false by simp [jK]; omega]
   go_enter Tryz.func101, Tryz.ntmps101
   go_wp2_with fail
   go_ret
   exact ⟨Below.refl _ _, rfl⟩
  cases hp : jE s jo
  ·
   have HP := hid hp; clear hp
   rw [show jK s = false by simp [jK, HP.out]]
   go_enter Tryz.func101, Tryz.ntmps101
   go_wp2_with (go_at_call 97; refine (ZT s _ hs').mono ?_; rw [HP.out]; rintro e w1 ⟨hb1, rfl⟩)
   go_ret
   exact ⟨hb1, rfl⟩
  ·
   have HP := hid hp; clear hp
   have HN : Hid (jK s = ((Lib.splitB zQ 0 (Lib.countB s zQ) s).map L).all Kv) := hid (by rw [vI]; simp [jK, HP.out]; omega)
   have hlen := Lib.splitB_all zQ (by decide) 0 (Lib.countB s zQ) s rfl
   have hle := Lib.countB_le zQ (by decide) _ s (Nat.le_refl _)
   generalize hq : Lib.splitB zQ 0 (Lib.countB s zQ) s = q at *
   have HQ := hid hq; clear hq
   have hql : q.length ≤ 65 := by omega
   have HL := hid hlen; clear hlen hle
   go_enter Tryz.func101, Tryz.ntmps101
   go_wp2_with (go_at_call 97; refine (ZT s _ hs').mono ?_; rw [HP.out]; rintro e w1 ⟨hb1, rfl⟩)
   obtain ⟨m, hm⟩ := hg.next hb1
   refine (Tryz.strings_Split s zQ m w1 (by omega) hm (by decide)).mono ?_
   rw [HQ.out, ← HL.out]
   rintro e w2 ⟨rfl, hw2⟩
   have hbw : Below w.heap.size w w2 := by rw [hw2]; exact hb1.alloc hb1.size _
   have hcell : ∀ j, (h : j < q.length) → w2.cell? ⟨w1.heap.size, j, none⟩ = some (.string q[j]) := by
     intro j h
     rw [hw2, World.cell?_alloc_new]
     simp [h]
   have HC := hid hcell; clear hcell hw2
   go_wp2_with fail
   go_loop [21] (fun t => ∃ k : Nat, k ≤ q.length ∧ t = .int .i64 k ∧ Hid (∀ j (h : j < q.length), j < k → Kv (L q[j]) = true)) (fun t => q.length - (intOf t).toNat)
   case atStart => exact ⟨0, by omega, rfl, hid fun j _ hj => absurd hj (by omega)⟩
   case round =>
     obtain ⟨k, hk, rfl, hR⟩ := hrel
     by_cases hlt : k < q.length
     ·
      have hc := HC.out k hlt
      have hpe := piece_eq q[k]
      have hstop : Kv (L q[k]) = false → jK s = false := by
        intro h
        rw [HN.out, List.all_eq_false]
        exact ⟨L q[k], List.mem_map_of_mem (List.getElem_mem hlt), by simp [h]⟩
      have hgo : Kv (L q[k]) = true → ∀ j (h : j < q.length), j < k + 1 → Kv (L q[j]) = true := by
        intro h j hj hjk
        rcases (by omega : j < k ∨ j = k) with h' | h'
        · exact hR.out j hj h'
        · subst h'; exact h
      generalize hqk : q[k] = p at *
      clear hqk
      have HPE := hid hpe; clear hpe
      have HST := hid hstop; clear hstop
      have HGO := hid hgo; clear hgo
      cases e1 : p.toList.isEmpty
      ·
       cases e2 : (p.toList == [46])
       ·
        cases e3 : (p.toList == [46, 46])
        ·
         have hy : Hid (Kv (L p) = true) := hid (by rw [HPE.out, e1, e2, e3]; rfl)
         go_wp2_with fail
         go_round
         case rel => exact ⟨k + 1, by omega, by go_num, hid (HGO.out hy.out)⟩
         case measure => simp [intOf]; omega
        ·
         have hy : Hid (jK s = false) := hid (HST.out (by rw [HPE.out, e1, e2, e3]; rfl))
         go_wp2_with fail
         go_ret
         exact ⟨hbw, by rw [hy.out]; rfl⟩
       ·
        have hy : Hid (jK s = false) := hid (HST.out (by rw [HPE.out, e1, e2]; rfl))
        go_wp2_with fail
        go_ret
        exact ⟨hbw, by rw [hy.out]; rfl⟩
      ·
       have hy : Hid (jK s = false) := hid (HST.out (by rw [HPE.out, e1]; rfl))
       go_wp2_with fail
       go_ret
       exact ⟨hbw, by rw [hy.out]; rfl⟩
     ·
      go_wp2_with fail
      go_ret
      refine ⟨hbw, ?_⟩
      have : jK s = true := by
        rw [HN.out, List.all_eq_true]
        intro x hx
        obtain ⟨y, hy, rfl⟩ := List.mem_map.1 hx
        obtain ⟨j, hj, rfl⟩ := List.getElem_of_mem hy
        exact hR.out j hj (by omega)
      rw [this]; rfl
end Go.Proofs.YthjaepmfkgejkaaGreatDoor
namespace Go.Proofs.YthjaepmfkgejkaaGreatDoor
def valOf (l : List UInt8) : Nat := l.foldl (fun a c => 10 * a + (c.toNat - 48)) 0
theorem UL (l : List UInt8) (c : UInt8) : valOf (l ++ [c]) = 10 * valOf l + (c.toNat - 48) := by simp [valOf]
theorem Z5 {d : Nat} (h : d < 10) : (UInt8.ofNat (48 + d)).toNat = 48 + d := by
  simp; omega
theorem ZU {u : Nat} (h : ¬ u < 10) : Lib.decDigits u = Lib.decDigits (u / 10) ++ [UInt8.ofNat (48 + u % 10)] := by
  rw [Lib.decDigits, dif_neg h]
theorem uo : ∀ (n u : Nat), u ≤ n → valOf (Lib.decDigits u) = u := by
  intro n
  induction n with
  | zero => intro u hu; rw [show u = 0 by omega, Lib.decDigits_one (by omega)]; decide
  | succ n ih =>
    intro u hu
    by_cases h : u < 10
    ·
     rw [Lib.decDigits_one h]
     have := UL [] (UInt8.ofNat (48 + u))
     rw [List.nil_append] at this
     rw [this, Z5 h]
     simp [valOf]
    · rw [ZU h, UL, ih (u / 10) (by omega), Z5 (by omega)]
      omega
theorem qs {a b : Nat} (h : Lib.decDigits a = Lib.decDigits b) : a = b := by
  have h1 := uo a a (Nat.le_refl _)
  have h2 := uo b b (Nat.le_refl _)
  rw [h] at h1; omega
theorem qt : ∀ (n u : Nat), u ≤ n → ∀ c ∈ Lib.decDigits u, 48 ≤ c.toNat ∧ c.toNat ≤ 57 := by
  intro n
  induction n with
  | zero => intro u hu; rw [show u = 0 by omega, Lib.decDigits_one (by omega)]; decide
  | succ n ih =>
    intro u hu c hc
    by_cases h : u < 10
    ·
     rw [Lib.decDigits_one h] at hc
     simp only [List.mem_singleton] at hc
     subst hc
     rw [Z5 h]; omega
    ·
     rw [ZU h] at hc
     rcases List.mem_append.1 hc with hc | hc
     · exact ih (u / 10) (by omega) c hc
     · simp only [List.mem_singleton] at hc
       subst hc
       rw [Z5 (by omega)]; omega
def zB (l : List UInt8) : List UInt8 := l.takeWhile (· != 47)
def restc (l : List UInt8) : List UInt8 := l.dropWhile (· != 47)
theorem UM (l : List UInt8) : zB l ++ restc l = l := List.takeWhile_append_dropWhile
theorem firstc_no (l : List UInt8) : (47 : UInt8) ∉ zB l := by
  induction l with
  | nil => simp [zB]
  | cons c l ih =>
    unfold zB at ih ⊢
    rw [List.takeWhile_cons]
    split
    · rename_i hc
      simp only [List.mem_cons, not_or]
      exact ⟨fun e => by rw [← e] at hc; simp at hc, ih⟩
    · simp
theorem JR {a : List UInt8} (ha : (47 : UInt8) ∉ a) (b : List UInt8) : zB (a ++ 47 :: b) = a := by
  unfold zB
  rw [List.takeWhile_append_of_pos]
  · simp
  · intro x hx
    simp only [bne_iff_ne]
    intro e; exact ha (e ▸ hx)
theorem ZV {a : List UInt8} (ha : (47 : UInt8) ∉ a) : zB a = a := by
  have := List.takeWhile_append_of_pos (p := (· != (47 : UInt8))) (l₁ := a) (l₂ := []) (by
    intro x hx
    simp only [bne_iff_ne]
    intro e; exact ha (e ▸ hx))
  simpa [zB] using this
theorem restc_form (l : List UInt8) : restc l = [] ∨ ∃ b, restc l = 47 :: b := by
  rcases ZR l with h | ⟨a, b, rfl, ha⟩
  ·
   left
   have := UM l
   rw [ZV h] at this
   have := congrArg List.length this
   simp at this
   exact this
  ·
   right
   have := UM (a ++ 47 :: b)
   rw [JR ha] at this
   exact ⟨b, List.append_cancel_left this⟩
theorem U5 {a b : List UInt8} (h : Qr a b = true) : zB a = zB b := by
  unfold Qr at h
  rw [List.isPrefixOf_iff_prefix] at h
  obtain ⟨t, rfl⟩ := h
  rw [List.append_assoc]
  rcases ZR a with ha | ⟨x, y, rfl, hx⟩
  · rw [ZV ha]; exact (JR ha _).symm
  · rw [JR hx, List.append_assoc]; exact (JR hx _).symm
theorem clash_first {a b : List UInt8} (h : clashB a b = true) : zB a = zB b := by
  unfold clashB at h
  simp only [Bool.or_eq_true, decide_eq_true_eq] at h
  rcases h with (h | h) | h
  · rw [h]
  · exact U5 h
  · exact (U5 h).symm
def ZW (l : List UInt8) (n : Nat) : List UInt8 := zB l ++ [126] ++ Lib.decDigits n ++ restc l
theorem UN (l : List UInt8) (n : Nat) : zB (ZW l n) = zB l ++ [126] ++ Lib.decDigits n := by
  have hno : (47 : UInt8) ∉ zB l ++ [126] ++ Lib.decDigits n := by
    intro h
    rcases List.mem_append.1 h with h | h
    · rcases List.mem_append.1 h with h | h
      · exact firstc_no l h
      · simp at h
    · have := qt n n (Nat.le_refl _) _ h
      simp at this
  unfold ZW
  rcases restc_form l with h | ⟨b, h⟩
  · rw [h, List.append_nil, ZV hno]
  · rw [h, JR hno]
theorem cand_inj {l : List UInt8} {a b : Nat} (h : zB (ZW l a) = zB (ZW l b)) : a = b := by
  rw [UN, UN] at h
  exact qs (List.append_cancel_left h)
def Zj (t : List UInt8) (taken : List (List UInt8)) : Bool := taken.any (clashB t)
theorem pigeon {α : Type} [DecidableEq α] (f : Nat → α) (hf : ∀ a b, f a = f b → a = b) : ∀ (T : List α) (J : List Nat), J.Nodup → (∀ j ∈ J, f j ∈ T) → J.length ≤ T.length := by
  intro T
  induction T with
  | nil =>
    intro J _ h
    cases J with
    | nil => simp
    | cons j J => exact absurd (h j (by simp)) (by simp)
  | cons t T ih =>
    intro J hJ h
    by_cases he : ∃ j ∈ J, f j = t
    ·
     obtain ⟨j0, hj0, hf0⟩ := he
     have h1 := ih (J.erase j0) (hJ.erase j0) (by
       intro j hj
       have hm := (List.Nodup.mem_erase_iff hJ).1 hj
       rcases List.mem_cons.1 (h j hm.2) with e | e
       · exact absurd (hf _ _ (e.trans hf0.symm)) hm.1
       · exact e)
     rw [List.length_erase_of_mem hj0] at h1
     simp only [List.length_cons]; omega
    ·
     have h1 := ih J hJ (by
       intro j hj
       rcases List.mem_cons.1 (h j hj) with e | e
       · exact absurd ⟨j, hj, e⟩ he
       · exact e)
     simp only [List.length_cons]; omega
theorem cand_few {l : List UInt8} {taken : List (List UInt8)} {m : Nat} (h : ∀ j, 1 ≤ j → j ≤ m → Zj (ZW l j) taken = true) : m ≤ taken.length := by
  have := pigeon (fun j => zB (ZW l (j + 1))) (fun a b e => by have := cand_inj e; omega) (taken.map zB) (List.range m) List.nodup_range (by
    intro j hj
    have hj' : j < m := by simpa using hj
    have hc := h (j + 1) (by omega) (by omega)
    unfold Zj at hc
    rw [List.any_eq_true] at hc
    obtain ⟨o, ho, hco⟩ := hc
    rw [show zB (ZW l (j + 1)) = zB o from clash_first hco]
    exact List.mem_map_of_mem ho)
  simpa using this
def uq (l : List UInt8) (taken : List (List UInt8)) : Nat → Nat → List UInt8 → List UInt8
  | 0, _, t => t
  | f + 1, n, t => if Zj t taken then uq l taken f (n + 1) (ZW l n) else t
def freshS (l : List UInt8) (taken : List (List UInt8)) : List UInt8 := uq l taken (taken.length + 2) 1 l
end Go.Proofs.YthjaepmfkgejkaaGreatDoor
namespace Go.Proofs.YthjaepmfkgejkaaGreatDoor
open Go.RowKit
structure Trying (s : ByteArray) (taken : List (List UInt8)) (k f : Nat) (t : ByteArray) : Prop where
  one : 1 ≤ k
  sum : k + f = taken.length + 3
  size : t.size ≤ s.size + 4
  is : freshS (L s) taken = uq (L s) taken f k (L t)
  cand : 2 ≤ k → L t = ZW (L s) (k - 1)
  behind : ∀ j, 1 ≤ j → j + 1 < k → Zj (ZW (L s) j) taken = true
theorem Trying.start (s : ByteArray) (taken : List (List UInt8)) : Trying s taken 1 (taken.length + 2) s :=
  ⟨by omega, by omega, by omega, rfl, fun h => absurd h (by omega), fun j h1 h2 => absurd h2 (by omega)⟩
theorem Trying.left {s t : ByteArray} {taken : List (List UInt8)} {k f : Nat} (h : Trying s taken k f t) : ∃ g, f = g + 1 ∧ k ≤ taken.length + 2 := by
  have := cand_few (l := L s) (taken := taken) (m := k - 2) (fun j h1 h2 => h.behind j h1 (by omega))
  have := h.sum
  exact ⟨f - 1, by omega, by omega⟩
theorem Trying.next {s t t' : ByteArray} {taken : List (List UInt8)} {k f : Nat} (h : Trying s taken k (f + 1) t) (hc : Zj (L t) taken = true) (ht : L t' = ZW (L s) k) (hz : t'.size ≤ s.size + 4) : Trying s taken (k + 1) f t' := by
  have h1 := h.one
  refine ⟨by omega, by have := h.sum; omega, hz, ?_, fun _ => by rw [Nat.add_sub_cancel]; exact ht, fun j hj hk => ?_⟩
  · rw [h.is, uq, if_pos hc, ht]
  ·
   rcases (by omega : j + 1 < k ∨ j = k - 1) with a | a
   · exact h.behind j hj a
   · subst a
     rw [← h.cand (by omega)]; exact hc
theorem Trying.done {s t : ByteArray} {taken : List (List UInt8)} {k f : Nat} (h : Trying s taken k (f + 1) t) (hc : Zj (L t) taken = false) : L t = freshS (L s) taken := by
  rw [h.is, uq, if_neg (by rw [hc]; simp)]
end Go.Proofs.YthjaepmfkgejkaaGreatDoor
