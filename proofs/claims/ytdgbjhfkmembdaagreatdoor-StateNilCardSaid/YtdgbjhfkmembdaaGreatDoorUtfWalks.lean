/-
  What utf's functions give: may, lead, decode, Check. Conditions: a place lies within the text.
-/
import Derived.Test.YtdgbjhfkmembdaaGreatDoorProg
import Derived.Test.YtdgbjhfkmembdaaGreatDoorUtf
import Derived.Handy
import Derived.PlainAid
import Derived.Lib.Hide
namespace Go.Proofs.YtdgbjhfkmembdaaGreatDoor
open Go.RowKit
set_option linter.unusedVariables false

theorem may_any (r : Int) (w : World) (h0 : 0 ≤ r) (h1 : r ≤ 2147483647) : Calls Tryz.prog 180 #[.int .i32 r] w fun e w' =>
    w = w' ∧ e = .returned (.bool (mayB r))  := by
  by_cases a1 : r ≤ 1114111
  · by_cases a2 : r < 55296
    · rw [show mayB r = true by simp [mayB, h0, a1, a2]]
      go_enter Tryz.func180, Tryz.ntmps180
      go_wp2
      go_ret
      exact ⟨rfl, rfl⟩
    · rw [show mayB r = decide (57343 < r) by simp [mayB, h0, a1]; omega]
      have : 55296 ≤ r := by omega
      go_enter Tryz.func180, Tryz.ntmps180
      go_wp2
      go_ret
      exact ⟨rfl, rfl⟩
  · rw [show mayB r = false by simp [mayB]; omega]
    go_enter Tryz.func180, Tryz.ntmps180
    go_wp2
    go_ret
    exact ⟨rfl, rfl⟩

def lead (c : Nat) : Int × Nat × Nat :=
  if c < 128 then (0, c, 0) else if c < 192 then (-1, 0, 0) else if c < 224 then (1, c % 32, 128) else if c < 240 then (2, c % 16, 2048)
  else if c < 248 then (3, c % 8, 65536) else (-1, 0, 0)
theorem lead1 {c : Nat} (h : c < 128) : lead c = (0, c, 0) := by simp [lead, h]
theorem leadX {c : Nat} (h : 128 ≤ c ∧ c < 192 ∨ 248 ≤ c) : lead c = (-1, 0, 0) := by
  unfold lead; rw [if_neg (by omega)]; by_cases b : c < 192
  · rw [if_pos b]
  · rw [if_neg b, if_neg (by omega), if_neg (by omega), if_neg (by omega)]
theorem lead2 {c : Nat} (h : 192 ≤ c ∧ c < 224) : lead c = (1, c % 32, 128) := by
  unfold lead; rw [if_neg (by omega), if_neg (by omega), if_pos (by omega)]
theorem lead3 {c : Nat} (h : 224 ≤ c ∧ c < 240) : lead c = (2, c % 16, 2048) := by
  unfold lead; rw [if_neg (by omega), if_neg (by omega), if_neg (by omega), if_pos (by omega)]
theorem lead4 {c : Nat} (h : 240 ≤ c ∧ c < 248) : lead c = (3, c % 8, 65536) := by
  unfold lead; rw [if_neg (by omega), if_neg (by omega), if_neg (by omega), if_neg (by omega), if_pos (by omega)]

set_option maxRecDepth 100000 in
theorem lead_any (c : Nat) (w : World) (hc : c < 256) : Calls Tryz.prog 258 #[.int .u8 c] w fun e w' =>
    w = w' ∧ e = .returned (.tuple #[.int .i64 (lead c).1, .int .i32 (lead c).2.1, .int .i32 (lead c).2.2])  := by
  rcases (by omega : c < 128 ∨ (128 ≤ c ∧ c < 192) ∨ (192 ≤ c ∧ c < 224) ∨ (224 ≤ c ∧ c < 240) ∨ (240 ≤ c ∧ c < 248) ∨ 248 ≤ c) with a | a | a | a | a | a
  · rw [lead1 a]
    go_enter Tryz.func258, Tryz.ntmps258
    go_wp2
    go_ret3
    exact ⟨rfl, rfl⟩
  · rw [leadX (.inl a)]
    go_enter Tryz.func258, Tryz.ntmps258
    go_wp2
    go_ret3
    exact ⟨rfl, rfl⟩
  · rw [lead2 a]
    go_enter Tryz.func258, Tryz.ntmps258
    go_wp2
    go_ret3
    exact ⟨rfl, rfl⟩
  · rw [lead3 a]
    go_enter Tryz.func258, Tryz.ntmps258
    go_wp2
    go_ret3
    exact ⟨rfl, rfl⟩
  · rw [lead4 a]
    go_enter Tryz.func258, Tryz.ntmps258
    go_wp2
    go_ret3
    exact ⟨rfl, rfl⟩
  · rw [leadX (.inr a)]
    go_enter Tryz.func258, Tryz.ntmps258
    go_wp2
    go_ret3
    exact ⟨rfl, rfl⟩

theorem high2 : ∀ c : Fin 256, (bits BinOp.and IntKind.u8 ((c.val : Nat) : Int) 192 == 128) = (c.val / 64 == 2) := by
  decide +kernel
theorem high_yes {c : Nat} (h : c < 256) (g : c / 64 = 2) : (bits BinOp.and IntKind.u8 (c : Int) 192 == 128) = true ∧ (bits BinOp.and IntKind.u8 (c : Int) 192 != 128) = false := by
  have := high2 ⟨c, h⟩
  simp only [g] at this
  exact ⟨this, by simp [bne, this]⟩
theorem high_no {c : Nat} (h : c < 256) (g : ¬ c / 64 = 2) : (bits BinOp.and IntKind.u8 (c : Int) 192 == 128) = false ∧ (bits BinOp.and IntKind.u8 (c : Int) 192 != 128) = true := by
  have := high2 ⟨c, h⟩
  simp only [beq_eq_false_iff_ne.2 g] at this
  exact ⟨this, by simp [bne, this]⟩

/-- What decode gives at a place: the rune and where its bytes end; or 'false'. -/
def DecGives (s : ByteArray) (i : Nat) (w : World) (e : Ending) (w' : World) : Prop :=
  w = w' ∧ (okAt s i = true ∧ e = .returned (.tuple #[.int .i32 (Utf8.decode s i).1, .int .i64 ((i + (Utf8.decode s i).2 : Nat) : Int), .bool true]) ∨
    okAt s i = false ∧ ∃ r n : Int, e = .returned (.tuple #[.int .i32 r, .int .i64 n, .bool false]))
theorem DecGives.yes {s : ByteArray} {i r n : Nat} {w : World} {e : Ending} (k : okAt s i = true) (d : Utf8.decode s i = (r, n)) (h : e = .returned (.tuple #[.int .i32 r, .int .i64 ((i + n : Nat) : Int), .bool true])) : DecGives s i w e w :=
  ⟨rfl, .inl ⟨k, by rw [d]; exact h⟩⟩
theorem DecGives.no {s : ByteArray} {i : Nat} {r n : Int} {w : World} {e : Ending} (k : okAt s i = false) (h : e = .returned (.tuple #[.int .i32 r, .int .i64 n, .bool false])) : DecGives s i w e w :=
  ⟨rfl, .inr ⟨k, _, _, h⟩⟩
theorem ret_tup3 {a b a' b' : Int} {x y : Bool} (h1 : a = a') (h2 : b = b') (h3 : x = y) : Ending.returned (.tuple #[.int .i32 a, .int .i64 b, .bool x]) = .returned (.tuple #[.int .i32 a', .int .i64 b', .bool y]) := by rw [h1, h2, h3]

set_option maxRecDepth 100000 in
theorem decode1 (s : ByteArray) (i : Nat) (w : World) (h0 : i < s.size) (hs : s.size ≤ maxLen) (h : B s i < 128) :
    Calls Tryz.prog 234 #[.string s, .int .i64 i] w (DecGives s i w) := by
  unfold maxLen at hs
  have hb := getB s
  have hB := B_lt s i
  have hsz : (i : Int) < (s.size : Int) := by omega
  go_enter Tryz.func234, Tryz.ntmps234
  go_wp2_with fail
  refine (lead_any _ _ hB).mono ?_
  rw [lead1 h]
  rintro e w' ⟨rfl, rfl⟩
  go_wp2_with fail
  refine wp_loop_rounds 1 ?_
  rw [rounds_succ]
  go_wp2_with (go_at_call 180; refine (may_any _ _ (by omega) (by omega)).mono ?_; rintro e w' ⟨rfl, rfl⟩)
  go_ret3
  have d := dec1 h
  exact .yes d.2 d.1 (ret_tup3 rfl (by omega) (by simp [mayB]; omega))

set_option maxRecDepth 100000 in
theorem decodeX (s : ByteArray) (i : Nat) (w : World) (h0 : i < s.size) (hs : s.size ≤ maxLen) (h : 128 ≤ B s i ∧ B s i < 192 ∨ 248 ≤ B s i) :
    Calls Tryz.prog 234 #[.string s, .int .i64 i] w (DecGives s i w) := by
  unfold maxLen at hs
  have hb := getB s
  have hB := B_lt s i
  have hsz : (i : Int) < (s.size : Int) := by omega
  go_enter Tryz.func234, Tryz.ntmps234
  go_wp2_with fail
  refine (lead_any _ _ hB).mono ?_
  rw [leadX h]
  rintro e w' ⟨rfl, rfl⟩
  go_wp2_with fail
  go_ret3
  exact .no (dec_lone h) rfl

set_option maxHeartbeats 2000000 in
set_option maxRecDepth 1000000 in
theorem decode2 (s : ByteArray) (i : Nat) (w : World) (h0 : i < s.size) (hs : s.size ≤ maxLen) (h : 192 ≤ B s i ∧ B s i < 224) :
    Calls Tryz.prog 234 #[.string s, .int .i64 i] w (DecGives s i w) := by
  unfold maxLen at hs
  have hb := getB s
  have hB := B_lt s i
  have hB1 := B_lt s (i + 1)
  have hsz : (i : Int) < (s.size : Int) := by omega
  go_enter Tryz.func234, Tryz.ntmps234
  by_cases hl : s.size ≤ i + 1
  · go_wp2_with fail
    refine (lead_any _ _ hB).mono ?_
    rw [lead2 h]
    rintro e w' ⟨rfl, rfl⟩
    go_wp2_with fail
    go_ret3
    exact .no (dec2_no h (not_cont (.inl (by omega)))) rfl
  by_cases c1 : ¬ B s (i + 1) / 64 = 2
  · have ⟨q1, p1⟩ := high_no hB1 c1
    go_wp2_with fail
    refine (lead_any _ _ hB).mono ?_
    rw [lead2 h]
    rintro e w' ⟨rfl, rfl⟩
    go_wp2_with fail
    refine wp_loop_rounds 1 ?_
    rw [rounds_succ]
    go_wp2_with fail
    go_ret3
    exact .no (dec2_no h (not_cont (.inr c1))) rfl
  have c1' : B s (i + 1) / 64 = 2 := by omega
  have ⟨q1, p1⟩ := high_yes hB1 c1'
  have G1 := Lib.hid (cont_of (s := s) (k := i + 1) (by omega) c1')
  clear c1 c1'
  have hv : (((B s i : Nat) : Int) % 32) * 64 + ((B s (i + 1) : Nat) : Int) % 64 = ((v2 s i : Nat) : Int) := by unfold v2; omega
  have HV := Lib.hid hv; clear hv
  by_cases v : 128 ≤ v2 s i
  · have v' : (128 : Int) ≤ (((B s i : Nat) : Int) % 32) * 64 + ((B s (i + 1) : Nat) : Int) % 64 := by rw [HV.out]; omega
    go_wp2_with fail
    refine (lead_any _ _ hB).mono ?_
    rw [lead2 h]
    rintro e w' ⟨rfl, rfl⟩
    go_wp2_with fail
    refine wp_loop_rounds 2 ?_
    rw [rounds_succ]
    go_wp2_with fail
    rw [rounds_succ]
    go_wp2_with (go_at_call 180; refine (may_any _ _ (by omega) (by omega)).mono ?_; rintro e w' ⟨rfl, rfl⟩)
    go_ret3
    rcases dec2 h G1.out with ⟨_, d, k⟩ | ⟨d, k⟩
    · exact .yes k d (ret_tup3 HV.out (by omega) (by simp [mayB]; omega))
    · omega
  · have v' : ¬ (128 : Int) ≤ (((B s i : Nat) : Int) % 32) * 64 + ((B s (i + 1) : Nat) : Int) % 64 := by rw [HV.out]; omega
    go_wp2_with fail
    refine (lead_any _ _ hB).mono ?_
    rw [lead2 h]
    rintro e w' ⟨rfl, rfl⟩
    go_wp2_with fail
    refine wp_loop_rounds 2 ?_
    rw [rounds_succ]
    go_wp2_with fail
    rw [rounds_succ]
    go_wp2_with fail
    go_ret3
    rcases dec2 h G1.out with ⟨d, _⟩ | ⟨_, k⟩
    · omega
    · exact .no k rfl

set_option maxHeartbeats 2000000 in
set_option maxRecDepth 1000000 in
theorem decode3 (s : ByteArray) (i : Nat) (w : World) (h0 : i < s.size) (hs : s.size ≤ maxLen) (h : 224 ≤ B s i ∧ B s i < 240) :
    Calls Tryz.prog 234 #[.string s, .int .i64 i] w (DecGives s i w) := by
  unfold maxLen at hs
  have hb := getB s
  have hB := B_lt s i
  have hB1 := B_lt s (i + 1)
  have hB2 := B_lt s (i + 1 + 1)
  have hsz : (i : Int) < (s.size : Int) := by omega
  go_enter Tryz.func234, Tryz.ntmps234
  by_cases hl : s.size ≤ i + 2
  · go_wp2_with fail
    refine (lead_any _ _ hB).mono ?_
    rw [lead3 h]
    rintro e w' ⟨rfl, rfl⟩
    go_wp2_with fail
    go_ret3
    exact .no (dec3_no h (.inr (not_cont (.inl (by omega))))) rfl
  by_cases c1 : ¬ B s (i + 1) / 64 = 2
  · have ⟨q1, p1⟩ := high_no hB1 c1
    go_wp2_with fail
    refine (lead_any _ _ hB).mono ?_
    rw [lead3 h]
    rintro e w' ⟨rfl, rfl⟩
    go_wp2_with fail
    refine wp_loop_rounds 1 ?_
    rw [rounds_succ]
    go_wp2_with fail
    go_ret3
    exact .no (dec3_no h (.inl (not_cont (.inr c1)))) rfl
  have c1' : B s (i + 1) / 64 = 2 := by omega
  have ⟨q1, p1⟩ := high_yes hB1 c1'
  have G1 := Lib.hid (cont_of (s := s) (k := i + 1) (by omega) c1')
  clear c1 c1'
  by_cases c2 : ¬ B s (i + 1 + 1) / 64 = 2
  · have ⟨q2, p2⟩ := high_no hB2 c2
    go_wp2_with fail
    refine (lead_any _ _ hB).mono ?_
    rw [lead3 h]
    rintro e w' ⟨rfl, rfl⟩
    go_wp2_with fail
    refine wp_loop_rounds 2 ?_
    rw [rounds_succ]
    go_wp2_with fail
    rw [rounds_succ]
    go_wp2_with fail
    go_ret3
    exact .no (dec3_no h (.inr (not_cont (.inr c2)))) rfl
  have c2' : B s (i + 1 + 1) / 64 = 2 := by omega
  have ⟨q2, p2⟩ := high_yes hB2 c2'
  have G2 := Lib.hid (cont_of (s := s) (k := i + 1 + 1) (by omega) c2')
  clear c2 c2'
  have hv : ((((B s i : Nat) : Int) % 16) * 64 + ((B s (i + 1) : Nat) : Int) % 64) * 64 + ((B s (i + 1 + 1) : Nat) : Int) % 64 = ((v3 s i : Nat) : Int) := by unfold v3; rw [show i + 2 = i + 1 + 1 from rfl]; omega
  have HV := Lib.hid hv; clear hv
  by_cases v : 2048 ≤ v3 s i
  · have v' : (2048 : Int) ≤ ((((B s i : Nat) : Int) % 16) * 64 + ((B s (i + 1) : Nat) : Int) % 64) * 64 + ((B s (i + 1 + 1) : Nat) : Int) % 64 := by rw [HV.out]; omega
    go_wp2_with fail
    refine (lead_any _ _ hB).mono ?_
    rw [lead3 h]
    rintro e w' ⟨rfl, rfl⟩
    go_wp2_with fail
    refine wp_loop_rounds 3 ?_
    rw [rounds_succ]
    go_wp2_with fail
    rw [rounds_succ]
    go_wp2_with fail
    rw [rounds_succ]
    go_wp2_with (go_at_call 180; refine (may_any _ _ (by omega) (by omega)).mono ?_; rintro e w' ⟨rfl, rfl⟩)
    go_ret3
    rcases dec3 h G1.out G2.out with ⟨_, hm, d, k⟩ | ⟨d, k⟩
    · exact .yes k d (ret_tup3 HV.out (by omega) (by rw [HV.out]; exact hm))
    · have hm : mayB (v3 s i) = false := d.resolve_left (by omega)
      exact .no k (ret_tup3 rfl rfl (by rw [HV.out]; exact hm))
  · have v' : ¬ (2048 : Int) ≤ ((((B s i : Nat) : Int) % 16) * 64 + ((B s (i + 1) : Nat) : Int) % 64) * 64 + ((B s (i + 1 + 1) : Nat) : Int) % 64 := by rw [HV.out]; omega
    go_wp2_with fail
    refine (lead_any _ _ hB).mono ?_
    rw [lead3 h]
    rintro e w' ⟨rfl, rfl⟩
    go_wp2_with fail
    refine wp_loop_rounds 3 ?_
    rw [rounds_succ]
    go_wp2_with fail
    rw [rounds_succ]
    go_wp2_with fail
    rw [rounds_succ]
    go_wp2_with fail
    go_ret3
    rcases dec3 h G1.out G2.out with ⟨d, _⟩ | ⟨_, k⟩
    · omega
    · exact .no k rfl

set_option maxHeartbeats 2000000 in
set_option maxRecDepth 1000000 in
theorem decode4 (s : ByteArray) (i : Nat) (w : World) (h0 : i < s.size) (hs : s.size ≤ maxLen) (h : 240 ≤ B s i ∧ B s i < 248) :
    Calls Tryz.prog 234 #[.string s, .int .i64 i] w (DecGives s i w) := by
  unfold maxLen at hs
  have hb := getB s
  have hB := B_lt s i
  have hB1 := B_lt s (i + 1)
  have hB2 := B_lt s (i + 1 + 1)
  have hB3 := B_lt s (i + 1 + 2)
  have hsz : (i : Int) < (s.size : Int) := by omega
  go_enter Tryz.func234, Tryz.ntmps234
  by_cases hl : s.size ≤ i + 3
  · go_wp2_with fail
    refine (lead_any _ _ hB).mono ?_
    rw [lead4 h]
    rintro e w' ⟨rfl, rfl⟩
    go_wp2_with fail
    go_ret3
    exact .no (dec4_no h (.inr (.inr (not_cont (.inl (by omega)))))) rfl
  by_cases c1 : ¬ B s (i + 1) / 64 = 2
  · have ⟨q1, p1⟩ := high_no hB1 c1
    go_wp2_with fail
    refine (lead_any _ _ hB).mono ?_
    rw [lead4 h]
    rintro e w' ⟨rfl, rfl⟩
    go_wp2_with fail
    refine wp_loop_rounds 1 ?_
    rw [rounds_succ]
    go_wp2_with fail
    go_ret3
    exact .no (dec4_no h (.inl (not_cont (.inr c1)))) rfl
  have c1' : B s (i + 1) / 64 = 2 := by omega
  have ⟨q1, p1⟩ := high_yes hB1 c1'
  have G1 := Lib.hid (cont_of (s := s) (k := i + 1) (by omega) c1')
  clear c1 c1'
  by_cases c2 : ¬ B s (i + 1 + 1) / 64 = 2
  · have ⟨q2, p2⟩ := high_no hB2 c2
    go_wp2_with fail
    refine (lead_any _ _ hB).mono ?_
    rw [lead4 h]
    rintro e w' ⟨rfl, rfl⟩
    go_wp2_with fail
    refine wp_loop_rounds 2 ?_
    rw [rounds_succ]
    go_wp2_with fail
    rw [rounds_succ]
    go_wp2_with fail
    go_ret3
    exact .no (dec4_no h (.inr (.inl (not_cont (.inr c2))))) rfl
  have c2' : B s (i + 1 + 1) / 64 = 2 := by omega
  have ⟨q2, p2⟩ := high_yes hB2 c2'
  have G2 := Lib.hid (cont_of (s := s) (k := i + 1 + 1) (by omega) c2')
  clear c2 c2'
  by_cases c3 : ¬ B s (i + 1 + 2) / 64 = 2
  · have ⟨q3, p3⟩ := high_no hB3 c3
    go_wp2_with fail
    refine (lead_any _ _ hB).mono ?_
    rw [lead4 h]
    rintro e w' ⟨rfl, rfl⟩
    go_wp2_with fail
    refine wp_loop_rounds 3 ?_
    rw [rounds_succ]
    go_wp2_with fail
    rw [rounds_succ]
    go_wp2_with fail
    rw [rounds_succ]
    go_wp2_with fail
    go_ret3
    exact .no (dec4_no h (.inr (.inr (not_cont (.inr c3))))) rfl
  have c3' : B s (i + 1 + 2) / 64 = 2 := by omega
  have ⟨q3, p3⟩ := high_yes hB3 c3'
  have G3 := Lib.hid (cont_of (s := s) (k := i + 1 + 2) (by omega) c3')
  clear c3 c3'
  have hv : (((((B s i : Nat) : Int) % 8) * 64 + ((B s (i + 1) : Nat) : Int) % 64) * 64 + ((B s (i + 1 + 1) : Nat) : Int) % 64) * 64 + ((B s (i + 1 + 2) : Nat) : Int) % 64 = ((v4 s i : Nat) : Int) := by unfold v4; rw [show i + 2 = i + 1 + 1 from rfl, show i + 3 = i + 1 + 2 from rfl]; omega
  have HV := Lib.hid hv; clear hv
  by_cases v : 65536 ≤ v4 s i
  · have v' : (65536 : Int) ≤ (((((B s i : Nat) : Int) % 8) * 64 + ((B s (i + 1) : Nat) : Int) % 64) * 64 + ((B s (i + 1 + 1) : Nat) : Int) % 64) * 64 + ((B s (i + 1 + 2) : Nat) : Int) % 64 := by rw [HV.out]; omega
    go_wp2_with fail
    refine (lead_any _ _ hB).mono ?_
    rw [lead4 h]
    rintro e w' ⟨rfl, rfl⟩
    go_wp2_with fail
    refine wp_loop_rounds 4 ?_
    rw [rounds_succ]
    go_wp2_with fail
    rw [rounds_succ]
    go_wp2_with fail
    rw [rounds_succ]
    go_wp2_with fail
    rw [rounds_succ]
    go_wp2_with (go_at_call 180; refine (may_any _ _ (by omega) (by omega)).mono ?_; rintro e w' ⟨rfl, rfl⟩)
    go_ret3
    rcases dec4 h G1.out G2.out G3.out with ⟨_, hm, d, k⟩ | ⟨d, k⟩
    · exact .yes k d (ret_tup3 HV.out (by omega) (by rw [HV.out]; exact hm))
    · have hm : mayB (v4 s i) = false := d.resolve_left (by omega)
      exact .no k (ret_tup3 rfl rfl (by rw [HV.out]; exact hm))
  · have v' : ¬ (65536 : Int) ≤ (((((B s i : Nat) : Int) % 8) * 64 + ((B s (i + 1) : Nat) : Int) % 64) * 64 + ((B s (i + 1 + 1) : Nat) : Int) % 64) * 64 + ((B s (i + 1 + 2) : Nat) : Int) % 64 := by rw [HV.out]; omega
    go_wp2_with fail
    refine (lead_any _ _ hB).mono ?_
    rw [lead4 h]
    rintro e w' ⟨rfl, rfl⟩
    go_wp2_with fail
    refine wp_loop_rounds 4 ?_
    rw [rounds_succ]
    go_wp2_with fail
    rw [rounds_succ]
    go_wp2_with fail
    rw [rounds_succ]
    go_wp2_with fail
    rw [rounds_succ]
    go_wp2_with fail
    go_ret3
    rcases dec4 h G1.out G2.out G3.out with ⟨d, _⟩ | ⟨_, k⟩
    · omega
    · exact .no k rfl


theorem decode_any (s : ByteArray) (i : Nat) (w : World) (h0 : i < s.size) (hs : s.size ≤ maxLen) :
    Calls Tryz.prog 234 #[.string s, .int .i64 i] w (DecGives s i w) := by
  have := B_lt s i
  rcases (by omega : B s i < 128 ∨ (128 ≤ B s i ∧ B s i < 192 ∨ 248 ≤ B s i) ∨ (192 ≤ B s i ∧ B s i < 224) ∨ (224 ≤ B s i ∧ B s i < 240) ∨ (240 ≤ B s i ∧ B s i < 248)) with h | h | h | h | h
  · exact decode1 s i w h0 hs h
  · exact decodeX s i w h0 hs h
  · exact decode2 s i w h0 hs h
  · exact decode3 s i w h0 hs h
  · exact decode4 s i w h0 hs h
end Go.Proofs.YtdgbjhfkmembdaaGreatDoor
