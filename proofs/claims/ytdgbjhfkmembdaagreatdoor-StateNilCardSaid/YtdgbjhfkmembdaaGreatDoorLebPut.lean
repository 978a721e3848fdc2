/-
  What leb.Put and leb.PutText give behind nothing. Conditions: a number below 2^63; a text of at most 2^40 bytes.
-/
import Derived.Test.YtdgbjhfkmembdaaGreatDoorShort0
import Derived.Test.YtdgbjhfkmembdaaGreatDoorLebWalks
import Derived.Laws.OwnMore
import Derived.Deep.AppendSrc
import Derived.Laws.AppendOwnNone
import Derived.Lib.AppendStr
namespace Go.Proofs.YtdgbjhfkmembdaaGreatDoor
open Go.RowKit
set_option linter.unusedVariables false

theorem or128 : ∀ x : Fin 256, bits BinOp.or IntKind.u8 ((x.val : Nat) : Int) 128 = ((x.val % 128 + 128 : Nat) : Int) := by decide +kernel
theorem or128' (m : Nat) : bits BinOp.or IntKind.u8 (IntKind.u8.wrap (m : Int)) 128 = ((m % 128 + 128 : Nat) : Int) := by
  have e1 : IntKind.u8.wrap (m : Int) = ((m % 256 : Nat) : Int) := by
    show (m : Int) % 256 = _
    omega
  have h := or128 ⟨m % 256, by omega⟩
  simp only at h
  rw [e1, h, show m % 256 % 128 = m % 128 by omega]
theorem idV_app (a b : List UInt8) : idV (a ++ b) = idV a ++ idV b := by simp [idV]
theorem own_form' {w : World} {base : Nat} {e : TypeId} {sz : Nat} {v : Value} {n : Nat} {xs : List Value} (h : w.ownsRow base e sz v n xs) : ∃ A c, v = .slice A n c := by
  rcases h.2 with ⟨hv, hn⟩ | ⟨g, cap, cur, hv, _⟩
  · exact ⟨none, 0, by rw [hv, hn]⟩
  · exact ⟨_, _, hv⟩
theorem numB_len10 {n : Nat} (h : n < 18446744073709551616) : (numB n).length ≤ 10 :=
  numB_len 10 n (by omega) (by have e : 128 ^ 10 = 1180591620717411303424 := by decide
                               omega)

set_option maxHeartbeats 1000000 in
set_option maxRecDepth 100000 in
theorem number_any (n : Nat) (hn : n < 18446744073709551616) (v : Value) (k : Nat) (xs : List Value) (base : Nat) (w : World) (hown : w.ownsRow base 5 1 v k xs) (hbase : base ≤ w.heap.size) (hk : k ≤ 1099511627776) :
    Calls Tryz.prog 254 #[v, .int .u64 n] w fun e w' => ∃ v', e = .returned v' ∧ w'.ownsRow base 5 1 v' (k + (numB n).length) (xs ++ idV (numB n)) ∧ Below base w w' := by
  have h10 := numB_len10 hn
  have H10 := Lib.hid h10; clear h10
  go_enter Tryz.func254, Tryz.ntmps254
  go_wp2_with fail
  go_loopw [0, 1] (fun t0 t1 wr => ∃ (m : Nat) (pre : List UInt8), t1 = .int .u64 m ∧ m < 18446744073709551616 ∧ pre.length ≤ 10 ∧ Hid (numB n = pre ++ numB m) ∧ wr.ownsRow base 5 1 t0 (k + pre.length) (xs ++ idV pre) ∧ Below base w wr) (fun _ t1 _ => (intOf t1).toNat)
  case atStart => exact ⟨n, [], rfl, hn, by simp, Lib.hid rfl, by simpa [idV] using hown, qB _ _⟩
  case round =>
    obtain ⟨m, pre, rfl, hm, hpl, hP, hownr, hbr⟩ := hrel
    have hbs := hbr.size
    have hpl2 : pre.length + (numB m).length ≤ 10 := by
      have := H10.out
      rw [hP.out, List.length_append] at this
      exact this
    have hpos := numB_pos m
    obtain ⟨A0, c0, hv0⟩ := own_form' hownr
    subst hv0
    by_cases h128 : m < 128
    · have hsm := numB_small h128
      have HSM := Lib.hid hsm; clear hsm
      go_wp2_with (at_builtin; refine wp_app1 rfl _ _ 169 rfl base 5 (.int .u8 0) 1 Tryz.underlying169 info_u8 rfl _ _ _ rfl hownr _ _ rfl rfl ?c1 ?c2 ?c3 ?_)
      case c1 => unfold maxLen; omega
      case c2 => omega
      case c3 => omega
      intro v' w3 hown3 hbel
      have hb3 := hbel base w (qR _) hbr
      clear hbel
      go_wp2_with fail
      go_ret
      refine ⟨_, rfl, ?_, hb3⟩
      rw [hP.out, HSM.out, List.length_append, List.length_singleton, ← Nat.add_assoc]
      have e : idV (pre ++ [UInt8.ofNat m]) = idV pre ++ [.int .u8 (m : Int)] := by
        simp only [idV, List.map_append, List.map_cons, List.map_nil]
        rw [u8_of (by omega)]
      rw [e]
      exact hown3
    · go_wp2_with (at_builtin; refine wp_app1 rfl _ _ 169 rfl base 5 (.int .u8 0) 1 Tryz.underlying169 info_u8 rfl _ _ _ rfl hownr _ _ rfl rfl ?c1 ?c2 ?c3 ?_)
      case c1 => unfold maxLen; omega
      case c2 => omega
      case c3 => omega
      intro v' w3 hown3 hbel
      have hb3 := hbel base w (qR _) hbr
      clear hbel
      go_wp2_with fail
      go_roundw
      case rel =>
        refine ⟨m / 128, pre ++ [UInt8.ofNat (m % 128 + 128)], congrArg (Value.int .u64) (by omega), by omega, by rw [List.length_append, List.length_singleton]; omega, Lib.hid ?_, ?_, hb3⟩
        · rw [hP.out, numB_big h128]
          simp
        · rw [List.length_append, List.length_singleton, ← Nat.add_assoc]
          have e : idV (pre ++ [UInt8.ofNat (m % 128 + 128)]) = idV pre ++ [.int .u8 (bits BinOp.or IntKind.u8 (IntKind.u8.wrap (m : Int)) 128)] := by
            simp only [idV, List.map_append, List.map_cons, List.map_nil]
            rw [u8_of (by omega)]
            rw [or128' m]
          rw [e]
          exact hown3
      case measure => simp [intOf]; omega

set_option maxHeartbeats 1000000 in
set_option maxRecDepth 100000 in
theorem own_nil (w : World) : Calls Tryz.prog 255 #[.slice none 0 0] w fun e w' => ∃ v, e = .returned v ∧ w'.ownsRow w.heap.size 5 1 v 0 [] ∧ Below w.heap.size w w' := by
  obtain ⟨i0, hi, hz0, hz1, hz2⟩ := info_parts info_u8
  have hmk : ∀ w, (Instr.makeSlice 169 (.int .i64 0) (.int .i64 16)).run Tryz.prog w = .ok (.slice (some ⟨w.heap.size, 0, none⟩) 0 16) (w.alloc (.cells (List.replicate 16 (Value.int .u8 0)).toArray 5)) := fun _ => by kernel_rfl
  go_enter Tryz.func255, Tryz.ntmps255
  go_wp2_with fail
  go_ret
  refine ⟨_, rfl, ?_, (qB _ _).alloc (qR _) _⟩
  exact World.ownsRow_made w (List.replicate 16 (Value.int .u8 0)).toArray 16 (qR _) (by unfold maxLen; omega) rfl

def PutGives (n : Nat) (w : World) (e : Ending) (w' : World) : Prop := ∃ v, e = .returned (.tuple #[v, .int .i64 0]) ∧ w'.ownsRow w.heap.size 5 1 v (numB n).length (idV (numB n)) ∧ Below w.heap.size w w'
set_option maxHeartbeats 1000000 in
set_option maxRecDepth 100000 in
theorem put_nil (n : Nat) (hn : n < 9223372036854775808) (w : World) : Calls Tryz.prog 229 #[.slice none 0 0, .int .i64 n] w (PutGives n w) := by
  have hn2 : (n : Int) ≤ 9223372036854775807 := by omega
  go_enter Tryz.func229, Tryz.ntmps229
  go_wp2_with fail
  refine (own_nil _).mono ?_
  rintro e w1 ⟨v, rfl, hown, hb1⟩
  go_wp2_with fail
  refine (number_any n (by omega) v 0 [] w.heap.size _ hown hb1.size (by omega)).mono ?_
  rintro e w2 ⟨v', rfl, hown2, hb2⟩
  go_wp2_with fail
  go_ret2
  rw [qZ, List.nil_append] at hown2
  exact ⟨v', rfl, hown2, hb1.trans hb2⟩

def PutTextGives (s : ByteArray) (w : World) (e : Ending) (w' : World) : Prop := ∃ v, e = .returned v ∧ w'.ownsRow w.heap.size 5 1 v (textB (L s)).length (idV (textB (L s))) ∧ Below w.heap.size w w'
set_option maxHeartbeats 1000000 in
set_option maxRecDepth 100000 in
theorem putText_nil (s : ByteArray) (hs : s.size ≤ 1099511627776) (w : World) : Calls Tryz.prog 230 #[.slice none 0 0, .string s] w (PutTextGives s w) := by
  have hn2 : (s.size : Int) ≤ 9223372036854775807 := by omega
  go_enter Tryz.func230, Tryz.ntmps230
  go_wp2_with fail
  refine (own_nil _).mono ?_
  rintro e w1 ⟨v, rfl, hown, hb1⟩
  go_wp2_with fail
  refine (number_any s.size (by omega) v 0 [] w.heap.size _ hown hb1.size (by omega)).mono ?_
  rintro e w2 ⟨v', rfl, hown2, hb2⟩
  rw [qZ, List.nil_append] at hown2
  have h10 := numB_len10 (n := s.size) (by omega)
  obtain ⟨i0, hi, hz0, hz1, hz2⟩ := info_parts info_u8
  go_wp2_with (at_builtin; refine Lib.wpList_append_own_string _ rfl _ _ 169 9 rfl w.heap.size 5 i0 Tryz.underlying169 Tryz.underlying9 hi hz0 hz1 hz2 _ _ _ rfl hown2 s rfl ?c1 ?c2 ?c3 ?_)
  case c1 => unfold maxLen; omega
  case c2 => omega
  case c3 => have := hb1.size; have := hb2.size; omega
  intro v3 w3 hown3 hgr3 _
  have hb12 := hb1.trans hb2
  have hb3 := hb12.grown hgr3 hb12.size (fun k hk => (hown2.lt k hk).1)
  go_wp2_with fail
  go_ret
  refine ⟨v3, rfl, ?_, hb3⟩
  unfold textB
  rw [List.length_append, L_length, idV_app]
  exact hown3
end Go.Proofs.YtdgbjhfkmembdaaGreatDoor
