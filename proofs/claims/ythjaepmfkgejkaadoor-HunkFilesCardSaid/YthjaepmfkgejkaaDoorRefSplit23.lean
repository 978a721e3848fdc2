/-
  What the document's Split and number give. Conditions: a text of at most 4000 bytes; a row of at most 100000 lines.
-/
import Derived.Test.YthjaepmfkgejkaaDoorRefSpec23
import Derived.Test.YthjaepmfkgejkaaDoorHunkMem23
namespace Go.Proofs.YthjaepmfkgejkaaDoor
open Go.RowKit Go.Maps Go.Shelf
set_option linter.unusedVariables false
set_option linter.unusedSimpArgs false

theorem L_cut (s : ByteArray) (f k : Nat) : L (s.extract f k) = ((L s).drop f).take (k - f) := by
  show (s.extract f k).data.toList = _
  rw [Lib.extract_data]
theorem strs_one (xs : List ByteArray) (s : ByteArray) : strs (xs ++ [s]) = strs xs ++ [.string s] := by simp [strs]
/-- The lines cut so far. -/
def CutAt (s : ByteArray) (w : World) (i f : Nat) (v : Value) (xs : List ByteArray) (wr : World) : Prop := LinesAt (L s) i f (xs.map L) ∧ wr.ownsRow w.heap.size 9 1 v xs.length (strs xs) ∧ Below w.heap.size w wr ∧ xs.length ≤ i
set_option maxHeartbeats 4000000 in
set_option maxRecDepth 100000 in
theorem refSplit_any (s : ByteArray) (w : World) (hs : s.size ≤ 4000) :
    Calls Tryd.prog 76 #[.string s] w fun e w' => Below w.heap.size w w' ∧ ∃ v ls, e = .returned v ∧ ls.map L = linesS (L s) ∧ w'.ownsRow w.heap.size 9 1 v ls.length (strs ls) := by
  have hgb := getB s
  go_enter Tryd.func76, Tryd.ntmps76
  go_wp2_with fail
  go_loopw [3, 4, 5] (fun t3 t4 t5 wr => ∃ (i f : Nat) (xs : List ByteArray), t4 = .int .i64 (f : Int) ∧ t5 = .int .i64 (i : Int) ∧ Hid (CutAt s w i f t3 xs wr)) (fun _ _ t5 _ => s.size - (intOf t5).toNat)
  case atStart => exact ⟨0, 0, [], rfl, rfl, Lib.hid ⟨LinesAt.start _, World.ownsRow_nil _ _ _ _, Below.refl _ _, Nat.zero_le _⟩⟩
  case round =>
    obtain ⟨i, f, xs, rfl, rfl, HC⟩ := hrel
    obtain ⟨Ax, cx, rfl⟩ := own_shape23 HC.out.2.1
    have hfi : f ≤ i := HC.out.1.1
    have his : i ≤ s.size := by have := HC.out.1.2.1; rwa [L_length] at this
    have hxl : xs.length ≤ i := HC.out.2.2.2
    have hbz := HC.out.2.2.1.size
    by_cases hlt : i < s.size
    · have hB := B_lt s i
      have i1 : (i : Int) < (s.size : Int) := by omega
      have hBi : (L s)[i]? = some (s[i]'hlt) := B_L s i hlt
      have hBn : B s i = (s[i]'hlt).toNat := B_of s i hlt
      by_cases hten : B s i = 10
      · have hc10 : (L s)[i]? = some 10 := by
          rw [hBi]
          congr 1
          exact UInt8.toNat_inj.1 (by rw [← hBn, hten]; rfl)
        have HC2 := Lib.hid (HC.out.1.cut hc10)
        have k10 : (((B s i : Nat) : Int) == 10) = true := by rw [hten]; rfl
        have f0 : (0 : Int) ≤ (f : Int) := by omega
        have f1 : (f : Int) ≤ (i : Int) + 1 := by omega
        have f2 : (i : Int) + 1 ≤ (s.size : Int) := by omega
        clear hc10 hten hBi hBn
        go_wp2_with (at_builtin; refine wp_app1 rfl _ _ 56 rfl w.heap.size 9 (.string ⟨#[]⟩) 16 Tryd.underlying56 strInfo23 rfl _ xs.length _ rfl HC.out.2.1 (.string (s.extract f (i + 1))) 9 rfl rfl (by unfold maxLen; omega) (by omega) hbz ?_; intro t8' w8 hown8 hb8)
        go_roundw
        case rel =>
          refine ⟨i + 1, i + 1, xs ++ [s.extract f (i + 1)], by go_num, by go_num, Lib.hid ⟨?_, ?_, hb8 _ _ (Nat.le_refl _) HC.out.2.2.1, by rw [List.length_append, List.length_singleton]; omega⟩⟩
          · rw [List.map_append, List.map_cons, List.map_nil, L_cut]; exact HC2.out
          · rw [strs_one, List.length_append, List.length_singleton]; exact hown8
        case measure => simp [intOf]; omega
      · have hc10 : (L s)[i]? ≠ some 10 := by
          rw [hBi]
          intro e
          apply hten
          rw [hBn, Option.some.inj e]
          rfl
        have HC2 := Lib.hid (HC.out.1.on (by rw [L_length]; exact hlt) hc10)
        have k10 : (((B s i : Nat) : Int) == 10) = false := by simp; omega
        clear hc10 hten hBi hBn
        go_wp2_with fail
        go_roundw
        case rel => exact ⟨i + 1, f, xs, rfl, by go_num, Lib.hid ⟨HC2.out, HC.out.2.1, HC.out.2.2.1, by omega⟩⟩
        case measure => simp [intOf]; omega
    · obtain rfl : i = s.size := by omega
      have hla := HC.out.1
      rw [← L_length] at hla
      by_cases hf : f < s.size
      · have HL := Lib.hid (hla.last (by rw [L_length]; exact hf))
        have f0 : (0 : Int) ≤ (f : Int) := by omega
        have f1 : (f : Int) < (s.size : Int) := by omega
        have f2 : (f : Int) ≤ (s.size : Int) := by omega
        clear hla
        go_wp2_with (at_builtin; refine wp_app1 rfl _ _ 56 rfl w.heap.size 9 (.string ⟨#[]⟩) 16 Tryd.underlying56 strInfo23 rfl _ xs.length _ rfl HC.out.2.1 (.string (s.extract f s.size)) 9 rfl rfl (by unfold maxLen; omega) (by omega) hbz ?_; intro t8' w8 hown8 hb8)
        go_ret
        refine ⟨hb8 _ _ (Nat.le_refl _) HC.out.2.2.1, t8', xs ++ [s.extract f s.size], rfl, ?_, ?_⟩
        · rw [List.map_append, List.map_cons, List.map_nil, L_cut, HL.out, List.take_of_length_le (by rw [List.length_drop, L_length]; omega)]
        · rw [strs_one, List.length_append, List.length_singleton]; exact hown8
      · have HL := Lib.hid (hla.done (by rw [L_length]; exact hf))
        clear hla
        go_wp2_with fail
        go_ret
        exact ⟨HC.out.2.2.1, _, xs, rfl, HL.out.symm, HC.out.2.1⟩
theorem idx_at (K : List ByteArray) (s : ByteArray) : ∀ (i : Nat) (hi : i < K.length), (∀ j (hj : j < K.length), j < i → K[j] ≠ s) → K[i] = s → idx K s = i := by
  induction K with
  | nil => intro i hi; cases hi
  | cons k K ih =>
    intro i hi hb he
    unfold idx
    cases i with
    | zero => rw [if_pos (by simpa using he)]
    | succ i =>
      have h0 := hb 0 (by simp) (by omega)
      rw [if_neg (by simpa using h0), ih i (by simpa using hi) (fun j hj hji => by have := hb (j + 1) (by simpa using hj) (by omega); simpa using this) (by simpa using he)]
theorem idx_none (K : List ByteArray) (s : ByteArray) (h : ∀ j (hj : j < K.length), K[j] ≠ s) : idx K s = K.length := by
  induction K with
  | nil => rfl
  | cons k K ih =>
    unfold idx
    have h0 := h 0 (by simp)
    rw [if_neg (by simpa using h0), ih (fun j hj => by have := h (j + 1) (by simpa using hj); simpa using this)]
    rfl
set_option maxHeartbeats 2000000 in
set_option maxRecDepth 100000 in
theorem refNumber_any (K : List ByteArray) (A : Option Addr) (c : Nat) (s : ByteArray) (w : World) (hK : K.length ≤ 100000) (hsl : Sl w w.heap.size A K.length 1 (strs K)) :
    Calls Tryd.prog 77 #[.slice A K.length c, .string s] w fun e w' => Below w.heap.size w w' ∧ e = .returned (.int .i32 (idx K s : Int)) := by
  have HSL := Lib.hid hsl
  have HNO := Lib.hid (idx_none K s); have HAT := Lib.hid (idx_at K s)
  clear hsl
  obtain ⟨r, hr⟩ : ∃ r, idx K s = r := ⟨_, rfl⟩
  rw [hr] at HNO HAT ⊢
  clear hr
  go_enter Tryd.func77, Tryd.ntmps77
  go_wp2_with fail
  go_loopw [5] (fun t5 wr => ∃ i : Nat, i ≤ K.length ∧ t5 = .int .i64 (i : Int) ∧ Below w.heap.size w wr ∧ Hid (∀ j (hj : j < K.length), j < i → K[j] ≠ s)) (fun t5 _ => K.length - (intOf t5).toNat)
  case atStart => exact ⟨0, Nat.zero_le _, rfl, Below.refl _ _, Lib.hid fun j _ h => absurd h (by omega)⟩
  case round =>
    obtain ⟨i, hi, rfl, hbr, HB⟩ := hrel
    by_cases hlt : i < K.length
    · obtain ⟨b, off, rfl, hbl, hcl⟩ := HSL.out.2 (by omega)
      have i0 : (0 : Int) ≤ (i : Int) := by omega
      have i1 : (i : Int) < (K.length : Int) := by omega
      have hc := (hbr.cell (p := ⟨b, off + i, none⟩) hbl).trans (hcl i (.string K[i]) (by simp [strs, hlt]))
      have hw : IntKind.i32.wrap (i : Int) = (i : Int) := IntWalk.i32_in _ (by omega)
      have HAI := Lib.hid (HAT.out i hlt HB.out)
      have HNE : Hid (K[i] ≠ s → ∀ j (hj : j < K.length), j < i + 1 → K[j] ≠ s) := fun h j hj hji => by
        rcases (by omega : j < i ∨ j = i) with q | rfl
        · exact HB.out j hj q
        · exact h
      clear hcl
      generalize K[i] = k at *
      have hbq := str_beq k s
      by_cases he : L k = L s
      · obtain rfl := L_inj he
        have tb : (k.toList == k.toList) = true := beq_self_eq_true _
        have HRI := Lib.hid (HAI.out rfl)
        clear he hbq
        go_wp2_with fail
        go_ret
        exact ⟨hbr, by rw [HRI.out]; rfl⟩
      · have tb : (k.toList == s.toList) = false := by rw [hbq]; exact decide_eq_false he
        have hne : k ≠ s := fun e => he (by rw [e])
        have HN2 := Lib.hid (HNE.out hne)
        clear he hbq hne
        go_wp2_with fail
        go_roundw
        case rel => exact ⟨i + 1, by omega, by go_num, hbr, HN2⟩
        case measure => simp [intOf]; omega
    · have hr : r = K.length := HNO.out fun j hj => HB.out j hj (by omega)
      have hw : IntKind.i32.wrap (K.length : Int) = (K.length : Int) := IntWalk.i32_in _ (by omega)
      have HR := Lib.hid hr
      clear hr
      go_wp2_with fail
      go_ret
      exact ⟨hbr, by rw [HR.out]; rfl⟩
end Go.Proofs.YthjaepmfkgejkaaDoor
