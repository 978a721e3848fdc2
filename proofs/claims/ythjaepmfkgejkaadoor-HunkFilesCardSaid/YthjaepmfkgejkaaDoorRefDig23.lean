/-
  What the document's Digits and find give. Conditions: a number up to 100000; few files with short paths.
-/
import Derived.Test.YthjaepmfkgejkaaDoorRefOf23
import Derived.Test.YthjaepmfkgejkaaDoorLinesMore23
import Derived.Test.YthjaepmfkgejkaaDoorMerged1
namespace Go.Proofs.YthjaepmfkgejkaaDoor
open Go.RowKit Go.Maps Go.Shelf Go.Sort
set_option linter.unusedVariables false
set_option linter.unusedSimpArgs false

def DIG3 : ByteArray := ⟨#[48, 49, 50, 51, 52, 53, 54, 55, 56, 57]⟩
theorem dig3_at (i : Nat) (h : i < 10) : L (DIG3.extract i (i + 1)) = [UInt8.ofNat (48 + i)] := by
  rw [show L (DIG3.extract i (i + 1)) = _ from Lib.extract_data DIG3 i (i + 1)]
  have : ∀ i : Fin 10, (DIG3.data.toList.drop i.val).take (i.val + 1 - i.val) = [UInt8.ofNat (48 + i.val)] := by decide
  exact this ⟨i, h⟩
set_option maxHeartbeats 1000000 in
set_option maxRecDepth 100000 in
theorem refDigits_any (N : Nat) (w : World) (hN : N ≤ 100000) : Calls Tryd.prog 45 #[.int .i64 (N : Int)] w fun e w' => w' = w ∧ e = .returned (.string ⟨(Lib.decDigits N).toArray⟩) := by
  have HLE := Lib.hid (decDigits_le N)
  go_enter Tryd.func45, Tryd.ntmps45
  go_wp2_with fail
  go_loop [0, 3] (fun t u => ∃ (n : Nat) (x : ByteArray), n ≤ N ∧ t = .int .i64 (n : Int) ∧ u = .string x ∧ Hid (Lib.decDigits N = Lib.decDigits n ++ L x)) (fun t _ => (intOf t).toNat)
  case atStart => exact ⟨N, ⟨#[]⟩, Nat.le_refl _, rfl, rfl, Lib.hid (by show _ = Lib.decDigits N ++ []; rw [List.append_nil])⟩
  case round =>
    obtain ⟨n, x, hn, rfl, rfl, HX⟩ := hrel
    have hxl : x.size ≤ 100001 := by
      have h1 := congrArg List.length HX.out
      have h2 := HLE.out
      rw [List.length_append, L_length] at h1
      omega
    by_cases h10 : n < 10
    · have HD := Lib.hid (dig3_at n h10)
      have hi0 : (0 : Int) ≤ (n : Int) := by omega
      have hi1 : (n : Int) ≤ (n : Int) + 1 := by omega
      have hi2 : (n : Int) + 1 ≤ 10 := by omega
      have hsz : (DIG3.extract n (n + 1)).size = 1 := by rw [← L_length, HD.out]; rfl
      have z1 : ¬ 9223372036854775807 < 1 + x.size := by omega
      obtain ⟨d, hd⟩ : ∃ d, DIG3.extract n (n + 1) = d := ⟨_, rfl⟩
      rw [hd] at HD hsz
      have hd' : (⟨#[48, 49, 50, 51, 52, 53, 54, 55, 56, 57]⟩ : ByteArray).extract n (n + 1) = d := hd
      go_wp2_with fail
      go_ret
      refine ⟨rfl, ?_⟩
      have e : L (d ++ x) = Lib.decDigits N := by rw [L_app, HD.out, HX.out, Lib.decDigits_one h10]
      have e2 : d ++ x = ⟨(Lib.decDigits N).toArray⟩ := L_inj e
      rw [← e2]
      rfl
    · obtain ⟨d, hd⟩ : ∃ d, d = n / 10 := ⟨_, rfl⟩
      obtain ⟨r, hr⟩ : ∃ r, r = n % 10 := ⟨_, rfl⟩
      have hr9 : r < 10 := by omega
      have hq : (n : Int).tdiv 10 = (d : Int) := by rw [Int.tdiv_eq_ediv_of_nonneg (by omega)]; omega
      have hm : (n : Int).tmod 10 = (r : Int) := by rw [Int.tmod_eq_emod_of_nonneg (by omega)]; omega
      have hdec : Lib.decDigits n = Lib.decDigits d ++ [UInt8.ofNat (48 + r)] := by rw [decDigits_step h10, ← hd, ← hr]
      have HDEC := Lib.hid hdec
      have HD := Lib.hid (dig3_at r hr9)
      have hdn : d < n := by omega
      have hge : (10 : Int) ≤ (n : Int) := by omega
      have hj0 : (0 : Int) ≤ (r : Int) := by omega
      have hj1 : (r : Int) ≤ (r : Int) + 1 := by omega
      have hj2 : (r : Int) + 1 ≤ 10 := by omega
      have hsz : (DIG3.extract r (r + 1)).size = 1 := by rw [← L_length, HD.out]; rfl
      have z1 : ¬ 9223372036854775807 < 1 + x.size := by omega
      obtain ⟨g, hg⟩ : ∃ g, DIG3.extract r (r + 1) = g := ⟨_, rfl⟩
      rw [hg] at HD hsz
      have hg' : (⟨#[48, 49, 50, 51, 52, 53, 54, 55, 56, 57]⟩ : ByteArray).extract r (r + 1) = g := hg
      clear hd hr hdec h10
      go_wp2_with fail
      go_round
      case rel => exact ⟨d, g ++ x, by omega, by go_num, rfl, Lib.hid (by rw [L_app, HX.out, HDEC.out, HD.out, List.append_assoc])⟩
      case measure => (simp [intOf]) <;> omega
theorem results_box_tmp {P : Program} {fn : Func} {p u : Tmp} {ty : TypeId} (h : fn.results = #[.cell p ty, .tmp u]) (tmps : Array Value) (w : World) {a : Addr} {v x : Value}
    (hp : tmps.getD p undef = .pointer (some a)) (hu : tmps.getD u undef = x) (hl : (loadVar ty a).run P w = .ok v w) : (results fn tmps).run P w = .ok (.tuple #[v, x]) w := results_row_tmp h tmps w hp hu hl
/-- The first file with a path, as find hands it back. -/
def findV (fs : List FileD) (p : ByteArray) : Value := .agg #[.string (((firstD fs p).map (·.1)).getD ⟨#[]⟩), .string (bytesOf fs p)]
theorem firstD_at (fs : List FileD) (p : ByteArray) (i : Nat) (hi : i < fs.length) (hb : ∀ j (hj : j < fs.length), j < i → fs[j].1 ≠ p) (he : fs[i].1 = p) : firstD fs p = some fs[i] := by
  unfold firstD
  rw [List.find?_eq_some_iff_getElem]
  refine ⟨by simpa using he, i, hi, rfl, fun j hj => ?_⟩
  simpa using hb j (by omega) hj
theorem firstD_none (fs : List FileD) (p : ByteArray) (hb : ∀ j (hj : j < fs.length), fs[j].1 ≠ p) : firstD fs p = none := by
  unfold firstD
  rw [List.find?_eq_none]
  intro f hf
  obtain ⟨j, hj, rfl⟩ := List.getElem_of_mem hf
  simpa using hb j hj
set_option maxHeartbeats 2000000 in
set_option maxRecDepth 100000 in
theorem find_any (fs : List FileD) (A : Option Addr) (c : Nat) (p : ByteArray) (w : World) (hn : fs.length ≤ 100000) (hsl : Sl w w.heap.size A fs.length 2 (cells2 fs)) :
    Calls Tryd.prog 43 #[.slice A fs.length c, .string p] w fun e w' => Below w.heap.size w w' ∧ e = .returned (.tuple #[findV fs p, .bool (firstD fs p).isSome]) := by
  have HSL := Lib.hid hsl
  have HAT := Lib.hid (firstD_at fs p); have HNO := Lib.hid (firstD_none fs p)
  clear hsl
  go_enter Tryd.func43, Tryd.ntmps43
  go_upto_region 1 with fail
  obtain ⟨W0, hW0⟩ : ∃ W0, w.alloc (.cells #[.string ⟨#[]⟩, .string ⟨#[]⟩] 55) = W0 := ⟨_, rfl⟩
  have hb0 : Below w.heap.size w W0 := by rw [← hW0]; exact (Below.refl _ _).alloc (Nat.le_refl _) _
  have hg0 : W0.heap[w.heap.size]? = some (.cells #[.string ⟨#[]⟩, .string ⟨#[]⟩] 55 (0, 0)) := by rw [← hW0]; exact heap_alloc_new _ _
  rw [hW0]
  have HB0 := Lib.hid hb0; have HG0 := Lib.hid hg0
  clear hW0 hb0 hg0
  go_wp2_with fail
  go_loop [6] (fun t => ∃ i : Nat, i ≤ fs.length ∧ t = .int .i64 (i : Int) ∧ Hid (∀ j (hj : j < fs.length), j < i → fs[j].1 ≠ p)) (fun t => fs.length - (intOf t).toNat)
  case atStart => exact ⟨0, Nat.zero_le _, rfl, Lib.hid fun j _ h => absurd h (by omega)⟩
  case round =>
    obtain ⟨i, hi, rfl, HB⟩ := hrel
    by_cases hlt : i < fs.length
    · obtain ⟨b, off, rfl, hbl, hcl⟩ := (HSL.out.keep HB0.out).2 (by omega)
      have i0 : (0 : Int) ≤ (i : Int) := by omega
      have i1 : (i : Int) < (fs.length : Int) := by omega
      obtain ⟨g0, g1⟩ := cells2_get fs i hlt
      have q0 := hcl _ _ g0
      have q1 := hcl _ _ g1
      have HAI := Lib.hid (HAT.out i hlt HB.out)
      have HNE : Hid (fs[i].1 ≠ p → ∀ j (hj : j < fs.length), j < i + 1 → fs[j].1 ≠ p) := Lib.hid fun h j hj hji => by
        rcases (by omega : j < i ∨ j = i) with q | rfl
        · exact HB.out j hj q
        · exact h
      clear hcl g0 g1
      generalize fs[i] = f at *
      obtain ⟨f1, f2⟩ := f
      have hrow : ∀ j u, ([Value.string f1, Value.string f2] : List Value)[j]? = some u → W0.cell? ⟨b, off + i * 2 + j, none⟩ = some u := fun j u hj => by
        rcases (by have := (List.getElem?_eq_some_iff.1 hj).1; simp at this; omega : j = 0 ∨ j = 1) with rfl | rfl
        · simp at hj; rw [← hj]; exact q0
        · simp at hj; rw [← hj, Nat.add_assoc]; exact q1
      have HROW := Lib.hid hrow
      have hbq := str_beq f1 p
      clear hrow q1
      by_cases he : L f1 = L p
      · obtain rfl := L_inj he
        have tb : (f1.toList == f1.toList) = true := beq_self_eq_true _
        have HF := Lib.hid (HAI.out rfl)
        clear he hbq
        go_wp2_with (first
          | (refine wp_loadN rfl 55 _ rfl b _ rfl [Value.string f1, Value.string f2] _ HROW.out Tryd.underlying55 rfl (by kernel_rfl) ?_)
          | (refine wp_storeN (B := w.heap.size) (w0 := w) rfl 55 _ _ rfl w.heap.size _ rfl rfl 55 _ HG0.out (by kernel_rfl) rfl (by kernel_rfl) HB0.out (Nat.le_refl _) ?_; intro W2 hbW2 hW2 _))
        refine bodyPost_ret (results_box_tmp Tryd.results43 _ _ rfl rfl (run_loadVar_row (P := Tryd.prog) _ w.heap.size 55 55 _ (0, 0) _ hW2 Tryd.underlying55 rfl (by kernel_rfl))) rfl ⟨hbW2, ?_⟩
        unfold findV bytesOf
        rw [HF.out]
        rfl
      · have tb : (f1.toList == p.toList) = false := by rw [hbq]; exact decide_eq_false he
        have hne : f1 ≠ p := fun e => he (by rw [e])
        have HN2 := Lib.hid (HNE.out hne)
        clear he hbq hne
        go_wp2_with fail
        go_round
        case rel => exact ⟨i + 1, by omega, by go_num, HN2⟩
        case measure => (simp [intOf]) <;> omega
    · have i1 : ¬ (i : Int) < (fs.length : Int) := by omega
      have HF := Lib.hid (HNO.out fun j hj => HB.out j hj (by omega))
      go_wp2_with (first
        | (refine wp_storeN (B := w.heap.size) (w0 := w) rfl 55 _ _ rfl w.heap.size #[.string ⟨#[]⟩, .string ⟨#[]⟩] rfl rfl 55 _ HG0.out (by kernel_rfl) rfl (by kernel_rfl) HB0.out (Nat.le_refl _) ?_; intro W2 hbW2 hW2 _))
      refine bodyPost_ret (results_box_tmp Tryd.results43 _ _ rfl rfl (run_loadVar_row (P := Tryd.prog) _ w.heap.size 55 55 _ (0, 0) _ hW2 Tryd.underlying55 rfl (by kernel_rfl))) rfl ⟨hbW2, ?_⟩
      unfold findV bytesOf
      rw [HF.out]
      rfl
end Go.Proofs.YthjaepmfkgejkaaDoor
