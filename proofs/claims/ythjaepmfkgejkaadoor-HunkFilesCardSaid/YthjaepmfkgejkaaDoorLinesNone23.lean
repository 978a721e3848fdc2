/-
  hunk.Lines where there are no files; strconv.Itoa at small numbers off the library's table. Conditions: as each says.
-/
import Derived.Test.YthjaepmfkgejkaaDoorLines23Walk
import Derived.Test.YthjaepmfkgejkaaDoorShelfIt
import Derived.Lib.ItoaMem
import Derived.Shelf.Unicode.PredsPay
namespace Go.Proofs.YthjaepmfkgejkaaDoor
open Go.RowKit Go.Maps Go.Shelf Go.Sort
set_option linter.unusedVariables false
set_option linter.unusedSimpArgs false

/-- strconv.Itoa wherever the library's table holds what it should. -/
theorem itoa_tab (N : Nat) (w : World) (hN : N ≤ 1000000) (htab : Lib.TabIs Tryd.prog w "internal/strconv.uint64pow10" .u64 Lib.pow10Tab) : ItoaAt N w := fun k u hk hg =>
  (Tryd.strconv_Itoa (k : Int) (by omega) (by omega) u (TabIs_below (g := 1) (by kernel_rfl) htab hg.below)).mono fun e u' ⟨h1, q, os, h2⟩ => ⟨by rw [h1, Lib.itoa_nonneg], ⟨q, os, h2⟩⟩
set_option maxRecDepth 100000 in
theorem compact_nil (w : World) : Calls Tryd.prog 39 #[.slice none 0 0] w fun e w' => w' = w ∧ e = .returned (.slice none 0 0) := by
  go_enter Tryd.func39, Tryd.ntmps39
  go_wp2_with fail
  go_ret
  exact ⟨rfl, rfl⟩
set_option maxRecDepth 100000 in
theorem insertion_nil (w : World) : Calls Tryd.prog 97 #[.slice none 0 0, .int .i64 0, .int .i64 0] w fun e w' => w' = w ∧ e = .returned (.tuple #[]) := by
  go_enter Tryd.func97, Tryd.ntmps97
  go_wp2_with fail
  go_loop [6] (fun t => t = .int .i64 1) (fun _ => 0)
  case atStart => rfl
  case round =>
    subst hrel
    go_wp2_with fail
    go_end0
    exact ⟨rfl, rfl⟩
set_option maxRecDepth 100000 in
theorem len_zero (w : World) : Calls Tryd.prog 67 #[.int .u64 0] w fun e w' => w' = w ∧ ∃ n : Int, e = .returned (.int .i64 n) := by
  go_enter Tryd.func67, Tryd.ntmps67
  go_wp2
  go_ret
  exact ⟨rfl, _, rfl⟩
set_option maxRecDepth 100000 in
theorem pdq_nil (n : Int) (w : World) : Calls Tryd.prog 66 #[.slice none 0 0, .int .i64 0, .int .i64 0, .int .i64 n] w fun e w' => w' = w ∧ e = .returned (.tuple #[]) := by
  go_enter Tryd.func66, Tryd.ntmps66
  go_wp2_with fail
  go_loop [1, 2, 3] (fun t1 t2 t3 => t1 = .int .i64 0 ∧ t2 = .int .i64 0 ∧ t3 = .int .i64 n) (fun _ _ _ => 0)
  case atStart => exact ⟨rfl, rfl, rfl⟩
  case round =>
    obtain ⟨rfl, rfl, rfl⟩ := hrel
    go_wp2_with (go_at_call 97; refine (insertion_nil _).mono ?_; rintro e w1 ⟨rfl, rfl⟩)
    first | go_end0 | refine bodyPost_ret (results_none rfl _ _ _) rfl ?_
    exact ⟨rfl, rfl⟩
set_option maxRecDepth 100000 in
theorem sort_nil (w : World) : Calls Tryd.prog 38 #[.slice none 0 0] w fun e w' => w' = w ∧ e = .returned (.tuple #[]) := by
  go_enter Tryd.func38, Tryd.ntmps38
  go_wp2_with (first
    | (go_at_call 67; refine (len_zero _).mono ?_; rintro e w1 ⟨rfl, n, rfl⟩)
    | (go_at_call 66; refine (pdq_nil n _).mono ?_; rintro e w2 ⟨rfl, rfl⟩))
  go_end0
  exact ⟨rfl, rfl⟩
theorem pathsP_nil : pathsP [] [] = [] := by
  unfold pathsP
  have h := Lib.compact_length_le (sortS (([] ++ [] : List FileD).map fun f => L f.1))
  rw [sortS_length] at h
  exact List.length_eq_zero_iff.1 (Nat.le_zero.1 h)
set_option maxHeartbeats 2000000 in
set_option maxRecDepth 100000 in
/-- What hunk.Lines gives where there are no files. -/
theorem lines_none (A B : Option Addr) (ca cb : Nat) (w : World) :
    Calls Tryd.prog 17 #[.slice A 0 ca, .slice B 0 cb] w (LinesGive [] [] w) := by
  have hba := byPath_any [] A ca w (by simp) (fun f hf => by cases hf) Sl.nil
  have HBA := Lib.hid hba
  clear hba
  go_enter Tryd.func17, Tryd.ntmps17
  go_upto_region 4 with (first
    | (go_at_call 36; refine HBA.out.mono ?_; rintro e w1 ⟨hb1, rfl, n1, hn1, hm1⟩
       have hbb := byPath_any [] B cb w1 (by simp) (fun f hf => by cases hf) Sl.nil
       have HB1 := Lib.hid hb1; have HBB := Lib.hid hbb
       clear hb1 hbb HBA hm1)
    | (go_at_call 36; refine HBB.out.mono ?_; rintro e w2 ⟨hb2, rfl, n2, hn2, hm2⟩
       have HB2 := Lib.hid (HB1.out.trans (hb2.mono HB1.out.size))
       have hcl := cloneF_any [] A ca w2 (by simp) Sl.nil
       have HCL := Lib.hid hcl
       clear hb2 hcl HBB hm2)
    | (go_at_call 37; refine HCL.out.mono ?_; rintro e w3 ⟨hb3, v3, rfl, ho3⟩
       have HB3 := Lib.hid hb3; have HO3 := Lib.hid ho3
       clear hb3 ho3 HCL)
    | (refine wp_appL (by rfl) _ _ 53 rfl w2.heap.size 55 (.agg #[.string ⟨#[]⟩, .string ⟨#[]⟩]) 2 32 Tryd.underlying53 fileInfo rfl (by decide) v3 0 [] rfl HO3.out B 0 cb w3.heap.size [] rfl Sl.nil (fun u hu => by cases hu) (by decide) (by decide) HB3.out.size ?_; intro v4 w4 ho4 hg4
       obtain ⟨A4, c4, hv4⟩ := own_shape23 ho4
       subst hv4
       have hb4 : Below w2.heap.size w2 w4 := HB3.out.grown hg4 HB3.out.size (fun k e => (HO3.out.lt k e).1)
       have HB4 := Lib.hid (HB2.out.trans (hb4.mono HB2.out.size))
       clear ho4 hg4 hb4 HO3 HB3))
  go_wp2_with fail
  go_loopw [8, 34] (fun t8 t34 wr => t8 = .slice none 0 0 ∧ t34 = .int .i64 0 ∧ Hid (Below w.heap.size w wr)) (fun _ _ _ => 0)
  case atStart => exact ⟨rfl, rfl, HB4⟩
  case round =>
    obtain ⟨rfl, rfl, HBR⟩ := hrel
    go_wp2_with (first
      | (go_at_call 38; refine (sort_nil _).mono ?_; rintro e w5 ⟨rfl, rfl⟩)
      | (go_at_call 39; refine (compact_nil _).mono ?_; rintro e w6 ⟨rfl, rfl⟩))
    go_loopw [11, 49] (fun t11 t49 wr => t11 = .slice none 0 0 ∧ t49 = .int .i64 0 ∧ Hid (Below w.heap.size w wr)) (fun _ _ _ => 0)
    case atStart => exact ⟨rfl, rfl, HBR⟩
    case round =>
      obtain ⟨rfl, rfl, HBQ⟩ := hrel
      go_wp2_with fail
      go_ret2
      exact ⟨HBQ.out, .inl ⟨[], by rw [pathsP_nil]; rfl, none, 0, [], rfl, rfl, Sl.nil⟩⟩
end Go.Proofs.YthjaepmfkgejkaaDoor
