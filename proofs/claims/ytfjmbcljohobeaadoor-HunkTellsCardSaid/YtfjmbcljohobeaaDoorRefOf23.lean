/-
  The program's hunks as the document's (of), and whether two lists of hunks are alike (Same), where they are. Conditions: few hunks, few lines.
-/
import Derived.Test.YtfjmbcljohobeaaDoorRefHunks23
import Derived.Test.YtfjmbcljohobeaaDoorQuietTail1
import Derived.Test.YtfjmbcljohobeaaDoorRowList
namespace Go.Proofs.YtfjmbcljohobeaaDoor
open Go.RowKit Go.Maps Go.Shelf
set_option linter.unusedVariables false
set_option linter.unusedSimpArgs false

theorem rows_one (l : List HkD) (h : HkD) : rowsV hkV (l ++ [h]) = rowsV hkV l ++ hkV h := by rw [rowsV_app]; simp [rowsV]
set_option maxHeartbeats 4000000 in
set_option maxRecDepth 100000 in
theorem of_any (hs : List HkD) (A : Option Addr) (c : Nat) (w : World) (hn : hs.length ≤ 20000) (hlv : ∀ h ∈ hs, ∃ A c, h.2.2.1 = .slice A h.2.2.2.length c) (hsl : Sl w w.heap.size A hs.length 3 (rowsV hkV hs)) :
    Calls Tryd.prog 26 #[.slice A hs.length c] w fun e w' => Below w.heap.size w w' ∧ ∃ v, e = .returned v ∧ w'.ownsRow w.heap.size 109 3 v hs.length (rowsV hkV hs) := by
  have HSL := Lib.hid hsl; have HLV := Lib.hid hlv
  clear hsl hlv
  go_enter Tryd.func26, Tryd.ntmps26
  go_wp2_with fail
  go_loopw [3, 4] (fun v t wr => ∃ i : Nat, i ≤ hs.length ∧ t = .int .i64 (i : Int) ∧ Hid (Below w.heap.size w wr) ∧ Hid (wr.ownsRow w.heap.size 109 3 v i (rowsV hkV (hs.take i)))) (fun _ t _ => hs.length - (intOf t).toNat)
  case atStart => exact ⟨0, by omega, rfl, Lib.hid (Below.refl _ _), Lib.hid (World.ownsRow_nil _ _ _ _)⟩
  case round =>
    obtain ⟨i, hi, rfl, HBR, HR⟩ := hrel
    by_cases hlt : i < hs.length
    · obtain ⟨b, off, rfl, hbl, hcl⟩ := (HSL.out.keep HBR.out).2 (by omega)
      have i0 : (0 : Int) ≤ (i : Int) := by omega
      have i1 : (i : Int) < (hs.length : Int) := by omega
      have hrow := Sl.row (fun h hh => hkV_len hs h hh) hcl hlt
      have htk : hs.take (i + 1) = hs.take i ++ [hs[i]] := List.take_succ_eq_append_getElem hlt
      have HTK := Lib.hid htk
      clear htk hcl
      have hlx := HLV.out _ (List.getElem_mem hlt)
      generalize hs[i] = x at *
      obtain ⟨f, t, lv, ls⟩ := x
      obtain ⟨Al, cl, hlx⟩ := hlx
      simp only at hlx
      subst hlx
      have hbz : b < wr.heap.size := Nat.lt_of_lt_of_le hbl HBR.out.size
      have c0 := Wg.cell (hrow 0 (.int .i64 (f : Int)) rfl) hbz
      have c1 := Wg.cell (hrow 1 (.int .i64 (t : Int)) rfl) hbz
      have c2 := Wg.cell (hrow 2 (.slice Al ls.length cl) rfl) hbz
      rw [Nat.add_zero] at c0
      clear hrow
      go_upto_region 5 with fail
      obtain ⟨Av, cv, hvv⟩ := own_shape23 HR.out
      subst hvv
      refine wp_region_tail1_wg 16 (.slice Av i cv) (by kernel_rfl) (by kernel_rfl) (by kernel_rfl) (by kernel_rfl) (by kernel_rfl) (by kernel_rfl) (fun _ _ _ h => h) (Or.inl ⟨by rfl, fun w' => by rfl⟩) ?_
      simp only [Act.put, List.setIfInBounds_toArray, List.set_cons_zero, List.set_cons_succ, List.take_succ_cons, List.take_zero, List.drop_succ_cons, List.drop_zero]
      repeat (first
        | go_big_quiet_skip
        | (go_big_quiet_want
           first
             | (go_big_quiet_op
                go_big_quiet_on)))
      refine wpQuiet_nil ?_
      rintro w' ⟨k, rfl⟩
      have hk := k.2
      generalize k.val = w2 at *
      clear c0 c1 c2 k
      have HR2 := Lib.hid (own_kept HR.out hk.below)
      have HB2 := Lib.hid (HBR.out.trans (hk.below.mono HBR.out.size))
      have hz2 := HB2.out.size
      have hrl : (rowsV hkV (hs.take i)).length = i * 3 := HR2.out.1
      clear HR hk
      go_wp2_with (first
        | (refine wp_buildSlice1 (by rfl) 55 _ rfl 109 Tryd.underlying55 (.agg #[.int .i64 0, .int .i64 0, .slice none 0 0]) 3 40 rhkInfo rfl (by decide) (by decide) [.int .i64 (f : Int), .int .i64 (t : Int), .slice Al ls.length cl] rfl rfl ?_)
        | (refine wp_appNg rfl _ _ 55 rfl w.heap.size 109 (.agg #[.int .i64 0, .int .i64 0, .slice none 0 0]) 3 40 Tryd.underlying55 rhkInfo rfl (by decide) (.slice Av i cv) i (rowsV hkV (hs.take i)) rfl HR2.out [.int .i64 (f : Int), .int .i64 (t : Int), .slice Al ls.length cl] 109 rfl rfl (by intro u hu; simp only [List.mem_cons, List.not_mem_nil, or_false] at hu; rcases hu with rfl | rfl | rfl <;> rfl) (by unfold maxLen; omega) (by omega) hz2 ?_; intro v9 w9 ho9 hb9 hk9))
      go_roundw
      case rel => exact ⟨i + 1, by omega, by go_num, Lib.hid (hb9 _ _ (Nat.le_refl _) HB2.out), Lib.hid (by rw [HTK.out, rows_one]; exact ho9)⟩
      case measure => (simp [intOf]) <;> omega
    · have hie : i = hs.length := by omega
      have i1 : ¬ (i : Int) < (hs.length : Int) := by omega
      have hr := HR.out
      rw [hie, List.take_length] at hr
      have HR3 := Lib.hid hr
      clear hie hr
      go_wp2_with fail
      go_ret
      exact ⟨HBR.out, _, rfl, HR3.out⟩
end Go.Proofs.YtfjmbcljohobeaaDoor
