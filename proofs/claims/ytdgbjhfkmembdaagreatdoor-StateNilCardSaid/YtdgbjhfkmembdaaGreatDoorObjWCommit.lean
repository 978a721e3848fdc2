/-
  What the writer's commit writes. Conditions: few ids; a stamp that is not below 0.
-/
import Derived.Test.YtdgbjhfkmembdaaGreatDoorShort0
import Derived.Test.YtdgbjhfkmembdaaGreatDoorObjWriter3
import Derived.Test.YtdgbjhfkmembdaaGreatDoorObjWriter2
import Derived.Test.YtdgbjhfkmembdaaGreatDoorStoreM
namespace Go.Proofs.YtdgbjhfkmembdaaGreatDoor
open Go.RowKit Go.Maps
set_option linter.unusedVariables false
set_option linter.unusedSimpArgs false

theorem numB_l10 {n : Nat} (h : n < 9223372036854775808) : (numB n).length ≤ 10 := numB_len10 (by omega)
theorem numE_len {n : Int} (h : n < 9223372036854775808) : (numE n).length ≤ 10 := by
  unfold numE
  split
  · exact Nat.zero_le _
  · exact numB_l10 (by omega)
theorem textB_len {s : ByteArray} (h : s.size ≤ 1099511627776) : (textB (L s)).length ≤ 10 + s.size := by
  have := numB_l10 (n := (L s).length) (by rw [L_length]; omega)
  unfold textB
  rw [List.length_append]
  rw [L_length] at this ⊢
  omega
theorem flat_len : ∀ {l : List (List UInt8)}, IdsOk l → l.flatten.length = 32 * l.length
  | [], _ => rfl
  | a :: l, h => by
    have h1 : a.length = 32 := h a (by simp)
    rw [List.flatten_cons, List.length_append, flat_len (fun b hb => h b (by simp [hb])), List.length_cons, h1]
    omega
theorem idsE_len {l : List (List UInt8)} (h : IdsOk l) (hl : l.length ≤ 1099511627776) : (idsE l).length ≤ 10 + 32 * l.length := by
  have := numE_len (n := (l.length : Int)) (by omega)
  unfold idsE
  rw [List.length_append, flat_len h]
  omega
theorem refE_len {deps : List (List UInt8)} {r : RefD} (hl : deps.length ≤ 1099511627776) (hr : RefOk r) : (refE deps r).length ≤ 20 := by
  have h1 := numE_len (wf_bound hr.2).2
  have h2 := List.idxOf_le_length (a := r.1) (l := deps)
  have h3 := numE_len (n := if r.1 ≠ zero32 then (deps.idxOf r.1 : Int) + 1 else 0) (by split <;> omega)
  unfold refE
  rw [List.length_append]
  omega
set_option maxHeartbeats 4000000 in
set_option maxRecDepth 100000 in
theorem wcommit_any (g : Nat) (c : CommitD) (cv : Value) (w : World) (hw : WrAt w g []) (hc : CmIn w g cv c) (h1 : c.1.length ≤ 1048576) (h2 : c.2.1.length ≤ 1048576) (h3 : 0 ≤ c.2.2.2.2) (h4 : c.2.2.1.size ≤ 1048576) (h5 : c.2.2.2.1.size ≤ 1048576) :
    Calls Tryz.prog 150 #[.pointer (some ⟨g, 0, none⟩), cv] w fun e w' => e = .returned (.tuple #[]) ∧ WrAt w' g (commitE c) ∧ WrGo g w w' := by
  have HWA := Lib.hid hw
  obtain ⟨ok, ha, hm, Ap, cp, Ac, cc, rfl, sp, sc⟩ := hc
  obtain ⟨ps, cs, au, ms, st⟩ := c
  simp only at *
  have HSP := Lib.hid sp; have HSC := Lib.hid sc
  have HI1 := Lib.hid (show IdsOk ps from ok.1); have HI2 := Lib.hid (show IdsOk cs from ok.2.1)
  have h63 := (wf_bound ok.2.2).2
  simp only at h63
  obtain ⟨st, rfl⟩ : ∃ n : Nat, st = (n : Int) := ⟨st.toNat, by omega⟩
  have h64 : st < 9223372036854775808 := by omega
  clear h63 h3
  clear sp sc ok hw
  go_enter Tryz.func150, Tryz.ntmps150
  go_upto_region 1 with (first
    | (with_reducible refine at_box ?_
       refine wp_boxM (by rfl) 68 _ rfl [.slice Ap ps.length cp, .slice Ac cs.length cc, .string au, .string ms, .int .i64 ((st : Nat) : Int)] _ rfl rfl (by kernel_rfl) ?_
       intro W1 hb1 hz1 hs1
       have HB1 := Lib.hid hb1; have HZ1 := Lib.hid hz1
       clear hb1 hz1 hs1))
  have HAT1 := Lib.hid (HWA.out.keep HB1.out)
  have HNC := Lib.hid (HWA.out.newNot HB1.out (qR _))
  have HGO1 := Lib.hid (WrGo.below HWA.out.lt HB1.out)
  obtain ⟨v0, hhg, how⟩ := HAT1.out
  have HHG := Lib.hid hhg; have HOW := Lib.hid how
  have hcv : W1.cell? ⟨g, 0, none⟩ = some v0 := cells_at0 hhg 0
  have hal : Below W1.heap.size W1 (W1.alloc (.cells #[.int .u8 75] 5)) := (qB _ _).alloc (qR _) _
  have HAL := Lib.hid hal
  have HOWA := Lib.hid ((But.of_below (X := NoB) hal).own how fun _ _ q => q)
  have HNW := Lib.hid (show ∀ j u, (idV [75])[j]? = some u → (W1.alloc (.cells #[.int .u8 75] 5)).cell? ((⟨W1.heap.size, 0, none⟩ : Addr).add j) = some u from fun j u hj => by
    have e1 : (⟨W1.heap.size, 0, none⟩ : Addr).add j = ⟨W1.heap.size, j, none⟩ := by unfold Addr.add; split <;> simp_all
    rw [e1]
    exact (cells_at0 (cs := [.int .u8 75]) (heap_alloc_new W1 (.cells #[.int .u8 75] 5)) j).trans (by simpa [idV] using hj))
  have HLA := Lib.hid (show g + 1 ≤ (W1.alloc (.cells #[.int .u8 75] 5)).heap.size from qT HAT1.out.lt hal.size)
  clear hhg how hal
  go_upto_region 2 with (first
    | (at_builtin; go_loud (refine wp_appS_w (by rfl) _ _ 169 rfl (g + 1) 5 (.int .u8 0) 1 1 Tryz.underlying169 info_u8 rfl (by decide) v0 0 (idV []) rfl HOWA.out ⟨W1.heap.size, 0, none⟩ 1 1 (idV [75]) rfl rfl HNW.out (idV_one _) (by unfold maxLen; omega) (by omega) HLA.out ?_)
       intro v9 w9 ho9 hg9 hw9
       obtain ⟨A9, c9, rfl⟩ := own_form' ho9
       obtain ⟨cg, cf, hat, hgo⟩ := WrAt.put (xs := []) (ys := [75]) HHG.out HOW.out HAL.out ho9 hg9 hw9
       have HAT2 := Lib.hid hat; have HGO2 := Lib.hid hgo
       clear ho9 hg9 hw9 hat hgo))
  obtain ⟨w2, hw2⟩ : ∃ u : World, w9.setCell ⟨g, 0, none⟩ (.slice A9 (0 + 1) c9) = u := ⟨_, rfl⟩
  rw [hw2] at HAT2 HGO2 ⊢
  clear hw2 cg cf
  obtain ⟨x2, HX2⟩ : ∃ x2 : List UInt8, Hid ([] ++ [75] = x2) := ⟨_, Lib.hid rfl⟩
  have hxl2 : x2.length ≤ 1 := by rw [← HX2.out]; decide
  rw [HX2.out] at HAT2
  obtain ⟨zc, hzc⟩ : ∃ zc, w.heap.size = zc := ⟨_, rfl⟩
  have HZL := Lib.hid (show zc < W1.heap.size from by rw [← hzc]; exact (qX HZ1.out))
  rw [hzc] at HZ1 HNC ⊢
  clear hzc HOWA HNW HLA HHG HOW HAL hcv
  have ce2 : w2.cell? ⟨zc, 0, none⟩ = some (.slice Ap ps.length cp) := (HGO2.out.cell HZL.out HNC.out).trans (cells_at0 HZ1.out 0)
  go_upto_region 3 with (first
    | (go_at_call 193; refine (wids_any g ps x2 Ap cp w2 HAT2.out HI1.out (by omega) (HSP.out.keep (HB1.out.mono (Nat.le_of_lt HWA.out.lt) |>.trans (HGO2.out.belowG HAT1.out)))).mono ?_; rintro e w3 ⟨rfl, hat, hgo⟩
       have HAT3 := Lib.hid hat; have HGO3 := Lib.hid (HGO2.out.trans hgo)
       clear hat hgo))
  obtain ⟨x3, HX3⟩ : ∃ x3, Hid (x2 ++ idsE ps = x3) := ⟨_, Lib.hid rfl⟩
  have hxl3 : x3.length ≤ x2.length + (10 + 32 * ps.length) := by rw [← HX3.out, List.length_append]; have := idsE_len HI1.out (by omega); omega
  rw [HX3.out] at HAT3
  have ce3 : w3.cell? ⟨zc, 1, none⟩ = some (.slice Ac cs.length cc) := (HGO3.out.cell HZL.out HNC.out).trans (cells_at0 HZ1.out 1)
  go_upto_region 4 with (first
    | (go_at_call 193; refine (wids_any g cs x3 Ac cc w3 HAT3.out HI2.out (by omega) (HSC.out.keep (HB1.out.mono (Nat.le_of_lt HWA.out.lt) |>.trans (HGO3.out.belowG HAT1.out)))).mono ?_; rintro e w4 ⟨rfl, hat, hgo⟩
       have HAT4 := Lib.hid hat; have HGO4 := Lib.hid (HGO3.out.trans hgo)
       clear hat hgo))
  obtain ⟨x4, HX4⟩ : ∃ x4, Hid (x3 ++ idsE cs = x4) := ⟨_, Lib.hid rfl⟩
  have hxl4 : x4.length ≤ x3.length + (10 + 32 * cs.length) := by rw [← HX4.out, List.length_append]; have := idsE_len HI2.out (by omega); omega
  rw [HX4.out] at HAT4
  have ce4 : w4.cell? ⟨zc, 2, none⟩ = some (.string au) := (HGO4.out.cell HZL.out HNC.out).trans (cells_at0 HZ1.out 2)
  go_upto_region 5 with (first
    | (go_at_call 194; refine (wtext_any g au x4 w4 HAT4.out (by omega) (by omega)).mono ?_; rintro e w5 ⟨rfl, hat, hgo⟩
       have HAT5 := Lib.hid hat; have HGO5 := Lib.hid (HGO4.out.trans hgo)
       clear hat hgo))
  obtain ⟨x5, HX5⟩ : ∃ x5, Hid (x4 ++ textB (L au) = x5) := ⟨_, Lib.hid rfl⟩
  have hxl5 : x5.length ≤ x4.length + (10 + au.size) := by rw [← HX5.out, List.length_append]; have := textB_len (s := au) (by omega); omega
  rw [HX5.out] at HAT5
  have ce5 : w5.cell? ⟨zc, 3, none⟩ = some (.string ms) := (HGO5.out.cell HZL.out HNC.out).trans (cells_at0 HZ1.out 3)
  go_upto_region 6 with (first
    | (go_at_call 194; refine (wtext_any g ms x5 w5 HAT5.out (by omega) (by omega)).mono ?_; rintro e w6 ⟨rfl, hat, hgo⟩
       have HAT6 := Lib.hid hat; have HGO6 := Lib.hid (HGO5.out.trans hgo)
       clear hat hgo))
  obtain ⟨x6, HX6⟩ : ∃ x6, Hid (x5 ++ textB (L ms) = x6) := ⟨_, Lib.hid rfl⟩
  have hxl6 : x6.length ≤ x5.length + (10 + ms.size) := by rw [← HX6.out, List.length_append]; have := textB_len (s := ms) (by omega); omega
  rw [HX6.out] at HAT6
  have ce6 : w6.cell? ⟨zc, 4, none⟩ = some (.int .i64 ((st : Nat) : Int)) := (HGO6.out.cell HZL.out HNC.out).trans (cells_at0 HZ1.out 4)
  go_wp2_with (first
    | (go_at_call 192; refine (wnum_any g st x6 w6 HAT6.out (by omega) (by omega)).mono ?_; rintro e w7 ⟨rfl, hat, hgo⟩
       have HAT7 := Lib.hid hat; have HGO7 := Lib.hid (HGO6.out.trans hgo)
       clear hat hgo))
  obtain ⟨x7, HX7⟩ : ∃ x7, Hid (x6 ++ numB st = x7) := ⟨_, Lib.hid rfl⟩
  have hxl7 : x7.length ≤ x6.length + (10) := by rw [← HX7.out, List.length_append]; have := numB_l10 (n := st) (by omega); omega
  rw [HX7.out] at HAT7
  go_end0
  refine ⟨rfl, ?_, HGO1.out.trans HGO7.out⟩
  have e : x7 = commitE (ps, cs, au, ms, (st : Int)) := by
    rw [← HX7.out, ← HX6.out, ← HX5.out, ← HX4.out, ← HX3.out, ← HX2.out]
    simp only [commitE, numE_nat, List.nil_append, List.append_assoc, List.cons_append]
  rw [← e]
  exact HAT7.out
end Go.Proofs.YtdgbjhfkmembdaaGreatDoor
