/-
  RegisterNewest's walk. Conditions: claims well formed; the library's variable MaxLen holds a number.
-/
import Derived.Test.YtfjmbcljohobeaaDoorAppSl
import Derived.Test.YtfjmbcljohobeaaDoorRegLast
import Derived.Test.YtfjmbcljohobeaaDoorApart14Walk
namespace Go.Proofs.YtfjmbcljohobeaaDoor
open Go.RowKit Go.Maps Go.Shelf
set_option linter.unusedVariables false
set_option linter.unusedSimpArgs false

theorem claimInfoR : (Tryd.prog.info? 43).map (fun i => (i.zero, i.size, i.bytes)) = some (some (claimA zeroC), 70, 120) := by kernel_rfl
set_option maxHeartbeats 20000000 in
set_option maxRecDepth 100000 in
theorem newest_walk (l : List ClaimD) (x : ClaimD) (A : Option Addr) (c : Nat) (w : World) (hl : l.length ≤ maxLen) (hok : ∀ y ∈ l, ClaimOk y) (hsl : Sl w w.heap.size A l.length 70 (rowsV claimV l)) (hx : ClaimOk x) (hg : Glob w) :
    Calls Tryd.prog 5 #[.slice A l.length c, .agg (claimV x).toArray] w fun e w' => e = .returned (.bool true) ∧ Below w.heap.size w w' := by
  have hb0 : Below w.heap.size w (w.alloc (.cells (claimV x).toArray 43)) := (Below.refl _ _).alloc (Nat.le_refl _) _
  have h0 : (w.alloc (.cells (claimV x).toArray 43)).heap[w.heap.size]? = some (.cells (claimV x).toArray 43 (0, 0)) := heap_alloc_new _ _
  have hlight := light_any l A c (w.alloc (.cells (claimV x).toArray 43)) hl hok ((hsl.keep hb0).more hb0.size)
  have hxl := claimV_length hx
  have HSL := Lib.hid hsl; have HOK := Lib.hid hok; have H0 := Lib.hid h0
  have c69 := (cells_box h0 69).trans (claim_cell hx).2
  clear hsl hok h0
  cases hlt : lightB l with
  | false =>
    rw [hlt] at hlight
    clear hlt
    go_enter Tryd.func5, Tryd.ntmps5
    go_wp2_with (go_at_call 12; refine hlight.mono ?_; rintro e w1 ⟨rfl, rfl⟩)
    go_ret
    exact ⟨rfl, hb0⟩
  | true =>
    rw [hlt] at hlight
    obtain ⟨h40, h100⟩ := light_yes hlt
    clear hlt
    by_cases hxs : 100 < x.2.2.2.size
    · go_enter Tryd.func5, Tryd.ntmps5
      go_wp2_with (go_at_call 12; refine hlight.mono ?_; rintro e w1 ⟨rfl, rfl⟩)
      go_ret
      exact ⟨rfl, hb0⟩
    · go_enter Tryd.func5, Tryd.ntmps5
      go_upto_region 3 with (go_at_call 12; refine hlight.mono ?_; rintro e w1 ⟨rfl, rfl⟩)
      obtain ⟨W, hW⟩ : ∃ W, w.alloc (.cells (claimV x).toArray 43) = W := ⟨_, rfl⟩
      rw [hW] at hb0 H0 c69 ⊢
      have hz0 : w.heap.size < W.heap.size := (Array.getElem?_eq_some_iff.1 H0.out).1
      have HB0 := Lib.hid hb0
      have HSW := Lib.hid ((HSL.out.keep hb0).more hb0.size)
      have HKX : Hid (∀ u : World, Below W.heap.size W u → ∀ j v, (claimV x)[j]? = some v → u.cell? ⟨w.heap.size, 0 + j, none⟩ = some v) := fun u hu j v hj => (hu.cell (p := ⟨w.heap.size, 0 + j, none⟩) hz0).trans ((cells_box H0.out (0 + j)).trans (by simpa using hj))
      have hXS := Lib.hid (show x.2.2.2.size ≤ 100 by omega)
      clear hW hb0 hlight c69 hxs
      go_wp2_with fail
      go_loopw [5] (fun t wr => ∃ i : Nat, i ≤ l.length ∧ t = .int .i64 i ∧ Below W.heap.size W wr ∧ Hid (∀ j (hj : j < l.length), j < i → cmpK l[j].1 x.1 < 0)) (fun t _ => l.length - (intOf t).toNat)
      case atStart => exact ⟨0, by omega, rfl, Below.refl _ _, Lib.hid fun j hj h => absurd h (by omega)⟩
      case round =>
        obtain ⟨i, hi, rfl, hbr, hI⟩ := hrel
        by_cases hlt : i < l.length
        · obtain ⟨b, off, rfl, hbl, hcl⟩ := (HSW.out.keep hbr).2 (by omega)
          have i0 : (0 : Int) ≤ (i : Int) := by omega
          have i1 : (i : Int) < (l.length : Int) := by omega
          have hrow := Sl.row (fun z hz => claimV_length (HOK.out z hz)) hcl hlt
          have hz := HOK.out _ (List.getElem_mem hlt)
          have hbz : b < wr.heap.size := Nat.lt_of_lt_of_le hbl hbr.size
          have hnext : cmpK l[i].1 x.1 < 0 → ∀ j (hj : j < l.length), j < i + 1 → cmpK l[j].1 x.1 < 0 := by
            intro h j hj hji
            rcases (by omega : j < i ∨ j = i) with q | rfl
            · exact hI.out j hj q
            · exact h
          have HNX := Lib.hid hnext
          clear hcl hnext hI
          generalize l[i] = z at *
          have r0 := Lib.hid (Wg.row (w := wr) (b := b) (o := off + i * 70) (cs := keyV z.1) (fun j u hj => by have := hrow (0 + j) u (claim_key hz j u hj); rwa [Nat.zero_add] at this) hbz)
          have r1 := Lib.hid (Wg.row (w := wr) (b := w.heap.size) (o := 0) (cs := keyV x.1) (fun j u hj => by have := HKX.out wr hbr (0 + j) u (claim_key hx j u hj); simpa using this) (Nat.lt_of_lt_of_le hz0 hbr.size))
          have CC := Lib.hid (fun q : World => keys_gr z.1 x.1 q hz.1 hx.1)
          have s0 : (Tryd.prog.info? 35).map (·.size) = some (keyV z.1).length := by rw [keyV_length hz.1]; exact sizeKey
          have s1 : (Tryd.prog.info? 35).map (·.size) = some (keyV x.1).length := by rw [keyV_length hx.1]; exact sizeKey
          have HBR := Lib.hid hbr
          clear hrow hbl hbr hz
          by_cases hcm : cmpK z.1 x.1 < 0
          · have hn := HNX.out hcm
            have HN := Lib.hid hn
            have g1 : ¬ (0 : Int) ≤ cmpK z.1 x.1 := by omega
            have g2 : decide ((0 : Int) ≤ cmpK z.1 x.1) = false := by rw [decide_eq_false_iff_not]; omega
            clear hn hcm HNX
            go_wp2_with fail
            refine wp_region_wg (by kernel_rfl) (by kernel_rfl) ?_
            repeat (first
              | go_big_quiet_skip
              | (go_big_quiet_want
                 first
                   | (refine quiet_val (fun w' hw' => ex_load 35 _ rfl (p := ⟨b, off + i * 70, none⟩) rfl (run_loadVar_mid w' _ _ _ (keyV z.1) _ (r0.out w' hw') Tryd.underlying35 rfl s0)) ?_
                      go_big_quiet_on
                      simp only [Act.put, List.setIfInBounds_toArray, List.set_cons_zero, List.set_cons_succ])
                   | (refine quiet_val (fun w' hw' => ex_load 35 _ rfl (p := ⟨w.heap.size, 0, none⟩) rfl (run_loadVar_mid w' _ _ _ (keyV x.1) _ (r1.out w' hw') Tryd.underlying35 rfl s1)) ?_
                      go_big_quiet_on
                      simp only [Act.put, List.setIfInBounds_toArray, List.set_cons_zero, List.set_cons_succ])
                   | (go_big_quiet_op
                      first
                        | go_big_quiet_on
                        | go_big_quiet_call (first | (go_at_call 19; exact Wg.call (fun w' => CC.out w') _)))))
            refine wpQuiet_nil ?_
            rintro w' ⟨k, rfl⟩
            have hk := k.2
            generalize k.val = w6 at *
            have HB6 := Lib.hid (HBR.out.trans (hk.below.mono HBR.out.size))
            clear hk k r0 r1 g1 g2
            go_wp2_with fail
            go_roundw
            case rel => exact ⟨i + 1, by omega, by go_num, HB6.out, HN⟩
            case measure => simp [intOf]; omega
          · have g1 : (0 : Int) ≤ cmpK z.1 x.1 := by omega
            have g2 : decide ((0 : Int) ≤ cmpK z.1 x.1) = true := by rw [decide_eq_true_iff]; omega
            clear hcm HNX
            go_wp2_with fail
            refine wp_region_wg (by kernel_rfl) (by kernel_rfl) ?_
            repeat (first
              | go_big_quiet_skip
              | (go_big_quiet_want
                 first
                   | (refine quiet_val (fun w' hw' => ex_load 35 _ rfl (p := ⟨b, off + i * 70, none⟩) rfl (run_loadVar_mid w' _ _ _ (keyV z.1) _ (r0.out w' hw') Tryd.underlying35 rfl s0)) ?_
                      go_big_quiet_on
                      simp only [Act.put, List.setIfInBounds_toArray, List.set_cons_zero, List.set_cons_succ])
                   | (refine quiet_val (fun w' hw' => ex_load 35 _ rfl (p := ⟨w.heap.size, 0, none⟩) rfl (run_loadVar_mid w' _ _ _ (keyV x.1) _ (r1.out w' hw') Tryd.underlying35 rfl s1)) ?_
                      go_big_quiet_on
                      simp only [Act.put, List.setIfInBounds_toArray, List.set_cons_zero, List.set_cons_succ])
                   | (go_big_quiet_op
                      first
                        | go_big_quiet_on
                        | go_big_quiet_call (first | (go_at_call 19; exact Wg.call (fun w' => CC.out w') _)))))
            refine wpQuiet_nil ?_
            rintro w' ⟨k, rfl⟩
            have hk := k.2
            generalize k.val = w6 at *
            have HB6 := Lib.hid (HB0.out.trans ((HBR.out.trans (hk.below.mono HBR.out.size)).mono HB0.out.size))
            clear hk k r0 r1 g1 g2
            go_wp2_with fail
            go_ret
            exact ⟨rfl, HB6.out⟩
        · have hall : ∀ y ∈ l, cmpK y.1 x.1 < 0 := by
            intro y hy
            obtain ⟨j, hj, rfl⟩ := List.getElem_of_mem hy
            exact hI.out j hj (by omega)
          have HALL := Lib.hid hall
          obtain ⟨m, hm⟩ : ∃ m, m = l ++ [x] := ⟨_, rfl⟩
          have hml : m.length = l.length + 1 := by rw [hm]; simp
          have HM := Lib.hid hm; have HML := Lib.hid hml
          have hmok : ∀ y ∈ m, ClaimOk y := by
            intro y hy
            rw [hm] at hy
            rcases List.mem_append.1 hy with h | h
            · exact HOK.out y h
            · rw [List.mem_singleton.1 h]; exact hx
          have HMOK := Lib.hid hmok
          have hmsm : ∀ y ∈ m, y.2.2.2.size ≤ 1073741824 := by
            intro y hy
            rw [hm] at hy
            rcases List.mem_append.1 hy with h | h
            · have := h100 y h; omega
            · rw [List.mem_singleton.1 h]; have := hXS.out; omega
          have HMSM := Lib.hid hmsm
          have HBR := Lib.hid hbr
          have hsl8 := (HSW.out.keep hbr).more hbr.size
          have HS8 := Lib.hid hsl8
          have hwr : w.heap.size < wr.heap.size := Nat.lt_of_lt_of_le hz0 hbr.size
          have hS0 : wr.rangeAt w.heap.size 0 (claimV x) := HKX.out wr hbr
          have hS : ∀ u : World, Below wr.heap.size wr u → u.rangeAt w.heap.size 0 (claimV x) := fun u hu j v hj => (hu.cell (p := ⟨w.heap.size, 0 + j, none⟩) hwr).trans (hS0 j v hj)
          have HSS := Lib.hid hS
          clear hall hm hml hmok hmsm hbr hsl8 hS0 hS hI
          go_upto_region 8 with fail
          go_cut [6] from 36 to 42 (fun s6 wx => ∃ A6 c6, s6 = .slice A6 m.length c6 ∧ Below wr.heap.size wr wx ∧ Hid (Sl wx wx.heap.size A6 m.length 70 (rowsV claimV m)))
          case first =>
            have bd : Below wr.heap.size wr wr.drew := (Below.refl _ _).drew
            obtain ⟨im, hmi, hm0, hm1, hm2⟩ := info_parts claimInfoR
            have hE1 : ∀ (u : World) (args : Array Value), (callFunc 14 args).run Tryd.prog u = .ok (.enter 14 args) u := fun u args => enters_of Tryd.func14 (by kernel_rfl) rfl args u
            have szx : (Tryd.prog.info? 43).map (·.size) = some (claimV x).length := by rw [hxl]; kernel_rfl
            have q1 : 0 + l.length ≤ maxLen := by unfold maxLen; omega
            have q2 : (0 + l.length) * 120 ≤ 140737488355328 := by omega
            have q3 : 0 + l.length + 1 ≤ maxLen := by unfold maxLen; omega
            have q4 : (0 + l.length + 1) * 120 ≤ 140737488355328 := by omega
            have hone : ∀ u ∈ rowsV claimV l, u.oneCell' = true := rowsV_one claimV_one l
            refine wp_region_held (S := fun u => u.rangeAt w.heap.size 0 (claimV x)) (by kernel_rfl) ?_
            refine wpAnyH_take (i := 1) (v := .slice A l.length c) rfl (by kernel_rfl) (by kernel_rfl) (by kernel_rfl) (fun _ _ _ h => h) (Or.inl ⟨by rfl, fun w' hw' => by rfl⟩) (HSS.out _ bd) ?_
            simp only [Act.put, List.getElem_toArray, List.getElem_cons_succ, List.getElem_cons_zero, List.setIfInBounds_toArray, List.set_cons_zero, List.set_cons_succ, List.size_toArray, List.length_cons, List.length_nil, Nat.reduceAdd, Array.replicate_succ, Array.replicate_zero, List.push_toArray, List.nil_append, List.cons_append]
            refine wpAnyH_take (i := 3) (v := .agg (claimV x).toArray) rfl (by kernel_rfl) (by kernel_rfl) (by kernel_rfl) (fun _ _ _ h => h) (Or.inl ⟨by rfl, fun w' hw' => ex_load 43 _ rfl (p := ⟨w.heap.size, 0, none⟩) rfl (run_loadVar_mid w' _ _ _ (claimV x) _ hw' Tryd.underlying43 rfl szx)⟩) (HSS.out _ bd) ?_
            simp only [Act.put, List.getElem_toArray, List.getElem_cons_succ, List.getElem_cons_zero, List.setIfInBounds_toArray, List.set_cons_zero, List.set_cons_succ, List.size_toArray, List.length_cons, List.length_nil, Nat.reduceAdd, Array.replicate_succ, Array.replicate_zero, List.push_toArray, List.nil_append, List.cons_append]
            refine wpAnyH_all (rs := [0, 4]) (by kernel_rfl) (by simp) ?_
            intro q hq
            simp only [List.mem_cons, List.not_mem_nil, or_false] at hq
            rcases hq with rfl | rfl
            · refine wpOp_val _ rfl (by kernel_rfl) (ex_build0 22 rfl 43 Tryd.underlying22 im hmi) ?_
              have b1 : Below wr.heap.size wr ((wr.drew).alloc (.cells #[] 43)) := (bd).alloc (bd).size _
              have ow1 : ((wr.drew).alloc (.cells #[] 43)).ownsRow wr.heap.size 43 70 (.slice (some ⟨(wr.drew).heap.size, 0, none⟩) 0 0) 0 [] := own_made0 _ _ _ _ (bd).size
              refine ⟨HSS.out _ b1, ?_⟩
              simp only [Act.put, List.getElem_toArray, List.getElem_cons_succ, List.getElem_cons_zero, List.setIfInBounds_toArray, List.set_cons_zero, List.set_cons_succ, List.size_toArray, List.length_cons, List.length_nil, Nat.reduceAdd, Array.replicate_succ, Array.replicate_zero, List.push_toArray, List.nil_append, List.cons_append]
              refine wpAnyH_all (rs := [2, 4]) (by kernel_rfl) (by simp) ?_
              intro q hq
              simp only [List.mem_cons, List.not_mem_nil, or_false] at hq
              rcases hq with rfl | rfl
              · refine wpOp_wp _ rfl (by kernel_rfl) (wp_append_sl _ _ 22 rfl wr.heap.size 43 im (claimA zeroC) 70 120 Tryd.underlying22 hmi hm0 hm1 hm2 rfl (by decide) _ _ _ rfl ow1 A l.length c wr.heap.size _ rfl (HS8.out.keep b1) hone q1 q2 (b1).size ?_)
                intro v4 w3 ow3 gw
                have b3 : Below wr.heap.size wr w3 := (b1).grown gw (b1).size (fun k e => (ow1.lt k e).1)
                refine ⟨HSS.out _ b3, ?_⟩
                simp only [Act.put, List.getElem_toArray, List.getElem_cons_succ, List.getElem_cons_zero, List.setIfInBounds_toArray, List.set_cons_zero, List.set_cons_succ, List.size_toArray, List.length_cons, List.length_nil, Nat.reduceAdd, Array.replicate_succ, Array.replicate_zero, List.push_toArray, List.nil_append, List.cons_append]
                refine wpAnyH_all (rs := [4]) (by kernel_rfl) (by simp) ?_
                intro q hq
                obtain rfl : q = 4 := by simpa using hq
                refine wpOp_val _ rfl (by kernel_rfl) (ex_buildSlice1 22 _ rfl 43 Tryd.underlying22 (claimA zeroC) 70 120 claimInfoR rfl (by decide) (by decide) (claimV x) hxl rfl) ?_
                have b4 : Below wr.heap.size wr ((w3).alloc (.cells (claimV x).toArray 43)) := (b3).alloc (b3).size _
                have lx : ((w3).alloc (.cells (claimV x).toArray 43)).heap[(w3).heap.size]? = some (.cells (claimV x).toArray 43 (0, 0)) := heap_alloc_new _ _
                refine ⟨HSS.out _ b4, ?_⟩
                simp only [Act.put, List.getElem_toArray, List.getElem_cons_succ, List.getElem_cons_zero, List.setIfInBounds_toArray, List.set_cons_zero, List.set_cons_succ, List.size_toArray, List.length_cons, List.length_nil, Nat.reduceAdd, Array.replicate_succ, Array.replicate_zero, List.push_toArray, List.nil_append, List.cons_append]
                obtain ⟨A4, c4, rfl⟩ := own_shape (own_alloc' ow3 (Obj.cells (claimV x).toArray 43))
                refine wpAnyH_all (rs := [5]) (by kernel_rfl) (by simp) ?_
                intro q hq
                obtain rfl : q = 5 := by simpa using hq
                refine wpOp_wp _ rfl (by kernel_rfl) (wp_append_sl _ _ 22 rfl wr.heap.size 43 im (claimA zeroC) 70 120 Tryd.underlying22 hmi hm0 hm1 hm2 rfl (by decide) _ _ _ rfl (own_alloc' ow3 (Obj.cells (claimV x).toArray 43)) (some ⟨w3.heap.size, 0, none⟩) 1 1 ((w3).alloc (.cells (claimV x).toArray 43)).heap.size (claimV x) rfl ⟨by rw [hxl], fun _ => ⟨w3.heap.size, 0, rfl, (Array.getElem?_eq_some_iff.1 lx).1, fun j u hj => by rw [Nat.zero_add]; exact (cells_box lx j).trans (by simpa using hj)⟩⟩ (claimV_one x) q3 q4 (b4).size ?_)
                intro v5 w5 ow5 gw5
                have b5 : Below wr.heap.size wr w5 := (b4).grown gw5 (b4).size (fun k e => ((own_alloc' ow3 (Obj.cells (claimV x).toArray 43)).lt k e).1)
                refine ⟨HSS.out _ b5, ?_⟩
                simp only [Act.put, List.getElem_toArray, List.getElem_cons_succ, List.getElem_cons_zero, List.setIfInBounds_toArray, List.set_cons_zero, List.set_cons_succ, List.size_toArray, List.length_cons, List.length_nil, Nat.reduceAdd, Array.replicate_succ, Array.replicate_zero, List.push_toArray, List.nil_append, List.cons_append]
                obtain ⟨A5, c5, rfl⟩ := own_shape ow5
                have hrm : rowsV claimV m = [] ++ rowsV claimV l ++ claimV x := by rw [HM.out, rowsV_app, List.nil_append, show rowsV claimV [x] = claimV x by simp [rowsV]]
                have hml := HML.out
                have e5 : 0 + l.length + 1 = m.length := by omega
                rw [e5, ← hrm] at ow5
                rw [e5]
                have ht5 := told_any m A5 c5 w5 (by omega) HMOK.out (Sl.of_own ow5)
                clear hrm
                refine wpAnyH_all (rs := [6]) (by kernel_rfl) (by simp) ?_
                intro q hq
                obtain rfl : q = 6 := by simpa using hq
                refine wpOp_call _ rfl (by kernel_rfl) (ex_callFn (f := 14) (args := #[.slice A5 m.length c5]) rfl rfl (fun args w => hE1 w args) (by simp only [List.map_toArray, List.map_cons, List.map_nil]; rfl)) ?_
                refine ht5.mono ?_
                rintro e w6 ⟨hbw6, v6, rfl, hv6⟩
                obtain ⟨A6, c6, rfl⟩ := own_shape hv6
                have b6 : Below wr.heap.size wr w6 := b5.trans (hbw6.mono b5.size)
                refine ⟨_, rfl, HSS.out _ b6, ?_⟩
                simp only [Act.put, List.getElem_toArray, List.getElem_cons_succ, List.getElem_cons_zero, List.setIfInBounds_toArray, List.set_cons_zero, List.set_cons_succ, List.size_toArray, List.length_cons, List.length_nil, Nat.reduceAdd, Array.replicate_succ, Array.replicate_zero, List.push_toArray, List.nil_append, List.cons_append]
                refine wpAnyH_take (i := 7) (v := .slice A6 m.length c6) rfl (by kernel_rfl) (by kernel_rfl) (by kernel_rfl) (fun _ _ _ h => h) (Or.inl ⟨by rfl, fun w' hw' => by rfl⟩) (HSS.out _ b6) ?_
                simp only [Act.put, List.getElem_toArray, List.getElem_cons_succ, List.getElem_cons_zero, List.setIfInBounds_toArray, List.set_cons_zero, List.set_cons_succ, List.size_toArray, List.length_cons, List.length_nil, Nat.reduceAdd, Array.replicate_succ, Array.replicate_zero, List.push_toArray, List.nil_append, List.cons_append]
                refine wpAnyH_done (by kernel_rfl) ?_ _
                have s6 := Sl.of_own hv6
                go_wp2_with fail
                go_meet
                case rel => exact ⟨A6, c6, rfl, b6, Lib.hid s6⟩
              · refine wpOp_val _ rfl (by kernel_rfl) (ex_buildSlice1 22 _ rfl 43 Tryd.underlying22 (claimA zeroC) 70 120 claimInfoR rfl (by decide) (by decide) (claimV x) hxl rfl) ?_
                have b3 : Below wr.heap.size wr (((wr.drew).alloc (.cells #[] 43)).alloc (.cells (claimV x).toArray 43)) := (b1).alloc (b1).size _
                have lx : (((wr.drew).alloc (.cells #[] 43)).alloc (.cells (claimV x).toArray 43)).heap[((wr.drew).alloc (.cells #[] 43)).heap.size]? = some (.cells (claimV x).toArray 43 (0, 0)) := heap_alloc_new _ _
                refine ⟨HSS.out _ b3, ?_⟩
                simp only [Act.put, List.getElem_toArray, List.getElem_cons_succ, List.getElem_cons_zero, List.setIfInBounds_toArray, List.set_cons_zero, List.set_cons_succ, List.size_toArray, List.length_cons, List.length_nil, Nat.reduceAdd, Array.replicate_succ, Array.replicate_zero, List.push_toArray, List.nil_append, List.cons_append]
                refine wpAnyH_all (rs := [2]) (by kernel_rfl) (by simp) ?_
                intro q hq
                obtain rfl : q = 2 := by simpa using hq
                refine wpOp_wp _ rfl (by kernel_rfl) (wp_append_sl _ _ 22 rfl wr.heap.size 43 im (claimA zeroC) 70 120 Tryd.underlying22 hmi hm0 hm1 hm2 rfl (by decide) _ _ _ rfl (own_alloc' ow1 (Obj.cells (claimV x).toArray 43)) A l.length c wr.heap.size _ rfl (HS8.out.keep b3) hone q1 q2 (b3).size ?_)
                intro v4 w4 ow4 gw
                have b4 : Below wr.heap.size wr w4 := (b3).grown gw (b3).size (fun k e => ((own_alloc' ow1 (Obj.cells (claimV x).toArray 43)).lt k e).1)
                refine ⟨HSS.out _ b4, ?_⟩
                simp only [Act.put, List.getElem_toArray, List.getElem_cons_succ, List.getElem_cons_zero, List.setIfInBounds_toArray, List.set_cons_zero, List.set_cons_succ, List.size_toArray, List.length_cons, List.length_nil, Nat.reduceAdd, Array.replicate_succ, Array.replicate_zero, List.push_toArray, List.nil_append, List.cons_append]
                have lx4 : w4.heap[((wr.drew).alloc (.cells #[] 43)).heap.size]? = some (.cells (claimV x).toArray 43 (0, 0)) := (gw.block _ (by simp) (by first | (simp [Value.ownBlock]; done) | (simp [Value.ownBlock]; omega) | (intro h; injection h with h; simp at h; done) | (intro h; injection h with h; simp at h; omega))).trans lx
                obtain ⟨A4, c4, rfl⟩ := own_shape ow4
                refine wpAnyH_all (rs := [5]) (by kernel_rfl) (by simp) ?_
                intro q hq
                obtain rfl : q = 5 := by simpa using hq
                refine wpOp_wp _ rfl (by kernel_rfl) (wp_append_sl _ _ 22 rfl wr.heap.size 43 im (claimA zeroC) 70 120 Tryd.underlying22 hmi hm0 hm1 hm2 rfl (by decide) _ _ _ rfl ow4 (some ⟨((wr.drew).alloc (.cells #[] 43)).heap.size, 0, none⟩) 1 1 (w4).heap.size (claimV x) rfl ⟨by rw [hxl], fun _ => ⟨((wr.drew).alloc (.cells #[] 43)).heap.size, 0, rfl, (Array.getElem?_eq_some_iff.1 lx4).1, fun j u hj => by rw [Nat.zero_add]; exact (cells_box lx4 j).trans (by simpa using hj)⟩⟩ (claimV_one x) q3 q4 (b4).size ?_)
                intro v5 w5 ow5 gw5
                have b5 : Below wr.heap.size wr w5 := (b4).grown gw5 (b4).size (fun k e => (ow4.lt k e).1)
                refine ⟨HSS.out _ b5, ?_⟩
                simp only [Act.put, List.getElem_toArray, List.getElem_cons_succ, List.getElem_cons_zero, List.setIfInBounds_toArray, List.set_cons_zero, List.set_cons_succ, List.size_toArray, List.length_cons, List.length_nil, Nat.reduceAdd, Array.replicate_succ, Array.replicate_zero, List.push_toArray, List.nil_append, List.cons_append]
                obtain ⟨A5, c5, rfl⟩ := own_shape ow5
                have hrm : rowsV claimV m = [] ++ rowsV claimV l ++ claimV x := by rw [HM.out, rowsV_app, List.nil_append, show rowsV claimV [x] = claimV x by simp [rowsV]]
                have hml := HML.out
                have e5 : 0 + l.length + 1 = m.length := by omega
                rw [e5, ← hrm] at ow5
                rw [e5]
                have ht5 := told_any m A5 c5 w5 (by omega) HMOK.out (Sl.of_own ow5)
                clear hrm
                refine wpAnyH_all (rs := [6]) (by kernel_rfl) (by simp) ?_
                intro q hq
                obtain rfl : q = 6 := by simpa using hq
                refine wpOp_call _ rfl (by kernel_rfl) (ex_callFn (f := 14) (args := #[.slice A5 m.length c5]) rfl rfl (fun args w => hE1 w args) (by simp only [List.map_toArray, List.map_cons, List.map_nil]; rfl)) ?_
                refine ht5.mono ?_
                rintro e w6 ⟨hbw6, v6, rfl, hv6⟩
                obtain ⟨A6, c6, rfl⟩ := own_shape hv6
                have b6 : Below wr.heap.size wr w6 := b5.trans (hbw6.mono b5.size)
                refine ⟨_, rfl, HSS.out _ b6, ?_⟩
                simp only [Act.put, List.getElem_toArray, List.getElem_cons_succ, List.getElem_cons_zero, List.setIfInBounds_toArray, List.set_cons_zero, List.set_cons_succ, List.size_toArray, List.length_cons, List.length_nil, Nat.reduceAdd, Array.replicate_succ, Array.replicate_zero, List.push_toArray, List.nil_append, List.cons_append]
                refine wpAnyH_take (i := 7) (v := .slice A6 m.length c6) rfl (by kernel_rfl) (by kernel_rfl) (by kernel_rfl) (fun _ _ _ h => h) (Or.inl ⟨by rfl, fun w' hw' => by rfl⟩) (HSS.out _ b6) ?_
                simp only [Act.put, List.getElem_toArray, List.getElem_cons_succ, List.getElem_cons_zero, List.setIfInBounds_toArray, List.set_cons_zero, List.set_cons_succ, List.size_toArray, List.length_cons, List.length_nil, Nat.reduceAdd, Array.replicate_succ, Array.replicate_zero, List.push_toArray, List.nil_append, List.cons_append]
                refine wpAnyH_done (by kernel_rfl) ?_ _
                have s6 := Sl.of_own hv6
                go_wp2_with fail
                go_meet
                case rel => exact ⟨A6, c6, rfl, b6, Lib.hid s6⟩
            · refine wpOp_val _ rfl (by kernel_rfl) (ex_buildSlice1 22 _ rfl 43 Tryd.underlying22 (claimA zeroC) 70 120 claimInfoR rfl (by decide) (by decide) (claimV x) hxl rfl) ?_
              have b1 : Below wr.heap.size wr ((wr.drew).alloc (.cells (claimV x).toArray 43)) := (bd).alloc (bd).size _
              have lx : ((wr.drew).alloc (.cells (claimV x).toArray 43)).heap[(wr.drew).heap.size]? = some (.cells (claimV x).toArray 43 (0, 0)) := heap_alloc_new _ _
              refine ⟨HSS.out _ b1, ?_⟩
              simp only [Act.put, List.getElem_toArray, List.getElem_cons_succ, List.getElem_cons_zero, List.setIfInBounds_toArray, List.set_cons_zero, List.set_cons_succ, List.size_toArray, List.length_cons, List.length_nil, Nat.reduceAdd, Array.replicate_succ, Array.replicate_zero, List.push_toArray, List.nil_append, List.cons_append]
              refine wpAnyH_all (rs := [0]) (by kernel_rfl) (by simp) ?_
              intro q hq
              obtain rfl : q = 0 := by simpa using hq
              refine wpOp_val _ rfl (by kernel_rfl) (ex_build0 22 rfl 43 Tryd.underlying22 im hmi) ?_
              have b3 : Below wr.heap.size wr (((wr.drew).alloc (.cells (claimV x).toArray 43)).alloc (.cells #[] 43)) := (b1).alloc (b1).size _
              have ow1 : (((wr.drew).alloc (.cells (claimV x).toArray 43)).alloc (.cells #[] 43)).ownsRow wr.heap.size 43 70 (.slice (some ⟨((wr.drew).alloc (.cells (claimV x).toArray 43)).heap.size, 0, none⟩) 0 0) 0 [] := own_made0 _ _ _ _ (b1).size
              refine ⟨HSS.out _ b3, ?_⟩
              simp only [Act.put, List.getElem_toArray, List.getElem_cons_succ, List.getElem_cons_zero, List.setIfInBounds_toArray, List.set_cons_zero, List.set_cons_succ, List.size_toArray, List.length_cons, List.length_nil, Nat.reduceAdd, Array.replicate_succ, Array.replicate_zero, List.push_toArray, List.nil_append, List.cons_append]
              refine wpAnyH_all (rs := [2]) (by kernel_rfl) (by simp) ?_
              intro q hq
              obtain rfl : q = 2 := by simpa using hq
              refine wpOp_wp _ rfl (by kernel_rfl) (wp_append_sl _ _ 22 rfl wr.heap.size 43 im (claimA zeroC) 70 120 Tryd.underlying22 hmi hm0 hm1 hm2 rfl (by decide) _ _ _ rfl ow1 A l.length c wr.heap.size _ rfl (HS8.out.keep b3) hone q1 q2 (b3).size ?_)
              intro v4 w4 ow4 gw
              have b4 : Below wr.heap.size wr w4 := (b3).grown gw (b3).size (fun k e => (ow1.lt k e).1)
              refine ⟨HSS.out _ b4, ?_⟩
              simp only [Act.put, List.getElem_toArray, List.getElem_cons_succ, List.getElem_cons_zero, List.setIfInBounds_toArray, List.set_cons_zero, List.set_cons_succ, List.size_toArray, List.length_cons, List.length_nil, Nat.reduceAdd, Array.replicate_succ, Array.replicate_zero, List.push_toArray, List.nil_append, List.cons_append]
              have lx4 : w4.heap[wr.drew.heap.size]? = some (.cells (claimV x).toArray 43 (0, 0)) := (gw.block _ (by simp; omega) (by first | (simp [Value.ownBlock]; done) | (simp [Value.ownBlock]; omega) | (intro h; injection h with h; simp at h; done) | (intro h; injection h with h; simp at h; omega))).trans ((heap_alloc_old _ _ (by simp)).trans lx)
              obtain ⟨A4, c4, rfl⟩ := own_shape ow4
              refine wpAnyH_all (rs := [5]) (by kernel_rfl) (by simp) ?_
              intro q hq
              obtain rfl : q = 5 := by simpa using hq
              refine wpOp_wp _ rfl (by kernel_rfl) (wp_append_sl _ _ 22 rfl wr.heap.size 43 im (claimA zeroC) 70 120 Tryd.underlying22 hmi hm0 hm1 hm2 rfl (by decide) _ _ _ rfl ow4 (some ⟨wr.drew.heap.size, 0, none⟩) 1 1 (w4).heap.size (claimV x) rfl ⟨by rw [hxl], fun _ => ⟨wr.drew.heap.size, 0, rfl, (Array.getElem?_eq_some_iff.1 lx4).1, fun j u hj => by rw [Nat.zero_add]; exact (cells_box lx4 j).trans (by simpa using hj)⟩⟩ (claimV_one x) q3 q4 (b4).size ?_)
              intro v5 w5 ow5 gw5
              have b5 : Below wr.heap.size wr w5 := (b4).grown gw5 (b4).size (fun k e => (ow4.lt k e).1)
              refine ⟨HSS.out _ b5, ?_⟩
              simp only [Act.put, List.getElem_toArray, List.getElem_cons_succ, List.getElem_cons_zero, List.setIfInBounds_toArray, List.set_cons_zero, List.set_cons_succ, List.size_toArray, List.length_cons, List.length_nil, Nat.reduceAdd, Array.replicate_succ, Array.replicate_zero, List.push_toArray, List.nil_append, List.cons_append]
              obtain ⟨A5, c5, rfl⟩ := own_shape ow5
              have hrm : rowsV claimV m = [] ++ rowsV claimV l ++ claimV x := by rw [HM.out, rowsV_app, List.nil_append, show rowsV claimV [x] = claimV x by simp [rowsV]]
              have hml := HML.out
              have e5 : 0 + l.length + 1 = m.length := by omega
              rw [e5, ← hrm] at ow5
              rw [e5]
              have ht5 := told_any m A5 c5 w5 (by omega) HMOK.out (Sl.of_own ow5)
              clear hrm
              refine wpAnyH_all (rs := [6]) (by kernel_rfl) (by simp) ?_
              intro q hq
              obtain rfl : q = 6 := by simpa using hq
              refine wpOp_call _ rfl (by kernel_rfl) (ex_callFn (f := 14) (args := #[.slice A5 m.length c5]) rfl rfl (fun args w => hE1 w args) (by simp only [List.map_toArray, List.map_cons, List.map_nil]; rfl)) ?_
              refine ht5.mono ?_
              rintro e w6 ⟨hbw6, v6, rfl, hv6⟩
              obtain ⟨A6, c6, rfl⟩ := own_shape hv6
              have b6 : Below wr.heap.size wr w6 := b5.trans (hbw6.mono b5.size)
              refine ⟨_, rfl, HSS.out _ b6, ?_⟩
              simp only [Act.put, List.getElem_toArray, List.getElem_cons_succ, List.getElem_cons_zero, List.setIfInBounds_toArray, List.set_cons_zero, List.set_cons_succ, List.size_toArray, List.length_cons, List.length_nil, Nat.reduceAdd, Array.replicate_succ, Array.replicate_zero, List.push_toArray, List.nil_append, List.cons_append]
              refine wpAnyH_take (i := 7) (v := .slice A6 m.length c6) rfl (by kernel_rfl) (by kernel_rfl) (by kernel_rfl) (fun _ _ _ h => h) (Or.inl ⟨by rfl, fun w' hw' => by rfl⟩) (HSS.out _ b6) ?_
              simp only [Act.put, List.getElem_toArray, List.getElem_cons_succ, List.getElem_cons_zero, List.setIfInBounds_toArray, List.set_cons_zero, List.set_cons_succ, List.size_toArray, List.length_cons, List.length_nil, Nat.reduceAdd, Array.replicate_succ, Array.replicate_zero, List.push_toArray, List.nil_append, List.cons_append]
              refine wpAnyH_done (by kernel_rfl) ?_ _
              have s6 := Sl.of_own hv6
              go_wp2_with fail
              go_meet
              case rel => exact ⟨A6, c6, rfl, b6, Lib.hid s6⟩
          case rest =>
            obtain ⟨A6, c6, rfl, hbc, HSC⟩ := hcut
            have hbW : Below W.heap.size W wc := HBR.out.trans (hbc.mono HBR.out.size)
            have HB6 := Lib.hid (HB0.out.trans (hbW.mono HB0.out.size))
            have hml := HML.out
            have RX : Hid (∀ u : World, Below wc.heap.size wc u → u.rangeAt w.heap.size 0 (claimV x)) := fun u hu => HSS.out u (hbc.trans (hu.mono hbc.size))
            have ZC : Hid (w.heap.size < wc.heap.size) := Nat.lt_of_lt_of_le hwr hbc.size
            have hright := right_any m A6 c6 wc (by omega) HMOK.out HSC.out (hg.next HB6.out)
            have hm41 : m.length ≤ 41 := by omega
            clear hbc hbW hwr hml
            cases hr : rightB m with
            | false =>
              rw [hr] at hright
              clear hr
              go_wp2_with (first
                | (go_at_call 16; refine hright.mono ?_; rintro e w7 ⟨hb7, rfl⟩; have HB7 := Lib.hid (HB6.out.trans (hb7.mono HB6.out.size)); have haw := awake14_any w7 (hg.next HB7.out))
                | (go_at_call 17; refine haw.mono ?_; rintro e w8 ⟨hb8, rfl⟩))
              go_ret
              exact ⟨rfl, HB7.out.trans (hb8.mono HB7.out.size)⟩
            | true =>
              rw [hr] at hright
              have hnw := newest HALL.out (by rw [← HM.out]; exact hr)
              rw [← HM.out] at hnw
              have hls : lastS m x.2.1 = some x := by unfold lastS; rw [hr]; exact hnw.1
              have HNW := Lib.hid hnw.2
              have HLS := Lib.hid hls
              clear hr hnw hls
              go_upto_region 11 with (go_at_call 16; refine hright.mono ?_; rintro e w7 ⟨hb7, rfl⟩)
              have HB7 := Lib.hid (HB6.out.trans (hb7.mono HB6.out.size))
              have HS7 := Lib.hid ((HSC.out.keep hb7).more hb7.size)
              have BC7 := Lib.hid hb7
              have rd : ∀ j u, (keyV x.2.1)[j]? = some u → w7.cell? ⟨w.heap.size, 34 + j, none⟩ = some u := fun j u hj => by simpa using RX.out w7 BC7.out (34 + j) u (claim_doc hx j u hj)
              have RD := Lib.hid rd
              have hlast := last_any14 m x.2.1 A6 c6 w7 (by omega) HMOK.out hx.2.1 HS7.out (hg.next HB7.out)
              rw [HLS.out] at hlast
              simp only [Option.getD_some, Option.isSome_some] at hlast
              have HSD : Hid ((Tryd.prog.info? 35).map (·.size) = some (keyV x.2.1).length) := by rw [keyV_length hx.2.1]; exact sizeKey
              have HSK : Hid ((Tryd.prog.info? 35).map (·.size) = some (keyV x.1).length) := by rw [keyV_length hx.1]; exact sizeKey
              clear rd hright hb7
              go_upto_region 12 with (first
                | (refine wp_loadN rfl 35 _ rfl w.heap.size 34 rfl (keyV x.2.1) _ RD.out Tryd.underlying35 rfl HSD.out ?_)
                | (go_at_call 20; refine hlast.mono ?_; rintro e w8 ⟨hb8, rfl⟩)
                | (refine wp_storeN (B := w8.heap.size) (w0 := w8) rfl 41 _ _ rfl w8.heap.size (claimV x).toArray rfl rfl 41 _ (heap_alloc_new _ _) (claimV_info hx) (by rw [List.size_toArray, List.size_toArray, hxl]; rfl) (by simpa using claimV_one x) ((Below.refl _ _).alloc (Nat.le_refl _) _) (Nat.le_refl _) ?_; intro W9 hbW9 hW9 _))
              have b79 : Below w7.heap.size w7 W9 := hb8.trans (hbW9.mono hb8.size)
              have BC9 : Hid (Below wc.heap.size wc W9) := BC7.out.trans (b79.mono BC7.out.size)
              have HB9 := Lib.hid (HB7.out.trans (b79.mono HB7.out.size))
              have HS9 := Lib.hid ((HS7.out.keep b79).more b79.size)
              have G9 := Lib.hid hW9
              have hp := paths_any m A6 c6 W9 (by omega) HMOK.out HMSM.out HS9.out (hg.next HB9.out)
              clear hb8 hbW9 hW9 b79 hlast
              go_wp2_with (go_at_call 13; refine hp.mono ?_; rintro e w10 ⟨hb10, A7, c7, r, rfl, hr, hk, hs⟩)
              have BC10 : Hid (Below wc.heap.size wc w10) := BC9.out.trans (hb10.mono BC9.out.size)
              have HB10 := Lib.hid (HB9.out.trans (hb10.mono HB9.out.size))
              have hz9 : w8.heap.size < W9.heap.size := (Array.getElem?_eq_some_iff.1 G9.out).1
              have G10 := Lib.hid ((hb10.block _ hz9).trans G9.out)
              have Z10 : Hid (w8.heap.size < w10.heap.size) := Nat.lt_of_lt_of_le hz9 hb10.size
              have hmem : x.2.1 ∈ r.map (·.1) ↔ x.2.2.1 ≠ 5 := by
                have h := HNW.out
                rw [← hr, List.map_map] at h
                exact h
              have HMEM := Lib.hid hmem
              have hnx : ∀ z ∈ r, NamedOk z := fun z hz => ⟨(hk z hz).1, by have := (hk z hz).2; unfold maxLen; omega⟩
              have HNX := Lib.hid hnx; have HS := Lib.hid hs
              have hrl : r.length ≤ 90 := by
                have h := congrArg List.length hr
                rw [List.length_map] at h
                rw [h]
                unfold pathsS
                split
                · have := pathsGo_length (lastOf m) (docsS m) []
                  have := docsS_length m
                  omega
                · simp
              clear hmem hnx hs hk hr hb10 hz9 hp
              go_loopw [10, 11] (fun v t wr => ∃ i : Nat, i ≤ r.length ∧ t = .int .i64 i ∧ v = .bool (decide (x.2.1 ∈ (r.take i).map (·.1))) ∧ Below w10.heap.size w10 wr) (fun _ t _ => r.length - (intOf t).toNat)
              case atStart => exact ⟨0, by omega, rfl, by simp, Below.refl _ _⟩
              case round =>
                obtain ⟨i, hi, rfl, rfl, hbr⟩ := hrel
                by_cases hlt : i < r.length
                · obtain ⟨b, off, rfl, hbl, hcl⟩ := (HS.out.keep hbr).2 (by omega)
                  have i0 : (0 : Int) ≤ (i : Int) := by omega
                  have i1 : (i : Int) < (r.length : Int) := by omega
                  have hrow := Sl.row (fun z hz => namedV_length (HNX.out z hz)) hcl hlt
                  have hz := (HNX.out _ (List.getElem_mem hlt)).1
                  have hbz : b < wr.heap.size := Nat.lt_of_lt_of_le hbl hbr.size
                  have hst : (r.take (i + 1)).map (·.1) = (r.take i).map (·.1) ++ [r[i].1] := by rw [List.take_succ_eq_append_getElem hlt, List.map_append]; rfl
                  have hnd := HNX.out _ (List.getElem_mem hlt)
                  have hkr : ∀ j u, (keyV r[i].1)[j]? = some u → wr.cell? ⟨b, off + i * 35 + j, none⟩ = some u := fun j u hj => by have := hrow (0 + j) u (named_doc hnd j u hj); rwa [Nat.zero_add] at this
                  have HST := Lib.hid hst
                  have RK := Lib.hid hkr
                  clear hcl hrow hst hnd hkr
                  generalize r[i].1 = z at *
                  have BX : Below wc.heap.size wc wr := BC10.out.trans (hbr.mono BC10.out.size)
                  have rZ := Lib.hid (Wg.row (w := wr) (b := b) (o := off + i * 35) (cs := keyV z) (fun j u hj => RK.out j u hj) hbz)
                  have rD := Lib.hid (Wg.row (w := wr) (b := w.heap.size) (o := 34) (cs := keyV x.2.1) (fun j u hj => by simpa using RX.out wr BX (34 + j) u (claim_doc hx j u hj)) (Nat.lt_of_lt_of_le ZC.out BX.size))
                  have heq : ∀ w' : World, (Op.equalIn 10000 35 (.agg (keyV z).toArray) (.agg (keyV x.2.1).toArray)).run Tryd.prog w' = .ok (decide (z = x.2.1)) w' := fun w' => run_eqKey hz hx.2.1 w'
                  have HEQ := Lib.hid heq
                  have HSZ : Hid ((Tryd.prog.info? 35).map (·.size) = some (keyV z).length) := by rw [keyV_length hz]; exact sizeKey
                  have HBR2 := Lib.hid hbr
                  clear heq BX hbr hbl hz
                  cases hsi : decide (x.2.1 ∈ (r.take i).map (·.1)) with
                  | true =>
                    have HSI := Lib.hid hsi
                    clear hsi
                    go_wp2_with fail
                    refine wp_region_wg (by kernel_rfl) (by kernel_rfl) ?_
                    repeat (first
                      | go_big_quiet_skip
                      | (go_big_quiet_want
                         first
                           | (refine quiet_val (fun w' hw' => ex_load 35 _ rfl (p := ⟨w.heap.size, 34, none⟩) rfl (run_loadVar_mid w' _ _ _ (keyV x.2.1) _ (rD.out w' hw') Tryd.underlying35 rfl HSD.out)) ?_
                              go_big_quiet_on
                              simp only [Act.put, List.setIfInBounds_toArray, List.set_cons_zero, List.set_cons_succ])
                           | (go_big_quiet_op
                              first
                                | go_big_quiet_on
                                | go_big_quiet_call (first | (fail)))))
                    refine wpQuiet_nil ?_
                    rintro w' ⟨k, rfl⟩
                    have hk := k.2
                    generalize k.val = w11 at *
                    have HB11 := Lib.hid (HBR2.out.trans (hk.below.mono HBR2.out.size))
                    clear hk k rZ rD
                    go_wp2_with fail
                    go_roundw
                    case rel =>
                      refine ⟨i + 1, by omega, by go_num, ?_, HB11.out⟩
                      have h := of_decide_eq_true HSI.out
                      rw [HST.out, decide_eq_true (List.mem_append.2 (.inl h))]
                    case measure => simp [intOf]; omega
                  | false =>
                    have HSI := Lib.hid hsi
                    clear hsi
                    go_wp2_with fail
                    refine wp_region_wg (by kernel_rfl) (by kernel_rfl) ?_
                    repeat (first
                      | go_big_quiet_skip
                      | (go_big_quiet_want
                         first
                           | (refine quiet_val (fun w' hw' => ex_load 35 _ rfl (p := ⟨b, off + i * 35, none⟩) rfl (run_loadVar_mid w' _ _ _ (keyV z) _ (rZ.out w' hw') Tryd.underlying35 rfl HSZ.out)) ?_
                              go_big_quiet_on
                              simp only [Act.put, List.setIfInBounds_toArray, List.set_cons_zero, List.set_cons_succ])
                           | (refine quiet_val (fun w' hw' => ex_load 35 _ rfl (p := ⟨w.heap.size, 34, none⟩) rfl (run_loadVar_mid w' _ _ _ (keyV x.2.1) _ (rD.out w' hw') Tryd.underlying35 rfl HSD.out)) ?_
                              go_big_quiet_on
                              simp only [Act.put, List.setIfInBounds_toArray, List.set_cons_zero, List.set_cons_succ])
                           | (refine quiet_val (fun w' hw' => ex_eql 35 _ _ _ rfl (xs := (keyV z).toArray) (ys := (keyV x.2.1).toArray) rfl rfl (r := decide (z = x.2.1)) eqKey.noGuard (HEQ.out w')) ?_
                              go_big_quiet_on
                              simp only [Act.put, List.setIfInBounds_toArray, List.set_cons_zero, List.set_cons_succ])
                           | (go_big_quiet_op
                              first
                                | go_big_quiet_on
                                | go_big_quiet_call (first | (fail)))))
                    refine wpQuiet_nil ?_
                    rintro w' ⟨k, rfl⟩
                    have hk := k.2
                    generalize k.val = w11 at *
                    have HB11 := Lib.hid (HBR2.out.trans (hk.below.mono HBR2.out.size))
                    clear hk k rZ rD
                    go_wp2_with fail
                    go_roundw
                    case rel =>
                      refine ⟨i + 1, by omega, by go_num, ?_, HB11.out⟩
                      have h := of_decide_eq_false HSI.out
                      rw [HST.out]
                      congr 1
                      rw [Bool.eq_iff_iff, decide_eq_true_iff, decide_eq_true_iff, List.mem_append, List.mem_singleton]
                      exact ⟨fun e => .inr e.symm, fun e => e.elim (fun e => absurd e h) Eq.symm⟩
                    case measure => simp [intOf]; omega
                · have hie : i = r.length := by omega
                  have hv : decide (x.2.1 ∈ (r.take i).map (·.1)) = decide (x.2.2.1 ≠ 5) := by
                    rw [hie, List.take_length, Bool.eq_iff_iff, decide_eq_true_iff, decide_eq_true_iff]
                    exact HMEM.out
                  rw [hv]
                  have hbx : Below wc.heap.size wc wr := BC10.out.trans (hbr.mono BC10.out.size)
                  have HBX := Lib.hid (HB10.out.trans (hbr.mono HB10.out.size))
                  have g := (hbr.block _ Z10.out).trans G10.out
                  have rx : wr.rangeAt w.heap.size 0 (claimV x) := RX.out wr hbx
                  have K1 : Hid (∀ j u, (keyV x.1)[j]? = some u → wr.cell? ⟨w8.heap.size, 0 + j, none⟩ = some u) := fun j u hj => (cells_box g (0 + j)).trans (by simpa using claim_key hx j u hj)
                  have K2 : Hid (∀ j u, (keyV x.1)[j]? = some u → wr.cell? ⟨w.heap.size, 0 + j, none⟩ = some u) := fun j u hj => by simpa using rx (0 + j) u (claim_key hx j u hj)
                  have d69 : wr.cell? ⟨w8.heap.size, 69, none⟩ = some (.string x.2.2.2) := (cells_box g 69).trans (by simpa using (claim_cell hx).2)
                  have e69 : wr.cell? ⟨w.heap.size, 69, none⟩ = some (.string x.2.2.2) := by simpa using rx 69 _ (claim_cell hx).2
                  have e68 : wr.cell? ⟨w.heap.size, 68, none⟩ = some (.int .u8 (x.2.2.1 : Int)) := by simpa using rx 68 _ (claim_cell hx).1
                  have heq : ∀ w' : World, (Op.equalIn 10000 35 (.agg (keyV x.1).toArray) (.agg (keyV x.1).toArray)).run Tryd.prog w' = .ok true w' := fun w' => by have := run_eqKey hx.1 hx.1 w'; simpa using this
                  have HEX := Lib.hid heq
                  have haw := awake14_any wr (hg.next HBX.out)
                  have hse : decide (x.2.2.2 = x.2.2.2) = true := by simp
                  clear heq g rx hbx hbr hie hv
                  by_cases k5 : x.2.2.1 = 5
                  · have hd : decide (x.2.2.1 ≠ 5) = false := by rw [decide_eq_false_iff_not]; omega
                    rw [hd]
                    rw [k5] at e68
                    clear hd k5
                    go_wp2_with (first
                      | (refine wp_val (by rfl) (ex_load 35 _ rfl (p := ⟨w8.heap.size, 0, none⟩) rfl (run_loadVar_mid wr _ _ _ (keyV x.1) _ K1.out Tryd.underlying35 rfl HSK.out)) ?_)
                      | (refine wp_val (by rfl) (ex_load 35 _ rfl (p := ⟨w.heap.size, 0, none⟩) rfl (run_loadVar_mid wr _ _ _ (keyV x.1) _ K2.out Tryd.underlying35 rfl HSK.out)) ?_)
                      | (refine wp_val (by rfl) (ex_eql 35 _ _ _ rfl (xs := (keyV x.1).toArray) (ys := (keyV x.1).toArray) rfl rfl (r := true) eqKey.noGuard (HEX.out _)) ?_)
                      | (go_at_call 17; refine haw.mono ?_; rintro e w12 ⟨hb12, rfl⟩))
                    go_ret
                    exact ⟨rfl, HBX.out.trans (hb12.mono HBX.out.size)⟩

                  · have hd : decide (x.2.2.1 ≠ 5) = true := by rw [decide_eq_true_iff]; exact k5
                    rw [hd]
                    have hne : ((x.2.2.1 : Int) != 5) = true := bne_iff_ne.2 (by omega)
                    have hne2 : ¬ (x.2.2.1 : Int) = 5 := by omega
                    clear hd k5
                    go_wp2_with (first
                      | (refine wp_val (by rfl) (ex_load 35 _ rfl (p := ⟨w8.heap.size, 0, none⟩) rfl (run_loadVar_mid wr _ _ _ (keyV x.1) _ K1.out Tryd.underlying35 rfl HSK.out)) ?_)
                      | (refine wp_val (by rfl) (ex_load 35 _ rfl (p := ⟨w.heap.size, 0, none⟩) rfl (run_loadVar_mid wr _ _ _ (keyV x.1) _ K2.out Tryd.underlying35 rfl HSK.out)) ?_)
                      | (refine wp_val (by rfl) (ex_eql 35 _ _ _ rfl (xs := (keyV x.1).toArray) (ys := (keyV x.1).toArray) rfl rfl (r := true) eqKey.noGuard (HEX.out _)) ?_)
                      | (go_at_call 17; refine haw.mono ?_; rintro e w12 ⟨hb12, rfl⟩))
                    go_ret
                    exact ⟨rfl, HBX.out.trans (hb12.mono HBX.out.size)⟩
end Go.Proofs.YtfjmbcljohobeaaDoor
