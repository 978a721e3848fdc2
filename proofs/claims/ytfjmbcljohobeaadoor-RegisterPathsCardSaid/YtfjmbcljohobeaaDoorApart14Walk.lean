/-
  RegisterApart's walk. Conditions: claims well formed; the library's variable MaxLen holds a number.
-/
import Derived.Test.YtfjmbcljohobeaaDoorAwake14
import Derived.Test.YtfjmbcljohobeaaDoorRegFind
import Derived.Test.YtfjmbcljohobeaaDoorHand
import Derived.IntWalk
namespace Go.Proofs.YtfjmbcljohobeaaDoor
open Go.RowKit Go.Maps Go.Shelf
set_option linter.unusedVariables false
set_option linter.unusedSimpArgs false

theorem wp_region_wg {P : Program} {id : Nat} {Q : Exit → Act → World → Prop} {a : Act} {w : World} {l : List Oper} (hm : P.follows .mixedOrders = true) (hB : Region.lexB .any l.toArray = true)
    (h : wpQuiet P l.toArray (fun w' => ∃ n : Wg w, w' = n.val) (fun a' => ∀ w', (∃ n : Wg w, w' = n.val) → Q .normal a' w') l a) : (Code.region id l.toArray true).wp P Q a w :=
  wp_region_quiet (C := fun w' => ∃ n : Wg w, w' = n.val) hm hB ⟨⟨_, (Gr.refl w).drew⟩, rfl⟩ (by simpa using h)
set_option maxHeartbeats 4000000 in
set_option maxRecDepth 100000 in
theorem apart14_walk (l : List ClaimD) (A : Option Addr) (c : Nat) (w : World) (hl : l.length ≤ maxLen) (hok : ∀ x ∈ l, ClaimOk x) (hsl : Sl w w.heap.size A l.length 70 (rowsV claimV l)) (hg : Glob w) :
    Calls Tryd.prog 6 #[.slice A l.length c] w fun e w' => e = .returned (.bool true) ∧ Below w.heap.size w w' := by
  have hlight := light_any l A c w hl hok hsl
  have HSL := Lib.hid hsl; have HOK := Lib.hid hok
  clear hsl hok
  cases hlt : lightB l with
  | false =>
    rw [hlt] at hlight
    clear hlt
    go_enter Tryd.func6, Tryd.ntmps6
    go_wp2_with (go_at_call 12; refine hlight.mono ?_; rintro e w1 ⟨rfl, rfl⟩)
    go_ret
    exact ⟨rfl, Below.refl _ _⟩
  | true =>
    rw [hlt] at hlight
    obtain ⟨h40, h100⟩ := light_yes hlt
    clear hlt
    have htold := fun (u : World) (hu : Below w.heap.size w u) => told_any l A c u (by omega) HOK.out ((HSL.out.keep hu).more hu.size)
    have HT := Lib.hid htold
    have ht0 := HT.out w (Below.refl _ _)
    clear htold
    go_enter Tryd.func6, Tryd.ntmps6
    go_upto_region 3 with (go_at_call 12; refine hlight.mono ?_; rintro e w1 ⟨rfl, rfl⟩)
    go_wp2_with (go_at_call 14; refine ht0.mono ?_; rintro e w2 ⟨hb2, v, rfl, hv⟩; obtain ⟨A6, c6, rfl⟩ := own_shape hv
                 have hp6 := paths_any l A6 c6 w2 (by omega) HOK.out (fun z hz => by have := h100 z hz; omega) (Sl.of_own hv) (hg.next hb2)
                 have HB2 := Lib.hid hb2
                 clear hv hb2)
    refine hp6.mono ?_
    rintro e w3 ⟨hb3, A7, c7, r, rfl, hr, hk, hs⟩
    have HB3 := Lib.hid (HB2.out.trans (hb3.mono HB2.out.size))
    have hrl : r.length ≤ 90 := by
      have h := congrArg List.length hr
      rw [List.length_map] at h
      rw [h]
      unfold pathsS
      split
      · have := pathsGo_length (lastOf l) (docsS l) []
        have := docsS_length l
        omega
      · simp
    have hnx : ∀ z ∈ r, NamedOk z := fun z hz => ⟨(hk z hz).1, by have := (hk z hz).2; unfold maxLen; omega⟩
    have hris : ∀ i j (hi : i < r.length) (hj : j < r.length), i < j → cmpK r[i].1 r[j].1 < 0 := by
      intro i j hi hj hij
      have h := pathsS_rising l
      unfold Rising at h
      rw [List.pairwise_iff_getElem] at h
      have := h i j (by rw [← hr]; simpa using hi) (by rw [← hr]; simpa using hj) hij
      simpa [← hr] using this
    have hapt : ∀ i j (hi : i < r.length) (hj : j < r.length), i < j → clashB (L r[j].2) (L r[i].2) = false := by
      intro i j hi hj hij
      have h := pathsS_apart l
      rw [List.pairwise_iff_getElem] at h
      have := h i j (by rw [← hr]; simpa using hi) (by rw [← hr]; simpa using hj) hij
      simpa [← hr] using this
    have hfin : ∀ i (hi : i < r.length), findS l (L r[i].2) = some r[i].1 := by
      intro i hi
      have hi' : i < (pathsS l).length := by rw [← hr]; simpa using hi
      have h := findS_is l hi'
      have e1 : (pathsS l)[i] = (r[i].1, L r[i].2) := by simp [← hr]
      rw [e1] at h
      exact h
    have HNX := Lib.hid hnx; have HRIS := Lib.hid hris; have HAPT := Lib.hid hapt; have HFIN := Lib.hid hfin; have HS := Lib.hid hs; have HK := Lib.hid hk
    clear hnx hris hapt hfin hs hk hr hb3 hp6 ht0 HB2
    go_wp2_with fail
    go_loopw [4] (fun t wr => ∃ i : Nat, i ≤ r.length ∧ t = .int .i64 i ∧ Below w3.heap.size w3 wr) (fun t _ => r.length - (intOf t).toNat)
    case atStart => exact ⟨0, by omega, rfl, Below.refl _ _⟩
    case round =>
      obtain ⟨i, hi, rfl, hbr⟩ := hrel
      by_cases hlt : i < r.length
      · obtain ⟨b, off, rfl, hbl, hcl⟩ := (HS.out.keep hbr).2 (by omega)
        have i0 : (0 : Int) ≤ (i : Int) := by omega
        have i1 : (i : Int) < (r.length : Int) := by omega
        have hbz : b < wr.heap.size := Nat.lt_of_lt_of_le hbl hbr.size
        have hrowj : ∀ j (hj : j < r.length), wr.rangeAt b (off + j * 35) (namedV r[j]) := fun j hj => Sl.row (fun z hz => namedV_length (HNX.out z hz)) hcl hj
        have hcellj : ∀ j (hj : j < r.length), wr.cell? ⟨b, off + j * 35 + 34, none⟩ = some (.string r[j].2) := fun j hj => hrowj j hj 34 _ (named_cell (HNX.out _ (List.getElem_mem hj)))
        have hkeyj : ∀ j (hj : j < r.length), wr.rangeAt b (off + j * 35) (keyV r[j].1) := fun j hj q u hq => by have := hrowj j hj (0 + q) u (named_doc (HNX.out _ (List.getElem_mem hj)) q u hq); rwa [Nat.zero_add] at this
        have hci := hcellj i hlt
        have hki := hkeyj i hlt
        have hni := HNX.out _ (List.getElem_mem hlt)
        have hfi := HFIN.out i hlt
        have HB := Lib.hid (HB3.out.trans (hbr.mono HB3.out.size))
        have HCJ := Lib.hid hcellj; have HKJ := Lib.hid hkeyj; have HKI := Lib.hid hki; have HFI := Lib.hid hfi; have HBR := Lib.hid hbr; have HCI := Lib.hid hci
        clear hcl hrowj hcellj hkeyj hki hfi hbr hci
        have hzk : (keyV zeroKd).length = 34 := keyV_length zeroKd_ok
        have hkl := keyV_length hni.1
        have hpz := (HK.out _ (List.getElem_mem hlt)).2
        have HRI := Lib.hid (HRIS.out); have HAI := Lib.hid (HAPT.out)
        obtain ⟨z, hz⟩ : ∃ z, z = r[i] := ⟨_, rfl⟩
        rw [← hz] at hni hkl hpz HKI HFI HCI
        have HZ := Lib.hid hz
        clear hz HRIS HAPT
        have hS : ∀ u : World, Below wr.heap.size wr u → u.cell? ⟨b, off + i * 35 + 34, none⟩ = some (.string z.2) := fun u hu => (hu.cell (p := ⟨b, off + i * 35 + 34, none⟩) hbz).trans HCI.out
        have bd : Below wr.heap.size wr wr.drew := (Below.refl _ _).drew
        go_wp2_with fail
        refine wp_region_held (S := fun u => u.cell? ⟨b, off + i * 35 + 34, none⟩ = some (.string z.2)) (by kernel_rfl) ?_
        refine wpAnyH_take (i := 0) (v := .slice A l.length c) rfl (by kernel_rfl) (by kernel_rfl) (by kernel_rfl) (fun _ _ _ h => h) (Or.inl ⟨by rfl, fun w' hw' => by rfl⟩) (hS _ bd) ?_
        simp only [Act.put, List.getElem_toArray, List.getElem_cons_succ, List.getElem_cons_zero, List.setIfInBounds_toArray, List.set_cons_zero, List.set_cons_succ, List.size_toArray, List.length_cons, List.length_nil, Nat.reduceAdd, Array.replicate_succ, Array.replicate_zero, List.push_toArray, List.nil_append, List.cons_append]
        refine wpAnyH_take (i := 2) (v := .slice (some ⟨b, off, none⟩) r.length c7) rfl (by kernel_rfl) (by kernel_rfl) (by kernel_rfl) (fun _ _ _ h => h) (Or.inl ⟨by rfl, fun w' hw' => by rfl⟩) (hS _ bd) ?_
        simp only [Act.put, List.getElem_toArray, List.getElem_cons_succ, List.getElem_cons_zero, List.setIfInBounds_toArray, List.set_cons_zero, List.set_cons_succ, List.size_toArray, List.length_cons, List.length_nil, Nat.reduceAdd, Array.replicate_succ, Array.replicate_zero, List.push_toArray, List.nil_append, List.cons_append]
        refine wpAnyH_take (i := 3) (v := .int .i64 (i : Int)) rfl (by kernel_rfl) (by kernel_rfl) (by kernel_rfl) (fun _ _ _ h => h) (Or.inl ⟨by rfl, fun w' hw' => by rfl⟩) (hS _ bd) ?_
        simp only [Act.put, List.getElem_toArray, List.getElem_cons_succ, List.getElem_cons_zero, List.setIfInBounds_toArray, List.set_cons_zero, List.set_cons_succ, List.size_toArray, List.length_cons, List.length_nil, Nat.reduceAdd, Array.replicate_succ, Array.replicate_zero, List.push_toArray, List.nil_append, List.cons_append]
        refine wpAnyH_take (i := 4) (v := .pointer (some ⟨b, off + i * 35, none⟩)) rfl (by kernel_rfl) (by kernel_rfl) (by kernel_rfl) (fun _ _ _ h => h) (Or.inl ⟨by rfl, fun w' hw' => by go_simp⟩) (hS _ bd) ?_
        simp only [Act.put, List.getElem_toArray, List.getElem_cons_succ, List.getElem_cons_zero, List.setIfInBounds_toArray, List.set_cons_zero, List.set_cons_succ, List.size_toArray, List.length_cons, List.length_nil, Nat.reduceAdd, Array.replicate_succ, Array.replicate_zero, List.push_toArray, List.nil_append, List.cons_append]
        refine wpAnyH_take (i := 5) (v := .pointer (some ⟨b, off + i * 35 + 34, none⟩)) rfl (by kernel_rfl) (by kernel_rfl) (by kernel_rfl) (fun _ _ _ h => h) (Or.inl ⟨by rfl, fun w' hw' => by go_simp⟩) (hS _ bd) ?_
        simp only [Act.put, List.getElem_toArray, List.getElem_cons_succ, List.getElem_cons_zero, List.setIfInBounds_toArray, List.set_cons_zero, List.set_cons_succ, List.size_toArray, List.length_cons, List.length_nil, Nat.reduceAdd, Array.replicate_succ, Array.replicate_zero, List.push_toArray, List.nil_append, List.cons_append]
        refine wpAnyH_take (i := 6) (v := .string z.2) rfl (by kernel_rfl) (by kernel_rfl) (by kernel_rfl) (fun _ _ _ h => h) (Or.inl ⟨by rfl, fun w' hw' => by go_simp⟩) (hS _ bd) ?_
        simp only [Act.put, List.getElem_toArray, List.getElem_cons_succ, List.getElem_cons_zero, List.setIfInBounds_toArray, List.set_cons_zero, List.set_cons_succ, List.size_toArray, List.length_cons, List.length_nil, Nat.reduceAdd, Array.replicate_succ, Array.replicate_zero, List.push_toArray, List.nil_append, List.cons_append]
        refine wpAnyH_all (rs := [1, 11]) (by kernel_rfl) (by simp) ?_
        intro q hq
        simp only [List.mem_cons, List.not_mem_nil, or_false] at hq
        have hE1 : ∀ (u : World) (args : Array Value), (callFunc 14 args).run Tryd.prog u = .ok (.enter 14 args) u := fun u args => enters_of Tryd.func14 (by kernel_rfl) rfl args u
        have hE2 : ∀ (u : World) (args : Array Value), (callFunc 21 args).run Tryd.prog u = .ok (.enter 21 args) u := fun u args => enters_of Tryd.func21 (by kernel_rfl) rfl args u
        have hz0 : (zeroValue 35).run Tryd.prog wr = .ok (.agg (keyV zeroKd).toArray) wr := zeroKey_run _
        rcases hq with rfl | rfl
        · refine wpOp_call _ rfl (by kernel_rfl) (ex_callFn (f := 14) (args := #[.slice A l.length c]) rfl rfl (fun args w => hE1 w args) (by simp only [List.map_toArray, List.map_cons, List.map_nil]; rfl)) ?_
          refine (HT.out wr.drew (HB.out.trans (bd.mono HB.out.size))).mono ?_
          rintro e w4 ⟨hbw4, v, rfl, hv⟩
          obtain ⟨A9, c9, rfl⟩ := own_shape hv
          have b4 : Below wr.heap.size wr w4 := bd.trans (hbw4.mono bd.size)
          have hsl9 := Sl.of_own hv
          refine ⟨_, rfl, hS _ b4, ?_⟩
          simp only [Act.put, List.getElem_toArray, List.getElem_cons_succ, List.getElem_cons_zero, List.setIfInBounds_toArray, List.set_cons_zero, List.set_cons_succ, List.size_toArray, List.length_cons, List.length_nil, Nat.reduceAdd, Array.replicate_succ, Array.replicate_zero, List.push_toArray, List.nil_append, List.cons_append]
          refine wpAnyH_all (rs := [7, 11]) (by kernel_rfl) (by simp) ?_
          intro q hq
          simp only [List.mem_cons, List.not_mem_nil, or_false] at hq
          have hz4 := b4.size
          rcases hq with rfl | rfl
          · have hfd := find_any14 l z.2 A9 c9 w4 (by omega) HOK.out (fun y hy => by have := h100 y hy; omega) hsl9 (hg.next (HB.out.trans (b4.mono HB.out.size)))
            rw [HFI.out] at hfd
            refine wpOp_call _ rfl (by kernel_rfl) (ex_callFn (f := 21) (args := #[.slice A9 l.length c9, .string z.2]) rfl rfl (fun args w => hE2 w args) (by simp only [List.map_toArray, List.map_cons, List.map_nil]; rfl)) ?_
            refine hfd.mono ?_
            rintro e w5 ⟨hbw5, rfl⟩
            have b5 : Below wr.heap.size wr w5 := b4.trans (hbw5.mono b4.size)
            refine ⟨_, rfl, hS _ b5, ?_⟩
            simp only [Act.put, List.getElem_toArray, List.getElem_cons_succ, List.getElem_cons_zero, List.setIfInBounds_toArray, List.set_cons_zero, List.set_cons_succ, List.size_toArray, List.length_cons, List.length_nil, Nat.reduceAdd, Array.replicate_succ, Array.replicate_zero, List.push_toArray, List.nil_append, List.cons_append]
            have hz5 := b5.size
            refine wpAnyH_take (i := 8) (v := .tuple #[keyA z.1, .bool true]) rfl (by kernel_rfl) (by kernel_rfl) (by kernel_rfl) (fun _ _ _ h => h) (Or.inl ⟨by rfl, fun w' hw' => by rfl⟩) (hS _ b5) ?_
            simp only [Act.put, List.getElem_toArray, List.getElem_cons_succ, List.getElem_cons_zero, List.setIfInBounds_toArray, List.set_cons_zero, List.set_cons_succ, List.size_toArray, List.length_cons, List.length_nil, Nat.reduceAdd, Array.replicate_succ, Array.replicate_zero, List.push_toArray, List.nil_append, List.cons_append]
            refine wpAnyH_take (i := 9) (v := keyA z.1) rfl (by kernel_rfl) (by kernel_rfl) (by kernel_rfl) (fun _ _ _ h => h) (Or.inl ⟨by rfl, fun w' hw' => by rfl⟩) (hS _ b5) ?_
            simp only [Act.put, List.getElem_toArray, List.getElem_cons_succ, List.getElem_cons_zero, List.setIfInBounds_toArray, List.set_cons_zero, List.set_cons_succ, List.size_toArray, List.length_cons, List.length_nil, Nat.reduceAdd, Array.replicate_succ, Array.replicate_zero, List.push_toArray, List.nil_append, List.cons_append]
            refine wpAnyH_take (i := 10) (v := .bool true) rfl (by kernel_rfl) (by kernel_rfl) (by kernel_rfl) (fun _ _ _ h => h) (Or.inl ⟨by rfl, fun w' hw' => by rfl⟩) (hS _ b5) ?_
            simp only [Act.put, List.getElem_toArray, List.getElem_cons_succ, List.getElem_cons_zero, List.setIfInBounds_toArray, List.set_cons_zero, List.set_cons_succ, List.size_toArray, List.length_cons, List.length_nil, Nat.reduceAdd, Array.replicate_succ, Array.replicate_zero, List.push_toArray, List.nil_append, List.cons_append]
            refine wpAnyH_all (rs := [11]) (by kernel_rfl) (by simp) ?_
            intro q hq
            obtain rfl : q = 11 := by simpa using hq
            refine wpOp_val _ rfl (by kernel_rfl) (ex_alloc (cs := (keyV zeroKd).toArray) rfl (zeroKey_run _)) ?_
            refine ⟨hS _ (b5.alloc b5.size _), ?_⟩
            simp only [Act.put, List.getElem_toArray, List.getElem_cons_succ, List.getElem_cons_zero, List.setIfInBounds_toArray, List.set_cons_zero, List.set_cons_succ, List.size_toArray, List.length_cons, List.length_nil, Nat.reduceAdd, Array.replicate_succ, Array.replicate_zero, List.push_toArray, List.nil_append, List.cons_append]
            refine wpAnyH_all (rs := [12]) (by kernel_rfl) (by simp) ?_
            intro q hq
            obtain rfl : q = 12 := by simpa using hq
            refine wpOp_skip _ rfl (by kernel_rfl) (ex_storeRow 35 _ _ rfl (w5.heap.size) (keyV z.1).toArray rfl rfl 35 (keyV zeroKd).toArray (heap_alloc_new _ _) (keyV_info hni.1) (by rw [List.size_toArray, List.size_toArray, hzk, hkl]) (by simpa using keyV_one z.1)) ?_
            have b9 : Below wr.heap.size wr ((w5.alloc (.cells (keyV zeroKd).toArray 35)).setRow (w5.heap.size) (keyV z.1).toArray) := below_setRow' (b5.alloc b5.size _) (by first | omega | simp) _
            have g9 : ((w5.alloc (.cells (keyV zeroKd).toArray 35)).setRow (w5.heap.size) (keyV z.1).toArray).heap[w5.heap.size]? = some (.cells (keyV z.1).toArray 35 (0, 0)) := setRow_heap _ _ _ _ _ _ (heap_alloc_new _ _)
            refine ⟨hS _ b9, ?_⟩
            simp only [Act.put, List.getElem_toArray, List.getElem_cons_succ, List.getElem_cons_zero, List.setIfInBounds_toArray, List.set_cons_zero, List.set_cons_succ, List.size_toArray, List.length_cons, List.length_nil, Nat.reduceAdd, Array.replicate_succ, Array.replicate_zero, List.push_toArray, List.nil_append, List.cons_append]
            refine wpAnyH_take (i := 13) (v := .bool true) rfl (by kernel_rfl) (by kernel_rfl) (by kernel_rfl) (fun _ _ _ h => h) (Or.inl ⟨by rfl, fun w' hw' => by rfl⟩) (hS _ b9) ?_
            simp only [Act.put, List.getElem_toArray, List.getElem_cons_succ, List.getElem_cons_zero, List.setIfInBounds_toArray, List.set_cons_zero, List.set_cons_succ, List.size_toArray, List.length_cons, List.length_nil, Nat.reduceAdd, Array.replicate_succ, Array.replicate_zero, List.push_toArray, List.nil_append, List.cons_append]
            refine wpAnyH_done (by kernel_rfl) ?_ _
            obtain ⟨W9, hW9⟩ : ∃ W9, (w5.alloc (.cells (keyV zeroKd).toArray 35)).setRow (w5.heap.size) (keyV z.1).toArray = W9 := ⟨_, rfl⟩
            rw [hW9] at g9 b9 ⊢
            clear hW9
            obtain ⟨gg, hgg⟩ : ∃ gg, w5.heap.size = gg := ⟨_, rfl⟩
            rw [hgg] at g9 ⊢
            clear hgg
            have hgz : gg < W9.heap.size := (Array.getElem?_eq_some_iff.1 g9).1
            have rG := Lib.hid (Wg.row (w := W9) (b := gg) (o := 0) (cs := keyV z.1) (fun j u hj => by rw [Nat.zero_add]; exact (cells_box g9 j).trans (by simpa using hj)) hgz)
            have hbz9 := Nat.lt_of_lt_of_le hbz b9.size
            have rI := Lib.hid (Wg.row (w := W9) (b := b) (o := off + i * 35) (cs := keyV z.1) (fun j u hj => (b9.cell (p := ⟨b, off + i * 35 + j, none⟩) hbz).trans (HKI.out j u hj)) hbz9)
            have heq : ∀ w' : World, (Op.equalIn 10000 35 (.agg (keyV z.1).toArray) (.agg (keyV z.1).toArray)).run Tryd.prog w' = .ok true w' := fun w' => by have := run_eqKey hni.1 hni.1 w'; simpa using this
            have HEQ := Lib.hid heq
            have B9 := Lib.hid b9
            clear heq b9 g9 hS hE1 hE2 hz0 bd
            by_cases hi0 : i = 0
            · have hd : decide ((0 : Int) < (i : Int)) = false := by rw [decide_eq_false_iff_not]; omega
              have hd2 : ¬ 0 < i := by omega
              have hd3 : decide (0 < i) = false := by rw [decide_eq_false_iff_not]; omega
              clear hi0
              go_wp2_with fail
              refine wp_region_wg (by kernel_rfl) (by kernel_rfl) ?_
              repeat (first
                | go_big_quiet_skip
                | (go_big_quiet_want
                   first
                     | (refine quiet_val (fun w' hw' => ex_load 35 _ rfl (p := ⟨gg, 0, none⟩) rfl (run_loadVar_mid w' _ _ _ (keyV z.1) _ (rG.out w' hw') Tryd.underlying35 rfl (by rw [hkl]; exact sizeKey))) ?_
                        go_big_quiet_on
                        simp only [Act.put, List.setIfInBounds_toArray, List.set_cons_zero, List.set_cons_succ])
                     | (refine quiet_val (fun w' hw' => ex_load 35 _ rfl (p := ⟨b, off + i * 35, none⟩) rfl (run_loadVar_mid w' _ _ _ (keyV z.1) _ (rI.out w' hw') Tryd.underlying35 rfl (by rw [hkl]; exact sizeKey))) ?_
                        go_big_quiet_on
                        simp only [Act.put, List.setIfInBounds_toArray, List.set_cons_zero, List.set_cons_succ])
                     | (refine quiet_val (fun w' hw' => ex_neq 35 _ _ _ rfl (xs := (keyV z.1).toArray) (ys := (keyV z.1).toArray) rfl rfl (r := true) eqKey.noGuard (HEQ.out w')) ?_
                        go_big_quiet_on
                        simp only [Act.put, List.setIfInBounds_toArray, List.set_cons_zero, List.set_cons_succ, Bool.not_true])
                     | (go_big_quiet_op
                        first
                          | go_big_quiet_on
                          | go_big_quiet_call (first | (fail)))))
              refine wpQuiet_nil ?_
              rintro w' ⟨k, rfl⟩
              have hk := k.2
              generalize k.val = w6 at *
              clear hd hd2 hd3
              have hb6 : Below wr.heap.size wr w6 := B9.out.trans (hk.below.mono B9.out.size)
              have HB6 := Lib.hid hb6
              clear hk k hb6 rG rI
              go_wp2_with fail
              obtain ⟨wo, hwo⟩ : ∃ wo : World, wo = wr := ⟨_, rfl⟩
              subst hwo
              go_loopw [7] (fun t wr => ∃ j : Nat, j ≤ i ∧ t = .int .i64 j ∧ Below w6.heap.size w6 wr) (fun t _ => i - (intOf t).toNat)
              case atStart => exact ⟨0, by omega, rfl, Below.refl _ _⟩
              case round =>
                obtain ⟨j, hj, rfl, hbj⟩ := hrel
                have hbj0 : Below wo.heap.size wo wr := HB6.out.trans (hbj.mono HB6.out.size)
                by_cases hjlt : j < i
                · have hjr : j < r.length := by omega
                  have j0 : (0 : Int) ≤ (j : Int) := by omega
                  have j1 : (j : Int) < (r.length : Int) := by omega
                  have j2 : (j : Int) < (i : Int) := by omega
                  have hnj := HNX.out _ (List.getElem_mem hjr)
                  have hcj := (hbj0.cell (p := ⟨b, off + j * 35 + 34, none⟩) hbz).trans (HCJ.out j hjr)
                  have hci := (hbj0.cell (p := ⟨b, off + i * 35 + 34, none⟩) hbz).trans HCI.out
                  have hno := HAI.out j i hjr hlt hjlt
                  rw [← HZ.out] at hno
                  have hys : r[j].2.size ≤ 140737488355328 := by have := (HK.out _ (List.getElem_mem hjr)).2; omega
                  generalize r[j].2 = y at *
                  have hbw : b < wr.heap.size := Nat.lt_of_lt_of_le hbz hbj0.size
                  have cj := Wg.cell hcj hbw
                  have ci := Wg.cell hci hbw
                  have HNO := Lib.hid hno
                  have HBJ := Lib.hid hbj
                  clear hnj hcj hci hno hbj hbj0
                  go_wp2_with fail
                  refine wp_region_wg (by kernel_rfl) (by kernel_rfl) ?_
                  repeat (first
                    | go_big_quiet_skip
                    | (go_big_quiet_want
                       go_big_quiet_op
                       first
                         | go_big_quiet_on
                         | go_big_quiet_call (first | (go_at_call 22; exact (clash_any z.2 y _ (by omega) hys).mono fun e w'' ⟨hw, he⟩ => ⟨by rw [he, HNO.out], ⟨_, hw.symm⟩⟩))))
                  refine wpQuiet_nil ?_
                  rintro w' ⟨k, rfl⟩
                  have hk := k.2
                  generalize k.val = w7 at *
                  have HB7 := Lib.hid (HBJ.out.trans (hk.below.mono HBJ.out.size))
                  clear hk k cj ci
                  go_wp2_with fail
                  go_roundw
                  case rel => exact ⟨j + 1, by omega, by go_num, HB7.out⟩
                  case measure => simp [intOf]; omega
                · have j2 : ¬ (j : Int) < (i : Int) := by omega
                  have HBJ := Lib.hid hbj0
                  clear hbj hbj0
                  go_wp2_with fail
                  go_roundw
                  case rel => exact ⟨i + 1, by omega, by go_num, HBR.out.trans (HBJ.out.mono HBR.out.size)⟩
                  case measure => simp [intOf]; omega

            · have hi1 : i - 1 < r.length := by omega
              have hd : decide ((0 : Int) < (i : Int)) = true := by rw [decide_eq_true_iff]; omega
              have hd2 : 0 < i := by omega
              have hd3 : decide (0 < i) = true := by rw [decide_eq_true_iff]; omega
              have e1 : IntKind.i64.wrap ((i : Int) - 1) = ((i - 1 : Nat) : Int) := by rw [IntWalk.i64_in _ (by omega)]; omega
              have k0 : (0 : Int) ≤ ((i - 1 : Nat) : Int) := by omega
              have k1 : ((i - 1 : Nat) : Int) < (r.length : Int) := by omega
              have hno := HNX.out _ (List.getElem_mem hi1)
              have hlt2 := HRI.out (i - 1) i hi1 hlt (by omega)
              rw [← HZ.out] at hlt2
              have hkol := keyV_length hno.1
              have rO := Lib.hid (Wg.row (w := W9) (b := b) (o := off + (i - 1) * 35) (cs := keyV r[i - 1].1) (fun j u hj => (B9.out.cell (p := ⟨b, off + (i - 1) * 35 + j, none⟩) hbz).trans (HKJ.out (i - 1) hi1 j u hj)) hbz9)
              have hko := hno.1
              clear hno
              generalize r[i - 1].1 = ko at *
              have hge : ¬ (0 : Int) ≤ cmpK ko z.1 := by omega
              have hge2 : decide ((0 : Int) ≤ cmpK ko z.1) = false := by rw [decide_eq_false_iff_not]; omega
              have CC := Lib.hid (fun q : World => keys_gr ko z.1 q hko hni.1)
              obtain ⟨ip, hip⟩ : ∃ ip, ip = i - 1 := ⟨_, rfl⟩
              rw [← hip] at e1 k0 k1 rO
              clear hlt2 hip hi1 hi0
              go_wp2_with fail
              refine wp_region_wg (by kernel_rfl) (by kernel_rfl) ?_
              repeat (first
                | go_big_quiet_skip
                | (go_big_quiet_want
                   first
                     | (refine quiet_val (fun w' hw' => ex_load 35 _ rfl (p := ⟨gg, 0, none⟩) rfl (run_loadVar_mid w' _ _ _ (keyV z.1) _ (rG.out w' hw') Tryd.underlying35 rfl (by rw [hkl]; exact sizeKey))) ?_
                        go_big_quiet_on
                        simp only [Act.put, List.setIfInBounds_toArray, List.set_cons_zero, List.set_cons_succ])
                     | (refine quiet_val (fun w' hw' => ex_load 35 _ rfl (p := ⟨b, off + i * 35, none⟩) rfl (run_loadVar_mid w' _ _ _ (keyV z.1) _ (rI.out w' hw') Tryd.underlying35 rfl (by rw [hkl]; exact sizeKey))) ?_
                        go_big_quiet_on
                        simp only [Act.put, List.setIfInBounds_toArray, List.set_cons_zero, List.set_cons_succ])
                     | (refine quiet_val (fun w' hw' => ex_load 35 _ rfl (p := ⟨b, off + ip * 35, none⟩) rfl (run_loadVar_mid w' _ _ _ (keyV ko) _ (rO.out w' hw') Tryd.underlying35 rfl (by rw [hkol]; exact sizeKey))) ?_
                        go_big_quiet_on
                        simp only [Act.put, List.setIfInBounds_toArray, List.set_cons_zero, List.set_cons_succ])
                     | (refine quiet_val (fun w' hw' => ex_neq 35 _ _ _ rfl (xs := (keyV z.1).toArray) (ys := (keyV z.1).toArray) rfl rfl (r := true) eqKey.noGuard (HEQ.out w')) ?_
                        go_big_quiet_on
                        simp only [Act.put, List.setIfInBounds_toArray, List.set_cons_zero, List.set_cons_succ, Bool.not_true])
                     | (go_big_quiet_op
                        first
                          | go_big_quiet_on
                          | go_big_quiet_call (first | (go_at_call 19; exact Wg.call (fun w' => CC.out w') _)))))
              refine wpQuiet_nil ?_
              rintro w' ⟨k, rfl⟩
              have hk := k.2
              generalize k.val = w6 at *
              clear rO hd hd2 hd3 hge hge2 CC k0 k1 e1
              have hb6 : Below wr.heap.size wr w6 := B9.out.trans (hk.below.mono B9.out.size)
              have HB6 := Lib.hid hb6
              clear hk k hb6 rG rI
              go_wp2_with fail
              obtain ⟨wo, hwo⟩ : ∃ wo : World, wo = wr := ⟨_, rfl⟩
              subst hwo
              go_loopw [7] (fun t wr => ∃ j : Nat, j ≤ i ∧ t = .int .i64 j ∧ Below w6.heap.size w6 wr) (fun t _ => i - (intOf t).toNat)
              case atStart => exact ⟨0, by omega, rfl, Below.refl _ _⟩
              case round =>
                obtain ⟨j, hj, rfl, hbj⟩ := hrel
                have hbj0 : Below wo.heap.size wo wr := HB6.out.trans (hbj.mono HB6.out.size)
                by_cases hjlt : j < i
                · have hjr : j < r.length := by omega
                  have j0 : (0 : Int) ≤ (j : Int) := by omega
                  have j1 : (j : Int) < (r.length : Int) := by omega
                  have j2 : (j : Int) < (i : Int) := by omega
                  have hnj := HNX.out _ (List.getElem_mem hjr)
                  have hcj := (hbj0.cell (p := ⟨b, off + j * 35 + 34, none⟩) hbz).trans (HCJ.out j hjr)
                  have hci := (hbj0.cell (p := ⟨b, off + i * 35 + 34, none⟩) hbz).trans HCI.out
                  have hno := HAI.out j i hjr hlt hjlt
                  rw [← HZ.out] at hno
                  have hys : r[j].2.size ≤ 140737488355328 := by have := (HK.out _ (List.getElem_mem hjr)).2; omega
                  generalize r[j].2 = y at *
                  have hbw : b < wr.heap.size := Nat.lt_of_lt_of_le hbz hbj0.size
                  have cj := Wg.cell hcj hbw
                  have ci := Wg.cell hci hbw
                  have HNO := Lib.hid hno
                  have HBJ := Lib.hid hbj
                  clear hnj hcj hci hno hbj hbj0
                  go_wp2_with fail
                  refine wp_region_wg (by kernel_rfl) (by kernel_rfl) ?_
                  repeat (first
                    | go_big_quiet_skip
                    | (go_big_quiet_want
                       go_big_quiet_op
                       first
                         | go_big_quiet_on
                         | go_big_quiet_call (first | (go_at_call 22; exact (clash_any z.2 y _ (by omega) hys).mono fun e w'' ⟨hw, he⟩ => ⟨by rw [he, HNO.out], ⟨_, hw.symm⟩⟩))))
                  refine wpQuiet_nil ?_
                  rintro w' ⟨k, rfl⟩
                  have hk := k.2
                  generalize k.val = w7 at *
                  have HB7 := Lib.hid (HBJ.out.trans (hk.below.mono HBJ.out.size))
                  clear hk k cj ci
                  go_wp2_with fail
                  go_roundw
                  case rel => exact ⟨j + 1, by omega, by go_num, HB7.out⟩
                  case measure => simp [intOf]; omega
                · have j2 : ¬ (j : Int) < (i : Int) := by omega
                  have HBJ := Lib.hid hbj0
                  clear hbj hbj0
                  go_wp2_with fail
                  go_roundw
                  case rel => exact ⟨i + 1, by omega, by go_num, HBR.out.trans (HBJ.out.mono HBR.out.size)⟩
                  case measure => simp [intOf]; omega
          · refine wpOp_val _ rfl (by kernel_rfl) (ex_alloc (cs := (keyV zeroKd).toArray) rfl (zeroKey_run _)) ?_
            refine ⟨hS _ (b4.alloc b4.size _), ?_⟩
            simp only [Act.put, List.getElem_toArray, List.getElem_cons_succ, List.getElem_cons_zero, List.setIfInBounds_toArray, List.set_cons_zero, List.set_cons_succ, List.size_toArray, List.length_cons, List.length_nil, Nat.reduceAdd, Array.replicate_succ, Array.replicate_zero, List.push_toArray, List.nil_append, List.cons_append]
            have b4a : Below wr.heap.size wr (w4.alloc (.cells (keyV zeroKd).toArray 35)) := b4.alloc b4.size _
            refine wpAnyH_all (rs := [7]) (by kernel_rfl) (by simp) ?_
            intro q hq
            obtain rfl : q = 7 := by simpa using hq
            have hfd := find_any14 l z.2 A9 c9 (w4.alloc (.cells (keyV zeroKd).toArray 35)) (by omega) HOK.out (fun y hy => by have := h100 y hy; omega) ((hsl9.keep ((Below.refl _ _).alloc (Nat.le_refl _) _)).more (by simp)) (hg.next (HB.out.trans (b4a.mono HB.out.size)))
            rw [HFI.out] at hfd
            refine wpOp_call _ rfl (by kernel_rfl) (ex_callFn (f := 21) (args := #[.slice A9 l.length c9, .string z.2]) rfl rfl (fun args w => hE2 w args) (by simp only [List.map_toArray, List.map_cons, List.map_nil]; rfl)) ?_
            refine hfd.mono ?_
            rintro e w5 ⟨hbw5, rfl⟩
            have b5 : Below wr.heap.size wr w5 := b4a.trans (hbw5.mono b4a.size)
            refine ⟨_, rfl, hS _ b5, ?_⟩
            simp only [Act.put, List.getElem_toArray, List.getElem_cons_succ, List.getElem_cons_zero, List.setIfInBounds_toArray, List.set_cons_zero, List.set_cons_succ, List.size_toArray, List.length_cons, List.length_nil, Nat.reduceAdd, Array.replicate_succ, Array.replicate_zero, List.push_toArray, List.nil_append, List.cons_append]
            have hg5 : w5.heap[w4.heap.size]? = some (.cells (keyV zeroKd).toArray 35 (0, 0)) := (hbw5.block _ (by simp)).trans (heap_alloc_new w4 _)
            refine wpAnyH_take (i := 8) (v := .tuple #[keyA z.1, .bool true]) rfl (by kernel_rfl) (by kernel_rfl) (by kernel_rfl) (fun _ _ _ h => h) (Or.inl ⟨by rfl, fun w' hw' => by rfl⟩) (hS _ b5) ?_
            simp only [Act.put, List.getElem_toArray, List.getElem_cons_succ, List.getElem_cons_zero, List.setIfInBounds_toArray, List.set_cons_zero, List.set_cons_succ, List.size_toArray, List.length_cons, List.length_nil, Nat.reduceAdd, Array.replicate_succ, Array.replicate_zero, List.push_toArray, List.nil_append, List.cons_append]
            refine wpAnyH_take (i := 9) (v := keyA z.1) rfl (by kernel_rfl) (by kernel_rfl) (by kernel_rfl) (fun _ _ _ h => h) (Or.inl ⟨by rfl, fun w' hw' => by rfl⟩) (hS _ b5) ?_
            simp only [Act.put, List.getElem_toArray, List.getElem_cons_succ, List.getElem_cons_zero, List.setIfInBounds_toArray, List.set_cons_zero, List.set_cons_succ, List.size_toArray, List.length_cons, List.length_nil, Nat.reduceAdd, Array.replicate_succ, Array.replicate_zero, List.push_toArray, List.nil_append, List.cons_append]
            refine wpAnyH_take (i := 10) (v := .bool true) rfl (by kernel_rfl) (by kernel_rfl) (by kernel_rfl) (fun _ _ _ h => h) (Or.inl ⟨by rfl, fun w' hw' => by rfl⟩) (hS _ b5) ?_
            simp only [Act.put, List.getElem_toArray, List.getElem_cons_succ, List.getElem_cons_zero, List.setIfInBounds_toArray, List.set_cons_zero, List.set_cons_succ, List.size_toArray, List.length_cons, List.length_nil, Nat.reduceAdd, Array.replicate_succ, Array.replicate_zero, List.push_toArray, List.nil_append, List.cons_append]
            refine wpAnyH_all (rs := [12]) (by kernel_rfl) (by simp) ?_
            intro q hq
            obtain rfl : q = 12 := by simpa using hq
            refine wpOp_skip _ rfl (by kernel_rfl) (ex_storeRow 35 _ _ rfl (w4.heap.size) (keyV z.1).toArray rfl rfl 35 (keyV zeroKd).toArray hg5 (keyV_info hni.1) (by rw [List.size_toArray, List.size_toArray, hzk, hkl]) (by simpa using keyV_one z.1)) ?_
            have b9 : Below wr.heap.size wr ((w5).setRow (w4.heap.size) (keyV z.1).toArray) := below_setRow' b5 (by first | omega | simp) _
            have g9 : ((w5).setRow (w4.heap.size) (keyV z.1).toArray).heap[w4.heap.size]? = some (.cells (keyV z.1).toArray 35 (0, 0)) := setRow_heap _ _ _ _ _ _ hg5
            refine ⟨hS _ b9, ?_⟩
            simp only [Act.put, List.getElem_toArray, List.getElem_cons_succ, List.getElem_cons_zero, List.setIfInBounds_toArray, List.set_cons_zero, List.set_cons_succ, List.size_toArray, List.length_cons, List.length_nil, Nat.reduceAdd, Array.replicate_succ, Array.replicate_zero, List.push_toArray, List.nil_append, List.cons_append]
            refine wpAnyH_take (i := 13) (v := .bool true) rfl (by kernel_rfl) (by kernel_rfl) (by kernel_rfl) (fun _ _ _ h => h) (Or.inl ⟨by rfl, fun w' hw' => by rfl⟩) (hS _ b9) ?_
            simp only [Act.put, List.getElem_toArray, List.getElem_cons_succ, List.getElem_cons_zero, List.setIfInBounds_toArray, List.set_cons_zero, List.set_cons_succ, List.size_toArray, List.length_cons, List.length_nil, Nat.reduceAdd, Array.replicate_succ, Array.replicate_zero, List.push_toArray, List.nil_append, List.cons_append]
            refine wpAnyH_done (by kernel_rfl) ?_ _
            obtain ⟨W9, hW9⟩ : ∃ W9, (w5).setRow (w4.heap.size) (keyV z.1).toArray = W9 := ⟨_, rfl⟩
            rw [hW9] at g9 b9 ⊢
            clear hW9
            obtain ⟨gg, hgg⟩ : ∃ gg, w4.heap.size = gg := ⟨_, rfl⟩
            rw [hgg] at g9 ⊢
            clear hgg
            have hgz : gg < W9.heap.size := (Array.getElem?_eq_some_iff.1 g9).1
            have rG := Lib.hid (Wg.row (w := W9) (b := gg) (o := 0) (cs := keyV z.1) (fun j u hj => by rw [Nat.zero_add]; exact (cells_box g9 j).trans (by simpa using hj)) hgz)
            have hbz9 := Nat.lt_of_lt_of_le hbz b9.size
            have rI := Lib.hid (Wg.row (w := W9) (b := b) (o := off + i * 35) (cs := keyV z.1) (fun j u hj => (b9.cell (p := ⟨b, off + i * 35 + j, none⟩) hbz).trans (HKI.out j u hj)) hbz9)
            have heq : ∀ w' : World, (Op.equalIn 10000 35 (.agg (keyV z.1).toArray) (.agg (keyV z.1).toArray)).run Tryd.prog w' = .ok true w' := fun w' => by have := run_eqKey hni.1 hni.1 w'; simpa using this
            have HEQ := Lib.hid heq
            have B9 := Lib.hid b9
            clear heq b9 g9 hS hE1 hE2 hz0 bd
            by_cases hi0 : i = 0
            · have hd : decide ((0 : Int) < (i : Int)) = false := by rw [decide_eq_false_iff_not]; omega
              have hd2 : ¬ 0 < i := by omega
              have hd3 : decide (0 < i) = false := by rw [decide_eq_false_iff_not]; omega
              clear hi0
              go_wp2_with fail
              refine wp_region_wg (by kernel_rfl) (by kernel_rfl) ?_
              repeat (first
                | go_big_quiet_skip
                | (go_big_quiet_want
                   first
                     | (refine quiet_val (fun w' hw' => ex_load 35 _ rfl (p := ⟨gg, 0, none⟩) rfl (run_loadVar_mid w' _ _ _ (keyV z.1) _ (rG.out w' hw') Tryd.underlying35 rfl (by rw [hkl]; exact sizeKey))) ?_
                        go_big_quiet_on
                        simp only [Act.put, List.setIfInBounds_toArray, List.set_cons_zero, List.set_cons_succ])
                     | (refine quiet_val (fun w' hw' => ex_load 35 _ rfl (p := ⟨b, off + i * 35, none⟩) rfl (run_loadVar_mid w' _ _ _ (keyV z.1) _ (rI.out w' hw') Tryd.underlying35 rfl (by rw [hkl]; exact sizeKey))) ?_
                        go_big_quiet_on
                        simp only [Act.put, List.setIfInBounds_toArray, List.set_cons_zero, List.set_cons_succ])
                     | (refine quiet_val (fun w' hw' => ex_neq 35 _ _ _ rfl (xs := (keyV z.1).toArray) (ys := (keyV z.1).toArray) rfl rfl (r := true) eqKey.noGuard (HEQ.out w')) ?_
                        go_big_quiet_on
                        simp only [Act.put, List.setIfInBounds_toArray, List.set_cons_zero, List.set_cons_succ, Bool.not_true])
                     | (go_big_quiet_op
                        first
                          | go_big_quiet_on
                          | go_big_quiet_call (first | (fail)))))
              refine wpQuiet_nil ?_
              rintro w' ⟨k, rfl⟩
              have hk := k.2
              generalize k.val = w6 at *
              clear hd hd2 hd3
              have hb6 : Below wr.heap.size wr w6 := B9.out.trans (hk.below.mono B9.out.size)
              have HB6 := Lib.hid hb6
              clear hk k hb6 rG rI
              go_wp2_with fail
              obtain ⟨wo, hwo⟩ : ∃ wo : World, wo = wr := ⟨_, rfl⟩
              subst hwo
              go_loopw [7] (fun t wr => ∃ j : Nat, j ≤ i ∧ t = .int .i64 j ∧ Below w6.heap.size w6 wr) (fun t _ => i - (intOf t).toNat)
              case atStart => exact ⟨0, by omega, rfl, Below.refl _ _⟩
              case round =>
                obtain ⟨j, hj, rfl, hbj⟩ := hrel
                have hbj0 : Below wo.heap.size wo wr := HB6.out.trans (hbj.mono HB6.out.size)
                by_cases hjlt : j < i
                · have hjr : j < r.length := by omega
                  have j0 : (0 : Int) ≤ (j : Int) := by omega
                  have j1 : (j : Int) < (r.length : Int) := by omega
                  have j2 : (j : Int) < (i : Int) := by omega
                  have hnj := HNX.out _ (List.getElem_mem hjr)
                  have hcj := (hbj0.cell (p := ⟨b, off + j * 35 + 34, none⟩) hbz).trans (HCJ.out j hjr)
                  have hci := (hbj0.cell (p := ⟨b, off + i * 35 + 34, none⟩) hbz).trans HCI.out
                  have hno := HAI.out j i hjr hlt hjlt
                  rw [← HZ.out] at hno
                  have hys : r[j].2.size ≤ 140737488355328 := by have := (HK.out _ (List.getElem_mem hjr)).2; omega
                  generalize r[j].2 = y at *
                  have hbw : b < wr.heap.size := Nat.lt_of_lt_of_le hbz hbj0.size
                  have cj := Wg.cell hcj hbw
                  have ci := Wg.cell hci hbw
                  have HNO := Lib.hid hno
                  have HBJ := Lib.hid hbj
                  clear hnj hcj hci hno hbj hbj0
                  go_wp2_with fail
                  refine wp_region_wg (by kernel_rfl) (by kernel_rfl) ?_
                  repeat (first
                    | go_big_quiet_skip
                    | (go_big_quiet_want
                       go_big_quiet_op
                       first
                         | go_big_quiet_on
                         | go_big_quiet_call (first | (go_at_call 22; exact (clash_any z.2 y _ (by omega) hys).mono fun e w'' ⟨hw, he⟩ => ⟨by rw [he, HNO.out], ⟨_, hw.symm⟩⟩))))
                  refine wpQuiet_nil ?_
                  rintro w' ⟨k, rfl⟩
                  have hk := k.2
                  generalize k.val = w7 at *
                  have HB7 := Lib.hid (HBJ.out.trans (hk.below.mono HBJ.out.size))
                  clear hk k cj ci
                  go_wp2_with fail
                  go_roundw
                  case rel => exact ⟨j + 1, by omega, by go_num, HB7.out⟩
                  case measure => simp [intOf]; omega
                · have j2 : ¬ (j : Int) < (i : Int) := by omega
                  have HBJ := Lib.hid hbj0
                  clear hbj hbj0
                  go_wp2_with fail
                  go_roundw
                  case rel => exact ⟨i + 1, by omega, by go_num, HBR.out.trans (HBJ.out.mono HBR.out.size)⟩
                  case measure => simp [intOf]; omega

            · have hi1 : i - 1 < r.length := by omega
              have hd : decide ((0 : Int) < (i : Int)) = true := by rw [decide_eq_true_iff]; omega
              have hd2 : 0 < i := by omega
              have hd3 : decide (0 < i) = true := by rw [decide_eq_true_iff]; omega
              have e1 : IntKind.i64.wrap ((i : Int) - 1) = ((i - 1 : Nat) : Int) := by rw [IntWalk.i64_in _ (by omega)]; omega
              have k0 : (0 : Int) ≤ ((i - 1 : Nat) : Int) := by omega
              have k1 : ((i - 1 : Nat) : Int) < (r.length : Int) := by omega
              have hno := HNX.out _ (List.getElem_mem hi1)
              have hlt2 := HRI.out (i - 1) i hi1 hlt (by omega)
              rw [← HZ.out] at hlt2
              have hkol := keyV_length hno.1
              have rO := Lib.hid (Wg.row (w := W9) (b := b) (o := off + (i - 1) * 35) (cs := keyV r[i - 1].1) (fun j u hj => (B9.out.cell (p := ⟨b, off + (i - 1) * 35 + j, none⟩) hbz).trans (HKJ.out (i - 1) hi1 j u hj)) hbz9)
              have hko := hno.1
              clear hno
              generalize r[i - 1].1 = ko at *
              have hge : ¬ (0 : Int) ≤ cmpK ko z.1 := by omega
              have hge2 : decide ((0 : Int) ≤ cmpK ko z.1) = false := by rw [decide_eq_false_iff_not]; omega
              have CC := Lib.hid (fun q : World => keys_gr ko z.1 q hko hni.1)
              obtain ⟨ip, hip⟩ : ∃ ip, ip = i - 1 := ⟨_, rfl⟩
              rw [← hip] at e1 k0 k1 rO
              clear hlt2 hip hi1 hi0
              go_wp2_with fail
              refine wp_region_wg (by kernel_rfl) (by kernel_rfl) ?_
              repeat (first
                | go_big_quiet_skip
                | (go_big_quiet_want
                   first
                     | (refine quiet_val (fun w' hw' => ex_load 35 _ rfl (p := ⟨gg, 0, none⟩) rfl (run_loadVar_mid w' _ _ _ (keyV z.1) _ (rG.out w' hw') Tryd.underlying35 rfl (by rw [hkl]; exact sizeKey))) ?_
                        go_big_quiet_on
                        simp only [Act.put, List.setIfInBounds_toArray, List.set_cons_zero, List.set_cons_succ])
                     | (refine quiet_val (fun w' hw' => ex_load 35 _ rfl (p := ⟨b, off + i * 35, none⟩) rfl (run_loadVar_mid w' _ _ _ (keyV z.1) _ (rI.out w' hw') Tryd.underlying35 rfl (by rw [hkl]; exact sizeKey))) ?_
                        go_big_quiet_on
                        simp only [Act.put, List.setIfInBounds_toArray, List.set_cons_zero, List.set_cons_succ])
                     | (refine quiet_val (fun w' hw' => ex_load 35 _ rfl (p := ⟨b, off + ip * 35, none⟩) rfl (run_loadVar_mid w' _ _ _ (keyV ko) _ (rO.out w' hw') Tryd.underlying35 rfl (by rw [hkol]; exact sizeKey))) ?_
                        go_big_quiet_on
                        simp only [Act.put, List.setIfInBounds_toArray, List.set_cons_zero, List.set_cons_succ])
                     | (refine quiet_val (fun w' hw' => ex_neq 35 _ _ _ rfl (xs := (keyV z.1).toArray) (ys := (keyV z.1).toArray) rfl rfl (r := true) eqKey.noGuard (HEQ.out w')) ?_
                        go_big_quiet_on
                        simp only [Act.put, List.setIfInBounds_toArray, List.set_cons_zero, List.set_cons_succ, Bool.not_true])
                     | (go_big_quiet_op
                        first
                          | go_big_quiet_on
                          | go_big_quiet_call (first | (go_at_call 19; exact Wg.call (fun w' => CC.out w') _)))))
              refine wpQuiet_nil ?_
              rintro w' ⟨k, rfl⟩
              have hk := k.2
              generalize k.val = w6 at *
              clear rO hd hd2 hd3 hge hge2 CC k0 k1 e1
              have hb6 : Below wr.heap.size wr w6 := B9.out.trans (hk.below.mono B9.out.size)
              have HB6 := Lib.hid hb6
              clear hk k hb6 rG rI
              go_wp2_with fail
              obtain ⟨wo, hwo⟩ : ∃ wo : World, wo = wr := ⟨_, rfl⟩
              subst hwo
              go_loopw [7] (fun t wr => ∃ j : Nat, j ≤ i ∧ t = .int .i64 j ∧ Below w6.heap.size w6 wr) (fun t _ => i - (intOf t).toNat)
              case atStart => exact ⟨0, by omega, rfl, Below.refl _ _⟩
              case round =>
                obtain ⟨j, hj, rfl, hbj⟩ := hrel
                have hbj0 : Below wo.heap.size wo wr := HB6.out.trans (hbj.mono HB6.out.size)
                by_cases hjlt : j < i
                · have hjr : j < r.length := by omega
                  have j0 : (0 : Int) ≤ (j : Int) := by omega
                  have j1 : (j : Int) < (r.length : Int) := by omega
                  have j2 : (j : Int) < (i : Int) := by omega
                  have hnj := HNX.out _ (List.getElem_mem hjr)
                  have hcj := (hbj0.cell (p := ⟨b, off + j * 35 + 34, none⟩) hbz).trans (HCJ.out j hjr)
                  have hci := (hbj0.cell (p := ⟨b, off + i * 35 + 34, none⟩) hbz).trans HCI.out
                  have hno := HAI.out j i hjr hlt hjlt
                  rw [← HZ.out] at hno
                  have hys : r[j].2.size ≤ 140737488355328 := by have := (HK.out _ (List.getElem_mem hjr)).2; omega
                  generalize r[j].2 = y at *
                  have hbw : b < wr.heap.size := Nat.lt_of_lt_of_le hbz hbj0.size
                  have cj := Wg.cell hcj hbw
                  have ci := Wg.cell hci hbw
                  have HNO := Lib.hid hno
                  have HBJ := Lib.hid hbj
                  clear hnj hcj hci hno hbj hbj0
                  go_wp2_with fail
                  refine wp_region_wg (by kernel_rfl) (by kernel_rfl) ?_
                  repeat (first
                    | go_big_quiet_skip
                    | (go_big_quiet_want
                       go_big_quiet_op
                       first
                         | go_big_quiet_on
                         | go_big_quiet_call (first | (go_at_call 22; exact (clash_any z.2 y _ (by omega) hys).mono fun e w'' ⟨hw, he⟩ => ⟨by rw [he, HNO.out], ⟨_, hw.symm⟩⟩))))
                  refine wpQuiet_nil ?_
                  rintro w' ⟨k, rfl⟩
                  have hk := k.2
                  generalize k.val = w7 at *
                  have HB7 := Lib.hid (HBJ.out.trans (hk.below.mono HBJ.out.size))
                  clear hk k cj ci
                  go_wp2_with fail
                  go_roundw
                  case rel => exact ⟨j + 1, by omega, by go_num, HB7.out⟩
                  case measure => simp [intOf]; omega
                · have j2 : ¬ (j : Int) < (i : Int) := by omega
                  have HBJ := Lib.hid hbj0
                  clear hbj hbj0
                  go_wp2_with fail
                  go_roundw
                  case rel => exact ⟨i + 1, by omega, by go_num, HBR.out.trans (HBJ.out.mono HBR.out.size)⟩
                  case measure => simp [intOf]; omega
        · refine wpOp_val _ rfl (by kernel_rfl) (ex_alloc (cs := (keyV zeroKd).toArray) rfl (zeroKey_run _)) ?_
          refine ⟨hS _ (bd.alloc bd.size _), ?_⟩
          simp only [Act.put, List.getElem_toArray, List.getElem_cons_succ, List.getElem_cons_zero, List.setIfInBounds_toArray, List.set_cons_zero, List.set_cons_succ, List.size_toArray, List.length_cons, List.length_nil, Nat.reduceAdd, Array.replicate_succ, Array.replicate_zero, List.push_toArray, List.nil_append, List.cons_append]
          have ba : Below wr.heap.size wr (wr.drew.alloc (.cells (keyV zeroKd).toArray 35)) := bd.alloc (Nat.le_refl _) _
          refine wpAnyH_all (rs := [1]) (by kernel_rfl) (by simp) ?_
          intro q hq
          obtain rfl : q = 1 := by simpa using hq
          refine wpOp_call _ rfl (by kernel_rfl) (ex_callFn (f := 14) (args := #[.slice A l.length c]) rfl rfl (fun args w => hE1 w args) (by simp only [List.map_toArray, List.map_cons, List.map_nil]; rfl)) ?_
          refine (HT.out (wr.drew.alloc (.cells (keyV zeroKd).toArray 35)) (HB.out.trans (ba.mono HB.out.size))).mono ?_
          rintro e w4 ⟨hbw4, v, rfl, hv⟩
          obtain ⟨A9, c9, rfl⟩ := own_shape hv
          have b4 : Below wr.heap.size wr w4 := ba.trans (hbw4.mono ba.size)
          have hsl9 := Sl.of_own hv
          refine ⟨_, rfl, hS _ b4, ?_⟩
          simp only [Act.put, List.getElem_toArray, List.getElem_cons_succ, List.getElem_cons_zero, List.setIfInBounds_toArray, List.set_cons_zero, List.set_cons_succ, List.size_toArray, List.length_cons, List.length_nil, Nat.reduceAdd, Array.replicate_succ, Array.replicate_zero, List.push_toArray, List.nil_append, List.cons_append]
          have hg4 : w4.heap[wr.heap.size]? = some (.cells (keyV zeroKd).toArray 35 (0, 0)) := (hbw4.block _ (by simp)).trans (heap_alloc_new wr.drew _)
          have hz4 : wr.heap.size < w4.heap.size := (Array.getElem?_eq_some_iff.1 hg4).1
          refine wpAnyH_all (rs := [7]) (by kernel_rfl) (by simp) ?_
          intro q hq
          obtain rfl : q = 7 := by simpa using hq
          have hfd := find_any14 l z.2 A9 c9 w4 (by omega) HOK.out (fun y hy => by have := h100 y hy; omega) hsl9 (hg.next (HB.out.trans (b4.mono HB.out.size)))
          rw [HFI.out] at hfd
          refine wpOp_call _ rfl (by kernel_rfl) (ex_callFn (f := 21) (args := #[.slice A9 l.length c9, .string z.2]) rfl rfl (fun args w => hE2 w args) (by simp only [List.map_toArray, List.map_cons, List.map_nil]; rfl)) ?_
          refine hfd.mono ?_
          rintro e w5 ⟨hbw5, rfl⟩
          have b5 : Below wr.heap.size wr w5 := b4.trans (hbw5.mono b4.size)
          refine ⟨_, rfl, hS _ b5, ?_⟩
          simp only [Act.put, List.getElem_toArray, List.getElem_cons_succ, List.getElem_cons_zero, List.setIfInBounds_toArray, List.set_cons_zero, List.set_cons_succ, List.size_toArray, List.length_cons, List.length_nil, Nat.reduceAdd, Array.replicate_succ, Array.replicate_zero, List.push_toArray, List.nil_append, List.cons_append]
          have hg5 : w5.heap[wr.heap.size]? = some (.cells (keyV zeroKd).toArray 35 (0, 0)) := (hbw5.block _ hz4).trans hg4
          refine wpAnyH_take (i := 8) (v := .tuple #[keyA z.1, .bool true]) rfl (by kernel_rfl) (by kernel_rfl) (by kernel_rfl) (fun _ _ _ h => h) (Or.inl ⟨by rfl, fun w' hw' => by rfl⟩) (hS _ b5) ?_
          simp only [Act.put, List.getElem_toArray, List.getElem_cons_succ, List.getElem_cons_zero, List.setIfInBounds_toArray, List.set_cons_zero, List.set_cons_succ, List.size_toArray, List.length_cons, List.length_nil, Nat.reduceAdd, Array.replicate_succ, Array.replicate_zero, List.push_toArray, List.nil_append, List.cons_append]
          refine wpAnyH_take (i := 9) (v := keyA z.1) rfl (by kernel_rfl) (by kernel_rfl) (by kernel_rfl) (fun _ _ _ h => h) (Or.inl ⟨by rfl, fun w' hw' => by rfl⟩) (hS _ b5) ?_
          simp only [Act.put, List.getElem_toArray, List.getElem_cons_succ, List.getElem_cons_zero, List.setIfInBounds_toArray, List.set_cons_zero, List.set_cons_succ, List.size_toArray, List.length_cons, List.length_nil, Nat.reduceAdd, Array.replicate_succ, Array.replicate_zero, List.push_toArray, List.nil_append, List.cons_append]
          refine wpAnyH_take (i := 10) (v := .bool true) rfl (by kernel_rfl) (by kernel_rfl) (by kernel_rfl) (fun _ _ _ h => h) (Or.inl ⟨by rfl, fun w' hw' => by rfl⟩) (hS _ b5) ?_
          simp only [Act.put, List.getElem_toArray, List.getElem_cons_succ, List.getElem_cons_zero, List.setIfInBounds_toArray, List.set_cons_zero, List.set_cons_succ, List.size_toArray, List.length_cons, List.length_nil, Nat.reduceAdd, Array.replicate_succ, Array.replicate_zero, List.push_toArray, List.nil_append, List.cons_append]
          refine wpAnyH_all (rs := [12]) (by kernel_rfl) (by simp) ?_
          intro q hq
          obtain rfl : q = 12 := by simpa using hq
          refine wpOp_skip _ rfl (by kernel_rfl) (ex_storeRow 35 _ _ rfl (wr.heap.size) (keyV z.1).toArray rfl rfl 35 (keyV zeroKd).toArray hg5 (keyV_info hni.1) (by rw [List.size_toArray, List.size_toArray, hzk, hkl]) (by simpa using keyV_one z.1)) ?_
          have b9 : Below wr.heap.size wr ((w5).setRow (wr.heap.size) (keyV z.1).toArray) := below_setRow' b5 (by first | omega | simp) _
          have g9 : ((w5).setRow (wr.heap.size) (keyV z.1).toArray).heap[wr.heap.size]? = some (.cells (keyV z.1).toArray 35 (0, 0)) := setRow_heap _ _ _ _ _ _ hg5
          refine ⟨hS _ b9, ?_⟩
          simp only [Act.put, List.getElem_toArray, List.getElem_cons_succ, List.getElem_cons_zero, List.setIfInBounds_toArray, List.set_cons_zero, List.set_cons_succ, List.size_toArray, List.length_cons, List.length_nil, Nat.reduceAdd, Array.replicate_succ, Array.replicate_zero, List.push_toArray, List.nil_append, List.cons_append]
          refine wpAnyH_take (i := 13) (v := .bool true) rfl (by kernel_rfl) (by kernel_rfl) (by kernel_rfl) (fun _ _ _ h => h) (Or.inl ⟨by rfl, fun w' hw' => by rfl⟩) (hS _ b9) ?_
          simp only [Act.put, List.getElem_toArray, List.getElem_cons_succ, List.getElem_cons_zero, List.setIfInBounds_toArray, List.set_cons_zero, List.set_cons_succ, List.size_toArray, List.length_cons, List.length_nil, Nat.reduceAdd, Array.replicate_succ, Array.replicate_zero, List.push_toArray, List.nil_append, List.cons_append]
          refine wpAnyH_done (by kernel_rfl) ?_ _
          obtain ⟨W9, hW9⟩ : ∃ W9, (w5).setRow (wr.heap.size) (keyV z.1).toArray = W9 := ⟨_, rfl⟩
          rw [hW9] at g9 b9 ⊢
          clear hW9
          obtain ⟨gg, hgg⟩ : ∃ gg, wr.heap.size = gg := ⟨_, rfl⟩
          rw [hgg] at g9 ⊢
          clear hgg
          have hgz : gg < W9.heap.size := (Array.getElem?_eq_some_iff.1 g9).1
          have rG := Lib.hid (Wg.row (w := W9) (b := gg) (o := 0) (cs := keyV z.1) (fun j u hj => by rw [Nat.zero_add]; exact (cells_box g9 j).trans (by simpa using hj)) hgz)
          have hbz9 := Nat.lt_of_lt_of_le hbz b9.size
          have rI := Lib.hid (Wg.row (w := W9) (b := b) (o := off + i * 35) (cs := keyV z.1) (fun j u hj => (b9.cell (p := ⟨b, off + i * 35 + j, none⟩) hbz).trans (HKI.out j u hj)) hbz9)
          have heq : ∀ w' : World, (Op.equalIn 10000 35 (.agg (keyV z.1).toArray) (.agg (keyV z.1).toArray)).run Tryd.prog w' = .ok true w' := fun w' => by have := run_eqKey hni.1 hni.1 w'; simpa using this
          have HEQ := Lib.hid heq
          have B9 := Lib.hid b9
          clear heq b9 g9 hS hE1 hE2 hz0 bd
          by_cases hi0 : i = 0
          · have hd : decide ((0 : Int) < (i : Int)) = false := by rw [decide_eq_false_iff_not]; omega
            have hd2 : ¬ 0 < i := by omega
            have hd3 : decide (0 < i) = false := by rw [decide_eq_false_iff_not]; omega
            clear hi0
            go_wp2_with fail
            refine wp_region_wg (by kernel_rfl) (by kernel_rfl) ?_
            repeat (first
              | go_big_quiet_skip
              | (go_big_quiet_want
                 first
                   | (refine quiet_val (fun w' hw' => ex_load 35 _ rfl (p := ⟨gg, 0, none⟩) rfl (run_loadVar_mid w' _ _ _ (keyV z.1) _ (rG.out w' hw') Tryd.underlying35 rfl (by rw [hkl]; exact sizeKey))) ?_
                      go_big_quiet_on
                      simp only [Act.put, List.setIfInBounds_toArray, List.set_cons_zero, List.set_cons_succ])
                   | (refine quiet_val (fun w' hw' => ex_load 35 _ rfl (p := ⟨b, off + i * 35, none⟩) rfl (run_loadVar_mid w' _ _ _ (keyV z.1) _ (rI.out w' hw') Tryd.underlying35 rfl (by rw [hkl]; exact sizeKey))) ?_
                      go_big_quiet_on
                      simp only [Act.put, List.setIfInBounds_toArray, List.set_cons_zero, List.set_cons_succ])
                   | (refine quiet_val (fun w' hw' => ex_neq 35 _ _ _ rfl (xs := (keyV z.1).toArray) (ys := (keyV z.1).toArray) rfl rfl (r := true) eqKey.noGuard (HEQ.out w')) ?_
                      go_big_quiet_on
                      simp only [Act.put, List.setIfInBounds_toArray, List.set_cons_zero, List.set_cons_succ, Bool.not_true])
                   | (go_big_quiet_op
                      first
                        | go_big_quiet_on
                        | go_big_quiet_call (first | (fail)))))
            refine wpQuiet_nil ?_
            rintro w' ⟨k, rfl⟩
            have hk := k.2
            generalize k.val = w6 at *
            clear hd hd2 hd3
            have hb6 : Below wr.heap.size wr w6 := B9.out.trans (hk.below.mono B9.out.size)
            have HB6 := Lib.hid hb6
            clear hk k hb6 rG rI
            go_wp2_with fail
            obtain ⟨wo, hwo⟩ : ∃ wo : World, wo = wr := ⟨_, rfl⟩
            subst hwo
            go_loopw [7] (fun t wr => ∃ j : Nat, j ≤ i ∧ t = .int .i64 j ∧ Below w6.heap.size w6 wr) (fun t _ => i - (intOf t).toNat)
            case atStart => exact ⟨0, by omega, rfl, Below.refl _ _⟩
            case round =>
              obtain ⟨j, hj, rfl, hbj⟩ := hrel
              have hbj0 : Below wo.heap.size wo wr := HB6.out.trans (hbj.mono HB6.out.size)
              by_cases hjlt : j < i
              · have hjr : j < r.length := by omega
                have j0 : (0 : Int) ≤ (j : Int) := by omega
                have j1 : (j : Int) < (r.length : Int) := by omega
                have j2 : (j : Int) < (i : Int) := by omega
                have hnj := HNX.out _ (List.getElem_mem hjr)
                have hcj := (hbj0.cell (p := ⟨b, off + j * 35 + 34, none⟩) hbz).trans (HCJ.out j hjr)
                have hci := (hbj0.cell (p := ⟨b, off + i * 35 + 34, none⟩) hbz).trans HCI.out
                have hno := HAI.out j i hjr hlt hjlt
                rw [← HZ.out] at hno
                have hys : r[j].2.size ≤ 140737488355328 := by have := (HK.out _ (List.getElem_mem hjr)).2; omega
                generalize r[j].2 = y at *
                have hbw : b < wr.heap.size := Nat.lt_of_lt_of_le hbz hbj0.size
                have cj := Wg.cell hcj hbw
                have ci := Wg.cell hci hbw
                have HNO := Lib.hid hno
                have HBJ := Lib.hid hbj
                clear hnj hcj hci hno hbj hbj0
                go_wp2_with fail
                refine wp_region_wg (by kernel_rfl) (by kernel_rfl) ?_
                repeat (first
                  | go_big_quiet_skip
                  | (go_big_quiet_want
                     go_big_quiet_op
                     first
                       | go_big_quiet_on
                       | go_big_quiet_call (first | (go_at_call 22; exact (clash_any z.2 y _ (by omega) hys).mono fun e w'' ⟨hw, he⟩ => ⟨by rw [he, HNO.out], ⟨_, hw.symm⟩⟩))))
                refine wpQuiet_nil ?_
                rintro w' ⟨k, rfl⟩
                have hk := k.2
                generalize k.val = w7 at *
                have HB7 := Lib.hid (HBJ.out.trans (hk.below.mono HBJ.out.size))
                clear hk k cj ci
                go_wp2_with fail
                go_roundw
                case rel => exact ⟨j + 1, by omega, by go_num, HB7.out⟩
                case measure => simp [intOf]; omega
              · have j2 : ¬ (j : Int) < (i : Int) := by omega
                have HBJ := Lib.hid hbj0
                clear hbj hbj0
                go_wp2_with fail
                go_roundw
                case rel => exact ⟨i + 1, by omega, by go_num, HBR.out.trans (HBJ.out.mono HBR.out.size)⟩
                case measure => simp [intOf]; omega

          · have hi1 : i - 1 < r.length := by omega
            have hd : decide ((0 : Int) < (i : Int)) = true := by rw [decide_eq_true_iff]; omega
            have hd2 : 0 < i := by omega
            have hd3 : decide (0 < i) = true := by rw [decide_eq_true_iff]; omega
            have e1 : IntKind.i64.wrap ((i : Int) - 1) = ((i - 1 : Nat) : Int) := by rw [IntWalk.i64_in _ (by omega)]; omega
            have k0 : (0 : Int) ≤ ((i - 1 : Nat) : Int) := by omega
            have k1 : ((i - 1 : Nat) : Int) < (r.length : Int) := by omega
            have hno := HNX.out _ (List.getElem_mem hi1)
            have hlt2 := HRI.out (i - 1) i hi1 hlt (by omega)
            rw [← HZ.out] at hlt2
            have hkol := keyV_length hno.1
            have rO := Lib.hid (Wg.row (w := W9) (b := b) (o := off + (i - 1) * 35) (cs := keyV r[i - 1].1) (fun j u hj => (B9.out.cell (p := ⟨b, off + (i - 1) * 35 + j, none⟩) hbz).trans (HKJ.out (i - 1) hi1 j u hj)) hbz9)
            have hko := hno.1
            clear hno
            generalize r[i - 1].1 = ko at *
            have hge : ¬ (0 : Int) ≤ cmpK ko z.1 := by omega
            have hge2 : decide ((0 : Int) ≤ cmpK ko z.1) = false := by rw [decide_eq_false_iff_not]; omega
            have CC := Lib.hid (fun q : World => keys_gr ko z.1 q hko hni.1)
            obtain ⟨ip, hip⟩ : ∃ ip, ip = i - 1 := ⟨_, rfl⟩
            rw [← hip] at e1 k0 k1 rO
            clear hlt2 hip hi1 hi0
            go_wp2_with fail
            refine wp_region_wg (by kernel_rfl) (by kernel_rfl) ?_
            repeat (first
              | go_big_quiet_skip
              | (go_big_quiet_want
                 first
                   | (refine quiet_val (fun w' hw' => ex_load 35 _ rfl (p := ⟨gg, 0, none⟩) rfl (run_loadVar_mid w' _ _ _ (keyV z.1) _ (rG.out w' hw') Tryd.underlying35 rfl (by rw [hkl]; exact sizeKey))) ?_
                      go_big_quiet_on
                      simp only [Act.put, List.setIfInBounds_toArray, List.set_cons_zero, List.set_cons_succ])
                   | (refine quiet_val (fun w' hw' => ex_load 35 _ rfl (p := ⟨b, off + i * 35, none⟩) rfl (run_loadVar_mid w' _ _ _ (keyV z.1) _ (rI.out w' hw') Tryd.underlying35 rfl (by rw [hkl]; exact sizeKey))) ?_
                      go_big_quiet_on
                      simp only [Act.put, List.setIfInBounds_toArray, List.set_cons_zero, List.set_cons_succ])
                   | (refine quiet_val (fun w' hw' => ex_load 35 _ rfl (p := ⟨b, off + ip * 35, none⟩) rfl (run_loadVar_mid w' _ _ _ (keyV ko) _ (rO.out w' hw') Tryd.underlying35 rfl (by rw [hkol]; exact sizeKey))) ?_
                      go_big_quiet_on
                      simp only [Act.put, List.setIfInBounds_toArray, List.set_cons_zero, List.set_cons_succ])
                   | (refine quiet_val (fun w' hw' => ex_neq 35 _ _ _ rfl (xs := (keyV z.1).toArray) (ys := (keyV z.1).toArray) rfl rfl (r := true) eqKey.noGuard (HEQ.out w')) ?_
                      go_big_quiet_on
                      simp only [Act.put, List.setIfInBounds_toArray, List.set_cons_zero, List.set_cons_succ, Bool.not_true])
                   | (go_big_quiet_op
                      first
                        | go_big_quiet_on
                        | go_big_quiet_call (first | (go_at_call 19; exact Wg.call (fun w' => CC.out w') _)))))
            refine wpQuiet_nil ?_
            rintro w' ⟨k, rfl⟩
            have hk := k.2
            generalize k.val = w6 at *
            clear rO hd hd2 hd3 hge hge2 CC k0 k1 e1
            have hb6 : Below wr.heap.size wr w6 := B9.out.trans (hk.below.mono B9.out.size)
            have HB6 := Lib.hid hb6
            clear hk k hb6 rG rI
            go_wp2_with fail
            obtain ⟨wo, hwo⟩ : ∃ wo : World, wo = wr := ⟨_, rfl⟩
            subst hwo
            go_loopw [7] (fun t wr => ∃ j : Nat, j ≤ i ∧ t = .int .i64 j ∧ Below w6.heap.size w6 wr) (fun t _ => i - (intOf t).toNat)
            case atStart => exact ⟨0, by omega, rfl, Below.refl _ _⟩
            case round =>
              obtain ⟨j, hj, rfl, hbj⟩ := hrel
              have hbj0 : Below wo.heap.size wo wr := HB6.out.trans (hbj.mono HB6.out.size)
              by_cases hjlt : j < i
              · have hjr : j < r.length := by omega
                have j0 : (0 : Int) ≤ (j : Int) := by omega
                have j1 : (j : Int) < (r.length : Int) := by omega
                have j2 : (j : Int) < (i : Int) := by omega
                have hnj := HNX.out _ (List.getElem_mem hjr)
                have hcj := (hbj0.cell (p := ⟨b, off + j * 35 + 34, none⟩) hbz).trans (HCJ.out j hjr)
                have hci := (hbj0.cell (p := ⟨b, off + i * 35 + 34, none⟩) hbz).trans HCI.out
                have hno := HAI.out j i hjr hlt hjlt
                rw [← HZ.out] at hno
                have hys : r[j].2.size ≤ 140737488355328 := by have := (HK.out _ (List.getElem_mem hjr)).2; omega
                generalize r[j].2 = y at *
                have hbw : b < wr.heap.size := Nat.lt_of_lt_of_le hbz hbj0.size
                have cj := Wg.cell hcj hbw
                have ci := Wg.cell hci hbw
                have HNO := Lib.hid hno
                have HBJ := Lib.hid hbj
                clear hnj hcj hci hno hbj hbj0
                go_wp2_with fail
                refine wp_region_wg (by kernel_rfl) (by kernel_rfl) ?_
                repeat (first
                  | go_big_quiet_skip
                  | (go_big_quiet_want
                     go_big_quiet_op
                     first
                       | go_big_quiet_on
                       | go_big_quiet_call (first | (go_at_call 22; exact (clash_any z.2 y _ (by omega) hys).mono fun e w'' ⟨hw, he⟩ => ⟨by rw [he, HNO.out], ⟨_, hw.symm⟩⟩))))
                refine wpQuiet_nil ?_
                rintro w' ⟨k, rfl⟩
                have hk := k.2
                generalize k.val = w7 at *
                have HB7 := Lib.hid (HBJ.out.trans (hk.below.mono HBJ.out.size))
                clear hk k cj ci
                go_wp2_with fail
                go_roundw
                case rel => exact ⟨j + 1, by omega, by go_num, HB7.out⟩
                case measure => simp [intOf]; omega
              · have j2 : ¬ (j : Int) < (i : Int) := by omega
                have HBJ := Lib.hid hbj0
                clear hbj hbj0
                go_wp2_with fail
                go_roundw
                case rel => exact ⟨i + 1, by omega, by go_num, HBR.out.trans (HBJ.out.mono HBR.out.size)⟩
                case measure => simp [intOf]; omega
      · have hb9 := HB3.out.trans (hbr.mono HB3.out.size)
        have haw := awake14_any wr (hg.next hb9)
        have HB9 := Lib.hid hb9
        clear hb9 hbr
        go_wp2_with (go_at_call 17; refine haw.mono ?_; rintro e w10 ⟨hb10, rfl⟩)
        go_ret
        exact ⟨rfl, HB9.out.trans (hb10.mono HB9.out.size)⟩
end Go.Proofs.YtfjmbcljohobeaaDoor
