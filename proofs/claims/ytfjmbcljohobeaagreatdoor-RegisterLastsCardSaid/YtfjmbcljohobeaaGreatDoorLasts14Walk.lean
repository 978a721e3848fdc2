/-
  RegisterLasts' walk. Conditions: claims and the document's key well formed; the library's variable MaxLen holds a number.
-/
import Derived.Test.YtfjmbcljohobeaaGreatDoorRefFind14
import Derived.Test.YtfjmbcljohobeaaGreatDoorClaimEq
import Derived.Test.YtfjmbcljohobeaaGreatDoorAwake14
import Derived.Test.YtfjmbcljohobeaaGreatDoorRegLast
namespace Go.Proofs.YtfjmbcljohobeaaGreatDoor
open Go.RowKit Go.Maps Go.Shelf
set_option linter.unusedVariables false
set_option linter.unusedSimpArgs false

theorem paths_keys {l : List ClaimD} (hok : ∀ x ∈ l, ClaimOk x) : ∀ k ∈ (pathsS l).map (·.1), KeyOk k := by
  intro k hk
  unfold pathsS at hk
  split at hk
  · rw [pathsGo_docs] at hk
    have h := (List.mem_filter.1 hk).1
    unfold docsS at h
    rw [mem_sortK] at h
    obtain ⟨x, hx, rfl⟩ := List.mem_map.1 h
    exact (hok x hx).2.1
  · simp at hk
set_option maxHeartbeats 16000000 in
set_option maxRecDepth 100000 in
theorem lasts14_walk (l : List ClaimD) (d : KeyD) (p : ByteArray) (A : Option Addr) (c : Nat) (w : World) (hl : l.length ≤ maxLen) (hok : ∀ x ∈ l, ClaimOk x) (hsl : Sl w w.heap.size A l.length 70 (rowsV claimV l)) (hkd : KeyOk d) (hp : p.size ≤ maxLen) (hg : Glob w) :
    Calls Tryz.prog 3 #[.slice A l.length c, .agg (keyV d).toArray, .string p] w fun e w' => e = .returned (.bool true) ∧ Below w.heap.size w w' := by
  have hb0 : Below w.heap.size w (w.alloc (.cells (keyV d).toArray 26)) := (Below.refl _ _).alloc (Nat.le_refl _) _
  have h0 : (w.alloc (.cells (keyV d).toArray 26)).heap[w.heap.size]? = some (.cells (keyV d).toArray 26 (0, 0)) := heap_alloc_new _ _
  have hlight := light_any l A c (w.alloc (.cells (keyV d).toArray 26)) hl hok ((hsl.keep hb0).more hb0.size)
  have HSL := Lib.hid hsl; have HOK := Lib.hid hok; have H0 := Lib.hid h0
  clear hsl hok h0
  cases hlt : lightB l with
  | false =>
    rw [hlt] at hlight
    clear hlt
    go_enter Tryz.func3, Tryz.ntmps3
    go_wp2_with (go_at_call 4; refine hlight.mono ?_; rintro e w1 ⟨rfl, rfl⟩)
    go_ret
    exact ⟨rfl, hb0⟩
  | true =>
    rw [hlt] at hlight
    obtain ⟨h40, h100⟩ := light_yes hlt
    clear hlt
    by_cases hps : 200 < p.size
    · go_enter Tryz.func3, Tryz.ntmps3
      go_wp2_with (go_at_call 4; refine hlight.mono ?_; rintro e w1 ⟨rfl, rfl⟩)
      go_ret
      exact ⟨rfl, hb0⟩
    · have htold := fun (u : World) (hu : Below w.heap.size w u) => told_any l A c u (by omega) HOK.out ((HSL.out.keep hu).more hu.size)
      have HT := Lib.hid htold
      have hsm : ∀ z ∈ l, z.2.2.2.size ≤ 1073741824 := fun z hz => by have := h100 z hz; omega
      have HSM := Lib.hid hsm
      clear htold hsm h100
      go_enter Tryz.func3, Tryz.ntmps3
      go_upto_region 3 with (go_at_call 4; refine hlight.mono ?_; rintro e w1 ⟨rfl, rfl⟩)
      obtain ⟨W1, hW⟩ : ∃ W1, w.alloc (.cells (keyV d).toArray 26) = W1 := ⟨_, rfl⟩
      rw [hW] at hb0 H0 ⊢
      have hz1 : w.heap.size < W1.heap.size := (Array.getElem?_eq_some_iff.1 H0.out).1
      have HB1 := Lib.hid hb0
      have hS : ∀ u : World, Below W1.heap.size W1 u → u.rangeAt w.heap.size 0 (keyV d) := fun u hu j v hj => (hu.cell (p := ⟨w.heap.size, 0 + j, none⟩) hz1).trans ((cells_box H0.out (0 + j)).trans (by simpa using hj))
      have HSH := Lib.hid hS
      obtain ⟨x1, hxx⟩ : ∃ x1, (lastS l d).getD zeroC = x1 := ⟨_, rfl⟩
      obtain ⟨s1, hss⟩ : ∃ s1, (lastS l d).isSome = s1 := ⟨_, rfl⟩
      have HX1 := Lib.hid (And.intro hxx hss)
      have hx1 : ClaimOk x1 := hxx ▸ lastS_ok HOK.out d
      have hxl := claimV_length hx1
      clear hb0 hW hlight hxx hss hps
      go_cut [7, 8] from 23 to 29 (fun s7 s8 wx => ∃ gg, s7 = .pointer (some ⟨gg, 0, none⟩) ∧ s8 = .bool s1 ∧ Below W1.heap.size W1 wx ∧ Hid (wx.heap[gg]? = some (.cells (claimV x1).toArray 29 (0, 0))))
      case first =>
        have bd : Below W1.heap.size W1 W1.drew := (Below.refl _ _).drew
        refine wp_region_held (S := fun u => u.rangeAt w.heap.size 0 (keyV d)) (by kernel_rfl) ?_
        refine wpAnyH_take (i := 0) (v := .slice A l.length c) rfl (by kernel_rfl) (by kernel_rfl) (by kernel_rfl) (fun _ _ _ h => h) (Or.inl ⟨by rfl, fun w' hw' => by rfl⟩) (hS _ bd) ?_
        simp only [Act.put, List.getElem_toArray, List.getElem_cons_succ, List.getElem_cons_zero, List.setIfInBounds_toArray, List.set_cons_zero, List.set_cons_succ, List.size_toArray, List.length_cons, List.length_nil, Nat.reduceAdd, Array.replicate_succ, Array.replicate_zero, List.push_toArray, List.nil_append, List.cons_append]
        refine wpAnyH_take (i := 2) (v := keyA d) rfl (by kernel_rfl) (by kernel_rfl) (by kernel_rfl) (fun _ _ _ h => h) (Or.inl ⟨by rfl, fun w' hw' => ex_load 26 _ rfl (p := ⟨w.heap.size, 0, none⟩) rfl (run_loadVar_mid w' _ _ _ (keyV d) _ hw' Tryz.underlying26 rfl (by rw [keyV_length hkd]; exact sizeKey))⟩) (hS _ bd) ?_
        simp only [Act.put, List.getElem_toArray, List.getElem_cons_succ, List.getElem_cons_zero, List.setIfInBounds_toArray, List.set_cons_zero, List.set_cons_succ, List.size_toArray, List.length_cons, List.length_nil, Nat.reduceAdd, Array.replicate_succ, Array.replicate_zero, List.push_toArray, List.nil_append, List.cons_append]
        refine wpAnyH_all (rs := [1, 7]) (by kernel_rfl) (by simp) ?_
        intro q hq
        simp only [List.mem_cons, List.not_mem_nil, or_false] at hq
        have hE1 : ∀ (u : World) (args : Array Value), (callFunc 6 args).run Tryz.prog u = .ok (.enter 6 args) u := fun u args => enters_of Tryz.func6 (by kernel_rfl) rfl args u
        have hE2 : ∀ (u : World) (args : Array Value), (callFunc 5 args).run Tryz.prog u = .ok (.enter 5 args) u := fun u args => enters_of Tryz.func5 (by kernel_rfl) rfl args u
        rcases hq with rfl | rfl
        · refine wpOp_call _ rfl (by kernel_rfl) (ex_callFn (f := 6) (args := #[.slice A l.length c]) rfl rfl (fun args w => hE1 w args) (by simp only [List.map_toArray, List.map_cons, List.map_nil]; rfl)) ?_
          refine (HT.out W1.drew (HB1.out.trans (bd.mono HB1.out.size))).mono ?_
          rintro e w4 ⟨hbw4, v, rfl, hv⟩
          obtain ⟨A9, c9, rfl⟩ := own_shape hv
          have b4 : Below W1.heap.size W1 w4 := bd.trans (hbw4.mono bd.size)
          have hsl9 := Sl.of_own hv
          refine ⟨_, rfl, hS _ b4, ?_⟩
          simp only [Act.put, List.getElem_toArray, List.getElem_cons_succ, List.getElem_cons_zero, List.setIfInBounds_toArray, List.set_cons_zero, List.set_cons_succ, List.size_toArray, List.length_cons, List.length_nil, Nat.reduceAdd, Array.replicate_succ, Array.replicate_zero, List.push_toArray, List.nil_append, List.cons_append]
          refine wpAnyH_all (rs := [3, 7]) (by kernel_rfl) (by simp) ?_
          intro q hq
          simp only [List.mem_cons, List.not_mem_nil, or_false] at hq
          have hz4 := b4.size
          rcases hq with rfl | rfl
          · have hfd := last_any14 l d A9 c9 w4 (by omega) HOK.out hkd hsl9 (hg.next (HB1.out.trans (b4.mono HB1.out.size)))
            rw [HX1.out.1, HX1.out.2] at hfd
            refine wpOp_call _ rfl (by kernel_rfl) (ex_callFn (f := 5) (args := #[.slice A9 l.length c9, .agg (keyV d).toArray]) rfl rfl (fun args w => hE2 w args) (by simp only [List.map_toArray, List.map_cons, List.map_nil]; rfl)) ?_
            refine hfd.mono ?_
            rintro e w5 ⟨hbw5, rfl⟩
            have b5 : Below W1.heap.size W1 w5 := b4.trans (hbw5.mono b4.size)
            refine ⟨_, rfl, hS _ b5, ?_⟩
            simp only [Act.put, List.getElem_toArray, List.getElem_cons_succ, List.getElem_cons_zero, List.setIfInBounds_toArray, List.set_cons_zero, List.set_cons_succ, List.size_toArray, List.length_cons, List.length_nil, Nat.reduceAdd, Array.replicate_succ, Array.replicate_zero, List.push_toArray, List.nil_append, List.cons_append]
            have hz5 := b5.size
            refine wpAnyH_take (i := 4) (v := .tuple #[claimA x1, .bool s1]) rfl (by kernel_rfl) (by kernel_rfl) (by kernel_rfl) (fun _ _ _ h => h) (Or.inl ⟨by rfl, fun w' hw' => by rfl⟩) (hS _ b5) ?_
            simp only [Act.put, List.getElem_toArray, List.getElem_cons_succ, List.getElem_cons_zero, List.setIfInBounds_toArray, List.set_cons_zero, List.set_cons_succ, List.size_toArray, List.length_cons, List.length_nil, Nat.reduceAdd, Array.replicate_succ, Array.replicate_zero, List.push_toArray, List.nil_append, List.cons_append]
            refine wpAnyH_take (i := 5) (v := claimA x1) rfl (by kernel_rfl) (by kernel_rfl) (by kernel_rfl) (fun _ _ _ h => h) (Or.inl ⟨by rfl, fun w' hw' => by rfl⟩) (hS _ b5) ?_
            simp only [Act.put, List.getElem_toArray, List.getElem_cons_succ, List.getElem_cons_zero, List.setIfInBounds_toArray, List.set_cons_zero, List.set_cons_succ, List.size_toArray, List.length_cons, List.length_nil, Nat.reduceAdd, Array.replicate_succ, Array.replicate_zero, List.push_toArray, List.nil_append, List.cons_append]
            refine wpAnyH_take (i := 6) (v := .bool s1) rfl (by kernel_rfl) (by kernel_rfl) (by kernel_rfl) (fun _ _ _ h => h) (Or.inl ⟨by rfl, fun w' hw' => by rfl⟩) (hS _ b5) ?_
            simp only [Act.put, List.getElem_toArray, List.getElem_cons_succ, List.getElem_cons_zero, List.setIfInBounds_toArray, List.set_cons_zero, List.set_cons_succ, List.size_toArray, List.length_cons, List.length_nil, Nat.reduceAdd, Array.replicate_succ, Array.replicate_zero, List.push_toArray, List.nil_append, List.cons_append]
            refine wpAnyH_all (rs := [7]) (by kernel_rfl) (by simp) ?_
            intro q hq
            obtain rfl : q = 7 := by simpa using hq
            refine wpOp_val _ rfl (by kernel_rfl) (ex_alloc (cs := (claimV zeroC).toArray) rfl (zeroC_run _)) ?_
            refine ⟨hS _ (b5.alloc b5.size _), ?_⟩
            simp only [Act.put, List.getElem_toArray, List.getElem_cons_succ, List.getElem_cons_zero, List.setIfInBounds_toArray, List.set_cons_zero, List.set_cons_succ, List.size_toArray, List.length_cons, List.length_nil, Nat.reduceAdd, Array.replicate_succ, Array.replicate_zero, List.push_toArray, List.nil_append, List.cons_append]
            refine wpAnyH_all (rs := [8]) (by kernel_rfl) (by simp) ?_
            intro q hq
            obtain rfl : q = 8 := by simpa using hq
            refine wpOp_skip _ rfl (by kernel_rfl) (ex_storeRow 29 _ _ rfl (w5.heap.size) (claimV x1).toArray rfl rfl 29 (claimV zeroC).toArray (heap_alloc_new _ _) (claimV_info hx1) (by rw [List.size_toArray, List.size_toArray, hxl]; rfl) (by simpa using claimV_one x1)) ?_
            have b9 : Below W1.heap.size W1 ((w5.alloc (.cells (claimV zeroC).toArray 29)).setRow (w5.heap.size) (claimV x1).toArray) := below_setRow' (b5.alloc b5.size _) (by first | omega | simp) _
            have g9 : ((w5.alloc (.cells (claimV zeroC).toArray 29)).setRow (w5.heap.size) (claimV x1).toArray).heap[w5.heap.size]? = some (.cells (claimV x1).toArray 29 (0, 0)) := setRow_heap _ _ _ _ _ _ (heap_alloc_new _ _)
            refine ⟨hS _ b9, ?_⟩
            simp only [Act.put, List.getElem_toArray, List.getElem_cons_succ, List.getElem_cons_zero, List.setIfInBounds_toArray, List.set_cons_zero, List.set_cons_succ, List.size_toArray, List.length_cons, List.length_nil, Nat.reduceAdd, Array.replicate_succ, Array.replicate_zero, List.push_toArray, List.nil_append, List.cons_append]
            refine wpAnyH_take (i := 9) (v := .bool s1) rfl (by kernel_rfl) (by kernel_rfl) (by kernel_rfl) (fun _ _ _ h => h) (Or.inl ⟨by rfl, fun w' hw' => by rfl⟩) (hS _ b9) ?_
            simp only [Act.put, List.getElem_toArray, List.getElem_cons_succ, List.getElem_cons_zero, List.setIfInBounds_toArray, List.set_cons_zero, List.set_cons_succ, List.size_toArray, List.length_cons, List.length_nil, Nat.reduceAdd, Array.replicate_succ, Array.replicate_zero, List.push_toArray, List.nil_append, List.cons_append]
            refine wpAnyH_done (by kernel_rfl) ?_ _
            go_wp2_with fail
            go_meet
            case rel => exact ⟨w5.heap.size, rfl, rfl, b9, Lib.hid g9⟩
          · refine wpOp_val _ rfl (by kernel_rfl) (ex_alloc (cs := (claimV zeroC).toArray) rfl (zeroC_run _)) ?_
            refine ⟨hS _ (b4.alloc b4.size _), ?_⟩
            simp only [Act.put, List.getElem_toArray, List.getElem_cons_succ, List.getElem_cons_zero, List.setIfInBounds_toArray, List.set_cons_zero, List.set_cons_succ, List.size_toArray, List.length_cons, List.length_nil, Nat.reduceAdd, Array.replicate_succ, Array.replicate_zero, List.push_toArray, List.nil_append, List.cons_append]
            have b4a : Below W1.heap.size W1 (w4.alloc (.cells (claimV zeroC).toArray 29)) := b4.alloc b4.size _
            refine wpAnyH_all (rs := [3]) (by kernel_rfl) (by simp) ?_
            intro q hq
            obtain rfl : q = 3 := by simpa using hq
            have hfd := last_any14 l d A9 c9 (w4.alloc (.cells (claimV zeroC).toArray 29)) (by omega) HOK.out hkd ((hsl9.keep ((Below.refl _ _).alloc (Nat.le_refl _) _)).more (by simp)) (hg.next (HB1.out.trans (b4a.mono HB1.out.size)))
            rw [HX1.out.1, HX1.out.2] at hfd
            refine wpOp_call _ rfl (by kernel_rfl) (ex_callFn (f := 5) (args := #[.slice A9 l.length c9, .agg (keyV d).toArray]) rfl rfl (fun args w => hE2 w args) (by simp only [List.map_toArray, List.map_cons, List.map_nil]; rfl)) ?_
            refine hfd.mono ?_
            rintro e w5 ⟨hbw5, rfl⟩
            have b5 : Below W1.heap.size W1 w5 := b4a.trans (hbw5.mono b4a.size)
            refine ⟨_, rfl, hS _ b5, ?_⟩
            simp only [Act.put, List.getElem_toArray, List.getElem_cons_succ, List.getElem_cons_zero, List.setIfInBounds_toArray, List.set_cons_zero, List.set_cons_succ, List.size_toArray, List.length_cons, List.length_nil, Nat.reduceAdd, Array.replicate_succ, Array.replicate_zero, List.push_toArray, List.nil_append, List.cons_append]
            have hg5 : w5.heap[w4.heap.size]? = some (.cells (claimV zeroC).toArray 29 (0, 0)) := (hbw5.block _ (by simp)).trans (heap_alloc_new w4 _)
            refine wpAnyH_take (i := 4) (v := .tuple #[claimA x1, .bool s1]) rfl (by kernel_rfl) (by kernel_rfl) (by kernel_rfl) (fun _ _ _ h => h) (Or.inl ⟨by rfl, fun w' hw' => by rfl⟩) (hS _ b5) ?_
            simp only [Act.put, List.getElem_toArray, List.getElem_cons_succ, List.getElem_cons_zero, List.setIfInBounds_toArray, List.set_cons_zero, List.set_cons_succ, List.size_toArray, List.length_cons, List.length_nil, Nat.reduceAdd, Array.replicate_succ, Array.replicate_zero, List.push_toArray, List.nil_append, List.cons_append]
            refine wpAnyH_take (i := 5) (v := claimA x1) rfl (by kernel_rfl) (by kernel_rfl) (by kernel_rfl) (fun _ _ _ h => h) (Or.inl ⟨by rfl, fun w' hw' => by rfl⟩) (hS _ b5) ?_
            simp only [Act.put, List.getElem_toArray, List.getElem_cons_succ, List.getElem_cons_zero, List.setIfInBounds_toArray, List.set_cons_zero, List.set_cons_succ, List.size_toArray, List.length_cons, List.length_nil, Nat.reduceAdd, Array.replicate_succ, Array.replicate_zero, List.push_toArray, List.nil_append, List.cons_append]
            refine wpAnyH_take (i := 6) (v := .bool s1) rfl (by kernel_rfl) (by kernel_rfl) (by kernel_rfl) (fun _ _ _ h => h) (Or.inl ⟨by rfl, fun w' hw' => by rfl⟩) (hS _ b5) ?_
            simp only [Act.put, List.getElem_toArray, List.getElem_cons_succ, List.getElem_cons_zero, List.setIfInBounds_toArray, List.set_cons_zero, List.set_cons_succ, List.size_toArray, List.length_cons, List.length_nil, Nat.reduceAdd, Array.replicate_succ, Array.replicate_zero, List.push_toArray, List.nil_append, List.cons_append]
            refine wpAnyH_all (rs := [8]) (by kernel_rfl) (by simp) ?_
            intro q hq
            obtain rfl : q = 8 := by simpa using hq
            refine wpOp_skip _ rfl (by kernel_rfl) (ex_storeRow 29 _ _ rfl (w4.heap.size) (claimV x1).toArray rfl rfl 29 (claimV zeroC).toArray hg5 (claimV_info hx1) (by rw [List.size_toArray, List.size_toArray, hxl]; rfl) (by simpa using claimV_one x1)) ?_
            have b9 : Below W1.heap.size W1 ((w5).setRow (w4.heap.size) (claimV x1).toArray) := below_setRow' b5 (by first | omega | simp) _
            have g9 : ((w5).setRow (w4.heap.size) (claimV x1).toArray).heap[w4.heap.size]? = some (.cells (claimV x1).toArray 29 (0, 0)) := setRow_heap _ _ _ _ _ _ hg5
            refine ⟨hS _ b9, ?_⟩
            simp only [Act.put, List.getElem_toArray, List.getElem_cons_succ, List.getElem_cons_zero, List.setIfInBounds_toArray, List.set_cons_zero, List.set_cons_succ, List.size_toArray, List.length_cons, List.length_nil, Nat.reduceAdd, Array.replicate_succ, Array.replicate_zero, List.push_toArray, List.nil_append, List.cons_append]
            refine wpAnyH_take (i := 9) (v := .bool s1) rfl (by kernel_rfl) (by kernel_rfl) (by kernel_rfl) (fun _ _ _ h => h) (Or.inl ⟨by rfl, fun w' hw' => by rfl⟩) (hS _ b9) ?_
            simp only [Act.put, List.getElem_toArray, List.getElem_cons_succ, List.getElem_cons_zero, List.setIfInBounds_toArray, List.set_cons_zero, List.set_cons_succ, List.size_toArray, List.length_cons, List.length_nil, Nat.reduceAdd, Array.replicate_succ, Array.replicate_zero, List.push_toArray, List.nil_append, List.cons_append]
            refine wpAnyH_done (by kernel_rfl) ?_ _
            go_wp2_with fail
            go_meet
            case rel => exact ⟨w4.heap.size, rfl, rfl, b9, Lib.hid g9⟩
        · refine wpOp_val _ rfl (by kernel_rfl) (ex_alloc (cs := (claimV zeroC).toArray) rfl (zeroC_run _)) ?_
          refine ⟨hS _ (bd.alloc bd.size _), ?_⟩
          simp only [Act.put, List.getElem_toArray, List.getElem_cons_succ, List.getElem_cons_zero, List.setIfInBounds_toArray, List.set_cons_zero, List.set_cons_succ, List.size_toArray, List.length_cons, List.length_nil, Nat.reduceAdd, Array.replicate_succ, Array.replicate_zero, List.push_toArray, List.nil_append, List.cons_append]
          have ba : Below W1.heap.size W1 (W1.drew.alloc (.cells (claimV zeroC).toArray 29)) := bd.alloc (Nat.le_refl _) _
          refine wpAnyH_all (rs := [1]) (by kernel_rfl) (by simp) ?_
          intro q hq
          obtain rfl : q = 1 := by simpa using hq
          refine wpOp_call _ rfl (by kernel_rfl) (ex_callFn (f := 6) (args := #[.slice A l.length c]) rfl rfl (fun args w => hE1 w args) (by simp only [List.map_toArray, List.map_cons, List.map_nil]; rfl)) ?_
          refine (HT.out (W1.drew.alloc (.cells (claimV zeroC).toArray 29)) (HB1.out.trans (ba.mono HB1.out.size))).mono ?_
          rintro e w4 ⟨hbw4, v, rfl, hv⟩
          obtain ⟨A9, c9, rfl⟩ := own_shape hv
          have b4 : Below W1.heap.size W1 w4 := ba.trans (hbw4.mono ba.size)
          have hsl9 := Sl.of_own hv
          refine ⟨_, rfl, hS _ b4, ?_⟩
          simp only [Act.put, List.getElem_toArray, List.getElem_cons_succ, List.getElem_cons_zero, List.setIfInBounds_toArray, List.set_cons_zero, List.set_cons_succ, List.size_toArray, List.length_cons, List.length_nil, Nat.reduceAdd, Array.replicate_succ, Array.replicate_zero, List.push_toArray, List.nil_append, List.cons_append]
          have hg4 : w4.heap[W1.heap.size]? = some (.cells (claimV zeroC).toArray 29 (0, 0)) := (hbw4.block _ (by simp)).trans (heap_alloc_new W1.drew _)
          have hz4 : W1.heap.size < w4.heap.size := (Array.getElem?_eq_some_iff.1 hg4).1
          refine wpAnyH_all (rs := [3]) (by kernel_rfl) (by simp) ?_
          intro q hq
          obtain rfl : q = 3 := by simpa using hq
          have hfd := last_any14 l d A9 c9 w4 (by omega) HOK.out hkd hsl9 (hg.next (HB1.out.trans (b4.mono HB1.out.size)))
          rw [HX1.out.1, HX1.out.2] at hfd
          refine wpOp_call _ rfl (by kernel_rfl) (ex_callFn (f := 5) (args := #[.slice A9 l.length c9, .agg (keyV d).toArray]) rfl rfl (fun args w => hE2 w args) (by simp only [List.map_toArray, List.map_cons, List.map_nil]; rfl)) ?_
          refine hfd.mono ?_
          rintro e w5 ⟨hbw5, rfl⟩
          have b5 : Below W1.heap.size W1 w5 := b4.trans (hbw5.mono b4.size)
          refine ⟨_, rfl, hS _ b5, ?_⟩
          simp only [Act.put, List.getElem_toArray, List.getElem_cons_succ, List.getElem_cons_zero, List.setIfInBounds_toArray, List.set_cons_zero, List.set_cons_succ, List.size_toArray, List.length_cons, List.length_nil, Nat.reduceAdd, Array.replicate_succ, Array.replicate_zero, List.push_toArray, List.nil_append, List.cons_append]
          have hg5 : w5.heap[W1.heap.size]? = some (.cells (claimV zeroC).toArray 29 (0, 0)) := (hbw5.block _ hz4).trans hg4
          refine wpAnyH_take (i := 4) (v := .tuple #[claimA x1, .bool s1]) rfl (by kernel_rfl) (by kernel_rfl) (by kernel_rfl) (fun _ _ _ h => h) (Or.inl ⟨by rfl, fun w' hw' => by rfl⟩) (hS _ b5) ?_
          simp only [Act.put, List.getElem_toArray, List.getElem_cons_succ, List.getElem_cons_zero, List.setIfInBounds_toArray, List.set_cons_zero, List.set_cons_succ, List.size_toArray, List.length_cons, List.length_nil, Nat.reduceAdd, Array.replicate_succ, Array.replicate_zero, List.push_toArray, List.nil_append, List.cons_append]
          refine wpAnyH_take (i := 5) (v := claimA x1) rfl (by kernel_rfl) (by kernel_rfl) (by kernel_rfl) (fun _ _ _ h => h) (Or.inl ⟨by rfl, fun w' hw' => by rfl⟩) (hS _ b5) ?_
          simp only [Act.put, List.getElem_toArray, List.getElem_cons_succ, List.getElem_cons_zero, List.setIfInBounds_toArray, List.set_cons_zero, List.set_cons_succ, List.size_toArray, List.length_cons, List.length_nil, Nat.reduceAdd, Array.replicate_succ, Array.replicate_zero, List.push_toArray, List.nil_append, List.cons_append]
          refine wpAnyH_take (i := 6) (v := .bool s1) rfl (by kernel_rfl) (by kernel_rfl) (by kernel_rfl) (fun _ _ _ h => h) (Or.inl ⟨by rfl, fun w' hw' => by rfl⟩) (hS _ b5) ?_
          simp only [Act.put, List.getElem_toArray, List.getElem_cons_succ, List.getElem_cons_zero, List.setIfInBounds_toArray, List.set_cons_zero, List.set_cons_succ, List.size_toArray, List.length_cons, List.length_nil, Nat.reduceAdd, Array.replicate_succ, Array.replicate_zero, List.push_toArray, List.nil_append, List.cons_append]
          refine wpAnyH_all (rs := [8]) (by kernel_rfl) (by simp) ?_
          intro q hq
          obtain rfl : q = 8 := by simpa using hq
          refine wpOp_skip _ rfl (by kernel_rfl) (ex_storeRow 29 _ _ rfl (W1.heap.size) (claimV x1).toArray rfl rfl 29 (claimV zeroC).toArray hg5 (claimV_info hx1) (by rw [List.size_toArray, List.size_toArray, hxl]; rfl) (by simpa using claimV_one x1)) ?_
          have b9 : Below W1.heap.size W1 ((w5).setRow (W1.heap.size) (claimV x1).toArray) := below_setRow' b5 (by first | omega | simp) _
          have g9 : ((w5).setRow (W1.heap.size) (claimV x1).toArray).heap[W1.heap.size]? = some (.cells (claimV x1).toArray 29 (0, 0)) := setRow_heap _ _ _ _ _ _ hg5
          refine ⟨hS _ b9, ?_⟩
          simp only [Act.put, List.getElem_toArray, List.getElem_cons_succ, List.getElem_cons_zero, List.setIfInBounds_toArray, List.set_cons_zero, List.set_cons_succ, List.size_toArray, List.length_cons, List.length_nil, Nat.reduceAdd, Array.replicate_succ, Array.replicate_zero, List.push_toArray, List.nil_append, List.cons_append]
          refine wpAnyH_take (i := 9) (v := .bool s1) rfl (by kernel_rfl) (by kernel_rfl) (by kernel_rfl) (fun _ _ _ h => h) (Or.inl ⟨by rfl, fun w' hw' => by rfl⟩) (hS _ b9) ?_
          simp only [Act.put, List.getElem_toArray, List.getElem_cons_succ, List.getElem_cons_zero, List.setIfInBounds_toArray, List.set_cons_zero, List.set_cons_succ, List.size_toArray, List.length_cons, List.length_nil, Nat.reduceAdd, Array.replicate_succ, Array.replicate_zero, List.push_toArray, List.nil_append, List.cons_append]
          refine wpAnyH_done (by kernel_rfl) ?_ _
          go_wp2_with fail
          go_meet
          case rel => exact ⟨W1.heap.size, rfl, rfl, b9, Lib.hid g9⟩
      case rest =>
        obtain ⟨gg, rfl, rfl, hbc, HG⟩ := hcut
        have HBC := Lib.hid hbc
        have HB2 := Lib.hid (HB1.out.trans (hbc.mono HB1.out.size))
        have ht2 := HT.out wc HB2.out
        clear hbc hS
        obtain ⟨k1, hk1⟩ : ∃ k1, (findS l (L p)).getD zeroKd = k1 := ⟨_, rfl⟩
        obtain ⟨f1, hf1⟩ : ∃ f1, (findS l (L p)).isSome = f1 := ⟨_, rfl⟩
        have hfo : KeyOk k1 := by
          rw [← hk1]
          unfold findS
          cases hq : (pathsS l).find? fun n => n.2 == L p with
          | none => exact zeroKd_ok
          | some n =>
            have hm := List.mem_of_find?_eq_some hq
            have h1 := List.mem_map_of_mem (f := fun n : KeyD × List UInt8 => n.1) hm
            exact paths_keys HOK.out _ h1
        have HK1 := Lib.hid (And.intro hk1 hf1)
        clear hk1 hf1
        go_wp2_with (go_at_call 6; refine ht2.mono ?_; rintro e w5 ⟨hb5, v, rfl, hv⟩; obtain ⟨A9, c9, rfl⟩ := own_shape hv
                     have HB5 := Lib.hid (HB2.out.trans (hb5.mono HB2.out.size)); have HC5 := Lib.hid hb5
                     have hfi := find_any14 l p A9 c9 w5 (by omega) HOK.out HSM.out (Sl.of_own hv) (hg.next HB5.out)
                     clear hv hb5)
        rw [HK1.out.1, HK1.out.2] at hfi
        clear ht2
        go_upto_region 5 with (first
          | (go_at_call 7; refine hfi.mono ?_; rintro e w6 ⟨hb6, rfl⟩)
          | (refine wp_storeN (B := w6.heap.size) (w0 := w6) rfl 26 _ _ rfl w6.heap.size (keyV k1).toArray rfl rfl 26 _ (heap_alloc_new _ _) (keyV_info hfo) (by rw [List.size_toArray, List.size_toArray, keyV_length hfo]; rfl) (by simpa using keyV_one k1) ((Below.refl _ _).alloc (Nat.le_refl _) _) (Nat.le_refl _) ?_; intro W7 hbW7 hW7 _))
        have hc7 : Below wc.heap.size wc W7 := HC5.out.trans ((hb6.trans (hbW7.mono hb6.size)).mono HC5.out.size)
        have HC7 := Lib.hid hc7
        have HB7 := Lib.hid (HB2.out.trans (hc7.mono HB2.out.size))
        have hgz : gg < wc.heap.size := (Array.getElem?_eq_some_iff.1 HG.out).1
        have HG7 := Lib.hid ((hc7.block _ hgz).trans HG.out)
        have HK7 := Lib.hid hW7
        have hrr := refRight14_any l A c W7 (by omega) HOK.out ((HSL.out.keep HB7.out).more HB7.out.size)
        have szx : Hid ((Tryz.prog.info? 29).map (·.size) = some (claimV x1).length) := by rw [hxl]; exact sizeClaim
        have szk : Hid ((Tryz.prog.info? 26).map (·.size) = some (keyV k1).length) := by rw [keyV_length hfo]; exact sizeKey
        clear hfi hb6 hbW7 hW7 hc7 hgz
        cases hrb : rightB l with
        | false =>
          rw [hrb] at hrr
          have hln : lastS l d = none := by unfold lastS; rw [hrb]; rfl
          have hfn : findS l (L p) = none := by unfold findS pathsS; rw [hrb]; rfl
          have e1 := HX1.out; have e2 := HK1.out
          rw [hln] at e1; rw [hfn] at e2
          obtain ⟨e1a, e1b⟩ := e1; obtain ⟨e2a, e2b⟩ := e2
          simp only [Option.getD_none, Option.isSome_none] at e1a e1b e2a e2b
          subst e1a e1b e2a e2b
          clear hln hfn hrb
          go_upto_region 6 with (go_at_call 8; refine hrr.mono ?_; rintro e w8 ⟨hb8, rfl⟩)
          have HB8 := Lib.hid (HB7.out.trans (hb8.mono HB7.out.size))
          have haw := awake14_any w8 (hg.next HB8.out)
          have g7 := (hb8.block _ (Array.getElem?_eq_some_iff.1 HG7.out).1).trans HG7.out
          have k7 := (hb8.block _ (Array.getElem?_eq_some_iff.1 HK7.out).1).trans HK7.out
          have RG : Hid (w8.rangeAt gg 0 (claimV zeroC)) := fun j u hj => (cells_box g7 (0 + j)).trans (by simpa using hj)
          have RK : Hid (w8.rangeAt w6.heap.size 0 (keyV zeroKd)) := fun j u hj => (cells_box k7 (0 + j)).trans (by simpa using hj)
          have HE1 : Hid (∀ w' : World, (Op.equalIn 10000 29 (.agg (claimV zeroC).toArray) (.agg (claimV zeroC).toArray)).run Tryz.prog w' = .ok true w') := fun w' => by have := run_eqClaim zeroC_ok zeroC_ok w'; simpa using this
          have HE2 : Hid (∀ w' : World, (Op.equalIn 10000 26 (.agg (keyV zeroKd).toArray) (.agg (keyV zeroKd).toArray)).run Tryz.prog w' = .ok true w') := fun w' => by have := run_eqKey zeroKd_ok zeroKd_ok w'; simpa using this
          clear g7 k7 hb8 hrr
          go_wp2_with (first
            | (refine wp_val (by rfl) (ex_load 29 _ rfl (p := ⟨gg, 0, none⟩) rfl (run_loadVar_mid _ _ _ _ (claimV zeroC) _ RG.out Tryz.underlying29 rfl szx.out)) ?_)
            | (refine wp_val (by rfl) (ex_load 26 _ rfl (p := ⟨w6.heap.size, 0, none⟩) rfl (run_loadVar_mid _ _ _ _ (keyV zeroKd) _ RK.out Tryz.underlying26 rfl szk.out)) ?_)
            | (refine wp_val (by rfl) (ex_built 29 _ rfl (cells := (claimV zeroC).toArray) (by simp only [List.map_toArray, List.map_nil]; exact claim_built0)) ?_)
            | (refine wp_val (by rfl) (ex_built 26 _ rfl (cells := (keyV zeroKd).toArray) (by simp only [List.map_toArray, List.map_nil]; exact key_built0)) ?_)
            | (refine wp_val (by rfl) (ex_eql 29 _ _ _ rfl (xs := (claimV zeroC).toArray) (ys := (claimV zeroC).toArray) rfl rfl (r := true) eqClaim.noGuard (HE1.out _)) ?_)
            | (refine wp_val (by rfl) (ex_eql 26 _ _ _ rfl (xs := (keyV zeroKd).toArray) (ys := (keyV zeroKd).toArray) rfl rfl (r := true) eqKey.noGuard (HE2.out _)) ?_)
            | (go_at_call 9; refine haw.mono ?_; rintro e w12 ⟨hb12, rfl⟩))
          go_ret
          exact ⟨rfl, HB8.out.trans (hb12.mono HB8.out.size)⟩
        | true =>
          rw [hrb] at hrr
          have HRB := Lib.hid hrb
          have hls : lastS l d = lastOf l d := by unfold lastS; rw [hrb]; rfl
          have HLS := Lib.hid hls
          clear hrb hls
          go_upto_region 7 with (go_at_call 8; refine hrr.mono ?_; rintro e w8 ⟨hb8, rfl⟩)
          have HB8 := Lib.hid (HB7.out.trans (hb8.mono HB7.out.size))
          have HC8 : Hid (Below wc.heap.size wc w8) := HC7.out.trans (hb8.mono HC7.out.size)
          have B78 := Lib.hid hb8
          have RD : Hid (∀ j u, (keyV d)[j]? = some u → w8.cell? ⟨w.heap.size, 0 + j, none⟩ = some u) := HSH.out w8 (HBC.out.trans (HC8.out.mono HBC.out.size))
          have hla := refLast14_any l d A c w8 (by omega) HOK.out hkd ((HSL.out.keep HB8.out).more HB8.out.size)
          rw [← HLS.out, HX1.out.1, HX1.out.2] at hla
          clear hrr hb8
          go_upto_region 8 with (first
            | (refine wp_loadN rfl 26 _ rfl w.heap.size 0 rfl (keyV d) _ RD.out Tryz.underlying26 rfl (by rw [keyV_length hkd]; exact sizeKey) ?_)
            | (go_at_call 10; refine hla.mono ?_; rintro e w9 ⟨hb9, rfl⟩)
            | (refine wp_storeN (B := w9.heap.size) (w0 := w9) rfl 37 _ _ rfl w9.heap.size (claimV x1).toArray rfl rfl 37 _ (heap_alloc_new _ _) (by rw [List.size_toArray, hxl]; exact sizeClaimR) (by rw [List.size_toArray, List.size_toArray, hxl]; rfl) (by simpa using claimV_one x1) ((Below.refl _ _).alloc (Nat.le_refl _) _) (Nat.le_refl _) ?_; intro W10 hbW10 hW10 _))
          have b810 : Below w8.heap.size w8 W10 := hb9.trans (hbW10.mono hb9.size)
          have B710 : Hid (Below W7.heap.size W7 W10) := B78.out.trans (b810.mono B78.out.size)
          have HB10 := Lib.hid (HB8.out.trans (b810.mono HB8.out.size))
          have HR10 := Lib.hid hW10
          have hf2 := refFind14_any l p A c W10 (by omega) HOK.out HSM.out ((HSL.out.keep HB10.out).more HB10.out.size) HRB.out
          rw [HK1.out.1, HK1.out.2] at hf2
          clear hla hb9 hbW10 hW10 b810
          go_upto_region 9 with (first
            | (go_at_call 11; refine hf2.mono ?_; rintro e w11 ⟨hb11, rfl⟩)
            | (refine wp_storeN (B := w11.heap.size) (w0 := w11) rfl 26 _ _ rfl w11.heap.size (keyV k1).toArray rfl rfl 26 _ (heap_alloc_new _ _) (keyV_info hfo) (by rw [List.size_toArray, List.size_toArray, keyV_length hfo]; rfl) (by simpa using keyV_one k1) ((Below.refl _ _).alloc (Nat.le_refl _) _) (Nat.le_refl _) ?_; intro W13 hbW13 hW13 _))
          have b1013 : Below W10.heap.size W10 W13 := hb11.trans (hbW13.mono hb11.size)
          have B713 : Below W7.heap.size W7 W13 := B710.out.trans (b1013.mono B710.out.size)
          have HB13 := Lib.hid (HB10.out.trans (b1013.mono HB10.out.size))
          have haw := awake14_any W13 (hg.next HB13.out)
          have g7 := (B713.block _ (Array.getElem?_eq_some_iff.1 HG7.out).1).trans HG7.out
          have k7 := (B713.block _ (Array.getElem?_eq_some_iff.1 HK7.out).1).trans HK7.out
          have r10 := (b1013.block _ (Array.getElem?_eq_some_iff.1 HR10.out).1).trans HR10.out
          have RG : Hid (W13.rangeAt gg 0 (claimV x1)) := fun j u hj => (cells_box g7 (0 + j)).trans (by simpa using hj)
          have RK : Hid (W13.rangeAt w6.heap.size 0 (keyV k1)) := fun j u hj => (cells_box k7 (0 + j)).trans (by simpa using hj)
          have RK2 : Hid (W13.rangeAt w11.heap.size 0 (keyV k1)) := fun j u hj => (cells_box hW13 (0 + j)).trans (by simpa using hj)
          have R1 : Hid (W13.rangeAt w9.heap.size 0 (keyV x1.1)) := fun j u hj => (cells_box r10 (0 + j)).trans (by simpa using claim_key hx1 j u hj)
          have R2 : Hid (W13.rangeAt w9.heap.size 34 (keyV x1.2.1)) := fun j u hj => (cells_box r10 (34 + j)).trans (by simpa using claim_doc hx1 j u hj)
          have c68 := (cells_box r10 68).trans (claim_cell hx1).1
          have c69 := (cells_box r10 69).trans (claim_cell hx1).2
          have HE1 : Hid (∀ w' : World, (Op.equalIn 10000 29 (.agg (claimV x1).toArray) (.agg (claimV x1).toArray)).run Tryz.prog w' = .ok true w') := fun w' => by have := run_eqClaim hx1 hx1 w'; simpa using this
          have HE2 : Hid (∀ w' : World, (Op.equalIn 10000 26 (.agg (keyV k1).toArray) (.agg (keyV k1).toArray)).run Tryz.prog w' = .ok true w') := fun w' => by have := run_eqKey hfo hfo w'; simpa using this
          have HBT := Lib.hid (claim_built hx1)
          have s1k : Hid ((Tryz.prog.info? 26).map (·.size) = some (keyV x1.1).length) := by rw [keyV_length hx1.1]; exact sizeKey
          have s2k : Hid ((Tryz.prog.info? 26).map (·.size) = some (keyV x1.2.1).length) := by rw [keyV_length hx1.2.1]; exact sizeKey
          have hss : (s1 == s1) = true := by simp
          have hff : (f1 == f1) = true := by simp
          clear g7 k7 r10 hb11 hbW13 hW13 b1013 B713 hf2
          go_wp2_with (first
            | (refine wp_val (by rfl) (ex_load 29 _ rfl (p := ⟨gg, 0, none⟩) rfl (run_loadVar_mid _ _ _ _ (claimV x1) _ RG.out Tryz.underlying29 rfl szx.out)) ?_)
            | (refine wp_val (by rfl) (ex_load 26 _ rfl (p := ⟨w6.heap.size, 0, none⟩) rfl (run_loadVar_mid _ _ _ _ (keyV k1) _ RK.out Tryz.underlying26 rfl szk.out)) ?_)
            | (refine wp_val (by rfl) (ex_load 26 _ rfl (p := ⟨w11.heap.size, 0, none⟩) rfl (run_loadVar_mid _ _ _ _ (keyV k1) _ RK2.out Tryz.underlying26 rfl szk.out)) ?_)
            | (refine wp_val (by rfl) (ex_load 26 _ rfl (p := ⟨w9.heap.size, 0, none⟩) rfl (run_loadVar_mid _ _ _ _ (keyV x1.1) _ R1.out Tryz.underlying26 rfl s1k.out)) ?_)
            | (refine wp_val (by rfl) (ex_load 26 _ rfl (p := ⟨w9.heap.size, 34, none⟩) rfl (run_loadVar_mid _ _ _ _ (keyV x1.2.1) _ R2.out Tryz.underlying26 rfl s2k.out)) ?_)
            | (refine wp_val (by rfl) (ex_built 29 _ rfl (cells := (claimV x1).toArray) (by simp only [List.map_toArray, List.map_cons, List.map_nil]; exact HBT.out)) ?_)
            | (refine wp_val (by rfl) (ex_eql 29 _ _ _ rfl (xs := (claimV x1).toArray) (ys := (claimV x1).toArray) rfl rfl (r := true) eqClaim.noGuard (HE1.out _)) ?_)
            | (refine wp_val (by rfl) (ex_eql 26 _ _ _ rfl (xs := (keyV k1).toArray) (ys := (keyV k1).toArray) rfl rfl (r := true) eqKey.noGuard (HE2.out _)) ?_)
            | (go_at_call 9; refine haw.mono ?_; rintro e w12 ⟨hb12, rfl⟩))
          go_ret
          exact ⟨rfl, HB13.out.trans (hb12.mono HB13.out.size)⟩
end Go.Proofs.YtfjmbcljohobeaaGreatDoor
