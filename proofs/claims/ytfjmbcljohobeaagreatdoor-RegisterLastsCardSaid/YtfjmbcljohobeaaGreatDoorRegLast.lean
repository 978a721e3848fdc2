/-
  What the register's Last gives. Conditions: claims well formed; at most 2^40 of them; the library's variable MaxLen holds a number.
-/
import Derived.Test.YtfjmbcljohobeaaGreatDoorRegFind
import Derived.Test.YtfjmbcljohobeaaGreatDoorHand
import Derived.Test.YtfjmbcljohobeaaGreatDoorLaw14
namespace Go.Proofs.YtfjmbcljohobeaaGreatDoor
open Go.RowKit Go.Maps Go.Shelf
set_option linter.unusedVariables false
set_option linter.unusedSimpArgs false

def lastS (l : List ClaimD) (d : KeyD) : Option ClaimD := if rightB l then lastOf l d else none
theorem claim_built0 : Tryz.prog.built 29 [] = some (claimV zeroC).toArray := by kernel_rfl
theorem claimV_info {c : ClaimD} (h : ClaimOk c) : (Tryz.prog.info? 29).map (·.size) = some (claimV c).toArray.size := by rw [List.size_toArray, claimV_length h]; exact sizeClaim
theorem lastS_ok {l : List ClaimD} (hok : ∀ x ∈ l, ClaimOk x) (d : KeyD) : ClaimOk ((lastS l d).getD zeroC) := by
  unfold lastS
  split
  · cases h : lastOf l d with
    | none => exact zeroC_ok
    | some c => exact hok c (lastOf_is h).1
  · exact zeroC_ok
set_option maxHeartbeats 4000000 in
set_option maxRecDepth 100000 in
theorem last_any14 (l : List ClaimD) (d : KeyD) (A : Option Addr) (c : Nat) (w : World) (hl : l.length ≤ 1099511627776) (hok : ∀ x ∈ l, ClaimOk x) (hkd : KeyOk d) (hsl : Sl w w.heap.size A l.length 70 (rowsV claimV l)) (hg : Glob w) :
    Calls Tryz.prog 5 #[.slice A l.length c, .agg (keyV d).toArray] w fun e w' => Below w.heap.size w w' ∧ e = .returned (.tuple #[claimA ((lastS l d).getD zeroC), .bool (lastS l d).isSome]) := by
  have hb0 : Below w.heap.size w ((w.alloc (.cells (keyV d).toArray 26)).alloc (.cells (claimV zeroC).toArray 29)) := ((Below.refl _ _).alloc (Nat.le_refl _) _).alloc (by simp) _
  have hk0 : ((w.alloc (.cells (keyV d).toArray 26)).alloc (.cells (claimV zeroC).toArray 29)).heap[w.heap.size]? = some (.cells (keyV d).toArray 26 (0, 0)) := heap_alloc2_old _ _ _
  have hc0 : ((w.alloc (.cells (keyV d).toArray 26)).alloc (.cells (claimV zeroC).toArray 29)).heap[w.heap.size + 1]? = some (.cells (claimV zeroC).toArray 29 (0, 0)) := heap_alloc2_new _ _ _
  have hs0 : ((w.alloc (.cells (keyV d).toArray 26)).alloc (.cells (claimV zeroC).toArray 29)).heap.size = w.heap.size + 2 := by simp
  have hright := right_any l A c ((w.alloc (.cells (keyV d).toArray 26)).alloc (.cells (claimV zeroC).toArray 29)) hl hok ((hsl.keep hb0).more hb0.size) (hg.next hb0)
  have hlok := lastS_ok hok d
  have HSL := Lib.hid hsl; have HOK := Lib.hid hok; have HLO := Lib.hid hlok
  clear hsl hok hlok
  go_enter Tryz.func5, Tryz.ntmps5
  go_wp2_with fail
  refine hright.mono ?_
  generalize (w.alloc (.cells (keyV d).toArray 26)).alloc (.cells (claimV zeroC).toArray 29) = W0 at *
  rintro e w1 ⟨hb1, rfl⟩
  have hB1 : Below w.heap.size w w1 := hb0.trans (hb1.mono hb0.size)
  have hk1 : w1.heap[w.heap.size]? = some (.cells (keyV d).toArray 26 (0, 0)) := (hb1.block _ (by omega)).trans hk0
  have hc1 : w1.heap[w.heap.size + 1]? = some (.cells (claimV zeroC).toArray 29 (0, 0)) := (hb1.block _ (by omega)).trans hc0
  have hz1 : w.heap.size + 1 < w1.heap.size := (Array.getElem?_eq_some_iff.1 hc1).1
  clear hb0 hk0 hc0 hs0 hright hb1
  cases hr : rightB l with
  | false =>
    have hls : lastS l d = none := by unfold lastS; rw [hr]; rfl
    have HB1 := Lib.hid hB1; have HC1 := Lib.hid hc1; have HLS := Lib.hid hls
    clear hr hls hk1 hc1 hB1
    go_wp2_with (first
      | ((with_reducible refine wpList_buildTo rfl 29 _ rfl _ rfl (claimV zeroC).toArray ?_ ?_)
         · simp only [List.map_toArray, List.map_nil]; exact claim_built0)
      | (refine wp_storeN (B := w.heap.size) (w0 := w) rfl 29 _ _ rfl (w.heap.size + 1) _ rfl rfl 29 _ HC1.out (claimV_info zeroC_ok) rfl (by simpa using claimV_one zeroC) HB1.out (by omega) ?_; intro W4 hbW4 hW4 _))
    refine bodyPost_ret (results_row_tmp Tryz.results5 _ _ rfl rfl (run_loadVar_row (P := Tryz.prog) _ (w.heap.size + 1) 29 29 _ (0, 0) _ hW4 Tryz.underlying29 rfl (claimV_info zeroC_ok))) rfl ⟨hbW4, ?_⟩
    rw [HLS.out]; rfl
  | true =>
    have hls : lastS l d = lastOf l d := by unfold lastS; rw [hr]; rfl
    have hv : (lastM l d).getD (claimA zeroC) = claimA ((lastS l d).getD zeroC) ∧ (lastM l d).isSome = (lastS l d).isSome := by
      rw [hls]; unfold lastM
      cases lastOf l d <;> exact ⟨rfl, rfl⟩
    obtain ⟨x, hgx⟩ : ∃ x, (lastS l d).getD zeroC = x := ⟨_, rfl⟩
    obtain ⟨sm, hgs⟩ : ∃ sm, (lastS l d).isSome = sm := ⟨_, rfl⟩
    rw [hgx, hgs] at hv
    rw [hgx] at HLO
    have HV := Lib.hid hv
    have HGX := Lib.hid (And.intro hgx hgs)
    clear hls hv hgx hgs
    have hxl := claimV_length HLO.out
    have hlast := fun (u : World) (hu : Below w.heap.size w u) => lasts_any l A c u hl HOK.out ((HSL.out.keep hu).more hu.size)
    have HL := Lib.hid hlast
    have hkr : w1.rangeAt w.heap.size 0 (keyV d) := fun j u hj => (cells_box hk1 (0 + j)).trans (by simpa using hj)
    have HB1 := Lib.hid hB1
    have hz0 : w.heap.size < w1.heap.size := by omega
    have hS : ∀ u : World, Below w1.heap.size w1 u → u.rangeAt w.heap.size 0 (keyV d) := fun u hu j v hj => (hu.cell (p := ⟨w.heap.size, 0 + j, none⟩) hz0).trans (hkr j v hj)
    have HC : Hid (∀ u : World, Below w1.heap.size w1 u → u.heap[w.heap.size + 1]? = some (.cells (claimV zeroC).toArray 29 (0, 0))) := fun u hu => (hu.block _ hz1).trans hc1
    clear hlast hr hk1 hc1 hB1
    go_wp2_with fail
    have bd : Below w1.heap.size w1 w1.drew := (Below.refl _ _).drew
    refine wp_region_held (S := fun u => u.rangeAt w.heap.size 0 (keyV d)) (by kernel_rfl) ?_
    refine wpAnyH_take (i := 0) (v := .slice A l.length c) rfl (by kernel_rfl) (by kernel_rfl) (by kernel_rfl) (fun _ _ _ h => h) (Or.inl ⟨by rfl, fun w' hw' => by rfl⟩) (hS _ bd) ?_
    simp only [Act.put, List.getElem_toArray, List.getElem_cons_succ, List.getElem_cons_zero, List.setIfInBounds_toArray, List.set_cons_zero, List.set_cons_succ, List.size_toArray, List.length_cons, List.length_nil, Nat.reduceAdd, Array.replicate_succ, Array.replicate_zero, List.push_toArray, List.nil_append, List.cons_append]
    refine wpAnyH_take (i := 2) (v := keyA d) rfl (by kernel_rfl) (by kernel_rfl) (by kernel_rfl) (fun _ _ _ h => h) (Or.inl ⟨by rfl, fun w' hw' => ex_load 26 _ rfl (p := ⟨w.heap.size, 0, none⟩) rfl (run_loadVar_mid w' _ _ _ (keyV d) _ hw' Tryz.underlying26 rfl (by rw [keyV_length hkd]; exact sizeKey))⟩) (hS _ bd) ?_
    simp only [Act.put, List.getElem_toArray, List.getElem_cons_succ, List.getElem_cons_zero, List.setIfInBounds_toArray, List.set_cons_zero, List.set_cons_succ, List.size_toArray, List.length_cons, List.length_nil, Nat.reduceAdd, Array.replicate_succ, Array.replicate_zero, List.push_toArray, List.nil_append, List.cons_append]
    refine wpAnyH_all (rs := [1, 7]) (by kernel_rfl) (by simp) ?_
    intro q hq
    simp only [List.mem_cons, List.not_mem_nil, or_false] at hq
    have hE : ∀ (u : World) (args : Array Value), (callFunc 13 args).run Tryz.prog u = .ok (.enter 13 args) u := fun u args => enters_of Tryz.func13 (by kernel_rfl) rfl args u
    rcases hq with rfl | rfl
    · refine wpOp_call _ rfl (by kernel_rfl) (ex_callFn (f := 13) (args := #[.slice A l.length c]) rfl rfl (fun args w => hE w args) (by simp only [List.map_toArray, List.map_cons, List.map_nil]; rfl)) ?_
      refine (HL.out w1.drew (HB1.out.trans (bd.mono HB1.out.size))).mono ?_
      rintro e w2 ⟨hbw2, rfl, nn, hnn, hM⟩
      have b2 : Below w1.heap.size w1 w2 := bd.trans (hbw2.mono bd.size)
      refine ⟨_, rfl, hS _ b2, ?_⟩
      simp only [Act.put, List.getElem_toArray, List.getElem_cons_succ, List.getElem_cons_zero, List.setIfInBounds_toArray, List.set_cons_zero, List.set_cons_succ, List.size_toArray, List.length_cons, List.length_nil, Nat.reduceAdd, Array.replicate_succ, Array.replicate_zero, List.push_toArray, List.nil_append, List.cons_append]
      refine wpAnyH_all (rs := [3, 7]) (by kernel_rfl) (by simp) ?_
      intro q hq
      simp only [List.mem_cons, List.not_mem_nil, or_false] at hq
      have hz2 := b2.size
      rcases hq with rfl | rfl
      · refine wpOp_val _ rfl (by kernel_rfl) (ex_lookup2 43 _ _ rfl (vm := .map (some w1.drew.heap.size)) (vk := keyA d) rfl rfl (MapV.look2 keyEnc Tryz.underlying43 zeroC_run hM hkd)) ?_
        rw [HV.out.1, HV.out.2]
        refine ⟨hS _ b2, ?_⟩
        simp only [Act.put, List.getElem_toArray, List.getElem_cons_succ, List.getElem_cons_zero, List.setIfInBounds_toArray, List.set_cons_zero, List.set_cons_succ, List.size_toArray, List.length_cons, List.length_nil, Nat.reduceAdd, Array.replicate_succ, Array.replicate_zero, List.push_toArray, List.nil_append, List.cons_append]
        refine wpAnyH_take (i := 4) (v := .tuple #[claimA x, .bool sm]) rfl (by kernel_rfl) (by kernel_rfl) (by kernel_rfl) (fun _ _ _ h => h) (Or.inl ⟨by rfl, fun w' hw' => by rfl⟩) (hS _ b2) ?_
        simp only [Act.put, List.getElem_toArray, List.getElem_cons_succ, List.getElem_cons_zero, List.setIfInBounds_toArray, List.set_cons_zero, List.set_cons_succ, List.size_toArray, List.length_cons, List.length_nil, Nat.reduceAdd, Array.replicate_succ, Array.replicate_zero, List.push_toArray, List.nil_append, List.cons_append]
        refine wpAnyH_take (i := 5) (v := claimA x) rfl (by kernel_rfl) (by kernel_rfl) (by kernel_rfl) (fun _ _ _ h => h) (Or.inl ⟨by rfl, fun w' hw' => by rfl⟩) (hS _ b2) ?_
        simp only [Act.put, List.getElem_toArray, List.getElem_cons_succ, List.getElem_cons_zero, List.setIfInBounds_toArray, List.set_cons_zero, List.set_cons_succ, List.size_toArray, List.length_cons, List.length_nil, Nat.reduceAdd, Array.replicate_succ, Array.replicate_zero, List.push_toArray, List.nil_append, List.cons_append]
        refine wpAnyH_take (i := 6) (v := .bool sm) rfl (by kernel_rfl) (by kernel_rfl) (by kernel_rfl) (fun _ _ _ h => h) (Or.inl ⟨by rfl, fun w' hw' => by rfl⟩) (hS _ b2) ?_
        simp only [Act.put, List.getElem_toArray, List.getElem_cons_succ, List.getElem_cons_zero, List.setIfInBounds_toArray, List.set_cons_zero, List.set_cons_succ, List.size_toArray, List.length_cons, List.length_nil, Nat.reduceAdd, Array.replicate_succ, Array.replicate_zero, List.push_toArray, List.nil_append, List.cons_append]
        refine wpAnyH_all (rs := [7]) (by kernel_rfl) (by simp) ?_
        intro q hq
        obtain rfl : q = 7 := by simpa using hq
        refine wpOp_val _ rfl (by kernel_rfl) (ex_alloc (cs := (claimV zeroC).toArray) rfl (zeroC_run _)) ?_
        refine ⟨hS _ (b2.alloc b2.size _), ?_⟩
        simp only [Act.put, List.getElem_toArray, List.getElem_cons_succ, List.getElem_cons_zero, List.setIfInBounds_toArray, List.set_cons_zero, List.set_cons_succ, List.size_toArray, List.length_cons, List.length_nil, Nat.reduceAdd, Array.replicate_succ, Array.replicate_zero, List.push_toArray, List.nil_append, List.cons_append]
        refine wpAnyH_all (rs := [8]) (by kernel_rfl) (by simp) ?_
        intro q hq
        obtain rfl : q = 8 := by simpa using hq
        refine wpOp_skip _ rfl (by kernel_rfl) (ex_storeRow 29 _ _ rfl w2.heap.size (claimV x).toArray rfl rfl 29 (claimV zeroC).toArray (heap_alloc_new _ _) (claimV_info HLO.out) (by rw [List.size_toArray, List.size_toArray, hxl]; rfl) (by simpa using claimV_one x)) ?_
        have b9 : Below w1.heap.size w1 ((w2.alloc (.cells (claimV zeroC).toArray 29)).setRow w2.heap.size (claimV x).toArray) := below_setRow' (b2.alloc b2.size _) (by have := b2.size; omega) _
        have g9 : ((w2.alloc (.cells (claimV zeroC).toArray 29)).setRow w2.heap.size (claimV x).toArray).heap[w2.heap.size]? = some (.cells (claimV x).toArray 29 (0, 0)) := setRow_heap _ _ _ _ _ _ (heap_alloc_new _ _)
        refine ⟨hS _ b9, ?_⟩
        simp only [Act.put, List.getElem_toArray, List.getElem_cons_succ, List.getElem_cons_zero, List.setIfInBounds_toArray, List.set_cons_zero, List.set_cons_succ, List.size_toArray, List.length_cons, List.length_nil, Nat.reduceAdd, Array.replicate_succ, Array.replicate_zero, List.push_toArray, List.nil_append, List.cons_append]
        refine wpAnyH_take (i := 9) (v := .bool sm) rfl (by kernel_rfl) (by kernel_rfl) (by kernel_rfl) (fun _ _ _ h => h) (Or.inl ⟨by rfl, fun w' hw' => by rfl⟩) (hS _ b9) ?_
        simp only [Act.put, List.getElem_toArray, List.getElem_cons_succ, List.getElem_cons_zero, List.setIfInBounds_toArray, List.set_cons_zero, List.set_cons_succ, List.size_toArray, List.length_cons, List.length_nil, Nat.reduceAdd, Array.replicate_succ, Array.replicate_zero, List.push_toArray, List.nil_append, List.cons_append]
        refine wpAnyH_done (by kernel_rfl) ?_ _
        have C9 := Lib.hid (HC.out _ b9)
        have B9 := Lib.hid (HB1.out.trans (b9.mono HB1.out.size))
        have G9 := Lib.hid g9
        have gne : w.heap.size + 1 ≠ w2.heap.size := by omega
        clear g9 b9
        generalize (w2.alloc (.cells (claimV zeroC).toArray 29)).setRow w2.heap.size (claimV x).toArray = W9 at *
        go_wp2_with (first
          | (refine wpList_load_row rfl 29 _ rfl (w2.heap.size) rfl 29 _ (0, 0) _ G9.out Tryz.underlying29 rfl (claimV_info HLO.out) ?_)
          | (refine wp_storeN (B := w.heap.size) (w0 := w) rfl 29 _ _ rfl (w.heap.size + 1) _ rfl rfl 29 _ C9.out (claimV_info HLO.out) (by rw [List.size_toArray, List.size_toArray, hxl]; rfl) (by simpa using claimV_one x) B9.out (by omega) ?_; intro W4 hbW4 hW4 _))
        exact bodyPost_ret (results_row_tmp Tryz.results5 _ _ rfl rfl (run_loadVar_row (P := Tryz.prog) _ (w.heap.size + 1) 29 29 _ (0, 0) _ hW4 Tryz.underlying29 rfl (claimV_info HLO.out))) rfl ⟨hbW4, by rw [HGX.out.1, HGX.out.2]; rfl⟩
      · refine wpOp_val _ rfl (by kernel_rfl) (ex_alloc (cs := (claimV zeroC).toArray) rfl (zeroC_run _)) ?_
        refine ⟨hS _ (b2.alloc b2.size _), ?_⟩
        simp only [Act.put, List.getElem_toArray, List.getElem_cons_succ, List.getElem_cons_zero, List.setIfInBounds_toArray, List.set_cons_zero, List.set_cons_succ, List.size_toArray, List.length_cons, List.length_nil, Nat.reduceAdd, Array.replicate_succ, Array.replicate_zero, List.push_toArray, List.nil_append, List.cons_append]
        refine wpAnyH_all (rs := [3]) (by kernel_rfl) (by simp) ?_
        intro q hq
        obtain rfl : q = 3 := by simpa using hq
        refine wpOp_val _ rfl (by kernel_rfl) (ex_lookup2 43 _ _ rfl (vm := .map (some w1.drew.heap.size)) (vk := keyA d) rfl rfl (MapV.look2 keyEnc Tryz.underlying43 zeroC_run (hM.alloc _) hkd)) ?_
        rw [HV.out.1, HV.out.2]
        refine ⟨hS _ (b2.alloc b2.size _), ?_⟩
        simp only [Act.put, List.getElem_toArray, List.getElem_cons_succ, List.getElem_cons_zero, List.setIfInBounds_toArray, List.set_cons_zero, List.set_cons_succ, List.size_toArray, List.length_cons, List.length_nil, Nat.reduceAdd, Array.replicate_succ, Array.replicate_zero, List.push_toArray, List.nil_append, List.cons_append]
        refine wpAnyH_take (i := 4) (v := .tuple #[claimA x, .bool sm]) rfl (by kernel_rfl) (by kernel_rfl) (by kernel_rfl) (fun _ _ _ h => h) (Or.inl ⟨by rfl, fun w' hw' => by rfl⟩) (hS _ (b2.alloc b2.size _)) ?_
        simp only [Act.put, List.getElem_toArray, List.getElem_cons_succ, List.getElem_cons_zero, List.setIfInBounds_toArray, List.set_cons_zero, List.set_cons_succ, List.size_toArray, List.length_cons, List.length_nil, Nat.reduceAdd, Array.replicate_succ, Array.replicate_zero, List.push_toArray, List.nil_append, List.cons_append]
        refine wpAnyH_take (i := 5) (v := claimA x) rfl (by kernel_rfl) (by kernel_rfl) (by kernel_rfl) (fun _ _ _ h => h) (Or.inl ⟨by rfl, fun w' hw' => by rfl⟩) (hS _ (b2.alloc b2.size _)) ?_
        simp only [Act.put, List.getElem_toArray, List.getElem_cons_succ, List.getElem_cons_zero, List.setIfInBounds_toArray, List.set_cons_zero, List.set_cons_succ, List.size_toArray, List.length_cons, List.length_nil, Nat.reduceAdd, Array.replicate_succ, Array.replicate_zero, List.push_toArray, List.nil_append, List.cons_append]
        refine wpAnyH_take (i := 6) (v := .bool sm) rfl (by kernel_rfl) (by kernel_rfl) (by kernel_rfl) (fun _ _ _ h => h) (Or.inl ⟨by rfl, fun w' hw' => by rfl⟩) (hS _ (b2.alloc b2.size _)) ?_
        simp only [Act.put, List.getElem_toArray, List.getElem_cons_succ, List.getElem_cons_zero, List.setIfInBounds_toArray, List.set_cons_zero, List.set_cons_succ, List.size_toArray, List.length_cons, List.length_nil, Nat.reduceAdd, Array.replicate_succ, Array.replicate_zero, List.push_toArray, List.nil_append, List.cons_append]
        refine wpAnyH_all (rs := [8]) (by kernel_rfl) (by simp) ?_
        intro q hq
        obtain rfl : q = 8 := by simpa using hq
        refine wpOp_skip _ rfl (by kernel_rfl) (ex_storeRow 29 _ _ rfl w2.heap.size (claimV x).toArray rfl rfl 29 (claimV zeroC).toArray (heap_alloc_new _ _) (claimV_info HLO.out) (by rw [List.size_toArray, List.size_toArray, hxl]; rfl) (by simpa using claimV_one x)) ?_
        have b9 : Below w1.heap.size w1 ((w2.alloc (.cells (claimV zeroC).toArray 29)).setRow w2.heap.size (claimV x).toArray) := below_setRow' (b2.alloc b2.size _) (by have := b2.size; omega) _
        have g9 : ((w2.alloc (.cells (claimV zeroC).toArray 29)).setRow w2.heap.size (claimV x).toArray).heap[w2.heap.size]? = some (.cells (claimV x).toArray 29 (0, 0)) := setRow_heap _ _ _ _ _ _ (heap_alloc_new _ _)
        refine ⟨hS _ b9, ?_⟩
        simp only [Act.put, List.getElem_toArray, List.getElem_cons_succ, List.getElem_cons_zero, List.setIfInBounds_toArray, List.set_cons_zero, List.set_cons_succ, List.size_toArray, List.length_cons, List.length_nil, Nat.reduceAdd, Array.replicate_succ, Array.replicate_zero, List.push_toArray, List.nil_append, List.cons_append]
        refine wpAnyH_take (i := 9) (v := .bool sm) rfl (by kernel_rfl) (by kernel_rfl) (by kernel_rfl) (fun _ _ _ h => h) (Or.inl ⟨by rfl, fun w' hw' => by rfl⟩) (hS _ b9) ?_
        simp only [Act.put, List.getElem_toArray, List.getElem_cons_succ, List.getElem_cons_zero, List.setIfInBounds_toArray, List.set_cons_zero, List.set_cons_succ, List.size_toArray, List.length_cons, List.length_nil, Nat.reduceAdd, Array.replicate_succ, Array.replicate_zero, List.push_toArray, List.nil_append, List.cons_append]
        refine wpAnyH_done (by kernel_rfl) ?_ _
        have C9 := Lib.hid (HC.out _ b9)
        have B9 := Lib.hid (HB1.out.trans (b9.mono HB1.out.size))
        have G9 := Lib.hid g9
        have gne : w.heap.size + 1 ≠ w2.heap.size := by omega
        clear g9 b9
        generalize (w2.alloc (.cells (claimV zeroC).toArray 29)).setRow w2.heap.size (claimV x).toArray = W9 at *
        go_wp2_with (first
          | (refine wpList_load_row rfl 29 _ rfl (w2.heap.size) rfl 29 _ (0, 0) _ G9.out Tryz.underlying29 rfl (claimV_info HLO.out) ?_)
          | (refine wp_storeN (B := w.heap.size) (w0 := w) rfl 29 _ _ rfl (w.heap.size + 1) _ rfl rfl 29 _ C9.out (claimV_info HLO.out) (by rw [List.size_toArray, List.size_toArray, hxl]; rfl) (by simpa using claimV_one x) B9.out (by omega) ?_; intro W4 hbW4 hW4 _))
        exact bodyPost_ret (results_row_tmp Tryz.results5 _ _ rfl rfl (run_loadVar_row (P := Tryz.prog) _ (w.heap.size + 1) 29 29 _ (0, 0) _ hW4 Tryz.underlying29 rfl (claimV_info HLO.out))) rfl ⟨hbW4, by rw [HGX.out.1, HGX.out.2]; rfl⟩
    · refine wpOp_val _ rfl (by kernel_rfl) (ex_alloc (cs := (claimV zeroC).toArray) rfl (zeroC_run _)) ?_
      refine ⟨hS _ (bd.alloc bd.size _), ?_⟩
      simp only [Act.put, List.getElem_toArray, List.getElem_cons_succ, List.getElem_cons_zero, List.setIfInBounds_toArray, List.set_cons_zero, List.set_cons_succ, List.size_toArray, List.length_cons, List.length_nil, Nat.reduceAdd, Array.replicate_succ, Array.replicate_zero, List.push_toArray, List.nil_append, List.cons_append]
      have ba : Below w1.heap.size w1 (w1.drew.alloc (.cells (claimV zeroC).toArray 29)) := bd.alloc (Nat.le_refl _) _
      refine wpAnyH_all (rs := [1]) (by kernel_rfl) (by simp) ?_
      intro q hq
      obtain rfl : q = 1 := by simpa using hq
      refine wpOp_call _ rfl (by kernel_rfl) (ex_callFn (f := 13) (args := #[.slice A l.length c]) rfl rfl (fun args w => hE w args) (by simp only [List.map_toArray, List.map_cons, List.map_nil]; rfl)) ?_
      refine (HL.out (w1.drew.alloc (.cells (claimV zeroC).toArray 29)) (HB1.out.trans (ba.mono HB1.out.size))).mono ?_
      rintro e w2 ⟨hbw2, rfl, nn, hnn, hM⟩
      have b2 : Below w1.heap.size w1 w2 := ba.trans (hbw2.mono ba.size)
      refine ⟨_, rfl, hS _ b2, ?_⟩
      simp only [Act.put, List.getElem_toArray, List.getElem_cons_succ, List.getElem_cons_zero, List.setIfInBounds_toArray, List.set_cons_zero, List.set_cons_succ, List.size_toArray, List.length_cons, List.length_nil, Nat.reduceAdd, Array.replicate_succ, Array.replicate_zero, List.push_toArray, List.nil_append, List.cons_append]
      have hg2 : w2.heap[w1.heap.size]? = some (.cells (claimV zeroC).toArray 29 (0, 0)) := (hbw2.block _ (by simp)).trans (heap_alloc_new w1.drew _)
      refine wpAnyH_all (rs := [3]) (by kernel_rfl) (by simp) ?_
      intro q hq
      obtain rfl : q = 3 := by simpa using hq
      refine wpOp_val _ rfl (by kernel_rfl) (ex_lookup2 43 _ _ rfl (vm := .map (some (w1.drew.alloc (.cells (claimV zeroC).toArray 29)).heap.size)) (vk := keyA d) rfl rfl (MapV.look2 keyEnc Tryz.underlying43 zeroC_run hM hkd)) ?_
      rw [HV.out.1, HV.out.2]
      refine ⟨hS _ b2, ?_⟩
      simp only [Act.put, List.getElem_toArray, List.getElem_cons_succ, List.getElem_cons_zero, List.setIfInBounds_toArray, List.set_cons_zero, List.set_cons_succ, List.size_toArray, List.length_cons, List.length_nil, Nat.reduceAdd, Array.replicate_succ, Array.replicate_zero, List.push_toArray, List.nil_append, List.cons_append]
      refine wpAnyH_take (i := 4) (v := .tuple #[claimA x, .bool sm]) rfl (by kernel_rfl) (by kernel_rfl) (by kernel_rfl) (fun _ _ _ h => h) (Or.inl ⟨by rfl, fun w' hw' => by rfl⟩) (hS _ b2) ?_
      simp only [Act.put, List.getElem_toArray, List.getElem_cons_succ, List.getElem_cons_zero, List.setIfInBounds_toArray, List.set_cons_zero, List.set_cons_succ, List.size_toArray, List.length_cons, List.length_nil, Nat.reduceAdd, Array.replicate_succ, Array.replicate_zero, List.push_toArray, List.nil_append, List.cons_append]
      refine wpAnyH_take (i := 5) (v := claimA x) rfl (by kernel_rfl) (by kernel_rfl) (by kernel_rfl) (fun _ _ _ h => h) (Or.inl ⟨by rfl, fun w' hw' => by rfl⟩) (hS _ b2) ?_
      simp only [Act.put, List.getElem_toArray, List.getElem_cons_succ, List.getElem_cons_zero, List.setIfInBounds_toArray, List.set_cons_zero, List.set_cons_succ, List.size_toArray, List.length_cons, List.length_nil, Nat.reduceAdd, Array.replicate_succ, Array.replicate_zero, List.push_toArray, List.nil_append, List.cons_append]
      refine wpAnyH_take (i := 6) (v := .bool sm) rfl (by kernel_rfl) (by kernel_rfl) (by kernel_rfl) (fun _ _ _ h => h) (Or.inl ⟨by rfl, fun w' hw' => by rfl⟩) (hS _ b2) ?_
      simp only [Act.put, List.getElem_toArray, List.getElem_cons_succ, List.getElem_cons_zero, List.setIfInBounds_toArray, List.set_cons_zero, List.set_cons_succ, List.size_toArray, List.length_cons, List.length_nil, Nat.reduceAdd, Array.replicate_succ, Array.replicate_zero, List.push_toArray, List.nil_append, List.cons_append]
      refine wpAnyH_all (rs := [8]) (by kernel_rfl) (by simp) ?_
      intro q hq
      obtain rfl : q = 8 := by simpa using hq
      refine wpOp_skip _ rfl (by kernel_rfl) (ex_storeRow 29 _ _ rfl w1.heap.size (claimV x).toArray rfl rfl 29 (claimV zeroC).toArray hg2 (claimV_info HLO.out) (by rw [List.size_toArray, List.size_toArray, hxl]; rfl) (by simpa using claimV_one x)) ?_
      have b9 : Below w1.heap.size w1 ((w2).setRow w1.heap.size (claimV x).toArray) := below_setRow' b2 (Nat.le_refl _) _
      have g9 : ((w2).setRow w1.heap.size (claimV x).toArray).heap[w1.heap.size]? = some (.cells (claimV x).toArray 29 (0, 0)) := setRow_heap _ _ _ _ _ _ hg2
      refine ⟨hS _ b9, ?_⟩
      simp only [Act.put, List.getElem_toArray, List.getElem_cons_succ, List.getElem_cons_zero, List.setIfInBounds_toArray, List.set_cons_zero, List.set_cons_succ, List.size_toArray, List.length_cons, List.length_nil, Nat.reduceAdd, Array.replicate_succ, Array.replicate_zero, List.push_toArray, List.nil_append, List.cons_append]
      refine wpAnyH_take (i := 9) (v := .bool sm) rfl (by kernel_rfl) (by kernel_rfl) (by kernel_rfl) (fun _ _ _ h => h) (Or.inl ⟨by rfl, fun w' hw' => by rfl⟩) (hS _ b9) ?_
      simp only [Act.put, List.getElem_toArray, List.getElem_cons_succ, List.getElem_cons_zero, List.setIfInBounds_toArray, List.set_cons_zero, List.set_cons_succ, List.size_toArray, List.length_cons, List.length_nil, Nat.reduceAdd, Array.replicate_succ, Array.replicate_zero, List.push_toArray, List.nil_append, List.cons_append]
      refine wpAnyH_done (by kernel_rfl) ?_ _
      have C9 := Lib.hid (HC.out _ b9)
      have B9 := Lib.hid (HB1.out.trans (b9.mono HB1.out.size))
      have G9 := Lib.hid g9
      have gne : w.heap.size + 1 ≠ w1.heap.size := by omega
      clear g9 b9
      generalize (w2).setRow w1.heap.size (claimV x).toArray = W9 at *
      go_wp2_with (first
        | (refine wpList_load_row rfl 29 _ rfl (w1.heap.size) rfl 29 _ (0, 0) _ G9.out Tryz.underlying29 rfl (claimV_info HLO.out) ?_)
        | (refine wp_storeN (B := w.heap.size) (w0 := w) rfl 29 _ _ rfl (w.heap.size + 1) _ rfl rfl 29 _ C9.out (claimV_info HLO.out) (by rw [List.size_toArray, List.size_toArray, hxl]; rfl) (by simpa using claimV_one x) B9.out (by omega) ?_; intro W4 hbW4 hW4 _))
      exact bodyPost_ret (results_row_tmp Tryz.results5 _ _ rfl rfl (run_loadVar_row (P := Tryz.prog) _ (w.heap.size + 1) 29 29 _ (0, 0) _ hW4 Tryz.underlying29 rfl (claimV_info HLO.out))) rfl ⟨hbW4, by rw [HGX.out.1, HGX.out.2]; rfl⟩
end Go.Proofs.YtfjmbcljohobeaaGreatDoor
