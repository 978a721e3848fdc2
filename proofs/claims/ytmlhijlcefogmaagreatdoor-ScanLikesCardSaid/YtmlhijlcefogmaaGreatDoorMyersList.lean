/-
  What the search's list gives: the list of d, made again of the one that was kept. Conditions: rows of at most 100000 numbers, kept where the search's box says.
-/
import Derived.Test.YtmlhijlcefogmaaGreatDoorMerged12
import Derived.WalkSpells
set_option linter.unusedVariables false
set_option linter.unusedSimpArgs false
set_option maxHeartbeats 4000000
set_option maxRecDepth 100000
namespace Go.Proofs.YtmlhijlcefogmaaGreatDoor
open Go.RowKit Go.Maps Go.Shelf

theorem list_any (a b : List Int) (B M base : Nat) (A A' : Option Addr) (ca cb d : Nat) (w0 w : World) (hbw : base ≤ w.heap.size) (hBb : base ≤ B) (hMb : base ≤ M) (hBM : B ≠ M) (hsa : Sl w0 base A a.length 1 (i32V a)) (hsb : Sl w0 base A' b.length 1 (i32V b))
    (hn : a.length ≤ 100000) (hm : b.length ≤ 100000) (hd : d ≤ C a b 0 0) (hC : BlkAt a b B M base A A' ca cb w0 w) :
    Calls Tryz.prog 85 #[.pointer (some ⟨B, 0, none⟩), .int .i64 (d : Int)] w (ListGives a b B M base A A' ca cb w0 w d) := by
  have hDb : C a b 0 0 ≤ 200000 := by
    have h1 := C_zero_i (a := a) (b := b) a.length (Nat.le_refl _)
    have h2 := C_end (a := a) (b := b) (i := a.length) (j := 0) rfl
    omega
  obtain ⟨fr, hfr⟩ : ∃ fr, d - d % 64 = fr := ⟨_, rfl⟩
  obtain ⟨D, hD⟩ : ∃ D, d - fr = D := ⟨_, rfl⟩
  have HFM := Lib.hid (show fr % 64 = 0 by omega)
  have HFD := Lib.hid (show fr + D = d by omega)
  have hfd1 : fr ≤ d := by omega
  have hD63 : D ≤ 63 := by omega
  have hmt : (d : Int).tmod 64 = ((d % 64 : Nat) : Int) := by rw [Int.tmod_eq_emod_of_nonneg (by omega)]; omega
  have hfw : IntKind.i64.wrap ((d : Int) - ((d % 64 : Nat) : Int)) = (fr : Int) := by rw [IntWalk.i64_in _ (by omega)]; omega
  obtain ⟨im, hmi, hm0, hm1, hm2⟩ := info_parts slsInfo
  have HDD := Lib.hid hD
  have enil : ∀ (w : World) (a : Option Addr) (n c n' c' : Nat), (binOp .eql 174 (.slice a n c) (.slice none n' c')).run Tryz.prog w = .ok (.bool a.isNone) w := fun w a n c n' c' => Lib.run_eql_slice_nil w _ _ a n c n' c' Tryz.underlying174
  clear hfr hD
  generalize d % 64 = dm at *
  rcases hC with hC | ⟨from', k', v3', hf64, hk64', hLA⟩
  · have HCO := Lib.hid hC
    clear hC
    go_enter Tryz.func85, Tryz.ntmps85
    obtain ⟨nn, mm, hnn, hMv, hsv⟩ := HCO.out.map
    obtain ⟨g0, cc, hmm, hs0⟩ := hsv fr (by omega) HFM.out
    have hbox := HCO.out.box
    have hBz : B < w.heap.size := (Array.getElem?_eq_some_iff.1 hbox).1
    have cM : w.cell? ⟨B, 2, none⟩ = some (.map (some M)) := cells_box hbox 2
    have c3' : w.cell? ⟨B, 3, none⟩ = some (.slice none 0 0) := cells_box hbox 3
    have c4' : w.cell? ⟨B, 4, none⟩ = some (.int .i64 ((0 : Nat) : Int)) := cells_box hbox 4
    have hfresh := CostAt.fresh HCO.out hbw hBb hMb hBM hsa hsb (v := .slice (some ⟨g0, 0, none⟩) (fr + 1) cc) (fr := fr) ⟨g0, cc, rfl, hs0⟩
    have hbx0 := set_block (j := 4) hbox (.int .i64 (fr : Int))
    have hbx1 : (w.alloc (.cells #[.slice (some ⟨g0, 0, none⟩) (fr + 1) cc] 75)).heap[B]? = _ := (Below.heap_alloc w _ B hBz).trans hbox
    have hbx2 : ((w.setCell ⟨B, 4, none⟩ (.int .i64 (fr : Int))).alloc (.cells #[.slice (some ⟨g0, 0, none⟩) (fr + 1) cc] 75)).heap[B]? = _ := (Below.heap_alloc _ _ B (by simpa [World.setCell] using hBz)).trans hbx0
    have s4 : (w.alloc (.cells #[.slice (some ⟨g0, 0, none⟩) (fr + 1) cc] 75)).cell? ⟨B, 4, none⟩ = some (.int .i64 ((0 : Nat) : Int)) := cells_box hbx1 4
    have f4 : (w.alloc (.cells #[.slice (some ⟨g0, 0, none⟩) (fr + 1) cc] 75)).frozen? ⟨B, 4, none⟩ = false := frozen_of_row _ _ _ _ _ hbx1
    have s3 : ((w.setCell ⟨B, 4, none⟩ (.int .i64 (fr : Int))).alloc (.cells #[.slice (some ⟨g0, 0, none⟩) (fr + 1) cc] 75)).cell? ⟨B, 3, none⟩ = some (.slice none 0 0) := cells_box hbx2 3
    have f3 : ((w.setCell ⟨B, 4, none⟩ (.int .i64 (fr : Int))).alloc (.cells #[.slice (some ⟨g0, 0, none⟩) (fr + 1) cc] 75)).frozen? ⟨B, 3, none⟩ = false := frozen_of_row _ _ _ _ _ hbx2
    have HFR := Lib.hid hfresh; have HMV := Lib.hid hMv; have HMM := Lib.hid hmm; have HBX := Lib.hid hbx1
    have hIO : IntOk (fr : Int) := by unfold IntOk; simp [Lit.wf, IntKind.min, IntKind.max, IntKind.signed, IntKind.bits]; omega
    have HIO := Lib.hid hIO
    clear hsv hs0 hbox hfresh hMv hmm hbx0 hbx1 hbx2 hnn hIO
    go_upto_region 4 with (refine wp_mapGet1 rfl _ _ 173 rfl 75 intEnc Tryz.underlying173 (.slice none 0 0) (zeroSls _) rfl HMV.out (fr : Int) HIO.out rfl ?_; rw [HMM.out, Option.getD_some])
    obtain ⟨W3, hW3⟩ : ∃ W3, ((w.setCell ⟨B, 4, none⟩ (.int .i64 (fr : Int))).setCell ⟨B, 3, none⟩ (.slice (some ⟨w.heap.size, 0, none⟩) 1 1)).alloc (.cells #[.slice (some ⟨g0, 0, none⟩) (fr + 1) cc] 75) = W3 := ⟨_, rfl⟩
    have fk0 : ForKept B w W3 := by rw [← hW3]; exact ((ForKept.setCell _ _ _).trans (ForKept.setCell _ _ _)).trans (ForKept.of_below ((Below.refl _ _).alloc (Nat.le_refl _) _))
    have bl0 : Below base w W3 := by rw [← hW3]; exact (((Below.refl _ _).setCell hBb _).setCell hBb _).alloc (by simpa [World.setCell] using hbw) _
    have la0 := HFR.out
    rw [hW3] at la0
    have FK0 := Lib.hid fk0; have BL0 := Lib.hid bl0; have LA0 := Lib.hid la0
    have hwz : base ≤ W3.heap.size := Nat.le_trans hbw fk0.1
    clear s4 f4 s3 f3 c3' c4' cM fk0 bl0 la0
    rw [hW3]
    clear hW3


    have hwz' : base ≤ w.heap.size := hbw
    go_loopg [] (D + 1) (fun gk wr => ∃ k v3, D + 1 ≤ k + gk ∧ k ≤ 64 ∧ Hid (ListAt a b B M base A A' ca cb w0 fr k v3 wr) ∧ Hid (ForKept B w wr) ∧ Hid (Below base w wr))
    case atStart => exact ⟨1, _, by omega, by omega, LA0, FK0, BL0⟩
    case round =>
      obtain ⟨k, v3, hgk, hk64, HLA, HFK, HBL⟩ := hrel
      obtain ⟨X, c3, rfl, hXbs, hXB, hXM, _⟩ := row_noI32 HLA.out
      obtain ⟨vs, hown, hls⟩ := HLA.out.row
      have hk0 := HLA.out.pos
      have hvl : vs.length = k := by rw [hown.1, Nat.mul_one]
      have hbox := HLA.out.cost.box
      have hBz : B < wr.heap.size := (Array.getElem?_eq_some_iff.1 hbox).1
      have hXz : X < wr.heap.size := (hown.lt X (by simp [Value.ownBlock])).2
      have hbw : base ≤ wr.heap.size := Nat.le_trans hwz' HFK.out.1
      have c3' : wr.cell? ⟨B, 3, none⟩ = some (.slice (some ⟨X, 0, none⟩) k c3) := cells_box hbox 3
      have eD : IntKind.i64.wrap ((d : Int) - (fr : Int)) = (D : Int) := by have := HFD.out; rw [IntWalk.i64_in _ (by omega)]; omega
      by_cases hkD : k ≤ D
      · have t1 : (k : Int) ≤ (D : Int) := by omega
        obtain ⟨q, hq⟩ : ∃ q, k = q + 1 := ⟨k - 1, by omega⟩
        obtain ⟨e, he⟩ : ∃ e, fr + q = e := ⟨_, rfl⟩
        obtain ⟨v, hvq, g1, c1, rfl, hsl1⟩ := hls q (by omega)
        rw [he] at hvq hsl1
        have cq : wr.cell? ⟨X, q, none⟩ = some (.slice (some ⟨g1, 0, none⟩) (e + 1) c1) := (hown.cellAt q (by omega)).trans hvq
        have hnx := next_any a b B A A' (some ⟨g1, 0, none⟩) ca cb c1 e wr.drew hBz (cells_box hbox 0) (cells_box hbox 1) HLA.out.cost.ra HLA.out.cost.rb hsl1 hn hm (by omega)
        have HNX := Lib.hid hnx; have HC3 := Lib.hid c3'; have HCQ := Lib.hid cq; have HBZ := Lib.hid hBz; have HXZ := Lib.hid hXz; have HBW := Lib.hid hbw; have HOWN := Lib.hid hown; have HLS := Lib.hid hls; have HVL := Lib.hid hvl
        have HXB := Lib.hid hXB; have HXBs := Lib.hid hXbs
        have HEK := Lib.hid (show fr + k = e + 1 by omega)
        have HQK := Lib.hid (show q < k by omega)
        have EADD := Lib.hid (show IntKind.i64.wrap ((fr : Int) + (k : Int)) = ((e + 1 : Nat) : Int) by rw [IntWalk.i64_in _ (by omega)]; omega)
        have ESUB := Lib.hid (show IntKind.i64.wrap ((k : Int) - 1) = (q : Int) by rw [IntWalk.i64_in _ (by omega)]; omega)
        clear hnx cq hls hvl hown hbox hsl1 hvq he hq hbw hXz
        go_upto_region 5 with fail
        clear c3' t1 eD
        refine wp_region_N 27 (fun u => u.cell? ⟨B, 3, none⟩ = some (.slice (some ⟨X, 0, none⟩) k c3) ∧ u.cell? ⟨X, q, none⟩ = some (.slice (some ⟨g1, 0, none⟩) (e + 1) c1)) (by kernel_rfl) ?_
        have bd : Below wr.heap.size wr wr.drew := (Below.refl _ _).drew
        have hF0 : wr.drew.cell? ⟨B, 3, none⟩ = some (.slice (some ⟨X, 0, none⟩) k c3) ∧ wr.drew.cell? ⟨X, q, none⟩ = some (.slice (some ⟨g1, 0, none⟩) (e + 1) c1) := ⟨HC3.out, HCQ.out⟩
        have hE1 : ∀ (u : World) (args : Array Value), (callFunc 131 args).run Tryz.prog u = .ok (.enter 131 args) u := fun u args => enters_of Tryz.func131 (by kernel_rfl) rfl args u
        refine wpAnyN_takeW (i := 0) (v := (.pointer (some ⟨B, 0, none⟩))) (by kernel_rfl) rfl (by kernel_rfl) (by kernel_rfl) (by kernel_rfl) (fun _ _ _ h => h) (Or.inl ⟨by rfl, fun w' _ => by rfl⟩) ?_
        simp only [Act.put, List.getElem_toArray, List.getElem_cons_succ, List.getElem_cons_zero, List.setIfInBounds_toArray, List.set_cons_zero, List.set_cons_succ, List.size_toArray, List.length_cons, List.length_nil, Nat.reduceAdd, Array.replicate_succ, Array.replicate_zero, List.push_toArray, List.nil_append, List.cons_append]
        refine wpAnyN_takeW (i := 1) (v := (.pointer (some ⟨B, 0, none⟩))) (by kernel_rfl) rfl (by kernel_rfl) (by kernel_rfl) (by kernel_rfl) (fun _ _ _ h => h) (Or.inl ⟨by rfl, fun w' _ => by rfl⟩) ?_
        simp only [Act.put, List.getElem_toArray, List.getElem_cons_succ, List.getElem_cons_zero, List.setIfInBounds_toArray, List.set_cons_zero, List.set_cons_succ, List.size_toArray, List.length_cons, List.length_nil, Nat.reduceAdd, Array.replicate_succ, Array.replicate_zero, List.push_toArray, List.nil_append, List.cons_append]
        refine wpAnyN_takeW (i := 2) (v := (.pointer (some ⟨B, 0, none⟩))) (by kernel_rfl) rfl (by kernel_rfl) (by kernel_rfl) (by kernel_rfl) (fun _ _ _ h => h) (Or.inl ⟨by rfl, fun w' _ => by rfl⟩) ?_
        simp only [Act.put, List.getElem_toArray, List.getElem_cons_succ, List.getElem_cons_zero, List.setIfInBounds_toArray, List.set_cons_zero, List.set_cons_succ, List.size_toArray, List.length_cons, List.length_nil, Nat.reduceAdd, Array.replicate_succ, Array.replicate_zero, List.push_toArray, List.nil_append, List.cons_append]
        refine wpAnyN_takeW (i := 3) (v := (.pointer (some ⟨B, 3, none⟩))) (by kernel_rfl) rfl (by kernel_rfl) (by kernel_rfl) (by kernel_rfl) (fun _ _ _ h => h) (Or.inl ⟨by rfl, fun w' _ => by rfl⟩) ?_
        simp only [Act.put, List.getElem_toArray, List.getElem_cons_succ, List.getElem_cons_zero, List.setIfInBounds_toArray, List.set_cons_zero, List.set_cons_succ, List.size_toArray, List.length_cons, List.length_nil, Nat.reduceAdd, Array.replicate_succ, Array.replicate_zero, List.push_toArray, List.nil_append, List.cons_append]
        refine wpAnyN_take (i := 4) (v := (.slice (some ⟨X, 0, none⟩) k c3)) (by kernel_rfl) (by kernel_rfl) rfl (by kernel_rfl) (by kernel_rfl) (by kernel_rfl) (fun _ _ _ h => h) (Or.inl ⟨by rfl, fun w' hw' => ex_load1 174 _ rfl (p := ⟨B, 3, none⟩) rfl Tryz.underlying174 rfl hw'.1⟩) hF0 ?_
        simp only [Act.put, List.getElem_toArray, List.getElem_cons_succ, List.getElem_cons_zero, List.setIfInBounds_toArray, List.set_cons_zero, List.set_cons_succ, List.size_toArray, List.length_cons, List.length_nil, Nat.reduceAdd, Array.replicate_succ, Array.replicate_zero, List.push_toArray, List.nil_append, List.cons_append]
        refine wpAnyN_takeW (i := 5) (v := (.pointer (some ⟨B, 0, none⟩))) (by kernel_rfl) rfl (by kernel_rfl) (by kernel_rfl) (by kernel_rfl) (fun _ _ _ h => h) (Or.inl ⟨by rfl, fun w' _ => by rfl⟩) ?_
        simp only [Act.put, List.getElem_toArray, List.getElem_cons_succ, List.getElem_cons_zero, List.setIfInBounds_toArray, List.set_cons_zero, List.set_cons_succ, List.size_toArray, List.length_cons, List.length_nil, Nat.reduceAdd, Array.replicate_succ, Array.replicate_zero, List.push_toArray, List.nil_append, List.cons_append]
        refine wpAnyN_takeW (i := 6) (v := (.int .i64 (fr : Int))) (by kernel_rfl) rfl (by kernel_rfl) (by kernel_rfl) (by kernel_rfl) (fun _ _ _ h => h) (Or.inl ⟨by rfl, fun w' _ => by rfl⟩) ?_
        simp only [Act.put, List.getElem_toArray, List.getElem_cons_succ, List.getElem_cons_zero, List.setIfInBounds_toArray, List.set_cons_zero, List.set_cons_succ, List.size_toArray, List.length_cons, List.length_nil, Nat.reduceAdd, Array.replicate_succ, Array.replicate_zero, List.push_toArray, List.nil_append, List.cons_append]
        refine wpAnyN_takeW (i := 7) (v := (.pointer (some ⟨B, 0, none⟩))) (by kernel_rfl) rfl (by kernel_rfl) (by kernel_rfl) (by kernel_rfl) (fun _ _ _ h => h) (Or.inl ⟨by rfl, fun w' _ => by rfl⟩) ?_
        simp only [Act.put, List.getElem_toArray, List.getElem_cons_succ, List.getElem_cons_zero, List.setIfInBounds_toArray, List.set_cons_zero, List.set_cons_succ, List.size_toArray, List.length_cons, List.length_nil, Nat.reduceAdd, Array.replicate_succ, Array.replicate_zero, List.push_toArray, List.nil_append, List.cons_append]
        refine wpAnyN_takeW (i := 8) (v := (.pointer (some ⟨B, 0, none⟩))) (by kernel_rfl) rfl (by kernel_rfl) (by kernel_rfl) (by kernel_rfl) (fun _ _ _ h => h) (Or.inl ⟨by rfl, fun w' _ => by rfl⟩) ?_
        simp only [Act.put, List.getElem_toArray, List.getElem_cons_succ, List.getElem_cons_zero, List.setIfInBounds_toArray, List.set_cons_zero, List.set_cons_succ, List.size_toArray, List.length_cons, List.length_nil, Nat.reduceAdd, Array.replicate_succ, Array.replicate_zero, List.push_toArray, List.nil_append, List.cons_append]
        refine wpAnyN_takeW (i := 9) (v := (.pointer (some ⟨B, 3, none⟩))) (by kernel_rfl) rfl (by kernel_rfl) (by kernel_rfl) (by kernel_rfl) (fun _ _ _ h => h) (Or.inl ⟨by rfl, fun w' _ => by rfl⟩) ?_
        simp only [Act.put, List.getElem_toArray, List.getElem_cons_succ, List.getElem_cons_zero, List.setIfInBounds_toArray, List.set_cons_zero, List.set_cons_succ, List.size_toArray, List.length_cons, List.length_nil, Nat.reduceAdd, Array.replicate_succ, Array.replicate_zero, List.push_toArray, List.nil_append, List.cons_append]
        refine wpAnyN_take (i := 10) (v := (.slice (some ⟨X, 0, none⟩) k c3)) (by kernel_rfl) (by kernel_rfl) rfl (by kernel_rfl) (by kernel_rfl) (by kernel_rfl) (fun _ _ _ h => h) (Or.inl ⟨by rfl, fun w' hw' => ex_load1 174 _ rfl (p := ⟨B, 3, none⟩) rfl Tryz.underlying174 rfl hw'.1⟩) hF0 ?_
        simp only [Act.put, List.getElem_toArray, List.getElem_cons_succ, List.getElem_cons_zero, List.setIfInBounds_toArray, List.set_cons_zero, List.set_cons_succ, List.size_toArray, List.length_cons, List.length_nil, Nat.reduceAdd, Array.replicate_succ, Array.replicate_zero, List.push_toArray, List.nil_append, List.cons_append]
        refine wpAnyN_takeW (i := 11) (v := (.int .i64 (k : Int))) (by kernel_rfl) rfl (by kernel_rfl) (by kernel_rfl) (by kernel_rfl) (fun _ _ _ h => h) (Or.inl ⟨by rfl, fun w' _ => ex_len 174 _ rfl rfl Tryz.underlying174⟩) ?_
        simp only [Act.put, List.getElem_toArray, List.getElem_cons_succ, List.getElem_cons_zero, List.setIfInBounds_toArray, List.set_cons_zero, List.set_cons_succ, List.size_toArray, List.length_cons, List.length_nil, Nat.reduceAdd, Array.replicate_succ, Array.replicate_zero, List.push_toArray, List.nil_append, List.cons_append]
        refine wpAnyN_takeW (i := 12) (v := (.int .i64 ((e + 1 : Nat) : Int))) (by kernel_rfl) rfl (by kernel_rfl) (by kernel_rfl) (by kernel_rfl) (fun _ _ _ h => h) (Or.inl ⟨by rfl, fun w' _ => by rw [← EADD.out]; rfl⟩) ?_
        simp only [Act.put, List.getElem_toArray, List.getElem_cons_succ, List.getElem_cons_zero, List.setIfInBounds_toArray, List.set_cons_zero, List.set_cons_succ, List.size_toArray, List.length_cons, List.length_nil, Nat.reduceAdd, Array.replicate_succ, Array.replicate_zero, List.push_toArray, List.nil_append, List.cons_append]
        refine wpAnyN_takeW (i := 13) (v := (.pointer (some ⟨B, 0, none⟩))) (by kernel_rfl) rfl (by kernel_rfl) (by kernel_rfl) (by kernel_rfl) (fun _ _ _ h => h) (Or.inl ⟨by rfl, fun w' _ => by rfl⟩) ?_
        simp only [Act.put, List.getElem_toArray, List.getElem_cons_succ, List.getElem_cons_zero, List.setIfInBounds_toArray, List.set_cons_zero, List.set_cons_succ, List.size_toArray, List.length_cons, List.length_nil, Nat.reduceAdd, Array.replicate_succ, Array.replicate_zero, List.push_toArray, List.nil_append, List.cons_append]
        refine wpAnyN_takeW (i := 14) (v := (.pointer (some ⟨B, 0, none⟩))) (by kernel_rfl) rfl (by kernel_rfl) (by kernel_rfl) (by kernel_rfl) (fun _ _ _ h => h) (Or.inl ⟨by rfl, fun w' _ => by rfl⟩) ?_
        simp only [Act.put, List.getElem_toArray, List.getElem_cons_succ, List.getElem_cons_zero, List.setIfInBounds_toArray, List.set_cons_zero, List.set_cons_succ, List.size_toArray, List.length_cons, List.length_nil, Nat.reduceAdd, Array.replicate_succ, Array.replicate_zero, List.push_toArray, List.nil_append, List.cons_append]
        refine wpAnyN_takeW (i := 15) (v := (.pointer (some ⟨B, 3, none⟩))) (by kernel_rfl) rfl (by kernel_rfl) (by kernel_rfl) (by kernel_rfl) (fun _ _ _ h => h) (Or.inl ⟨by rfl, fun w' _ => by rfl⟩) ?_
        simp only [Act.put, List.getElem_toArray, List.getElem_cons_succ, List.getElem_cons_zero, List.setIfInBounds_toArray, List.set_cons_zero, List.set_cons_succ, List.size_toArray, List.length_cons, List.length_nil, Nat.reduceAdd, Array.replicate_succ, Array.replicate_zero, List.push_toArray, List.nil_append, List.cons_append]
        refine wpAnyN_take (i := 16) (v := (.slice (some ⟨X, 0, none⟩) k c3)) (by kernel_rfl) (by kernel_rfl) rfl (by kernel_rfl) (by kernel_rfl) (by kernel_rfl) (fun _ _ _ h => h) (Or.inl ⟨by rfl, fun w' hw' => ex_load1 174 _ rfl (p := ⟨B, 3, none⟩) rfl Tryz.underlying174 rfl hw'.1⟩) hF0 ?_
        simp only [Act.put, List.getElem_toArray, List.getElem_cons_succ, List.getElem_cons_zero, List.setIfInBounds_toArray, List.set_cons_zero, List.set_cons_succ, List.size_toArray, List.length_cons, List.length_nil, Nat.reduceAdd, Array.replicate_succ, Array.replicate_zero, List.push_toArray, List.nil_append, List.cons_append]
        refine wpAnyN_takeW (i := 17) (v := (.pointer (some ⟨B, 0, none⟩))) (by kernel_rfl) rfl (by kernel_rfl) (by kernel_rfl) (by kernel_rfl) (fun _ _ _ h => h) (Or.inl ⟨by rfl, fun w' _ => by rfl⟩) ?_
        simp only [Act.put, List.getElem_toArray, List.getElem_cons_succ, List.getElem_cons_zero, List.setIfInBounds_toArray, List.set_cons_zero, List.set_cons_succ, List.size_toArray, List.length_cons, List.length_nil, Nat.reduceAdd, Array.replicate_succ, Array.replicate_zero, List.push_toArray, List.nil_append, List.cons_append]
        refine wpAnyN_takeW (i := 18) (v := (.pointer (some ⟨B, 0, none⟩))) (by kernel_rfl) rfl (by kernel_rfl) (by kernel_rfl) (by kernel_rfl) (fun _ _ _ h => h) (Or.inl ⟨by rfl, fun w' _ => by rfl⟩) ?_
        simp only [Act.put, List.getElem_toArray, List.getElem_cons_succ, List.getElem_cons_zero, List.setIfInBounds_toArray, List.set_cons_zero, List.set_cons_succ, List.size_toArray, List.length_cons, List.length_nil, Nat.reduceAdd, Array.replicate_succ, Array.replicate_zero, List.push_toArray, List.nil_append, List.cons_append]
        refine wpAnyN_takeW (i := 19) (v := (.pointer (some ⟨B, 3, none⟩))) (by kernel_rfl) rfl (by kernel_rfl) (by kernel_rfl) (by kernel_rfl) (fun _ _ _ h => h) (Or.inl ⟨by rfl, fun w' _ => by rfl⟩) ?_
        simp only [Act.put, List.getElem_toArray, List.getElem_cons_succ, List.getElem_cons_zero, List.setIfInBounds_toArray, List.set_cons_zero, List.set_cons_succ, List.size_toArray, List.length_cons, List.length_nil, Nat.reduceAdd, Array.replicate_succ, Array.replicate_zero, List.push_toArray, List.nil_append, List.cons_append]
        refine wpAnyN_take (i := 20) (v := (.slice (some ⟨X, 0, none⟩) k c3)) (by kernel_rfl) (by kernel_rfl) rfl (by kernel_rfl) (by kernel_rfl) (by kernel_rfl) (fun _ _ _ h => h) (Or.inl ⟨by rfl, fun w' hw' => ex_load1 174 _ rfl (p := ⟨B, 3, none⟩) rfl Tryz.underlying174 rfl hw'.1⟩) hF0 ?_
        simp only [Act.put, List.getElem_toArray, List.getElem_cons_succ, List.getElem_cons_zero, List.setIfInBounds_toArray, List.set_cons_zero, List.set_cons_succ, List.size_toArray, List.length_cons, List.length_nil, Nat.reduceAdd, Array.replicate_succ, Array.replicate_zero, List.push_toArray, List.nil_append, List.cons_append]
        refine wpAnyN_takeW (i := 21) (v := (.int .i64 (k : Int))) (by kernel_rfl) rfl (by kernel_rfl) (by kernel_rfl) (by kernel_rfl) (fun _ _ _ h => h) (Or.inl ⟨by rfl, fun w' _ => ex_len 174 _ rfl rfl Tryz.underlying174⟩) ?_
        simp only [Act.put, List.getElem_toArray, List.getElem_cons_succ, List.getElem_cons_zero, List.setIfInBounds_toArray, List.set_cons_zero, List.set_cons_succ, List.size_toArray, List.length_cons, List.length_nil, Nat.reduceAdd, Array.replicate_succ, Array.replicate_zero, List.push_toArray, List.nil_append, List.cons_append]
        refine wpAnyN_takeW (i := 22) (v := (.int .i64 (q : Int))) (by kernel_rfl) rfl (by kernel_rfl) (by kernel_rfl) (by kernel_rfl) (fun _ _ _ h => h) (Or.inl ⟨by rfl, fun w' _ => by rw [← ESUB.out]; rfl⟩) ?_
        simp only [Act.put, List.getElem_toArray, List.getElem_cons_succ, List.getElem_cons_zero, List.setIfInBounds_toArray, List.set_cons_zero, List.set_cons_succ, List.size_toArray, List.length_cons, List.length_nil, Nat.reduceAdd, Array.replicate_succ, Array.replicate_zero, List.push_toArray, List.nil_append, List.cons_append]
        refine wpAnyN_takeW (i := 23) (v := (.pointer (some ⟨X, q, none⟩))) (by kernel_rfl) rfl (by kernel_rfl) (by kernel_rfl) (by kernel_rfl) (fun _ _ _ h => h) (Or.inl ⟨by rfl, fun w' _ => ex_index1 174 _ _ rfl (X := X) (n := k) (c := c3) (q := q) rfl rfl HQK.out Tryz.underlying174 (by kernel_rfl)⟩) ?_
        simp only [Act.put, List.getElem_toArray, List.getElem_cons_succ, List.getElem_cons_zero, List.setIfInBounds_toArray, List.set_cons_zero, List.set_cons_succ, List.size_toArray, List.length_cons, List.length_nil, Nat.reduceAdd, Array.replicate_succ, Array.replicate_zero, List.push_toArray, List.nil_append, List.cons_append]
        refine wpAnyN_take (i := 24) (v := (.slice (some ⟨g1, 0, none⟩) (e + 1) c1)) (by kernel_rfl) (by kernel_rfl) rfl (by kernel_rfl) (by kernel_rfl) (by kernel_rfl) (fun _ _ _ h => h) (Or.inl ⟨by rfl, fun w' hw' => ex_load1 75 _ rfl (p := ⟨X, q, none⟩) rfl Tryz.underlying75 rfl hw'.2⟩) hF0 ?_
        simp only [Act.put, List.getElem_toArray, List.getElem_cons_succ, List.getElem_cons_zero, List.setIfInBounds_toArray, List.set_cons_zero, List.set_cons_succ, List.size_toArray, List.length_cons, List.length_nil, Nat.reduceAdd, Array.replicate_succ, Array.replicate_zero, List.push_toArray, List.nil_append, List.cons_append]
        refine wpAnyN_all (rs := [25]) (by kernel_rfl) (by simp) ?_
        intro q' hq'
        obtain rfl : q' = 25 := by simpa using hq'
        refine wpOp_call _ rfl (by kernel_rfl) (ex_callFn (f := 131) (args := #[.pointer (some ⟨B, 0, none⟩), .int .i64 ((e + 1 : Nat) : Int), .slice (some ⟨g1, 0, none⟩) (e + 1) c1]) rfl rfl (fun args w => hE1 w args) (by simp only [List.map_toArray, List.map_cons, List.map_nil]; rfl)) ?_
        refine HNX.out.mono ?_
        rintro r w2 ⟨hb2, g2, c2, rfl, hown2⟩
        have hb2' : Below wr.heap.size wr w2 := bd.trans hb2
        refine ⟨_, rfl, fun _ _ => ⟨(hb2'.cell (p := ⟨B, 3, none⟩) HBZ.out).trans HC3.out, (hb2'.cell (p := ⟨X, q, none⟩) HXZ.out).trans HCQ.out⟩, ?_⟩
        simp only [Act.put, List.getElem_toArray, List.getElem_cons_succ, List.getElem_cons_zero, List.setIfInBounds_toArray, List.set_cons_zero, List.set_cons_succ, List.size_toArray, List.length_cons, List.length_nil, Nat.reduceAdd, Array.replicate_succ, Array.replicate_zero, List.push_toArray, List.nil_append, List.cons_append]
        refine wpAnyN_all (rs := [26]) (by kernel_rfl) (by simp) ?_
        intro q' hq'
        obtain rfl : q' = 26 := by simpa using hq'
        refine wpOp_val _ rfl (by kernel_rfl) (ex_build1c 174 _ rfl 75 Tryz.underlying174 (.slice none 0 0) 24 slsInfo rfl (.slice (some ⟨g2, 0, none⟩) (e + 2) c2) rfl rfl) ?_
        have hb3 : Below wr.heap.size wr (w2.alloc (.cells #[.slice (some ⟨g2, 0, none⟩) (e + 2) c2] 75)) := hb2'.alloc hb2'.size _
        refine ⟨fun _ _ => ⟨(hb3.cell (p := ⟨B, 3, none⟩) HBZ.out).trans HC3.out, (hb3.cell (p := ⟨X, q, none⟩) HXZ.out).trans HCQ.out⟩, ?_⟩
        simp only [Act.put, List.getElem_toArray, List.getElem_cons_succ, List.getElem_cons_zero, List.setIfInBounds_toArray, List.set_cons_zero, List.set_cons_succ, List.size_toArray, List.length_cons, List.length_nil, Nat.reduceAdd, Array.replicate_succ, Array.replicate_zero, List.push_toArray, List.nil_append, List.cons_append]
        have L2 : LstAt a b w2 (.slice (some ⟨g2, 0, none⟩) (e + 2) c2) (e + 1) := ⟨g2, c2, rfl, Sl.of_own hown2⟩
        have hal : Below w2.heap.size w2 (w2.alloc (.cells #[.slice (some ⟨g2, 0, none⟩) (e + 2) c2] 75)) := (Below.refl _ _).alloc (Nat.le_refl _) _
        have L3 := L2.below hal
        have hbx : (w2.alloc (.cells #[.slice (some ⟨g2, 0, none⟩) (e + 2) c2] 75)).heap[w2.heap.size]? = some (.cells #[.slice (some ⟨g2, 0, none⟩) (e + 2) c2] 75 (0, 0)) := heap_alloc_new _ _
        have hz3 : w2.heap.size < (w2.alloc (.cells #[.slice (some ⟨g2, 0, none⟩) (e + 2) c2] 75)).heap.size := by simp
        generalize w2.alloc (.cells #[.slice (some ⟨g2, 0, none⟩) (e + 2) c2] 75) = w3 at *
        have LA3 := HLA.out.below HBW.out hb3
        have hown3 := own_kept HOWN.out hb3
        refine wpAnyN_all (rs := [27]) (by kernel_rfl) (by simp) ?_
        intro q' hq'
        obtain rfl : q' = 27 := by simpa using hq'
        refine wpOp_wp _ rfl (by kernel_rfl) (wp_append_sl _ _ 174 rfl base 75 im (.slice none 0 0) 1 24 Tryz.underlying174 hmi hm0 hm1 hm2 rfl (by decide) _ _ _ rfl hown3 (some ⟨w2.heap.size, 0, none⟩) 1 1 w3.heap.size [.slice (some ⟨g2, 0, none⟩) (e + 2) c2] rfl ⟨rfl, fun _ => ⟨w2.heap.size, 0, rfl, hz3, fun j u hj => by rw [Nat.zero_add]; exact (cells_box hbx j).trans (by simpa using hj)⟩⟩ (fun u hu => by rw [List.mem_singleton.1 hu]; rfl) (by unfold maxLen; omega) (by omega) (Nat.le_trans HBW.out hb3.size) ?_)
        intro v4 w4 hown4 hg4
        refine ⟨fun h => absurd h (by decide), ?_⟩
        simp only [Act.put, List.getElem_toArray, List.getElem_cons_succ, List.getElem_cons_zero, List.setIfInBounds_toArray, List.set_cons_zero, List.set_cons_succ, List.size_toArray, List.length_cons, List.length_nil, Nat.reduceAdd, Array.replicate_succ, Array.replicate_zero, List.push_toArray, List.nil_append, List.cons_append]
        have hB4 : w4.heap[B]? = w3.heap[B]? := hg4.block B (Nat.lt_of_lt_of_le HBZ.out hb3.size) (by simp only [Value.ownBlock]; intro h; injection h with h; exact HXB.out h.symm)
        have hbox4 := hB4.trans LA3.cost.box
        have hv4 : v4.ownBlock ≠ some B ∧ v4.oneCell' = true ∧ v4.cells = #[v4] := by
          rcases hown4.2 with ⟨rfl, h0⟩ | ⟨g4, c4, cur, rfl, _, hh, _⟩
          · omega
          · refine ⟨fun hq => ?_, rfl, rfl⟩
            have hq : g4 = B := by simpa [Value.ownBlock] using hq
            subst hq
            rw [hbox4] at hh
            injection hh with hh
            injection hh with _ hh _
            revert hh
            decide
        have LG := LA3.grow (Nat.le_trans HBW.out hb3.size) hBb hMb hBM hsa hsb (fun j hj => by obtain ⟨u, hu, hl⟩ := HLS.out j hj; exact ⟨u, hu, hl.below hb3⟩) HVL.out (by rw [show fr + k = e + 1 by have := HEK.out; omega]; exact L3) hown4 hg4 hv4.1
        have FG : ForKept B wr (w4.setCell ⟨B, 3, none⟩ v4) := ((ForKept.of_below hb3).trans (ForKept.own hown3 hg4)).trans (ForKept.setCell _ _ _)
        have BG : Below base wr (w4.setCell ⟨B, 3, none⟩ v4) := ((hb3.mono HBW.out).grown hg4 (Nat.le_trans HBW.out hb3.size) (fun i hi => by
          have hi' : Value.ownBlock (.slice (some ⟨X, 0, none⟩) k c3) = some i := hi
          have : i = X := by simpa [Value.ownBlock] using hi'.symm
          rw [this]; exact HXBs.out)).setCell hBb _
        refine wpAnyN_all (rs := [28]) (by kernel_rfl) (by simp) ?_
        intro q' hq'
        obtain rfl : q' = 28 := by simpa using hq'
        refine wpOp_val _ rfl (by kernel_rfl) (by rfl) ?_
        refine ⟨fun h => absurd h (by decide), ?_⟩
        simp only [Act.put, List.getElem_toArray, List.getElem_cons_succ, List.getElem_cons_zero, List.setIfInBounds_toArray, List.set_cons_zero, List.set_cons_succ, List.size_toArray, List.length_cons, List.length_nil, Nat.reduceAdd, Array.replicate_succ, Array.replicate_zero, List.push_toArray, List.nil_append, List.cons_append]
        refine wpAnyN_all (rs := [29]) (by kernel_rfl) (by simp) ?_
        intro q' hq'
        obtain rfl : q' = 29 := by simpa using hq'
        refine wpOp_val _ rfl (by kernel_rfl) (by rfl) ?_
        refine ⟨fun h => absurd h (by decide), ?_⟩
        simp only [Act.put, List.getElem_toArray, List.getElem_cons_succ, List.getElem_cons_zero, List.setIfInBounds_toArray, List.set_cons_zero, List.set_cons_succ, List.size_toArray, List.length_cons, List.length_nil, Nat.reduceAdd, Array.replicate_succ, Array.replicate_zero, List.push_toArray, List.nil_append, List.cons_append]
        refine wpAnyN_all (rs := [30]) (by kernel_rfl) (by simp) ?_
        intro q' hq'
        obtain rfl : q' = 30 := by simpa using hq'
        refine wpOp_skip _ rfl (by kernel_rfl) (ex_store1 174 _ _ rfl B 3 v4 rfl rfl hv4.2.1 hv4.2.2 (by kernel_rfl) (cells_box hbox4 3) (frozen_of_row _ _ _ _ _ hbox4)) ?_
        refine ⟨fun h => absurd h (by decide), ?_⟩
        simp only [Act.put, List.getElem_toArray, List.getElem_cons_succ, List.getElem_cons_zero, List.setIfInBounds_toArray, List.set_cons_zero, List.set_cons_succ, List.size_toArray, List.length_cons, List.length_nil, Nat.reduceAdd, Array.replicate_succ, Array.replicate_zero, List.push_toArray, List.nil_append, List.cons_append]
        refine wpAnyN_done (by kernel_rfl) ?_ _
        generalize w4.setCell ⟨B, 3, none⟩ v4 = w5 at *
        go_wp2_with fail
        go_roundg (D + 1 - (k + 1))
        case measure => omega
        case rel => exact ⟨k + 1, v4, by omega, by omega, Lib.hid LG, Lib.hid (HFK.out.trans FG), Lib.hid (HBL.out.trans BG)⟩

      · have t1 : ¬ (k : Int) ≤ (D : Int) := by omega
        obtain ⟨v, hvq, g1, c1, rfl, hsl1⟩ := hls D (by omega)
        have hfd := HFD.out
        rw [hfd] at hvq hsl1
        have cq : wr.cell? ⟨X, D, none⟩ = some (.slice (some ⟨g1, 0, none⟩) (d + 1) c1) := (hown.cellAt D (by omega)).trans hvq
        have q0 : (0 : Int) ≤ (D : Int) := by omega
        have q1 : (D : Int) < (k : Int) := by omega
        have HS1 := Lib.hid hsl1
        clear hls hvl hown hbox hsl1 hvq hfd
        go_wp2_with fail
        go_ret
        exact ⟨g1, c1, rfl, .inr ⟨fr, k, _, HFM.out, hk64, HLA.out⟩, HS1.out, HFK.out, HBL.out⟩

  · have HCO := Lib.hid hLA.cost; have HLA0 := Lib.hid hLA
    obtain ⟨X', c3, rfl, _, _, _, _⟩ := row_noI32 hLA
    clear hLA
    by_cases hff : from' = fr
    · have HF6 := Lib.hid hf64
      subst from'
      have hbox := HCO.out.box
      have c3' : w.cell? ⟨B, 3, none⟩ = some (.slice (some ⟨X', 0, none⟩) k' c3) := cells_box hbox 3
      have c4' : w.cell? ⟨B, 4, none⟩ = some (.int .i64 (fr : Int)) := cells_box hbox 4
      have tne : ((fr : Int) != (fr : Int)) = false := by simp
      clear hbox hf64
      go_enter Tryz.func85, Tryz.ntmps85
      go_upto_region 4 with fail
      have FK0 := Lib.hid (ForKept.refl B w); have BL0 := Lib.hid (Below.refl base w); have LA0 := HLA0
      have HK0 := Lib.hid (show k' ≤ 64 by omega)
      have hwz : base ≤ w.heap.size := hbw
      clear c3' c4' tne
      have hwz' : base ≤ w.heap.size := hbw
      go_loopg [] (D + 1) (fun gk wr => ∃ k v3, D + 1 ≤ k + gk ∧ k ≤ 64 ∧ Hid (ListAt a b B M base A A' ca cb w0 fr k v3 wr) ∧ Hid (ForKept B w wr) ∧ Hid (Below base w wr))
      case atStart => exact ⟨k', _, by omega, hk64', LA0, FK0, BL0⟩
      case round =>
        obtain ⟨k, v3, hgk, hk64, HLA, HFK, HBL⟩ := hrel
        obtain ⟨X, c3, rfl, hXbs, hXB, hXM, _⟩ := row_noI32 HLA.out
        obtain ⟨vs, hown, hls⟩ := HLA.out.row
        have hk0 := HLA.out.pos
        have hvl : vs.length = k := by rw [hown.1, Nat.mul_one]
        have hbox := HLA.out.cost.box
        have hBz : B < wr.heap.size := (Array.getElem?_eq_some_iff.1 hbox).1
        have hXz : X < wr.heap.size := (hown.lt X (by simp [Value.ownBlock])).2
        have hbw : base ≤ wr.heap.size := Nat.le_trans hwz' HFK.out.1
        have c3' : wr.cell? ⟨B, 3, none⟩ = some (.slice (some ⟨X, 0, none⟩) k c3) := cells_box hbox 3
        have eD : IntKind.i64.wrap ((d : Int) - (fr : Int)) = (D : Int) := by have := HFD.out; rw [IntWalk.i64_in _ (by omega)]; omega
        by_cases hkD : k ≤ D
        · have t1 : (k : Int) ≤ (D : Int) := by omega
          obtain ⟨q, hq⟩ : ∃ q, k = q + 1 := ⟨k - 1, by omega⟩
          obtain ⟨e, he⟩ : ∃ e, fr + q = e := ⟨_, rfl⟩
          obtain ⟨v, hvq, g1, c1, rfl, hsl1⟩ := hls q (by omega)
          rw [he] at hvq hsl1
          have cq : wr.cell? ⟨X, q, none⟩ = some (.slice (some ⟨g1, 0, none⟩) (e + 1) c1) := (hown.cellAt q (by omega)).trans hvq
          have hnx := next_any a b B A A' (some ⟨g1, 0, none⟩) ca cb c1 e wr.drew hBz (cells_box hbox 0) (cells_box hbox 1) HLA.out.cost.ra HLA.out.cost.rb hsl1 hn hm (by omega)
          have HNX := Lib.hid hnx; have HC3 := Lib.hid c3'; have HCQ := Lib.hid cq; have HBZ := Lib.hid hBz; have HXZ := Lib.hid hXz; have HBW := Lib.hid hbw; have HOWN := Lib.hid hown; have HLS := Lib.hid hls; have HVL := Lib.hid hvl
          have HXB := Lib.hid hXB; have HXBs := Lib.hid hXbs
          have HEK := Lib.hid (show fr + k = e + 1 by omega)
          have HQK := Lib.hid (show q < k by omega)
          have EADD := Lib.hid (show IntKind.i64.wrap ((fr : Int) + (k : Int)) = ((e + 1 : Nat) : Int) by rw [IntWalk.i64_in _ (by omega)]; omega)
          have ESUB := Lib.hid (show IntKind.i64.wrap ((k : Int) - 1) = (q : Int) by rw [IntWalk.i64_in _ (by omega)]; omega)
          clear hnx cq hls hvl hown hbox hsl1 hvq he hq hbw hXz
          go_upto_region 5 with fail
          clear c3' t1 eD
          refine wp_region_N 27 (fun u => u.cell? ⟨B, 3, none⟩ = some (.slice (some ⟨X, 0, none⟩) k c3) ∧ u.cell? ⟨X, q, none⟩ = some (.slice (some ⟨g1, 0, none⟩) (e + 1) c1)) (by kernel_rfl) ?_
          have bd : Below wr.heap.size wr wr.drew := (Below.refl _ _).drew
          have hF0 : wr.drew.cell? ⟨B, 3, none⟩ = some (.slice (some ⟨X, 0, none⟩) k c3) ∧ wr.drew.cell? ⟨X, q, none⟩ = some (.slice (some ⟨g1, 0, none⟩) (e + 1) c1) := ⟨HC3.out, HCQ.out⟩
          have hE1 : ∀ (u : World) (args : Array Value), (callFunc 131 args).run Tryz.prog u = .ok (.enter 131 args) u := fun u args => enters_of Tryz.func131 (by kernel_rfl) rfl args u
          refine wpAnyN_takeW (i := 0) (v := (.pointer (some ⟨B, 0, none⟩))) (by kernel_rfl) rfl (by kernel_rfl) (by kernel_rfl) (by kernel_rfl) (fun _ _ _ h => h) (Or.inl ⟨by rfl, fun w' _ => by rfl⟩) ?_
          simp only [Act.put, List.getElem_toArray, List.getElem_cons_succ, List.getElem_cons_zero, List.setIfInBounds_toArray, List.set_cons_zero, List.set_cons_succ, List.size_toArray, List.length_cons, List.length_nil, Nat.reduceAdd, Array.replicate_succ, Array.replicate_zero, List.push_toArray, List.nil_append, List.cons_append]
          refine wpAnyN_takeW (i := 1) (v := (.pointer (some ⟨B, 0, none⟩))) (by kernel_rfl) rfl (by kernel_rfl) (by kernel_rfl) (by kernel_rfl) (fun _ _ _ h => h) (Or.inl ⟨by rfl, fun w' _ => by rfl⟩) ?_
          simp only [Act.put, List.getElem_toArray, List.getElem_cons_succ, List.getElem_cons_zero, List.setIfInBounds_toArray, List.set_cons_zero, List.set_cons_succ, List.size_toArray, List.length_cons, List.length_nil, Nat.reduceAdd, Array.replicate_succ, Array.replicate_zero, List.push_toArray, List.nil_append, List.cons_append]
          refine wpAnyN_takeW (i := 2) (v := (.pointer (some ⟨B, 0, none⟩))) (by kernel_rfl) rfl (by kernel_rfl) (by kernel_rfl) (by kernel_rfl) (fun _ _ _ h => h) (Or.inl ⟨by rfl, fun w' _ => by rfl⟩) ?_
          simp only [Act.put, List.getElem_toArray, List.getElem_cons_succ, List.getElem_cons_zero, List.setIfInBounds_toArray, List.set_cons_zero, List.set_cons_succ, List.size_toArray, List.length_cons, List.length_nil, Nat.reduceAdd, Array.replicate_succ, Array.replicate_zero, List.push_toArray, List.nil_append, List.cons_append]
          refine wpAnyN_takeW (i := 3) (v := (.pointer (some ⟨B, 3, none⟩))) (by kernel_rfl) rfl (by kernel_rfl) (by kernel_rfl) (by kernel_rfl) (fun _ _ _ h => h) (Or.inl ⟨by rfl, fun w' _ => by rfl⟩) ?_
          simp only [Act.put, List.getElem_toArray, List.getElem_cons_succ, List.getElem_cons_zero, List.setIfInBounds_toArray, List.set_cons_zero, List.set_cons_succ, List.size_toArray, List.length_cons, List.length_nil, Nat.reduceAdd, Array.replicate_succ, Array.replicate_zero, List.push_toArray, List.nil_append, List.cons_append]
          refine wpAnyN_take (i := 4) (v := (.slice (some ⟨X, 0, none⟩) k c3)) (by kernel_rfl) (by kernel_rfl) rfl (by kernel_rfl) (by kernel_rfl) (by kernel_rfl) (fun _ _ _ h => h) (Or.inl ⟨by rfl, fun w' hw' => ex_load1 174 _ rfl (p := ⟨B, 3, none⟩) rfl Tryz.underlying174 rfl hw'.1⟩) hF0 ?_
          simp only [Act.put, List.getElem_toArray, List.getElem_cons_succ, List.getElem_cons_zero, List.setIfInBounds_toArray, List.set_cons_zero, List.set_cons_succ, List.size_toArray, List.length_cons, List.length_nil, Nat.reduceAdd, Array.replicate_succ, Array.replicate_zero, List.push_toArray, List.nil_append, List.cons_append]
          refine wpAnyN_takeW (i := 5) (v := (.pointer (some ⟨B, 0, none⟩))) (by kernel_rfl) rfl (by kernel_rfl) (by kernel_rfl) (by kernel_rfl) (fun _ _ _ h => h) (Or.inl ⟨by rfl, fun w' _ => by rfl⟩) ?_
          simp only [Act.put, List.getElem_toArray, List.getElem_cons_succ, List.getElem_cons_zero, List.setIfInBounds_toArray, List.set_cons_zero, List.set_cons_succ, List.size_toArray, List.length_cons, List.length_nil, Nat.reduceAdd, Array.replicate_succ, Array.replicate_zero, List.push_toArray, List.nil_append, List.cons_append]
          refine wpAnyN_takeW (i := 6) (v := (.int .i64 (fr : Int))) (by kernel_rfl) rfl (by kernel_rfl) (by kernel_rfl) (by kernel_rfl) (fun _ _ _ h => h) (Or.inl ⟨by rfl, fun w' _ => by rfl⟩) ?_
          simp only [Act.put, List.getElem_toArray, List.getElem_cons_succ, List.getElem_cons_zero, List.setIfInBounds_toArray, List.set_cons_zero, List.set_cons_succ, List.size_toArray, List.length_cons, List.length_nil, Nat.reduceAdd, Array.replicate_succ, Array.replicate_zero, List.push_toArray, List.nil_append, List.cons_append]
          refine wpAnyN_takeW (i := 7) (v := (.pointer (some ⟨B, 0, none⟩))) (by kernel_rfl) rfl (by kernel_rfl) (by kernel_rfl) (by kernel_rfl) (fun _ _ _ h => h) (Or.inl ⟨by rfl, fun w' _ => by rfl⟩) ?_
          simp only [Act.put, List.getElem_toArray, List.getElem_cons_succ, List.getElem_cons_zero, List.setIfInBounds_toArray, List.set_cons_zero, List.set_cons_succ, List.size_toArray, List.length_cons, List.length_nil, Nat.reduceAdd, Array.replicate_succ, Array.replicate_zero, List.push_toArray, List.nil_append, List.cons_append]
          refine wpAnyN_takeW (i := 8) (v := (.pointer (some ⟨B, 0, none⟩))) (by kernel_rfl) rfl (by kernel_rfl) (by kernel_rfl) (by kernel_rfl) (fun _ _ _ h => h) (Or.inl ⟨by rfl, fun w' _ => by rfl⟩) ?_
          simp only [Act.put, List.getElem_toArray, List.getElem_cons_succ, List.getElem_cons_zero, List.setIfInBounds_toArray, List.set_cons_zero, List.set_cons_succ, List.size_toArray, List.length_cons, List.length_nil, Nat.reduceAdd, Array.replicate_succ, Array.replicate_zero, List.push_toArray, List.nil_append, List.cons_append]
          refine wpAnyN_takeW (i := 9) (v := (.pointer (some ⟨B, 3, none⟩))) (by kernel_rfl) rfl (by kernel_rfl) (by kernel_rfl) (by kernel_rfl) (fun _ _ _ h => h) (Or.inl ⟨by rfl, fun w' _ => by rfl⟩) ?_
          simp only [Act.put, List.getElem_toArray, List.getElem_cons_succ, List.getElem_cons_zero, List.setIfInBounds_toArray, List.set_cons_zero, List.set_cons_succ, List.size_toArray, List.length_cons, List.length_nil, Nat.reduceAdd, Array.replicate_succ, Array.replicate_zero, List.push_toArray, List.nil_append, List.cons_append]
          refine wpAnyN_take (i := 10) (v := (.slice (some ⟨X, 0, none⟩) k c3)) (by kernel_rfl) (by kernel_rfl) rfl (by kernel_rfl) (by kernel_rfl) (by kernel_rfl) (fun _ _ _ h => h) (Or.inl ⟨by rfl, fun w' hw' => ex_load1 174 _ rfl (p := ⟨B, 3, none⟩) rfl Tryz.underlying174 rfl hw'.1⟩) hF0 ?_
          simp only [Act.put, List.getElem_toArray, List.getElem_cons_succ, List.getElem_cons_zero, List.setIfInBounds_toArray, List.set_cons_zero, List.set_cons_succ, List.size_toArray, List.length_cons, List.length_nil, Nat.reduceAdd, Array.replicate_succ, Array.replicate_zero, List.push_toArray, List.nil_append, List.cons_append]
          refine wpAnyN_takeW (i := 11) (v := (.int .i64 (k : Int))) (by kernel_rfl) rfl (by kernel_rfl) (by kernel_rfl) (by kernel_rfl) (fun _ _ _ h => h) (Or.inl ⟨by rfl, fun w' _ => ex_len 174 _ rfl rfl Tryz.underlying174⟩) ?_
          simp only [Act.put, List.getElem_toArray, List.getElem_cons_succ, List.getElem_cons_zero, List.setIfInBounds_toArray, List.set_cons_zero, List.set_cons_succ, List.size_toArray, List.length_cons, List.length_nil, Nat.reduceAdd, Array.replicate_succ, Array.replicate_zero, List.push_toArray, List.nil_append, List.cons_append]
          refine wpAnyN_takeW (i := 12) (v := (.int .i64 ((e + 1 : Nat) : Int))) (by kernel_rfl) rfl (by kernel_rfl) (by kernel_rfl) (by kernel_rfl) (fun _ _ _ h => h) (Or.inl ⟨by rfl, fun w' _ => by rw [← EADD.out]; rfl⟩) ?_
          simp only [Act.put, List.getElem_toArray, List.getElem_cons_succ, List.getElem_cons_zero, List.setIfInBounds_toArray, List.set_cons_zero, List.set_cons_succ, List.size_toArray, List.length_cons, List.length_nil, Nat.reduceAdd, Array.replicate_succ, Array.replicate_zero, List.push_toArray, List.nil_append, List.cons_append]
          refine wpAnyN_takeW (i := 13) (v := (.pointer (some ⟨B, 0, none⟩))) (by kernel_rfl) rfl (by kernel_rfl) (by kernel_rfl) (by kernel_rfl) (fun _ _ _ h => h) (Or.inl ⟨by rfl, fun w' _ => by rfl⟩) ?_
          simp only [Act.put, List.getElem_toArray, List.getElem_cons_succ, List.getElem_cons_zero, List.setIfInBounds_toArray, List.set_cons_zero, List.set_cons_succ, List.size_toArray, List.length_cons, List.length_nil, Nat.reduceAdd, Array.replicate_succ, Array.replicate_zero, List.push_toArray, List.nil_append, List.cons_append]
          refine wpAnyN_takeW (i := 14) (v := (.pointer (some ⟨B, 0, none⟩))) (by kernel_rfl) rfl (by kernel_rfl) (by kernel_rfl) (by kernel_rfl) (fun _ _ _ h => h) (Or.inl ⟨by rfl, fun w' _ => by rfl⟩) ?_
          simp only [Act.put, List.getElem_toArray, List.getElem_cons_succ, List.getElem_cons_zero, List.setIfInBounds_toArray, List.set_cons_zero, List.set_cons_succ, List.size_toArray, List.length_cons, List.length_nil, Nat.reduceAdd, Array.replicate_succ, Array.replicate_zero, List.push_toArray, List.nil_append, List.cons_append]
          refine wpAnyN_takeW (i := 15) (v := (.pointer (some ⟨B, 3, none⟩))) (by kernel_rfl) rfl (by kernel_rfl) (by kernel_rfl) (by kernel_rfl) (fun _ _ _ h => h) (Or.inl ⟨by rfl, fun w' _ => by rfl⟩) ?_
          simp only [Act.put, List.getElem_toArray, List.getElem_cons_succ, List.getElem_cons_zero, List.setIfInBounds_toArray, List.set_cons_zero, List.set_cons_succ, List.size_toArray, List.length_cons, List.length_nil, Nat.reduceAdd, Array.replicate_succ, Array.replicate_zero, List.push_toArray, List.nil_append, List.cons_append]
          refine wpAnyN_take (i := 16) (v := (.slice (some ⟨X, 0, none⟩) k c3)) (by kernel_rfl) (by kernel_rfl) rfl (by kernel_rfl) (by kernel_rfl) (by kernel_rfl) (fun _ _ _ h => h) (Or.inl ⟨by rfl, fun w' hw' => ex_load1 174 _ rfl (p := ⟨B, 3, none⟩) rfl Tryz.underlying174 rfl hw'.1⟩) hF0 ?_
          simp only [Act.put, List.getElem_toArray, List.getElem_cons_succ, List.getElem_cons_zero, List.setIfInBounds_toArray, List.set_cons_zero, List.set_cons_succ, List.size_toArray, List.length_cons, List.length_nil, Nat.reduceAdd, Array.replicate_succ, Array.replicate_zero, List.push_toArray, List.nil_append, List.cons_append]
          refine wpAnyN_takeW (i := 17) (v := (.pointer (some ⟨B, 0, none⟩))) (by kernel_rfl) rfl (by kernel_rfl) (by kernel_rfl) (by kernel_rfl) (fun _ _ _ h => h) (Or.inl ⟨by rfl, fun w' _ => by rfl⟩) ?_
          simp only [Act.put, List.getElem_toArray, List.getElem_cons_succ, List.getElem_cons_zero, List.setIfInBounds_toArray, List.set_cons_zero, List.set_cons_succ, List.size_toArray, List.length_cons, List.length_nil, Nat.reduceAdd, Array.replicate_succ, Array.replicate_zero, List.push_toArray, List.nil_append, List.cons_append]
          refine wpAnyN_takeW (i := 18) (v := (.pointer (some ⟨B, 0, none⟩))) (by kernel_rfl) rfl (by kernel_rfl) (by kernel_rfl) (by kernel_rfl) (fun _ _ _ h => h) (Or.inl ⟨by rfl, fun w' _ => by rfl⟩) ?_
          simp only [Act.put, List.getElem_toArray, List.getElem_cons_succ, List.getElem_cons_zero, List.setIfInBounds_toArray, List.set_cons_zero, List.set_cons_succ, List.size_toArray, List.length_cons, List.length_nil, Nat.reduceAdd, Array.replicate_succ, Array.replicate_zero, List.push_toArray, List.nil_append, List.cons_append]
          refine wpAnyN_takeW (i := 19) (v := (.pointer (some ⟨B, 3, none⟩))) (by kernel_rfl) rfl (by kernel_rfl) (by kernel_rfl) (by kernel_rfl) (fun _ _ _ h => h) (Or.inl ⟨by rfl, fun w' _ => by rfl⟩) ?_
          simp only [Act.put, List.getElem_toArray, List.getElem_cons_succ, List.getElem_cons_zero, List.setIfInBounds_toArray, List.set_cons_zero, List.set_cons_succ, List.size_toArray, List.length_cons, List.length_nil, Nat.reduceAdd, Array.replicate_succ, Array.replicate_zero, List.push_toArray, List.nil_append, List.cons_append]
          refine wpAnyN_take (i := 20) (v := (.slice (some ⟨X, 0, none⟩) k c3)) (by kernel_rfl) (by kernel_rfl) rfl (by kernel_rfl) (by kernel_rfl) (by kernel_rfl) (fun _ _ _ h => h) (Or.inl ⟨by rfl, fun w' hw' => ex_load1 174 _ rfl (p := ⟨B, 3, none⟩) rfl Tryz.underlying174 rfl hw'.1⟩) hF0 ?_
          simp only [Act.put, List.getElem_toArray, List.getElem_cons_succ, List.getElem_cons_zero, List.setIfInBounds_toArray, List.set_cons_zero, List.set_cons_succ, List.size_toArray, List.length_cons, List.length_nil, Nat.reduceAdd, Array.replicate_succ, Array.replicate_zero, List.push_toArray, List.nil_append, List.cons_append]
          refine wpAnyN_takeW (i := 21) (v := (.int .i64 (k : Int))) (by kernel_rfl) rfl (by kernel_rfl) (by kernel_rfl) (by kernel_rfl) (fun _ _ _ h => h) (Or.inl ⟨by rfl, fun w' _ => ex_len 174 _ rfl rfl Tryz.underlying174⟩) ?_
          simp only [Act.put, List.getElem_toArray, List.getElem_cons_succ, List.getElem_cons_zero, List.setIfInBounds_toArray, List.set_cons_zero, List.set_cons_succ, List.size_toArray, List.length_cons, List.length_nil, Nat.reduceAdd, Array.replicate_succ, Array.replicate_zero, List.push_toArray, List.nil_append, List.cons_append]
          refine wpAnyN_takeW (i := 22) (v := (.int .i64 (q : Int))) (by kernel_rfl) rfl (by kernel_rfl) (by kernel_rfl) (by kernel_rfl) (fun _ _ _ h => h) (Or.inl ⟨by rfl, fun w' _ => by rw [← ESUB.out]; rfl⟩) ?_
          simp only [Act.put, List.getElem_toArray, List.getElem_cons_succ, List.getElem_cons_zero, List.setIfInBounds_toArray, List.set_cons_zero, List.set_cons_succ, List.size_toArray, List.length_cons, List.length_nil, Nat.reduceAdd, Array.replicate_succ, Array.replicate_zero, List.push_toArray, List.nil_append, List.cons_append]
          refine wpAnyN_takeW (i := 23) (v := (.pointer (some ⟨X, q, none⟩))) (by kernel_rfl) rfl (by kernel_rfl) (by kernel_rfl) (by kernel_rfl) (fun _ _ _ h => h) (Or.inl ⟨by rfl, fun w' _ => ex_index1 174 _ _ rfl (X := X) (n := k) (c := c3) (q := q) rfl rfl HQK.out Tryz.underlying174 (by kernel_rfl)⟩) ?_
          simp only [Act.put, List.getElem_toArray, List.getElem_cons_succ, List.getElem_cons_zero, List.setIfInBounds_toArray, List.set_cons_zero, List.set_cons_succ, List.size_toArray, List.length_cons, List.length_nil, Nat.reduceAdd, Array.replicate_succ, Array.replicate_zero, List.push_toArray, List.nil_append, List.cons_append]
          refine wpAnyN_take (i := 24) (v := (.slice (some ⟨g1, 0, none⟩) (e + 1) c1)) (by kernel_rfl) (by kernel_rfl) rfl (by kernel_rfl) (by kernel_rfl) (by kernel_rfl) (fun _ _ _ h => h) (Or.inl ⟨by rfl, fun w' hw' => ex_load1 75 _ rfl (p := ⟨X, q, none⟩) rfl Tryz.underlying75 rfl hw'.2⟩) hF0 ?_
          simp only [Act.put, List.getElem_toArray, List.getElem_cons_succ, List.getElem_cons_zero, List.setIfInBounds_toArray, List.set_cons_zero, List.set_cons_succ, List.size_toArray, List.length_cons, List.length_nil, Nat.reduceAdd, Array.replicate_succ, Array.replicate_zero, List.push_toArray, List.nil_append, List.cons_append]
          refine wpAnyN_all (rs := [25]) (by kernel_rfl) (by simp) ?_
          intro q' hq'
          obtain rfl : q' = 25 := by simpa using hq'
          refine wpOp_call _ rfl (by kernel_rfl) (ex_callFn (f := 131) (args := #[.pointer (some ⟨B, 0, none⟩), .int .i64 ((e + 1 : Nat) : Int), .slice (some ⟨g1, 0, none⟩) (e + 1) c1]) rfl rfl (fun args w => hE1 w args) (by simp only [List.map_toArray, List.map_cons, List.map_nil]; rfl)) ?_
          refine HNX.out.mono ?_
          rintro r w2 ⟨hb2, g2, c2, rfl, hown2⟩
          have hb2' : Below wr.heap.size wr w2 := bd.trans hb2
          refine ⟨_, rfl, fun _ _ => ⟨(hb2'.cell (p := ⟨B, 3, none⟩) HBZ.out).trans HC3.out, (hb2'.cell (p := ⟨X, q, none⟩) HXZ.out).trans HCQ.out⟩, ?_⟩
          simp only [Act.put, List.getElem_toArray, List.getElem_cons_succ, List.getElem_cons_zero, List.setIfInBounds_toArray, List.set_cons_zero, List.set_cons_succ, List.size_toArray, List.length_cons, List.length_nil, Nat.reduceAdd, Array.replicate_succ, Array.replicate_zero, List.push_toArray, List.nil_append, List.cons_append]
          refine wpAnyN_all (rs := [26]) (by kernel_rfl) (by simp) ?_
          intro q' hq'
          obtain rfl : q' = 26 := by simpa using hq'
          refine wpOp_val _ rfl (by kernel_rfl) (ex_build1c 174 _ rfl 75 Tryz.underlying174 (.slice none 0 0) 24 slsInfo rfl (.slice (some ⟨g2, 0, none⟩) (e + 2) c2) rfl rfl) ?_
          have hb3 : Below wr.heap.size wr (w2.alloc (.cells #[.slice (some ⟨g2, 0, none⟩) (e + 2) c2] 75)) := hb2'.alloc hb2'.size _
          refine ⟨fun _ _ => ⟨(hb3.cell (p := ⟨B, 3, none⟩) HBZ.out).trans HC3.out, (hb3.cell (p := ⟨X, q, none⟩) HXZ.out).trans HCQ.out⟩, ?_⟩
          simp only [Act.put, List.getElem_toArray, List.getElem_cons_succ, List.getElem_cons_zero, List.setIfInBounds_toArray, List.set_cons_zero, List.set_cons_succ, List.size_toArray, List.length_cons, List.length_nil, Nat.reduceAdd, Array.replicate_succ, Array.replicate_zero, List.push_toArray, List.nil_append, List.cons_append]
          have L2 : LstAt a b w2 (.slice (some ⟨g2, 0, none⟩) (e + 2) c2) (e + 1) := ⟨g2, c2, rfl, Sl.of_own hown2⟩
          have hal : Below w2.heap.size w2 (w2.alloc (.cells #[.slice (some ⟨g2, 0, none⟩) (e + 2) c2] 75)) := (Below.refl _ _).alloc (Nat.le_refl _) _
          have L3 := L2.below hal
          have hbx : (w2.alloc (.cells #[.slice (some ⟨g2, 0, none⟩) (e + 2) c2] 75)).heap[w2.heap.size]? = some (.cells #[.slice (some ⟨g2, 0, none⟩) (e + 2) c2] 75 (0, 0)) := heap_alloc_new _ _
          have hz3 : w2.heap.size < (w2.alloc (.cells #[.slice (some ⟨g2, 0, none⟩) (e + 2) c2] 75)).heap.size := by simp
          generalize w2.alloc (.cells #[.slice (some ⟨g2, 0, none⟩) (e + 2) c2] 75) = w3 at *
          have LA3 := HLA.out.below HBW.out hb3
          have hown3 := own_kept HOWN.out hb3
          refine wpAnyN_all (rs := [27]) (by kernel_rfl) (by simp) ?_
          intro q' hq'
          obtain rfl : q' = 27 := by simpa using hq'
          refine wpOp_wp _ rfl (by kernel_rfl) (wp_append_sl _ _ 174 rfl base 75 im (.slice none 0 0) 1 24 Tryz.underlying174 hmi hm0 hm1 hm2 rfl (by decide) _ _ _ rfl hown3 (some ⟨w2.heap.size, 0, none⟩) 1 1 w3.heap.size [.slice (some ⟨g2, 0, none⟩) (e + 2) c2] rfl ⟨rfl, fun _ => ⟨w2.heap.size, 0, rfl, hz3, fun j u hj => by rw [Nat.zero_add]; exact (cells_box hbx j).trans (by simpa using hj)⟩⟩ (fun u hu => by rw [List.mem_singleton.1 hu]; rfl) (by unfold maxLen; omega) (by omega) (Nat.le_trans HBW.out hb3.size) ?_)
          intro v4 w4 hown4 hg4
          refine ⟨fun h => absurd h (by decide), ?_⟩
          simp only [Act.put, List.getElem_toArray, List.getElem_cons_succ, List.getElem_cons_zero, List.setIfInBounds_toArray, List.set_cons_zero, List.set_cons_succ, List.size_toArray, List.length_cons, List.length_nil, Nat.reduceAdd, Array.replicate_succ, Array.replicate_zero, List.push_toArray, List.nil_append, List.cons_append]
          have hB4 : w4.heap[B]? = w3.heap[B]? := hg4.block B (Nat.lt_of_lt_of_le HBZ.out hb3.size) (by simp only [Value.ownBlock]; intro h; injection h with h; exact HXB.out h.symm)
          have hbox4 := hB4.trans LA3.cost.box
          have hv4 : v4.ownBlock ≠ some B ∧ v4.oneCell' = true ∧ v4.cells = #[v4] := by
            rcases hown4.2 with ⟨rfl, h0⟩ | ⟨g4, c4, cur, rfl, _, hh, _⟩
            · omega
            · refine ⟨fun hq => ?_, rfl, rfl⟩
              have hq : g4 = B := by simpa [Value.ownBlock] using hq
              subst hq
              rw [hbox4] at hh
              injection hh with hh
              injection hh with _ hh _
              revert hh
              decide
          have LG := LA3.grow (Nat.le_trans HBW.out hb3.size) hBb hMb hBM hsa hsb (fun j hj => by obtain ⟨u, hu, hl⟩ := HLS.out j hj; exact ⟨u, hu, hl.below hb3⟩) HVL.out (by rw [show fr + k = e + 1 by have := HEK.out; omega]; exact L3) hown4 hg4 hv4.1
          have FG : ForKept B wr (w4.setCell ⟨B, 3, none⟩ v4) := ((ForKept.of_below hb3).trans (ForKept.own hown3 hg4)).trans (ForKept.setCell _ _ _)
          have BG : Below base wr (w4.setCell ⟨B, 3, none⟩ v4) := ((hb3.mono HBW.out).grown hg4 (Nat.le_trans HBW.out hb3.size) (fun i hi => by
            have hi' : Value.ownBlock (.slice (some ⟨X, 0, none⟩) k c3) = some i := hi
            have : i = X := by simpa [Value.ownBlock] using hi'.symm
            rw [this]; exact HXBs.out)).setCell hBb _
          refine wpAnyN_all (rs := [28]) (by kernel_rfl) (by simp) ?_
          intro q' hq'
          obtain rfl : q' = 28 := by simpa using hq'
          refine wpOp_val _ rfl (by kernel_rfl) (by rfl) ?_
          refine ⟨fun h => absurd h (by decide), ?_⟩
          simp only [Act.put, List.getElem_toArray, List.getElem_cons_succ, List.getElem_cons_zero, List.setIfInBounds_toArray, List.set_cons_zero, List.set_cons_succ, List.size_toArray, List.length_cons, List.length_nil, Nat.reduceAdd, Array.replicate_succ, Array.replicate_zero, List.push_toArray, List.nil_append, List.cons_append]
          refine wpAnyN_all (rs := [29]) (by kernel_rfl) (by simp) ?_
          intro q' hq'
          obtain rfl : q' = 29 := by simpa using hq'
          refine wpOp_val _ rfl (by kernel_rfl) (by rfl) ?_
          refine ⟨fun h => absurd h (by decide), ?_⟩
          simp only [Act.put, List.getElem_toArray, List.getElem_cons_succ, List.getElem_cons_zero, List.setIfInBounds_toArray, List.set_cons_zero, List.set_cons_succ, List.size_toArray, List.length_cons, List.length_nil, Nat.reduceAdd, Array.replicate_succ, Array.replicate_zero, List.push_toArray, List.nil_append, List.cons_append]
          refine wpAnyN_all (rs := [30]) (by kernel_rfl) (by simp) ?_
          intro q' hq'
          obtain rfl : q' = 30 := by simpa using hq'
          refine wpOp_skip _ rfl (by kernel_rfl) (ex_store1 174 _ _ rfl B 3 v4 rfl rfl hv4.2.1 hv4.2.2 (by kernel_rfl) (cells_box hbox4 3) (frozen_of_row _ _ _ _ _ hbox4)) ?_
          refine ⟨fun h => absurd h (by decide), ?_⟩
          simp only [Act.put, List.getElem_toArray, List.getElem_cons_succ, List.getElem_cons_zero, List.setIfInBounds_toArray, List.set_cons_zero, List.set_cons_succ, List.size_toArray, List.length_cons, List.length_nil, Nat.reduceAdd, Array.replicate_succ, Array.replicate_zero, List.push_toArray, List.nil_append, List.cons_append]
          refine wpAnyN_done (by kernel_rfl) ?_ _
          generalize w4.setCell ⟨B, 3, none⟩ v4 = w5 at *
          go_wp2_with fail
          go_roundg (D + 1 - (k + 1))
          case measure => omega
          case rel => exact ⟨k + 1, v4, by omega, by omega, Lib.hid LG, Lib.hid (HFK.out.trans FG), Lib.hid (HBL.out.trans BG)⟩

        · have t1 : ¬ (k : Int) ≤ (D : Int) := by omega
          obtain ⟨v, hvq, g1, c1, rfl, hsl1⟩ := hls D (by omega)
          have hfd := HFD.out
          rw [hfd] at hvq hsl1
          have cq : wr.cell? ⟨X, D, none⟩ = some (.slice (some ⟨g1, 0, none⟩) (d + 1) c1) := (hown.cellAt D (by omega)).trans hvq
          have q0 : (0 : Int) ≤ (D : Int) := by omega
          have q1 : (D : Int) < (k : Int) := by omega
          have HS1 := Lib.hid hsl1
          clear hls hvl hown hbox hsl1 hvq hfd
          go_wp2_with fail
          go_ret
          exact ⟨g1, c1, rfl, .inr ⟨fr, k, _, HFM.out, hk64, HLA.out⟩, HS1.out, HFK.out, HBL.out⟩

    · have tne : ((from' : Int) != (fr : Int)) = true := by rw [bne_iff_ne]; omega
      clear hff hf64
      go_enter Tryz.func85, Tryz.ntmps85
      obtain ⟨nn, mm, hnn, hMv, hsv⟩ := HCO.out.map
      obtain ⟨g0, cc, hmm, hs0⟩ := hsv fr (by omega) HFM.out
      have hbox := HCO.out.box
      have hBz : B < w.heap.size := (Array.getElem?_eq_some_iff.1 hbox).1
      have cM : w.cell? ⟨B, 2, none⟩ = some (.map (some M)) := cells_box hbox 2
      have c3' : w.cell? ⟨B, 3, none⟩ = some (.slice (some ⟨X', 0, none⟩) k' c3) := cells_box hbox 3
      have c4' : w.cell? ⟨B, 4, none⟩ = some (.int .i64 (from' : Int)) := cells_box hbox 4
      have hfresh := CostAt.fresh HCO.out hbw hBb hMb hBM hsa hsb (v := .slice (some ⟨g0, 0, none⟩) (fr + 1) cc) (fr := fr) ⟨g0, cc, rfl, hs0⟩
      have hbx0 := set_block (j := 4) hbox (.int .i64 (fr : Int))
      have hbx1 : (w.alloc (.cells #[.slice (some ⟨g0, 0, none⟩) (fr + 1) cc] 75)).heap[B]? = _ := (Below.heap_alloc w _ B hBz).trans hbox
      have hbx2 : ((w.setCell ⟨B, 4, none⟩ (.int .i64 (fr : Int))).alloc (.cells #[.slice (some ⟨g0, 0, none⟩) (fr + 1) cc] 75)).heap[B]? = _ := (Below.heap_alloc _ _ B (by simpa [World.setCell] using hBz)).trans hbx0
      have s4 : (w.alloc (.cells #[.slice (some ⟨g0, 0, none⟩) (fr + 1) cc] 75)).cell? ⟨B, 4, none⟩ = some (.int .i64 (from' : Int)) := cells_box hbx1 4
      have f4 : (w.alloc (.cells #[.slice (some ⟨g0, 0, none⟩) (fr + 1) cc] 75)).frozen? ⟨B, 4, none⟩ = false := frozen_of_row _ _ _ _ _ hbx1
      have s3 : ((w.setCell ⟨B, 4, none⟩ (.int .i64 (fr : Int))).alloc (.cells #[.slice (some ⟨g0, 0, none⟩) (fr + 1) cc] 75)).cell? ⟨B, 3, none⟩ = some (.slice (some ⟨X', 0, none⟩) k' c3) := cells_box hbx2 3
      have f3 : ((w.setCell ⟨B, 4, none⟩ (.int .i64 (fr : Int))).alloc (.cells #[.slice (some ⟨g0, 0, none⟩) (fr + 1) cc] 75)).frozen? ⟨B, 3, none⟩ = false := frozen_of_row _ _ _ _ _ hbx2
      have HFR := Lib.hid hfresh; have HMV := Lib.hid hMv; have HMM := Lib.hid hmm; have HBX := Lib.hid hbx1
      have hIO : IntOk (fr : Int) := by unfold IntOk; simp [Lit.wf, IntKind.min, IntKind.max, IntKind.signed, IntKind.bits]; omega
      have HIO := Lib.hid hIO
      clear hsv hs0 hbox hfresh hMv hmm hbx0 hbx1 hbx2 hnn hIO
      go_upto_region 4 with (refine wp_mapGet1 rfl _ _ 173 rfl 75 intEnc Tryz.underlying173 (.slice none 0 0) (zeroSls _) rfl HMV.out (fr : Int) HIO.out rfl ?_; rw [HMM.out, Option.getD_some])
      obtain ⟨W3, hW3⟩ : ∃ W3, ((w.setCell ⟨B, 4, none⟩ (.int .i64 (fr : Int))).setCell ⟨B, 3, none⟩ (.slice (some ⟨w.heap.size, 0, none⟩) 1 1)).alloc (.cells #[.slice (some ⟨g0, 0, none⟩) (fr + 1) cc] 75) = W3 := ⟨_, rfl⟩
      have fk0 : ForKept B w W3 := by rw [← hW3]; exact ((ForKept.setCell _ _ _).trans (ForKept.setCell _ _ _)).trans (ForKept.of_below ((Below.refl _ _).alloc (Nat.le_refl _) _))
      have bl0 : Below base w W3 := by rw [← hW3]; exact (((Below.refl _ _).setCell hBb _).setCell hBb _).alloc (by simpa [World.setCell] using hbw) _
      have la0 := HFR.out
      rw [hW3] at la0
      have FK0 := Lib.hid fk0; have BL0 := Lib.hid bl0; have LA0 := Lib.hid la0
      have hwz : base ≤ W3.heap.size := Nat.le_trans hbw fk0.1
      clear s4 f4 s3 f3 c3' c4' cM fk0 bl0 la0
      rw [hW3]
      clear hW3


      have hwz' : base ≤ w.heap.size := hbw
      go_loopg [] (D + 1) (fun gk wr => ∃ k v3, D + 1 ≤ k + gk ∧ k ≤ 64 ∧ Hid (ListAt a b B M base A A' ca cb w0 fr k v3 wr) ∧ Hid (ForKept B w wr) ∧ Hid (Below base w wr))
      case atStart => exact ⟨1, _, by omega, by omega, LA0, FK0, BL0⟩
      case round =>
        obtain ⟨k, v3, hgk, hk64, HLA, HFK, HBL⟩ := hrel
        obtain ⟨X, c3, rfl, hXbs, hXB, hXM, _⟩ := row_noI32 HLA.out
        obtain ⟨vs, hown, hls⟩ := HLA.out.row
        have hk0 := HLA.out.pos
        have hvl : vs.length = k := by rw [hown.1, Nat.mul_one]
        have hbox := HLA.out.cost.box
        have hBz : B < wr.heap.size := (Array.getElem?_eq_some_iff.1 hbox).1
        have hXz : X < wr.heap.size := (hown.lt X (by simp [Value.ownBlock])).2
        have hbw : base ≤ wr.heap.size := Nat.le_trans hwz' HFK.out.1
        have c3' : wr.cell? ⟨B, 3, none⟩ = some (.slice (some ⟨X, 0, none⟩) k c3) := cells_box hbox 3
        have eD : IntKind.i64.wrap ((d : Int) - (fr : Int)) = (D : Int) := by have := HFD.out; rw [IntWalk.i64_in _ (by omega)]; omega
        by_cases hkD : k ≤ D
        · have t1 : (k : Int) ≤ (D : Int) := by omega
          obtain ⟨q, hq⟩ : ∃ q, k = q + 1 := ⟨k - 1, by omega⟩
          obtain ⟨e, he⟩ : ∃ e, fr + q = e := ⟨_, rfl⟩
          obtain ⟨v, hvq, g1, c1, rfl, hsl1⟩ := hls q (by omega)
          rw [he] at hvq hsl1
          have cq : wr.cell? ⟨X, q, none⟩ = some (.slice (some ⟨g1, 0, none⟩) (e + 1) c1) := (hown.cellAt q (by omega)).trans hvq
          have hnx := next_any a b B A A' (some ⟨g1, 0, none⟩) ca cb c1 e wr.drew hBz (cells_box hbox 0) (cells_box hbox 1) HLA.out.cost.ra HLA.out.cost.rb hsl1 hn hm (by omega)
          have HNX := Lib.hid hnx; have HC3 := Lib.hid c3'; have HCQ := Lib.hid cq; have HBZ := Lib.hid hBz; have HXZ := Lib.hid hXz; have HBW := Lib.hid hbw; have HOWN := Lib.hid hown; have HLS := Lib.hid hls; have HVL := Lib.hid hvl
          have HXB := Lib.hid hXB; have HXBs := Lib.hid hXbs
          have HEK := Lib.hid (show fr + k = e + 1 by omega)
          have HQK := Lib.hid (show q < k by omega)
          have EADD := Lib.hid (show IntKind.i64.wrap ((fr : Int) + (k : Int)) = ((e + 1 : Nat) : Int) by rw [IntWalk.i64_in _ (by omega)]; omega)
          have ESUB := Lib.hid (show IntKind.i64.wrap ((k : Int) - 1) = (q : Int) by rw [IntWalk.i64_in _ (by omega)]; omega)
          clear hnx cq hls hvl hown hbox hsl1 hvq he hq hbw hXz
          go_upto_region 5 with fail
          clear c3' t1 eD
          refine wp_region_N 27 (fun u => u.cell? ⟨B, 3, none⟩ = some (.slice (some ⟨X, 0, none⟩) k c3) ∧ u.cell? ⟨X, q, none⟩ = some (.slice (some ⟨g1, 0, none⟩) (e + 1) c1)) (by kernel_rfl) ?_
          have bd : Below wr.heap.size wr wr.drew := (Below.refl _ _).drew
          have hF0 : wr.drew.cell? ⟨B, 3, none⟩ = some (.slice (some ⟨X, 0, none⟩) k c3) ∧ wr.drew.cell? ⟨X, q, none⟩ = some (.slice (some ⟨g1, 0, none⟩) (e + 1) c1) := ⟨HC3.out, HCQ.out⟩
          have hE1 : ∀ (u : World) (args : Array Value), (callFunc 131 args).run Tryz.prog u = .ok (.enter 131 args) u := fun u args => enters_of Tryz.func131 (by kernel_rfl) rfl args u
          refine wpAnyN_takeW (i := 0) (v := (.pointer (some ⟨B, 0, none⟩))) (by kernel_rfl) rfl (by kernel_rfl) (by kernel_rfl) (by kernel_rfl) (fun _ _ _ h => h) (Or.inl ⟨by rfl, fun w' _ => by rfl⟩) ?_
          simp only [Act.put, List.getElem_toArray, List.getElem_cons_succ, List.getElem_cons_zero, List.setIfInBounds_toArray, List.set_cons_zero, List.set_cons_succ, List.size_toArray, List.length_cons, List.length_nil, Nat.reduceAdd, Array.replicate_succ, Array.replicate_zero, List.push_toArray, List.nil_append, List.cons_append]
          refine wpAnyN_takeW (i := 1) (v := (.pointer (some ⟨B, 0, none⟩))) (by kernel_rfl) rfl (by kernel_rfl) (by kernel_rfl) (by kernel_rfl) (fun _ _ _ h => h) (Or.inl ⟨by rfl, fun w' _ => by rfl⟩) ?_
          simp only [Act.put, List.getElem_toArray, List.getElem_cons_succ, List.getElem_cons_zero, List.setIfInBounds_toArray, List.set_cons_zero, List.set_cons_succ, List.size_toArray, List.length_cons, List.length_nil, Nat.reduceAdd, Array.replicate_succ, Array.replicate_zero, List.push_toArray, List.nil_append, List.cons_append]
          refine wpAnyN_takeW (i := 2) (v := (.pointer (some ⟨B, 0, none⟩))) (by kernel_rfl) rfl (by kernel_rfl) (by kernel_rfl) (by kernel_rfl) (fun _ _ _ h => h) (Or.inl ⟨by rfl, fun w' _ => by rfl⟩) ?_
          simp only [Act.put, List.getElem_toArray, List.getElem_cons_succ, List.getElem_cons_zero, List.setIfInBounds_toArray, List.set_cons_zero, List.set_cons_succ, List.size_toArray, List.length_cons, List.length_nil, Nat.reduceAdd, Array.replicate_succ, Array.replicate_zero, List.push_toArray, List.nil_append, List.cons_append]
          refine wpAnyN_takeW (i := 3) (v := (.pointer (some ⟨B, 3, none⟩))) (by kernel_rfl) rfl (by kernel_rfl) (by kernel_rfl) (by kernel_rfl) (fun _ _ _ h => h) (Or.inl ⟨by rfl, fun w' _ => by rfl⟩) ?_
          simp only [Act.put, List.getElem_toArray, List.getElem_cons_succ, List.getElem_cons_zero, List.setIfInBounds_toArray, List.set_cons_zero, List.set_cons_succ, List.size_toArray, List.length_cons, List.length_nil, Nat.reduceAdd, Array.replicate_succ, Array.replicate_zero, List.push_toArray, List.nil_append, List.cons_append]
          refine wpAnyN_take (i := 4) (v := (.slice (some ⟨X, 0, none⟩) k c3)) (by kernel_rfl) (by kernel_rfl) rfl (by kernel_rfl) (by kernel_rfl) (by kernel_rfl) (fun _ _ _ h => h) (Or.inl ⟨by rfl, fun w' hw' => ex_load1 174 _ rfl (p := ⟨B, 3, none⟩) rfl Tryz.underlying174 rfl hw'.1⟩) hF0 ?_
          simp only [Act.put, List.getElem_toArray, List.getElem_cons_succ, List.getElem_cons_zero, List.setIfInBounds_toArray, List.set_cons_zero, List.set_cons_succ, List.size_toArray, List.length_cons, List.length_nil, Nat.reduceAdd, Array.replicate_succ, Array.replicate_zero, List.push_toArray, List.nil_append, List.cons_append]
          refine wpAnyN_takeW (i := 5) (v := (.pointer (some ⟨B, 0, none⟩))) (by kernel_rfl) rfl (by kernel_rfl) (by kernel_rfl) (by kernel_rfl) (fun _ _ _ h => h) (Or.inl ⟨by rfl, fun w' _ => by rfl⟩) ?_
          simp only [Act.put, List.getElem_toArray, List.getElem_cons_succ, List.getElem_cons_zero, List.setIfInBounds_toArray, List.set_cons_zero, List.set_cons_succ, List.size_toArray, List.length_cons, List.length_nil, Nat.reduceAdd, Array.replicate_succ, Array.replicate_zero, List.push_toArray, List.nil_append, List.cons_append]
          refine wpAnyN_takeW (i := 6) (v := (.int .i64 (fr : Int))) (by kernel_rfl) rfl (by kernel_rfl) (by kernel_rfl) (by kernel_rfl) (fun _ _ _ h => h) (Or.inl ⟨by rfl, fun w' _ => by rfl⟩) ?_
          simp only [Act.put, List.getElem_toArray, List.getElem_cons_succ, List.getElem_cons_zero, List.setIfInBounds_toArray, List.set_cons_zero, List.set_cons_succ, List.size_toArray, List.length_cons, List.length_nil, Nat.reduceAdd, Array.replicate_succ, Array.replicate_zero, List.push_toArray, List.nil_append, List.cons_append]
          refine wpAnyN_takeW (i := 7) (v := (.pointer (some ⟨B, 0, none⟩))) (by kernel_rfl) rfl (by kernel_rfl) (by kernel_rfl) (by kernel_rfl) (fun _ _ _ h => h) (Or.inl ⟨by rfl, fun w' _ => by rfl⟩) ?_
          simp only [Act.put, List.getElem_toArray, List.getElem_cons_succ, List.getElem_cons_zero, List.setIfInBounds_toArray, List.set_cons_zero, List.set_cons_succ, List.size_toArray, List.length_cons, List.length_nil, Nat.reduceAdd, Array.replicate_succ, Array.replicate_zero, List.push_toArray, List.nil_append, List.cons_append]
          refine wpAnyN_takeW (i := 8) (v := (.pointer (some ⟨B, 0, none⟩))) (by kernel_rfl) rfl (by kernel_rfl) (by kernel_rfl) (by kernel_rfl) (fun _ _ _ h => h) (Or.inl ⟨by rfl, fun w' _ => by rfl⟩) ?_
          simp only [Act.put, List.getElem_toArray, List.getElem_cons_succ, List.getElem_cons_zero, List.setIfInBounds_toArray, List.set_cons_zero, List.set_cons_succ, List.size_toArray, List.length_cons, List.length_nil, Nat.reduceAdd, Array.replicate_succ, Array.replicate_zero, List.push_toArray, List.nil_append, List.cons_append]
          refine wpAnyN_takeW (i := 9) (v := (.pointer (some ⟨B, 3, none⟩))) (by kernel_rfl) rfl (by kernel_rfl) (by kernel_rfl) (by kernel_rfl) (fun _ _ _ h => h) (Or.inl ⟨by rfl, fun w' _ => by rfl⟩) ?_
          simp only [Act.put, List.getElem_toArray, List.getElem_cons_succ, List.getElem_cons_zero, List.setIfInBounds_toArray, List.set_cons_zero, List.set_cons_succ, List.size_toArray, List.length_cons, List.length_nil, Nat.reduceAdd, Array.replicate_succ, Array.replicate_zero, List.push_toArray, List.nil_append, List.cons_append]
          refine wpAnyN_take (i := 10) (v := (.slice (some ⟨X, 0, none⟩) k c3)) (by kernel_rfl) (by kernel_rfl) rfl (by kernel_rfl) (by kernel_rfl) (by kernel_rfl) (fun _ _ _ h => h) (Or.inl ⟨by rfl, fun w' hw' => ex_load1 174 _ rfl (p := ⟨B, 3, none⟩) rfl Tryz.underlying174 rfl hw'.1⟩) hF0 ?_
          simp only [Act.put, List.getElem_toArray, List.getElem_cons_succ, List.getElem_cons_zero, List.setIfInBounds_toArray, List.set_cons_zero, List.set_cons_succ, List.size_toArray, List.length_cons, List.length_nil, Nat.reduceAdd, Array.replicate_succ, Array.replicate_zero, List.push_toArray, List.nil_append, List.cons_append]
          refine wpAnyN_takeW (i := 11) (v := (.int .i64 (k : Int))) (by kernel_rfl) rfl (by kernel_rfl) (by kernel_rfl) (by kernel_rfl) (fun _ _ _ h => h) (Or.inl ⟨by rfl, fun w' _ => ex_len 174 _ rfl rfl Tryz.underlying174⟩) ?_
          simp only [Act.put, List.getElem_toArray, List.getElem_cons_succ, List.getElem_cons_zero, List.setIfInBounds_toArray, List.set_cons_zero, List.set_cons_succ, List.size_toArray, List.length_cons, List.length_nil, Nat.reduceAdd, Array.replicate_succ, Array.replicate_zero, List.push_toArray, List.nil_append, List.cons_append]
          refine wpAnyN_takeW (i := 12) (v := (.int .i64 ((e + 1 : Nat) : Int))) (by kernel_rfl) rfl (by kernel_rfl) (by kernel_rfl) (by kernel_rfl) (fun _ _ _ h => h) (Or.inl ⟨by rfl, fun w' _ => by rw [← EADD.out]; rfl⟩) ?_
          simp only [Act.put, List.getElem_toArray, List.getElem_cons_succ, List.getElem_cons_zero, List.setIfInBounds_toArray, List.set_cons_zero, List.set_cons_succ, List.size_toArray, List.length_cons, List.length_nil, Nat.reduceAdd, Array.replicate_succ, Array.replicate_zero, List.push_toArray, List.nil_append, List.cons_append]
          refine wpAnyN_takeW (i := 13) (v := (.pointer (some ⟨B, 0, none⟩))) (by kernel_rfl) rfl (by kernel_rfl) (by kernel_rfl) (by kernel_rfl) (fun _ _ _ h => h) (Or.inl ⟨by rfl, fun w' _ => by rfl⟩) ?_
          simp only [Act.put, List.getElem_toArray, List.getElem_cons_succ, List.getElem_cons_zero, List.setIfInBounds_toArray, List.set_cons_zero, List.set_cons_succ, List.size_toArray, List.length_cons, List.length_nil, Nat.reduceAdd, Array.replicate_succ, Array.replicate_zero, List.push_toArray, List.nil_append, List.cons_append]
          refine wpAnyN_takeW (i := 14) (v := (.pointer (some ⟨B, 0, none⟩))) (by kernel_rfl) rfl (by kernel_rfl) (by kernel_rfl) (by kernel_rfl) (fun _ _ _ h => h) (Or.inl ⟨by rfl, fun w' _ => by rfl⟩) ?_
          simp only [Act.put, List.getElem_toArray, List.getElem_cons_succ, List.getElem_cons_zero, List.setIfInBounds_toArray, List.set_cons_zero, List.set_cons_succ, List.size_toArray, List.length_cons, List.length_nil, Nat.reduceAdd, Array.replicate_succ, Array.replicate_zero, List.push_toArray, List.nil_append, List.cons_append]
          refine wpAnyN_takeW (i := 15) (v := (.pointer (some ⟨B, 3, none⟩))) (by kernel_rfl) rfl (by kernel_rfl) (by kernel_rfl) (by kernel_rfl) (fun _ _ _ h => h) (Or.inl ⟨by rfl, fun w' _ => by rfl⟩) ?_
          simp only [Act.put, List.getElem_toArray, List.getElem_cons_succ, List.getElem_cons_zero, List.setIfInBounds_toArray, List.set_cons_zero, List.set_cons_succ, List.size_toArray, List.length_cons, List.length_nil, Nat.reduceAdd, Array.replicate_succ, Array.replicate_zero, List.push_toArray, List.nil_append, List.cons_append]
          refine wpAnyN_take (i := 16) (v := (.slice (some ⟨X, 0, none⟩) k c3)) (by kernel_rfl) (by kernel_rfl) rfl (by kernel_rfl) (by kernel_rfl) (by kernel_rfl) (fun _ _ _ h => h) (Or.inl ⟨by rfl, fun w' hw' => ex_load1 174 _ rfl (p := ⟨B, 3, none⟩) rfl Tryz.underlying174 rfl hw'.1⟩) hF0 ?_
          simp only [Act.put, List.getElem_toArray, List.getElem_cons_succ, List.getElem_cons_zero, List.setIfInBounds_toArray, List.set_cons_zero, List.set_cons_succ, List.size_toArray, List.length_cons, List.length_nil, Nat.reduceAdd, Array.replicate_succ, Array.replicate_zero, List.push_toArray, List.nil_append, List.cons_append]
          refine wpAnyN_takeW (i := 17) (v := (.pointer (some ⟨B, 0, none⟩))) (by kernel_rfl) rfl (by kernel_rfl) (by kernel_rfl) (by kernel_rfl) (fun _ _ _ h => h) (Or.inl ⟨by rfl, fun w' _ => by rfl⟩) ?_
          simp only [Act.put, List.getElem_toArray, List.getElem_cons_succ, List.getElem_cons_zero, List.setIfInBounds_toArray, List.set_cons_zero, List.set_cons_succ, List.size_toArray, List.length_cons, List.length_nil, Nat.reduceAdd, Array.replicate_succ, Array.replicate_zero, List.push_toArray, List.nil_append, List.cons_append]
          refine wpAnyN_takeW (i := 18) (v := (.pointer (some ⟨B, 0, none⟩))) (by kernel_rfl) rfl (by kernel_rfl) (by kernel_rfl) (by kernel_rfl) (fun _ _ _ h => h) (Or.inl ⟨by rfl, fun w' _ => by rfl⟩) ?_
          simp only [Act.put, List.getElem_toArray, List.getElem_cons_succ, List.getElem_cons_zero, List.setIfInBounds_toArray, List.set_cons_zero, List.set_cons_succ, List.size_toArray, List.length_cons, List.length_nil, Nat.reduceAdd, Array.replicate_succ, Array.replicate_zero, List.push_toArray, List.nil_append, List.cons_append]
          refine wpAnyN_takeW (i := 19) (v := (.pointer (some ⟨B, 3, none⟩))) (by kernel_rfl) rfl (by kernel_rfl) (by kernel_rfl) (by kernel_rfl) (fun _ _ _ h => h) (Or.inl ⟨by rfl, fun w' _ => by rfl⟩) ?_
          simp only [Act.put, List.getElem_toArray, List.getElem_cons_succ, List.getElem_cons_zero, List.setIfInBounds_toArray, List.set_cons_zero, List.set_cons_succ, List.size_toArray, List.length_cons, List.length_nil, Nat.reduceAdd, Array.replicate_succ, Array.replicate_zero, List.push_toArray, List.nil_append, List.cons_append]
          refine wpAnyN_take (i := 20) (v := (.slice (some ⟨X, 0, none⟩) k c3)) (by kernel_rfl) (by kernel_rfl) rfl (by kernel_rfl) (by kernel_rfl) (by kernel_rfl) (fun _ _ _ h => h) (Or.inl ⟨by rfl, fun w' hw' => ex_load1 174 _ rfl (p := ⟨B, 3, none⟩) rfl Tryz.underlying174 rfl hw'.1⟩) hF0 ?_
          simp only [Act.put, List.getElem_toArray, List.getElem_cons_succ, List.getElem_cons_zero, List.setIfInBounds_toArray, List.set_cons_zero, List.set_cons_succ, List.size_toArray, List.length_cons, List.length_nil, Nat.reduceAdd, Array.replicate_succ, Array.replicate_zero, List.push_toArray, List.nil_append, List.cons_append]
          refine wpAnyN_takeW (i := 21) (v := (.int .i64 (k : Int))) (by kernel_rfl) rfl (by kernel_rfl) (by kernel_rfl) (by kernel_rfl) (fun _ _ _ h => h) (Or.inl ⟨by rfl, fun w' _ => ex_len 174 _ rfl rfl Tryz.underlying174⟩) ?_
          simp only [Act.put, List.getElem_toArray, List.getElem_cons_succ, List.getElem_cons_zero, List.setIfInBounds_toArray, List.set_cons_zero, List.set_cons_succ, List.size_toArray, List.length_cons, List.length_nil, Nat.reduceAdd, Array.replicate_succ, Array.replicate_zero, List.push_toArray, List.nil_append, List.cons_append]
          refine wpAnyN_takeW (i := 22) (v := (.int .i64 (q : Int))) (by kernel_rfl) rfl (by kernel_rfl) (by kernel_rfl) (by kernel_rfl) (fun _ _ _ h => h) (Or.inl ⟨by rfl, fun w' _ => by rw [← ESUB.out]; rfl⟩) ?_
          simp only [Act.put, List.getElem_toArray, List.getElem_cons_succ, List.getElem_cons_zero, List.setIfInBounds_toArray, List.set_cons_zero, List.set_cons_succ, List.size_toArray, List.length_cons, List.length_nil, Nat.reduceAdd, Array.replicate_succ, Array.replicate_zero, List.push_toArray, List.nil_append, List.cons_append]
          refine wpAnyN_takeW (i := 23) (v := (.pointer (some ⟨X, q, none⟩))) (by kernel_rfl) rfl (by kernel_rfl) (by kernel_rfl) (by kernel_rfl) (fun _ _ _ h => h) (Or.inl ⟨by rfl, fun w' _ => ex_index1 174 _ _ rfl (X := X) (n := k) (c := c3) (q := q) rfl rfl HQK.out Tryz.underlying174 (by kernel_rfl)⟩) ?_
          simp only [Act.put, List.getElem_toArray, List.getElem_cons_succ, List.getElem_cons_zero, List.setIfInBounds_toArray, List.set_cons_zero, List.set_cons_succ, List.size_toArray, List.length_cons, List.length_nil, Nat.reduceAdd, Array.replicate_succ, Array.replicate_zero, List.push_toArray, List.nil_append, List.cons_append]
          refine wpAnyN_take (i := 24) (v := (.slice (some ⟨g1, 0, none⟩) (e + 1) c1)) (by kernel_rfl) (by kernel_rfl) rfl (by kernel_rfl) (by kernel_rfl) (by kernel_rfl) (fun _ _ _ h => h) (Or.inl ⟨by rfl, fun w' hw' => ex_load1 75 _ rfl (p := ⟨X, q, none⟩) rfl Tryz.underlying75 rfl hw'.2⟩) hF0 ?_
          simp only [Act.put, List.getElem_toArray, List.getElem_cons_succ, List.getElem_cons_zero, List.setIfInBounds_toArray, List.set_cons_zero, List.set_cons_succ, List.size_toArray, List.length_cons, List.length_nil, Nat.reduceAdd, Array.replicate_succ, Array.replicate_zero, List.push_toArray, List.nil_append, List.cons_append]
          refine wpAnyN_all (rs := [25]) (by kernel_rfl) (by simp) ?_
          intro q' hq'
          obtain rfl : q' = 25 := by simpa using hq'
          refine wpOp_call _ rfl (by kernel_rfl) (ex_callFn (f := 131) (args := #[.pointer (some ⟨B, 0, none⟩), .int .i64 ((e + 1 : Nat) : Int), .slice (some ⟨g1, 0, none⟩) (e + 1) c1]) rfl rfl (fun args w => hE1 w args) (by simp only [List.map_toArray, List.map_cons, List.map_nil]; rfl)) ?_
          refine HNX.out.mono ?_
          rintro r w2 ⟨hb2, g2, c2, rfl, hown2⟩
          have hb2' : Below wr.heap.size wr w2 := bd.trans hb2
          refine ⟨_, rfl, fun _ _ => ⟨(hb2'.cell (p := ⟨B, 3, none⟩) HBZ.out).trans HC3.out, (hb2'.cell (p := ⟨X, q, none⟩) HXZ.out).trans HCQ.out⟩, ?_⟩
          simp only [Act.put, List.getElem_toArray, List.getElem_cons_succ, List.getElem_cons_zero, List.setIfInBounds_toArray, List.set_cons_zero, List.set_cons_succ, List.size_toArray, List.length_cons, List.length_nil, Nat.reduceAdd, Array.replicate_succ, Array.replicate_zero, List.push_toArray, List.nil_append, List.cons_append]
          refine wpAnyN_all (rs := [26]) (by kernel_rfl) (by simp) ?_
          intro q' hq'
          obtain rfl : q' = 26 := by simpa using hq'
          refine wpOp_val _ rfl (by kernel_rfl) (ex_build1c 174 _ rfl 75 Tryz.underlying174 (.slice none 0 0) 24 slsInfo rfl (.slice (some ⟨g2, 0, none⟩) (e + 2) c2) rfl rfl) ?_
          have hb3 : Below wr.heap.size wr (w2.alloc (.cells #[.slice (some ⟨g2, 0, none⟩) (e + 2) c2] 75)) := hb2'.alloc hb2'.size _
          refine ⟨fun _ _ => ⟨(hb3.cell (p := ⟨B, 3, none⟩) HBZ.out).trans HC3.out, (hb3.cell (p := ⟨X, q, none⟩) HXZ.out).trans HCQ.out⟩, ?_⟩
          simp only [Act.put, List.getElem_toArray, List.getElem_cons_succ, List.getElem_cons_zero, List.setIfInBounds_toArray, List.set_cons_zero, List.set_cons_succ, List.size_toArray, List.length_cons, List.length_nil, Nat.reduceAdd, Array.replicate_succ, Array.replicate_zero, List.push_toArray, List.nil_append, List.cons_append]
          have L2 : LstAt a b w2 (.slice (some ⟨g2, 0, none⟩) (e + 2) c2) (e + 1) := ⟨g2, c2, rfl, Sl.of_own hown2⟩
          have hal : Below w2.heap.size w2 (w2.alloc (.cells #[.slice (some ⟨g2, 0, none⟩) (e + 2) c2] 75)) := (Below.refl _ _).alloc (Nat.le_refl _) _
          have L3 := L2.below hal
          have hbx : (w2.alloc (.cells #[.slice (some ⟨g2, 0, none⟩) (e + 2) c2] 75)).heap[w2.heap.size]? = some (.cells #[.slice (some ⟨g2, 0, none⟩) (e + 2) c2] 75 (0, 0)) := heap_alloc_new _ _
          have hz3 : w2.heap.size < (w2.alloc (.cells #[.slice (some ⟨g2, 0, none⟩) (e + 2) c2] 75)).heap.size := by simp
          generalize w2.alloc (.cells #[.slice (some ⟨g2, 0, none⟩) (e + 2) c2] 75) = w3 at *
          have LA3 := HLA.out.below HBW.out hb3
          have hown3 := own_kept HOWN.out hb3
          refine wpAnyN_all (rs := [27]) (by kernel_rfl) (by simp) ?_
          intro q' hq'
          obtain rfl : q' = 27 := by simpa using hq'
          refine wpOp_wp _ rfl (by kernel_rfl) (wp_append_sl _ _ 174 rfl base 75 im (.slice none 0 0) 1 24 Tryz.underlying174 hmi hm0 hm1 hm2 rfl (by decide) _ _ _ rfl hown3 (some ⟨w2.heap.size, 0, none⟩) 1 1 w3.heap.size [.slice (some ⟨g2, 0, none⟩) (e + 2) c2] rfl ⟨rfl, fun _ => ⟨w2.heap.size, 0, rfl, hz3, fun j u hj => by rw [Nat.zero_add]; exact (cells_box hbx j).trans (by simpa using hj)⟩⟩ (fun u hu => by rw [List.mem_singleton.1 hu]; rfl) (by unfold maxLen; omega) (by omega) (Nat.le_trans HBW.out hb3.size) ?_)
          intro v4 w4 hown4 hg4
          refine ⟨fun h => absurd h (by decide), ?_⟩
          simp only [Act.put, List.getElem_toArray, List.getElem_cons_succ, List.getElem_cons_zero, List.setIfInBounds_toArray, List.set_cons_zero, List.set_cons_succ, List.size_toArray, List.length_cons, List.length_nil, Nat.reduceAdd, Array.replicate_succ, Array.replicate_zero, List.push_toArray, List.nil_append, List.cons_append]
          have hB4 : w4.heap[B]? = w3.heap[B]? := hg4.block B (Nat.lt_of_lt_of_le HBZ.out hb3.size) (by simp only [Value.ownBlock]; intro h; injection h with h; exact HXB.out h.symm)
          have hbox4 := hB4.trans LA3.cost.box
          have hv4 : v4.ownBlock ≠ some B ∧ v4.oneCell' = true ∧ v4.cells = #[v4] := by
            rcases hown4.2 with ⟨rfl, h0⟩ | ⟨g4, c4, cur, rfl, _, hh, _⟩
            · omega
            · refine ⟨fun hq => ?_, rfl, rfl⟩
              have hq : g4 = B := by simpa [Value.ownBlock] using hq
              subst hq
              rw [hbox4] at hh
              injection hh with hh
              injection hh with _ hh _
              revert hh
              decide
          have LG := LA3.grow (Nat.le_trans HBW.out hb3.size) hBb hMb hBM hsa hsb (fun j hj => by obtain ⟨u, hu, hl⟩ := HLS.out j hj; exact ⟨u, hu, hl.below hb3⟩) HVL.out (by rw [show fr + k = e + 1 by have := HEK.out; omega]; exact L3) hown4 hg4 hv4.1
          have FG : ForKept B wr (w4.setCell ⟨B, 3, none⟩ v4) := ((ForKept.of_below hb3).trans (ForKept.own hown3 hg4)).trans (ForKept.setCell _ _ _)
          have BG : Below base wr (w4.setCell ⟨B, 3, none⟩ v4) := ((hb3.mono HBW.out).grown hg4 (Nat.le_trans HBW.out hb3.size) (fun i hi => by
            have hi' : Value.ownBlock (.slice (some ⟨X, 0, none⟩) k c3) = some i := hi
            have : i = X := by simpa [Value.ownBlock] using hi'.symm
            rw [this]; exact HXBs.out)).setCell hBb _
          refine wpAnyN_all (rs := [28]) (by kernel_rfl) (by simp) ?_
          intro q' hq'
          obtain rfl : q' = 28 := by simpa using hq'
          refine wpOp_val _ rfl (by kernel_rfl) (by rfl) ?_
          refine ⟨fun h => absurd h (by decide), ?_⟩
          simp only [Act.put, List.getElem_toArray, List.getElem_cons_succ, List.getElem_cons_zero, List.setIfInBounds_toArray, List.set_cons_zero, List.set_cons_succ, List.size_toArray, List.length_cons, List.length_nil, Nat.reduceAdd, Array.replicate_succ, Array.replicate_zero, List.push_toArray, List.nil_append, List.cons_append]
          refine wpAnyN_all (rs := [29]) (by kernel_rfl) (by simp) ?_
          intro q' hq'
          obtain rfl : q' = 29 := by simpa using hq'
          refine wpOp_val _ rfl (by kernel_rfl) (by rfl) ?_
          refine ⟨fun h => absurd h (by decide), ?_⟩
          simp only [Act.put, List.getElem_toArray, List.getElem_cons_succ, List.getElem_cons_zero, List.setIfInBounds_toArray, List.set_cons_zero, List.set_cons_succ, List.size_toArray, List.length_cons, List.length_nil, Nat.reduceAdd, Array.replicate_succ, Array.replicate_zero, List.push_toArray, List.nil_append, List.cons_append]
          refine wpAnyN_all (rs := [30]) (by kernel_rfl) (by simp) ?_
          intro q' hq'
          obtain rfl : q' = 30 := by simpa using hq'
          refine wpOp_skip _ rfl (by kernel_rfl) (ex_store1 174 _ _ rfl B 3 v4 rfl rfl hv4.2.1 hv4.2.2 (by kernel_rfl) (cells_box hbox4 3) (frozen_of_row _ _ _ _ _ hbox4)) ?_
          refine ⟨fun h => absurd h (by decide), ?_⟩
          simp only [Act.put, List.getElem_toArray, List.getElem_cons_succ, List.getElem_cons_zero, List.setIfInBounds_toArray, List.set_cons_zero, List.set_cons_succ, List.size_toArray, List.length_cons, List.length_nil, Nat.reduceAdd, Array.replicate_succ, Array.replicate_zero, List.push_toArray, List.nil_append, List.cons_append]
          refine wpAnyN_done (by kernel_rfl) ?_ _
          generalize w4.setCell ⟨B, 3, none⟩ v4 = w5 at *
          go_wp2_with fail
          go_roundg (D + 1 - (k + 1))
          case measure => omega
          case rel => exact ⟨k + 1, v4, by omega, by omega, Lib.hid LG, Lib.hid (HFK.out.trans FG), Lib.hid (HBL.out.trans BG)⟩

        · have t1 : ¬ (k : Int) ≤ (D : Int) := by omega
          obtain ⟨v, hvq, g1, c1, rfl, hsl1⟩ := hls D (by omega)
          have hfd := HFD.out
          rw [hfd] at hvq hsl1
          have cq : wr.cell? ⟨X, D, none⟩ = some (.slice (some ⟨g1, 0, none⟩) (d + 1) c1) := (hown.cellAt D (by omega)).trans hvq
          have q0 : (0 : Int) ≤ (D : Int) := by omega
          have q1 : (D : Int) < (k : Int) := by omega
          have HS1 := Lib.hid hsl1
          clear hls hvl hown hbox hsl1 hvq hfd
          go_wp2_with fail
          go_ret
          exact ⟨g1, c1, rfl, .inr ⟨fr, k, _, HFM.out, hk64, HLA.out⟩, HS1.out, HFK.out, HBL.out⟩

end Go.Proofs.YtmlhijlcefogmaaGreatDoor
