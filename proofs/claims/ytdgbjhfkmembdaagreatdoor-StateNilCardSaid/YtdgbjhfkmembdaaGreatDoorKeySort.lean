/-
  slices.SortedFunc over the keys of the register's map: the keys in their order. Condition: the map is one that the call made, with at most 2^40 keys.
-/
import Derived.Test.YtdgbjhfkmembdaaGreatDoorKeySeq
import Derived.Test.YtdgbjhfkmembdaaGreatDoorSortK
import Derived.Test.YtdgbjhfkmembdaaGreatDoorLaySort
namespace Go.Proofs.YtdgbjhfkmembdaaGreatDoor
open Go.RowKit Go.Maps Go.Shelf Go.Sort
set_option linter.unusedVariables false
set_option linter.unusedSimpArgs false

instance : Inhabited KeyS := ⟨⟨(0, zero32, 0), ⟨by decide, zero32_ok, by decide⟩⟩⟩
def cmpS (a b : KeyS) : Int := cmpK a.1 b.1
theorem ltS (a b : KeyS) : ltOf cmpS a b = decide (cmpK a.1 b.1 < 0) := rfl
theorem swoS : SWO (ltOf cmpS) where
  irrefl x := by rw [ltS, cmpK_self]; rfl
  trans x y z h1 h2 := by
    rw [ltS, decide_eq_true_eq] at *
    exact cmpK_trans h1 h2
  ntrans x y z h1 h2 := by
    rw [ltS, decide_eq_false_iff_not] at *
    intro h
    rcases cmpK_cases x.1 y.1 with q | q | q
    · exact h1 q
    · rw [q] at h; exact h2 h
    · exact h2 (cmpK_trans q h)
theorem partS (x y : KeyS) (h1 : ltOf cmpS x y = false) (h2 : ltOf cmpS y x = false) : x = y := by
  rw [ltS, decide_eq_false_iff_not] at *
  rcases cmpK_cases x.1 y.1 with q | q | q
  · exact absurd q h1
  · exact Subtype.ext q
  · exact absurd q h2

set_option maxHeartbeats 1000000 in
set_option maxRecDepth 100000 in
theorem closure_gr (a b : KeyD) (w : World) (ha : KeyOk a) (hb : KeyOk b) :
    Calls Tryz.prog 77 #[.agg (keyV a).toArray, .agg (keyV b).toArray] w fun e w' => Gr w w' ∧ e = .returned (.int .i64 (cmpK a b)) := by
  have hA0 : (w.alloc (.cells (keyV a).toArray 89)).heap[w.heap.size]? = some (.cells (keyV a).toArray 89 (0, 0)) := heap_alloc_new _ _
  go_enter Tryz.func77, Tryz.ntmps77
  go_upto_region 1 with fail
  have hA : ((w.alloc (.cells (keyV a).toArray 89)).alloc (.cells (keyV b).toArray 89)).heap[w.heap.size]? = some (.cells (keyV a).toArray 89 (0, 0)) := by
    exact (heap_alloc_old (w.alloc (.cells (keyV a).toArray 89)) _ (by simp)).trans hA0
  have hB : ((w.alloc (.cells (keyV a).toArray 89)).alloc (.cells (keyV b).toArray 89)).heap[w.heap.size + 1]? = some (.cells (keyV b).toArray 89 (0, 0)) := by
    have := heap_alloc_new (w.alloc (.cells (keyV a).toArray 89)) (.cells (keyV b).toArray 89)
    rw [World.size_alloc] at this
    exact this
  have hG : Gr w ((w.alloc (.cells (keyV a).toArray 89)).alloc (.cells (keyV b).toArray 89)) := ((Gr.refl _).alloc _).alloc _
  clear hA0
  generalize (w.alloc (.cells (keyV a).toArray 89)).alloc (.cells (keyV b).toArray 89) = W at *
  have HA := Lib.hid hA; have HB := Lib.hid hB; have HG := Lib.hid hG
  clear hA hB hG
  have hcall := keys_gr a b W ha hb
  go_wp2_with (first
    | (refine wpList_load_row rfl 89 _ rfl w.heap.size rfl 89 _ (0, 0) _ HA.out Tryz.underlying89 rfl (keyV_info ha) ?_)
    | (refine wpList_load_row rfl 89 _ rfl (w.heap.size + 1) rfl 89 _ (0, 0) _ HB.out Tryz.underlying89 rfl (keyV_info hb) ?_)
    | (go_at_call 78; refine hcall.mono ?_; rintro e w5 ⟨hb5, rfl⟩))
  go_ret
  exact ⟨HG.out.trans hb5, rfl⟩
theorem cmpLays (blk off size : Nat) (w : World) : CmpLays Tryz.prog 77 #[] (fun x : KeyS => keyV x.1) 34 cmpS blk off size w :=
  fun _ _ _ _ x y => (closure_gr x.1 y.1 _ x.2 y.2).mono fun e w' ⟨⟨q, os, h⟩, he⟩ => ⟨he, q, os, h⟩

/-- Keys in order. -/
def ordS (ss : List KeyS) : List KeyS := ss.mergeSort fun x y => !(ltOf cmpS) y x
theorem ordS_perm (ss : List KeyS) : (ordS ss).Perm ss := List.mergeSort_perm _ _
theorem ordS_rising {ss : List KeyS} (hn : ss.Nodup) : Rising ((ordS ss).map (·.1)) := by
  have hp : (ordS ss).Pairwise fun a b => (!(ltOf cmpS) b a) = true := by
    refine List.pairwise_mergeSort (fun a b c h1 h2 => ?_) (fun a b => ?_) ss
    · simp only [Bool.not_eq_true'] at *
      exact swoS.ntrans _ _ _ h2 h1
    · simp only [Bool.or_eq_true, Bool.not_eq_true']
      rw [ltS, ltS, decide_eq_false_iff_not, decide_eq_false_iff_not]
      rcases cmpK_cases a.1 b.1 with q | q | q
      · left; intro h; have := cmpK_trans q h; rw [cmpK_self] at this; omega
      · left; rw [q, cmpK_self]; omega
      · right; intro h; have := cmpK_trans q h; rw [cmpK_self] at this; omega
  have hnd : (ordS ss).Nodup := (ordS_perm ss).nodup_iff.2 hn
  unfold Rising
  rw [List.pairwise_map]
  refine (hp.and hnd).imp ?_
  rintro a b ⟨h1, h2⟩
  simp only [Bool.not_eq_true'] at h1
  rw [ltS, decide_eq_false_iff_not] at h1
  rcases cmpK_cases a.1 b.1 with q | q | q
  · exact q
  · exact absurd (Subtype.ext q) h2
  · exact absurd q h1
theorem ordS_mem {m : KeyD → Option Value} {ss : List KeyS} (h : KeysIs m ss) (x : KeyS) : x ∈ ordS ss ↔ (m x.1).isSome = true := by
  rw [(ordS_perm ss).mem_iff]
  exact h.2 x

set_option maxHeartbeats 1000000 in
set_option maxRecDepth 100000 in
theorem sorted_keys (b nn : Nat) (m : KeyD → Option Value) (w : World) (hnn : nn ≤ 1099511627776) (hown : MapV w Tryz.prog 89 KeyOk keyL b nn m) (Bm : Nat) (hBm : w.cell? ⟨Bm, 0, none⟩ = some (.map (some b))) :
    Calls Tryz.prog 75 #[.func (.func 126) #[] #[.pointer (some ⟨Bm, 0, none⟩)], .func (.func 77) #[] #[]] w fun e w' =>
      Below w.heap.size w w' ∧ ∃ A c ds, (∃ ss : List KeyS, KeysIs m ss ∧ ds = (ordS ss).map (·.1)) ∧ e = .returned (.slice A ds.length c) ∧ Sl w' w'.heap.size A ds.length 34 (rowsV keyV ds) := by
  have hBl : Bm < w.heap.size := block_lt_of_cell hBm
  have hcol := fun (W : World) (hb : Below w.heap.size w W) => callsIn_wide.1 (collect_in Fence.wide 5 trivial trivial rfl (by decide) 126 #[.pointer (some ⟨Bm, 0, none⟩)] trivial (enters_of Tryz.func126 (by kernel_rfl) rfl) (fun ss => KeysIs m ss ∧ ss.length ≤ nn) (fun _ => True) nn hnn W
    (keys_gives Fence.wide (5 - 1 - 1) trivial rfl (by decide) Bm b nn m W (Nat.lt_of_lt_of_le hBl hb.size) ((hb.cell (p := ⟨Bm, 0, none⟩) hBl).trans hBm) (hown.below hb)))
  have hcl := hcol w (Below.refl _ _)
  clear hcol
  have HO := Lib.hid hown; clear hown hBm
  go_enter Tryz.func75, Tryz.ntmps75
  go_wp2_with fail
  refine hcl.mono ?_
  rintro e W1 ⟨v, ss, rfl, ⟨hS, hlen⟩, hrow, hnil, hb1⟩
  clear hcl
  have HB1 := Lib.hid hb1; have HS := Lib.hid hS
  clear hb1 hS
  rcases hrow.2 with ⟨rfl, hz⟩ | ⟨g, cap, cur, rfl, hbase, hg, r1, r2, r3, r4⟩
  · have hss : ss = [] := List.eq_nil_of_length_eq_zero hz
    subst hss
    have hcs := AnyF.slices_SortFunc_none { Tryz.laysSortKeys with } (none : Option Addr) 0 (.func (.func 77) #[] #[]) W1
    change Calls Tryz.prog 125 _ _ _ at hcs
    clear hrow hnil hz
    go_wp2_with (go_at_call 125; refine hcs.mono ?_; rintro e w5 ⟨rfl, rfl⟩)
    go_ret
    exact ⟨HB1.out, none, 0, [], ⟨[], HS.out, by simp [ordS]⟩, rfl, Sl.nil⟩
  · have hk : ∀ x : KeyS, (keyV x.1).length = 34 := fun x => keyV_length x.2
    have hH : HoldsK (fun x : KeyS => keyV x.1) 34 W1 g 0 ss.toArray := holdsK_of_block hk (by decide) hg r4
    have hgl : g < W1.heap.size := (Array.getElem?_eq_some_iff.1 hg).1
    have hsz : ss.toArray.size < 4611686018427387904 := by rw [List.size_toArray]; omega
    have hcs := AnyQ.slices_SortFunc_total Tryz.laysSortKeys 34 Tryz.isAgg89 Tryz.sizeOf89 (fun x : KeyS => keyV x.1) hk (fun x => keyV_one x.1) cmpS swoS 77 #[] g 0 cap ss.toArray W1
      (enters_of Tryz.func77 (by kernel_rfl) rfl) (cmpLays g 0 _ W1) hH hgl hsz partS
    change Calls Tryz.prog 125 _ _ _ at hcs
    have hsl := fun (n : Nat) (os : Array Obj) => sortedK_sl hk (by decide) hg hH hbase (t := ordS ss) ((ordS_perm ss).length_eq) n os w HB1.out
    have HSL := Lib.hid hsl
    clear hsl hH hrow hnil hg r4
    simp only [List.size_toArray] at hcs
    go_wp2_with (go_at_call 125; refine hcs.mono ?_; rintro e w5 ⟨rfl, n, os, rfl⟩)
    go_ret
    obtain ⟨h1, h2⟩ := HSL.out n os
    refine ⟨h2, some ⟨g, 0, none⟩, cap, (ordS ss).map (·.1), ⟨ss, HS.out, rfl⟩, ?_, ?_⟩
    · rw [List.length_map, (ordS_perm ss).length_eq]; rfl
    · rw [List.length_map, (ordS_perm ss).length_eq, show rowsV keyV ((ordS ss).map (·.1)) = rowsV (fun x : KeyS => keyV x.1) (ordS ss) by simp [rowsV, List.flatMap_map]]
      exact h1
end Go.Proofs.YtdgbjhfkmembdaaGreatDoor
