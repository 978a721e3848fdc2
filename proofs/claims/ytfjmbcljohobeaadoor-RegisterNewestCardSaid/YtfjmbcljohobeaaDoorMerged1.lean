/-
  A row of several-cell elements that the call owns, sorted by the library: between two vocabularies. Over any program; conditions as each says.
  What contracts of Go's library ask of the program, laid at this program by the kit's tools. Conditions: none.
  slices.SortedFunc over the keys of the register's map: the keys in their order. Condition: the map is one that the call made, with at most 2^40 keys.
  What a fresh path is: the path itself, or a candidate; its length. No conditions; no program.
  The paths that documents have, one document more; rows of unlike elements stand apart. No conditions; no program.
-/
import Derived.Test.YtfjmbcljohobeaaDoorRowList
import Derived.Test.YtfjmbcljohobeaaDoorGr
import Derived.Shelf.SlSortCmp.NoneTotal
import Derived.Shelf.SlGeneric
import Derived.Ground.SlsfProg
import Derived.Test.YtfjmbcljohobeaaDoorProg
import Derived.Test.YtfjmbcljohobeaaDoorKeySeq
import Derived.Test.YtfjmbcljohobeaaDoorFreshWalks
import Derived.Test.YtfjmbcljohobeaaDoorRegSpec
namespace Go.Proofs.YtfjmbcljohobeaaDoor
open Go.RowKit Go.Sort
set_option linter.unusedVariables false

section
variable {α : Type} [Inhabited α] {enc : α → List Value} {k : Nat}
theorem flatK_is (hk : ∀ x, (enc x).length = k) (hk0 : 0 < k) (l : List α) : flatK enc k l.toArray = (rowsV enc l).toArray := by
  have hl : (rowsV enc l).length = l.length * k := rowsV_length fun x _ => hk x
  refine ext_get! (by simp [hl]) fun t ht => ?_
  have ht' : t < l.length * k := by simpa using ht
  rw [get_flatK enc k l.toArray t (by simpa using ht')]
  have hi : t / k < l.length := (Nat.div_lt_iff_lt_mul hk0).2 ht'
  have hm : t % k < k := Nat.mod_lt _ hk0
  have hg := rowsV_get (l := l) (fun x _ => hk x) (t / k) hi (t % k) _ (List.getElem?_eq_getElem (by rw [hk]; exact hm))
  rw [show t / k * k + t % k = t by rw [Nat.mul_comm]; exact Nat.div_add_mod t k] at hg
  rw [show (l.toArray)[t / k]! = l[t / k] by simp [hi], getElem!_pos _ _ (by rw [hk]; exact hm), getElem!_pos _ _ (by simpa [hl] using ht')]
  obtain ⟨_, h2⟩ := List.getElem?_eq_some_iff.1 hg
  simpa using h2.symm
variable {w : World} {base g cap : Nat} {e : TypeId} {cur : Array Value} {l : List α}
theorem holdsK_of_block (hk : ∀ x, (enc x).length = k) (hk0 : 0 < k) (hb : w.heap[g]? = some (.cells cur e (0, 0))) (ht : cur.toList.take (l.length * k) = rowsV enc l) : HoldsK enc k w g 0 l.toArray := by
  unfold HoldsK
  rw [flatK_is hk hk0]
  intro j hj
  have hl : (rowsV enc l).length = l.length * k := rowsV_length fun x _ => hk x
  have hj' : j < (rowsV enc l).length := by simpa using hj
  refine ⟨?_, by simp [World.frozen?, hb]⟩
  have h1 : (cur.toList.take (l.length * k))[j]? = (rowsV enc l)[j]? := by rw [ht]
  rw [List.getElem?_take_of_lt (by omega)] at h1
  simp only [World.cell?, hb, Nat.zero_add]
  simp only [Option.isSome_none, Bool.false_eq_true, if_false]
  rw [← Array.getElem?_toList, h1]
  simp [hj']
/-- Behind the sort the slice reads as the sorted list; what lay is as it was. -/
theorem sortedK_sl (hk : ∀ x, (enc x).length = k) (hk0 : 0 < k) (hb : w.heap[g]? = some (.cells cur e (0, 0))) (hH : HoldsK enc k w g 0 l.toArray) (hbase : base ≤ g) {t : List α} (ht : t.length = l.length) (m : Nat) (os : Array Obj) (w0 : World) (hw : Below base w0 w) :
    Sl (sortWorldK enc k w g 0 m t.toArray os) (sortWorldK enc k w g 0 m t.toArray os).heap.size (some ⟨g, 0, none⟩) l.length k (rowsV enc t) ∧ Below base w0 (sortWorldK enc k w g 0 m t.toArray os) := by
  have hg : g < w.heap.size := (Array.getElem?_eq_some_iff.1 hb).1
  have hlt : (rowsV enc t).length = t.length * k := rowsV_length fun x _ => hk x
  have hll : (rowsV enc l).length = l.length * k := rowsV_length fun x _ => hk x
  unfold HoldsK at hH
  rw [flatK_is hk hk0] at hH
  have hH2 : Holds id (Sort.ahead w m) g 0 (rowsV enc l).toArray := hH
  have hsz : (grow (putRow id (Sort.ahead w m) g 0 (rowsV enc t).toArray) os).heap.size = w.heap.size + os.size := by
    unfold grow putRow mapBlock Sort.ahead
    simp
  unfold sortWorldK putRowK
  rw [flatK_is hk hk0]
  refine ⟨⟨by rw [hlt, ht], fun _ => ⟨g, 0, rfl, by rw [hsz]; omega, fun j u hu => ?_⟩⟩, ?_⟩
  · obtain ⟨hj, hu2⟩ := List.getElem?_eq_some_iff.1 hu
    have hc := cell?_putRow id (Sort.ahead w m) g 0 (rowsV enc l).toArray (rowsV enc t).toArray hH2 (by simp [hlt, hll, ht]) j (by simpa using hj)
    have hc2 : (grow (putRow id (Sort.ahead w m) g 0 (rowsV enc t).toArray) os).cell? ⟨g, 0 + j, none⟩ = (putRow id (Sort.ahead w m) g 0 (rowsV enc t).toArray).cell? ⟨g, 0 + j, none⟩ := by
      unfold World.cell? grow
      simp only
      rw [Array.getElem?_append_left (by unfold putRow mapBlock Sort.ahead; simpa using hg)]
    rw [hc2, hc]
    simp [hj, hu2]
  · refine hw.trans ⟨rfl, rfl, rfl, by rw [hsz]; omega, fun q hq => ?_⟩
    unfold grow
    simp only
    rw [Array.getElem?_append_left (by unfold putRow mapBlock Sort.ahead; simp; omega)]
    unfold putRow mapBlock Sort.ahead
    simp only
    rw [Array.getElem?_modify, if_neg (by omega)]
end
end Go.Proofs.YtfjmbcljohobeaaDoor
namespace Go.Proofs
open Go.Shelf
def Tryd.laysSortKeys_ren : Go.Shelf.Ren := ⟨fun | 6 => 71 | 15 => 90 | 14 => 97 | 28 => 122 | 29 => 123 | 20 => 129 | 21 => 130 | 22 => 131 | 23 => 132 | 24 => 133 | 25 => 134 | 26 => 135 | 27 => 136 | 46 => 161 | 47 => 147 | 48 => 148 | 49 => 162 | 50 => 163 | 57 => 171 | n => n, fun | 22 => 78 | 24 => 35 | 25 => 44 | 3 => 3 | 39 => 154 | 0 => 0 | 53 => 179 | 55 => 39 | 4 => 4 | 46 => 172 | 45 => 171 | 50 => 176 | 5 => 5 | 9 => 9 | 66 => 193 | 70 => 197 | 76 => 207 | 77 => 208 | n => n, fun | n => n⟩
theorem Tryd.laysSortKeys : Go.Proofs.SlLaysF0.n6 Tryd.prog Tryd.laysSortKeys_ren := {
  mixed := by kernel_rfl
  f6 := ⟨Tryd.f71.name, by decide, Tryd.func71.trans (congrArg some (by kernel_rfl))⟩
  f14 := ⟨Tryd.f97.name, by decide, Tryd.func97.trans (congrArg some (by kernel_rfl))⟩
  f15 := Tryd.func90.trans (congrArg some (by kernel_rfl))
  f20 := ⟨Tryd.f129.name, by decide, Tryd.func129.trans (congrArg some (by kernel_rfl))⟩
  f21 := ⟨Tryd.f130.name, by decide, Tryd.func130.trans (congrArg some (by kernel_rfl))⟩
  f22 := ⟨Tryd.f131.name, by decide, Tryd.func131.trans (congrArg some (by kernel_rfl))⟩
  f23 := ⟨Tryd.f132.name, by decide, Tryd.func132.trans (congrArg some (by kernel_rfl))⟩
  f24 := ⟨Tryd.f133.name, by decide, Tryd.func133.trans (congrArg some (by kernel_rfl))⟩
  f25 := ⟨Tryd.f134.name, by decide, Tryd.func134.trans (congrArg some (by kernel_rfl))⟩
  f26 := ⟨Tryd.f135.name, by decide, Tryd.func135.trans (congrArg some (by kernel_rfl))⟩
  f27 := ⟨Tryd.f136.name, by decide, Tryd.func136.trans (congrArg some (by kernel_rfl))⟩
  f28 := Tryd.func122.trans (congrArg some (by kernel_rfl))
  f29 := Tryd.func123.trans (congrArg some (by kernel_rfl))
  f46 := ⟨Tryd.f161.name, by decide, Tryd.func161.trans (congrArg some (by kernel_rfl))⟩
  f47 := Tryd.func147.trans (congrArg some (by kernel_rfl))
  f48 := Tryd.func148.trans (congrArg some (by kernel_rfl))
  f49 := ⟨Tryd.f162.name, by decide, Tryd.func162.trans (congrArg some (by kernel_rfl))⟩
  f50 := ⟨Tryd.f163.name, by decide, Tryd.func163.trans (congrArg some (by kernel_rfl))⟩
  f57 := ⟨Tryd.f171.name, by decide, Tryd.func171.trans (congrArg some (by kernel_rfl))⟩
  t0 := Tryd.underlying0
  a0 := Tryd.isAgg0
  z0 := Tryd.sizeOf0
  v0 := Tryd.zeroValue0
  t3 := Tryd.underlying3
  a3 := Tryd.isAgg3
  z3 := Tryd.sizeOf3
  v3 := Tryd.zeroValue3
  t4 := Tryd.underlying4
  a4 := Tryd.isAgg4
  z4 := Tryd.sizeOf4
  v4 := Tryd.zeroValue4
  t5 := Tryd.underlying5
  a5 := Tryd.isAgg5
  z5 := Tryd.sizeOf5
  v5 := Tryd.zeroValue5
  t9 := Tryd.underlying9
  a9 := Tryd.isAgg9
  z9 := Tryd.sizeOf9
  v9 := Tryd.zeroValue9
  t22 := Tryd.underlying78
  a22 := Tryd.isAgg78
  z22 := Tryd.sizeOf78
  v22 := Tryd.zeroValue78
  t25 := Tryd.underlying44
  a25 := Tryd.isAgg44
  z25 := Tryd.sizeOf44
  v25 := Tryd.zeroValue44
  t39 := Tryd.underlying154
  a39 := Tryd.isAgg154
  z39 := Tryd.sizeOf154
  v39 := Tryd.zeroValue154
  t45 := Tryd.underlying171
  a45 := Tryd.isAgg171
  z45 := Tryd.sizeOf171
  v45 := Tryd.zeroValue171
  t46 := Tryd.underlying172
  a46 := Tryd.isAgg172
  z46 := Tryd.sizeOf172
  v46 := Tryd.zeroValue172
  t50 := Tryd.underlying176
  a50 := Tryd.isAgg176
  z50 := Tryd.sizeOf176
  v50 := Tryd.zeroValue176
  t53 := Tryd.underlying179
  a53 := Tryd.isAgg179
  z53 := Tryd.sizeOf179
  v53 := Tryd.zeroValue179
  t55 := Tryd.underlying39
  a55 := Tryd.isAgg39
  z55 := Tryd.sizeOf39
  v55 := Tryd.zeroValue39
  t66 := Tryd.underlying193
  a66 := Tryd.isAgg193
  z66 := Tryd.sizeOf193
  v66 := Tryd.zeroValue193
  t70 := Tryd.underlying197
  a70 := Tryd.isAgg197
  z70 := Tryd.sizeOf197
  v70 := Tryd.zeroValue197
  t76 := Tryd.underlying207
  a76 := Tryd.isAgg207
  z76 := Tryd.sizeOf207
  v76 := Tryd.zeroValue207
  t77 := Tryd.underlying208
  a77 := Tryd.isAgg208
  z77 := Tryd.sizeOf208
  v77 := Tryd.zeroValue208 }
end Go.Proofs
namespace Go.Proofs.YtfjmbcljohobeaaDoor
open Go.RowKit Go.Maps Go.Shelf Go.Sort
set_option linter.unusedVariables false
set_option linter.unusedSimpArgs false

instance : Inhabited KeyS := ⟨⟨(0, zero32, 0), ⟨by decide, zero32_ok, by decide⟩⟩⟩
def cmpS (a b : KeyS) : Int := cmpK a.1 b.1
theorem ltS (a b : KeyS) : ltOf cmpS a b = decide (cmpK a.1 b.1 < 0) := rfl
theorem swoS : SWO (ltOf cmpS) where
  irrefl x := by rw [ltS, cmpK_self]; rfl
  trans x y z h1 h2 := by
    rw [ltS, decide_eq_true_eq] at *
    exact cmpK_trans h1 h2
  ntrans x y z h1 h2 := by
    rw [ltS, decide_eq_false_iff_not] at *
    intro h
    rcases cmpK_cases x.1 y.1 with q | q | q
    · exact h1 q
    · rw [q] at h; exact h2 h
    · exact h2 (cmpK_trans q h)
theorem partS (x y : KeyS) (h1 : ltOf cmpS x y = false) (h2 : ltOf cmpS y x = false) : x = y := by
  rw [ltS, decide_eq_false_iff_not] at *
  rcases cmpK_cases x.1 y.1 with q | q | q
  · exact absurd q h1
  · exact Subtype.ext q
  · exact absurd q h2

set_option maxHeartbeats 1000000 in
set_option maxRecDepth 100000 in
theorem closure_gr (a b : KeyD) (w : World) (ha : KeyOk a) (hb : KeyOk b) :
    Calls Tryd.prog 37 #[.agg (keyV a).toArray, .agg (keyV b).toArray] w fun e w' => Gr w w' ∧ e = .returned (.int .i64 (cmpK a b)) := by
  have hA0 : (w.alloc (.cells (keyV a).toArray 35)).heap[w.heap.size]? = some (.cells (keyV a).toArray 35 (0, 0)) := heap_alloc_new _ _
  go_enter Tryd.func37, Tryd.ntmps37
  go_upto_region 1 with fail
  have hA : ((w.alloc (.cells (keyV a).toArray 35)).alloc (.cells (keyV b).toArray 35)).heap[w.heap.size]? = some (.cells (keyV a).toArray 35 (0, 0)) := by
    exact (heap_alloc_old (w.alloc (.cells (keyV a).toArray 35)) _ (by simp)).trans hA0
  have hB : ((w.alloc (.cells (keyV a).toArray 35)).alloc (.cells (keyV b).toArray 35)).heap[w.heap.size + 1]? = some (.cells (keyV b).toArray 35 (0, 0)) := by
    have := heap_alloc_new (w.alloc (.cells (keyV a).toArray 35)) (.cells (keyV b).toArray 35)
    rw [World.size_alloc] at this
    exact this
  have hG : Gr w ((w.alloc (.cells (keyV a).toArray 35)).alloc (.cells (keyV b).toArray 35)) := ((Gr.refl _).alloc _).alloc _
  clear hA0
  generalize (w.alloc (.cells (keyV a).toArray 35)).alloc (.cells (keyV b).toArray 35) = W at *
  have HA := Lib.hid hA; have HB := Lib.hid hB; have HG := Lib.hid hG
  clear hA hB hG
  have hcall := keys_gr a b W ha hb
  go_wp2_with (first
    | (refine wpList_load_row rfl 35 _ rfl w.heap.size rfl 35 _ (0, 0) _ HA.out Tryd.underlying35 rfl (keyV_info ha) ?_)
    | (refine wpList_load_row rfl 35 _ rfl (w.heap.size + 1) rfl 35 _ (0, 0) _ HB.out Tryd.underlying35 rfl (keyV_info hb) ?_)
    | (go_at_call 19; refine hcall.mono ?_; rintro e w5 ⟨hb5, rfl⟩))
  go_ret
  exact ⟨HG.out.trans hb5, rfl⟩
theorem cmpLays (blk off size : Nat) (w : World) : CmpLays Tryd.prog 37 #[] (fun x : KeyS => keyV x.1) 34 cmpS blk off size w :=
  fun _ _ _ _ x y => (closure_gr x.1 y.1 _ x.2 y.2).mono fun e w' ⟨⟨q, os, h⟩, he⟩ => ⟨he, q, os, h⟩

/-- Keys in order. -/
def ordS (ss : List KeyS) : List KeyS := ss.mergeSort fun x y => !(ltOf cmpS) y x
theorem ordS_perm (ss : List KeyS) : (ordS ss).Perm ss := List.mergeSort_perm _ _
theorem ordS_rising {ss : List KeyS} (hn : ss.Nodup) : Rising ((ordS ss).map (·.1)) := by
  have hp : (ordS ss).Pairwise fun a b => (!(ltOf cmpS) b a) = true := by
    refine List.pairwise_mergeSort (fun a b c h1 h2 => ?_) (fun a b => ?_) ss
    · simp only [Bool.not_eq_true'] at *
      exact swoS.ntrans _ _ _ h2 h1
    · simp only [Bool.or_eq_true, Bool.not_eq_true']
      rw [ltS, ltS, decide_eq_false_iff_not, decide_eq_false_iff_not]
      rcases cmpK_cases a.1 b.1 with q | q | q
      · left; intro h; have := cmpK_trans q h; rw [cmpK_self] at this; omega
      · left; rw [q, cmpK_self]; omega
      · right; intro h; have := cmpK_trans q h; rw [cmpK_self] at this; omega
  have hnd : (ordS ss).Nodup := (ordS_perm ss).nodup_iff.2 hn
  unfold Rising
  rw [List.pairwise_map]
  refine (hp.and hnd).imp ?_
  rintro a b ⟨h1, h2⟩
  simp only [Bool.not_eq_true'] at h1
  rw [ltS, decide_eq_false_iff_not] at h1
  rcases cmpK_cases a.1 b.1 with q | q | q
  · exact q
  · exact absurd (Subtype.ext q) h2
  · exact absurd q h1
theorem ordS_mem {m : KeyD → Option Value} {ss : List KeyS} (h : KeysIs m ss) (x : KeyS) : x ∈ ordS ss ↔ (m x.1).isSome = true := by
  rw [(ordS_perm ss).mem_iff]
  exact h.2 x

set_option maxHeartbeats 1000000 in
set_option maxRecDepth 100000 in
theorem sorted_keys (b nn : Nat) (m : KeyD → Option Value) (w : World) (hnn : nn ≤ 1099511627776) (hown : MapV w Tryd.prog 35 KeyOk keyL b nn m) (Bm : Nat) (hBm : w.cell? ⟨Bm, 0, none⟩ = some (.map (some b))) :
    Calls Tryd.prog 35 #[.func (.func 72) #[] #[.pointer (some ⟨Bm, 0, none⟩)], .func (.func 37) #[] #[]] w fun e w' =>
      Below w.heap.size w w' ∧ ∃ A c ds, (∃ ss : List KeyS, KeysIs m ss ∧ ds = (ordS ss).map (·.1)) ∧ e = .returned (.slice A ds.length c) ∧ Sl w' w'.heap.size A ds.length 34 (rowsV keyV ds) := by
  have hBl : Bm < w.heap.size := block_lt_of_cell hBm
  have hcol := fun (W : World) (hb : Below w.heap.size w W) => callsIn_wide.1 (collect_in Fence.wide 5 trivial trivial rfl (by decide) 72 #[.pointer (some ⟨Bm, 0, none⟩)] trivial (enters_of Tryd.func72 (by kernel_rfl) rfl) (fun ss => KeysIs m ss ∧ ss.length ≤ nn) (fun _ => True) nn hnn W
    (keys_gives Fence.wide (5 - 1 - 1) trivial rfl (by decide) Bm b nn m W (Nat.lt_of_lt_of_le hBl hb.size) ((hb.cell (p := ⟨Bm, 0, none⟩) hBl).trans hBm) (hown.below hb)))
  have hcl := hcol w (Below.refl _ _)
  clear hcol
  have HO := Lib.hid hown; clear hown hBm
  go_enter Tryd.func35, Tryd.ntmps35
  go_wp2_with fail
  refine hcl.mono ?_
  rintro e W1 ⟨v, ss, rfl, ⟨hS, hlen⟩, hrow, hnil, hb1⟩
  clear hcl
  have HB1 := Lib.hid hb1; have HS := Lib.hid hS
  clear hb1 hS
  rcases hrow.2 with ⟨rfl, hz⟩ | ⟨g, cap, cur, rfl, hbase, hg, r1, r2, r3, r4⟩
  · have hss : ss = [] := List.eq_nil_of_length_eq_zero hz
    subst hss
    have hcs := AnyF.slices_SortFunc_none { Tryd.laysSortKeys with } (none : Option Addr) 0 (.func (.func 37) #[] #[]) W1
    change Calls Tryd.prog 71 _ _ _ at hcs
    clear hrow hnil hz
    go_wp2_with (go_at_call 71; refine hcs.mono ?_; rintro e w5 ⟨rfl, rfl⟩)
    go_ret
    exact ⟨HB1.out, none, 0, [], ⟨[], HS.out, by simp [ordS]⟩, rfl, Sl.nil⟩
  · have hk : ∀ x : KeyS, (keyV x.1).length = 34 := fun x => keyV_length x.2
    have hH : HoldsK (fun x : KeyS => keyV x.1) 34 W1 g 0 ss.toArray := holdsK_of_block hk (by decide) hg r4
    have hgl : g < W1.heap.size := (Array.getElem?_eq_some_iff.1 hg).1
    have hsz : ss.toArray.size < 4611686018427387904 := by rw [List.size_toArray]; omega
    have hcs := AnyQ.slices_SortFunc_total Tryd.laysSortKeys 34 Tryd.isAgg35 Tryd.sizeOf35 (fun x : KeyS => keyV x.1) hk (fun x => keyV_one x.1) cmpS swoS 37 #[] g 0 cap ss.toArray W1
      (enters_of Tryd.func37 (by kernel_rfl) rfl) (cmpLays g 0 _ W1) hH hgl hsz partS
    change Calls Tryd.prog 71 _ _ _ at hcs
    have hsl := fun (n : Nat) (os : Array Obj) => sortedK_sl hk (by decide) hg hH hbase (t := ordS ss) ((ordS_perm ss).length_eq) n os w HB1.out
    have HSL := Lib.hid hsl
    clear hsl hH hrow hnil hg r4
    simp only [List.size_toArray] at hcs
    go_wp2_with (go_at_call 71; refine hcs.mono ?_; rintro e w5 ⟨rfl, n, os, rfl⟩)
    go_ret
    obtain ⟨h1, h2⟩ := HSL.out n os
    refine ⟨h2, some ⟨g, 0, none⟩, cap, (ordS ss).map (·.1), ⟨ss, HS.out, rfl⟩, ?_, ?_⟩
    · rw [List.length_map, (ordS_perm ss).length_eq]; rfl
    · rw [List.length_map, (ordS_perm ss).length_eq, show rowsV keyV ((ordS ss).map (·.1)) = rowsV (fun x : KeyS => keyV x.1) (ordS ss) by simp [rowsV, List.flatMap_map]]
      exact h1
end Go.Proofs.YtfjmbcljohobeaaDoor
namespace Go.Proofs.YtfjmbcljohobeaaDoor

theorem freshGo_form (l : List UInt8) (T : List (List UInt8)) : ∀ (f n : Nat) (t : List UInt8), freshGo l T f n t = t ∨ ∃ m, n ≤ m ∧ m < n + f ∧ freshGo l T f n t = candS l m := by
  intro f
  induction f with
  | zero => intro n t; exact .inl rfl
  | succ f ih =>
    intro n t
    unfold freshGo
    split
    · rcases ih (n + 1) (candS l n) with h | ⟨m, h1, h2, h3⟩
      · exact .inr ⟨n, Nat.le_refl _, by omega, h⟩
      · exact .inr ⟨m, by omega, by omega, h3⟩
    · exact .inl rfl
theorem candS_length (l : List UInt8) (n : Nat) : (candS l n).length = l.length + 1 + (Lib.decDigits n).length := by
  have h2 := congrArg List.length (first_rest l)
  rw [List.length_append] at h2
  simp only [candS, List.length_append, List.length_cons, List.length_nil]
  omega
theorem freshS_length (l : List UInt8) (T : List (List UInt8)) (h : T.length ≤ 97) : l.length ≤ (freshS l T).length ∧ (freshS l T).length ≤ l.length + 3 := by
  unfold freshS
  rcases freshGo_form l T (T.length + 2) 1 l with e | ⟨m, h1, h2, e⟩
  · rw [e]; omega
  · rw [e, candS_length]
    have := decDigits_len (k := m) (by omega)
    omega
theorem freshS_self (l : List UInt8) (T : List (List UInt8)) : (freshS l T = l) ↔ clashesB l T = false := by
  constructor
  · intro h
    have := fresh_clear (l := l) (taken := T)
    rw [h] at this
    exact this
  · intro h
    unfold freshS freshGo
    rw [if_neg (by rw [h]; simp)]
end Go.Proofs.YtfjmbcljohobeaaDoor
namespace Go.Proofs.YtfjmbcljohobeaaDoor

def pathStep (f : KeyD → Option ClaimD) (r : List (KeyD × List UInt8)) (d : KeyD) (T : List (List UInt8)) : List (KeyD × List UInt8) :=
  match f d with
  | some c => if c.2.2.1 = 5 then r else r ++ [(d, freshS (L c.2.2.2) (T ++ r.map (·.2)))]
  | none => r
theorem pathsGo_snoc (f : KeyD → Option ClaimD) (d : KeyD) : ∀ (ds : List KeyD) (T : List (List UInt8)), pathsGo f (ds ++ [d]) T = pathStep f (pathsGo f ds T) d T
  | [], T => by
    unfold pathStep
    simp only [List.nil_append, pathsGo, List.map_nil, List.append_nil]
    cases f d with
    | none => rfl
    | some c => rfl
  | e :: r, T => by
    rw [List.cons_append]
    unfold pathsGo
    cases h : f e with
    | none => exact pathsGo_snoc f d r T
    | some c =>
      by_cases hk : c.2.2.1 = 5
      · simp only [hk, if_true]
        exact pathsGo_snoc f d r T
      · simp only [hk, if_false]
        rw [pathsGo_snoc f d r _]
        unfold pathStep
        cases f d with
        | none => rfl
        | some c' =>
          simp only
          split
          · rfl
          · simp
theorem pathsGo_length (f : KeyD → Option ClaimD) : ∀ (ds : List KeyD) (T : List (List UInt8)), (pathsGo f ds T).length ≤ ds.length
  | [], _ => by simp [pathsGo]
  | e :: r, T => by
    unfold pathsGo
    cases h : f e with
    | none => have := pathsGo_length f r T; simp; omega
    | some c =>
      simp only
      split
      · have := pathsGo_length f r T; simp; omega
      · have := pathsGo_length f r (T ++ [freshS (L c.2.2.2) T]); simp; omega
theorem insK_length (k : KeyD) : ∀ l : List KeyD, (insK k l).length ≤ l.length + 1
  | [] => by simp [insK]
  | y :: l => by
    unfold insK
    split
    · simp
    · split
      · simp
      · have := insK_length k l; simp; omega
theorem sortK_length : ∀ l : List KeyD, (sortK l).length ≤ l.length
  | [] => by simp [sortK]
  | y :: l => by
    have h1 := insK_length y (sortK l)
    have h2 := sortK_length l
    show (insK y (sortK l)).length ≤ _
    simp; omega
theorem docsS_length (l : List ClaimD) : (docsS l).length ≤ l.length := by
  have := sortK_length (l.map (·.2.1))
  unfold docsS; simpa using this
end Go.Proofs.YtfjmbcljohobeaaDoor
