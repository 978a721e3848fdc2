/-
  What place and Find give. Conditions: ids of 32 bytes; lists of at most 2^40 ids.
-/
import Derived.Test.YtdgbjhfkmembdaaGreatDoorShort0
import Derived.Test.YtdgbjhfkmembdaaGreatDoorOrdSet
namespace Go.Proofs.YtdgbjhfkmembdaaGreatDoor
open Go.RowKit
set_option linter.unusedVariables false

/-- An id's place in a set, and whether it is there. -/
def FindGives (l : List (List UInt8)) (x : List UInt8) (w : World) (e : Ending) (w' : World) : Prop :=
  Below w.heap.size w w' ∧ ∃ n : Nat, e = .returned (.tuple #[.int .i64 n, .bool (isSetB l && decide (x ∈ l))]) ∧ n ≤ l.length ∧ ((isSetB l && decide (x ∈ l)) = true → l[n]? = some x)
theorem FindGives.yes {l : List (List UInt8)} {x : List UInt8} {w w' : World} {e : Ending} {n : Nat} (hs : isSetB l = true) (h : l[n]? = some x) (hb : Below w.heap.size w w') (he : e = .returned (.tuple #[.int .i64 n, .bool true])) : FindGives l x w e w' := by
  have hm : (isSetB l && decide (x ∈ l)) = true := by rw [hs]; simpa using List.mem_of_getElem? h
  refine ⟨hb, n, by rw [hm]; exact he, ?_, fun _ => h⟩
  have := (List.getElem?_eq_some_iff.1 h).1
  omega
theorem FindGives.no {l : List (List UInt8)} {x : List UInt8} {w w' : World} {e : Ending} {n : Nat} (hm : (isSetB l && decide (x ∈ l)) = false) (hn : n ≤ l.length) (hb : Below w.heap.size w w') (he : e = .returned (.tuple #[.int .i64 n, .bool false])) : FindGives l x w e w' :=
  ⟨hb, n, by rw [hm]; exact he, hn, fun h => by rw [hm] at h; cases h⟩

/-- The halving's state. -/
def Halving (l : List (List UInt8)) (x : List UInt8) (lo hi : Nat) : Prop :=
  (∀ j (h : j < l.length), j < lo → cmpB l[j] x < 0) ∧ (∀ j (h : j < l.length), hi ≤ j → 0 < cmpB l[j] x)
theorem Halving.start (l : List (List UInt8)) (x : List UInt8) : Halving l x 0 l.length := ⟨fun j _ h => absurd h (by omega), fun j h h' => absurd h (by omega)⟩
theorem Halving.up {l : List (List UInt8)} {x : List UInt8} {lo hi m : Nat} (h : Halving l x lo hi) (hs : isSetB l = true) (hm : m < l.length) (hc : cmpB l[m] x < 0) : Halving l x (m + 1) hi := by
  refine ⟨fun j hj hjm => ?_, h.2⟩
  rcases (by omega : j < m ∨ j = m) with q | q
  · exact cmpB_trans ((List.pairwise_iff_getElem.1 (isSetB_pair hs)) j m hj hm q) hc
  · subst q; exact hc
theorem Halving.down {l : List (List UInt8)} {x : List UInt8} {lo hi m : Nat} (h : Halving l x lo hi) (hs : isSetB l = true) (hm : m < l.length) (hc : 0 < cmpB l[m] x) : Halving l x lo m := by
  refine ⟨h.1, fun j hj hjm => ?_⟩
  rcases (by omega : m < j ∨ j = m) with q | q
  · have h1 := (List.pairwise_iff_getElem.1 (isSetB_pair hs)) m j hm hj q
    have h2 : cmpB x l[m] < 0 := by rw [cmpB_swap]; omega
    have := cmpB_trans h2 h1
    rw [cmpB_swap] at this
    omega
  · subst q; exact hc
theorem Halving.end {l : List (List UInt8)} {x : List UInt8} {lo hi : Nat} (h : Halving l x lo hi) (he : hi ≤ lo) : x ∉ l := by
  intro hx
  obtain ⟨j, hj, rfl⟩ := List.getElem_of_mem hx
  rcases (by omega : j < lo ∨ hi ≤ j) with q | q
  · have := h.1 j hj q
    rw [cmpB_self] at this; omega
  · have := h.2 j hj q
    rw [cmpB_self] at this; omega

set_option maxHeartbeats 2000000 in
set_option maxRecDepth 100000 in
theorem place_any (l : List (List UInt8)) (x : List UInt8) (A : Option Addr) (c : Nat) (w : World) (hn : l.length ≤ 1099511627776) (ho : IdsOk l) (hx : IdOk x) (hs : isSetB l = true) (hsl : Sl w w.heap.size A l.length 32 (idsV l)) :
    Calls Tryz.prog 256 #[.slice A l.length c, .agg (idV x).toArray] w (FindGives l x w) := by
  have HSL := Lib.hid hsl; clear hsl
  have HO := Lib.hid ho; clear ho
  have HS := Lib.hid hs; clear hs
  have hxl : (idV x).length = 32 := by rw [idV_length]; exact hx
  go_enter Tryz.func256, Tryz.ntmps256
  go_upto_region 1 with fail
  obtain ⟨W0, hW0⟩ : ∃ W0, w.alloc (.cells (idV x).toArray 41) = W0 := ⟨_, rfl⟩
  have hb0 : Below w.heap.size w W0 := by rw [← hW0]; exact (qB _ _).alloc (qR _) _
  have hg0 : W0.heap[w.heap.size]? = some (.cells (idV x).toArray 41 (0, 0)) := by rw [← hW0]; exact heap_alloc_new _ _
  have hz0 : w.heap.size < W0.heap.size := by rw [← hW0]; simp
  rw [hW0]
  have HX : Hid (∀ j u, (idV x)[j]? = some u → W0.cell? ⟨w.heap.size, 0 + j, none⟩ = some u) := Lib.hid (fun j u hj => by
    rw [qZ, cell_of_row W0 w.heap.size j _ _ _ hg0]; simpa using hj)
  clear hW0 hg0
  go_wp2_with fail
  go_loopw [6, 7] (fun t6 t7 wr => ∃ lo hi : Nat, lo ≤ hi ∧ hi ≤ l.length ∧ t6 = .int .i64 lo ∧ t7 = .int .i64 hi ∧ Below W0.heap.size W0 wr ∧ Hid (Halving l x lo hi)) (fun t6 t7 _ => (intOf t7).toNat - (intOf t6).toNat)
  case atStart => exact ⟨0, l.length, by omega, by omega, rfl, rfl, qB _ _, Lib.hid (Halving.start l x)⟩
  case round =>
    obtain ⟨lo, hi, hlh, hhl, rfl, rfl, hbr, hH⟩ := hrel
    have hbw := hb0.trans (hbr.mono (by omega))
    by_cases hlt : lo < hi
    · obtain ⟨m, hm⟩ : ∃ m, m = lo + (hi - lo) / 2 := ⟨_, rfl⟩
      have hm1 : lo ≤ m := by omega
      have hm2 : m < hi := by omega
      have em : (lo : Int) + ((hi : Int) - (lo : Int)) / 2 = (m : Int) := by omega
      clear hm
      have i0 : (0 : Int) ≤ (m : Int) := by omega
      have i1 : (m : Int) < (l.length : Int) := by omega
      obtain ⟨b, off, rfl, hbl, hcl⟩ := (HSL.out.keep hbw).2 (by omega)
      have C1 : Hid _ := Lib.hid (Sl.id (B := 0) HO.out hcl (i := m) (by omega))
      have C2 : Hid (∀ j u, (idV x)[j]? = some u → wr.cell? ⟨w.heap.size, 0 + j, none⟩ = some u) := Lib.hid (fun j u hj => (hbr.cell (p := ⟨w.heap.size, 0 + j, none⟩) hz0).trans (HX.out j u hj))
      clear hcl
      go_upto_region 4 with fail
      clear em
      refine wp_region_still_tail 5 (by kernel_rfl) (by kernel_rfl) ?_
      simp only [List.take_succ_cons, List.take_zero, List.drop_succ_cons, List.drop_zero]
      repeat still_step
      refine wpStill_loadN (by rfl) 41 _ rfl b _ rfl (idV (l[m]'(by omega))) _ C1.out Tryz.underlying41 rfl (by rw [idV_length, HO.out _ (List.getElem_mem _)]; exact sizeId2) ?_
      refine wpStill_loadN (by rfl) 41 _ rfl w.heap.size 0 rfl (idV x) _ C2.out Tryz.underlying41 rfl (by rw [hxl]; exact sizeId2) ?_
      refine wpStill_nil ?_
      change wpList _ _ _ _ _ wr.drew
      generalize hwd : wr.drew = w2
      have hbr2 : Below W0.heap.size W0 w2 := by rw [← hwd]; exact hbr.drew
      clear hwd
      go_wp2_with fail
      refine (compare_any (l[m]'(by omega)) x _ (HO.out _ (List.getElem_mem _)) hx).mono ?_
      have hup := hH.out.up HS.out (m := m) (by omega)
      have hdn := hH.out.down HS.out (m := m) (by omega)
      have heq : cmpB (l[m]'(by omega)) x = 0 → l[m]? = some x := fun h => by rw [List.getElem?_eq_getElem (by omega), cmpB_zero.1 h]
      have HUP := Lib.hid hup; clear hup
      have HDN := Lib.hid hdn; clear hdn
      have HEQ := Lib.hid heq; clear heq
      generalize cmpB (l[m]'(by omega)) x = q at *
      rintro e w3 ⟨hb3, rfl⟩
      have hbr3 := hbr2.trans (hb3.mono hbr2.size)
      have hbw3 := hb0.trans (hbr3.mono (by omega))
      rcases (by omega : q = 0 ∨ q < 0 ∨ 0 < q) with hq | hq | hq
      · have hf := HEQ.out hq
        have HF := Lib.hid hf; clear hf
        have hq2 : (q == 0) = true := by simp [hq]
        clear hq
        go_wp2_with fail
        go_ret2
        exact FindGives.yes HS.out HF.out hbw3 rfl
      · have hu := HUP.out hq
        have HU := Lib.hid hu; clear hu
        have hq2 : (q == 0) = false := by simp; omega
        go_wp2_with fail
        go_roundw
        case rel => exact ⟨m + 1, hi, by omega, by omega, by go_num, rfl, hbr3, HU⟩
        case measure => simp [intOf]; omega
      · have hu := HDN.out hq
        have HU := Lib.hid hu; clear hu
        have hq2 : (q == 0) = false := by simp; omega
        go_wp2_with fail
        go_roundw
        case rel => exact ⟨lo, m, by omega, by omega, rfl, by go_num, hbr3, HU⟩
        case measure => simp [intOf]; omega
    · have hno := hH.out.end (by omega)
      have HNO := Lib.hid hno; clear hno
      go_wp2_with fail
      go_ret2
      exact FindGives.no (by simp [HNO.out]) (by omega) hbw rfl

set_option maxHeartbeats 1000000 in
set_option maxRecDepth 100000 in
theorem find_any (l : List (List UInt8)) (x : List UInt8) (A : Option Addr) (c : Nat) (w : World) (hn : l.length ≤ 1099511627776) (ho : IdsOk l) (hx : IdOk x) (hsl : Sl w w.heap.size A l.length 32 (idsV l)) :
    Calls Tryz.prog 231 #[.slice A l.length c, .agg (idV x).toArray] w (FindGives l x w) := by
  have HSL := Lib.hid hsl; clear hsl
  have HO := Lib.hid ho; clear ho
  have hxl : (idV x).length = 32 := by rw [idV_length]; exact hx
  go_enter Tryz.func231, Tryz.ntmps231
  go_upto_region 1 with fail
  obtain ⟨W0, hW0⟩ : ∃ W0, w.alloc (.cells (idV x).toArray 41) = W0 := ⟨_, rfl⟩
  have hb0 : Below w.heap.size w W0 := by rw [← hW0]; exact (qB _ _).alloc (qR _) _
  have hg0 : W0.heap[w.heap.size]? = some (.cells (idV x).toArray 41 (0, 0)) := by rw [← hW0]; exact heap_alloc_new _ _
  have hz0 : w.heap.size < W0.heap.size := by rw [← hW0]; simp
  rw [hW0]
  have HX : Hid (∀ j u, (idV x)[j]? = some u → W0.cell? ⟨w.heap.size, 0 + j, none⟩ = some u) := Lib.hid (fun j u hj => by
    rw [qZ, cell_of_row W0 w.heap.size j _ _ _ hg0]; simpa using hj)
  clear hW0 hg0
  have HSL0 := Lib.hid ((HSL.out.keep hb0).more hb0.size)
  go_wp2_with fail
  refine (isSet_any l A c _ hn HO.out HSL0.out).mono ?_
  cases hs : isSetB l
  · have HS := Lib.hid hs; clear hs
    rintro e w1 ⟨hb1, rfl⟩
    go_wp2_with fail
    go_ret2
    exact FindGives.no (by rw [HS.out]; rfl) (Nat.zero_le _) (hb0.trans (hb1.mono hb0.size)) rfl
  · have HS := Lib.hid hs; clear hs
    rintro e w1 ⟨hb1, rfl⟩
    have hb01 := hb0.trans (hb1.mono hb0.size)
    have HSL1 := Lib.hid ((HSL.out.keep hb01).more hb01.size)
    have C2 : Hid (∀ j u, (idV x)[j]? = some u → w1.cell? ⟨w.heap.size, 0 + j, none⟩ = some u) := Lib.hid (fun j u hj => (hb1.cell (p := ⟨w.heap.size, 0 + j, none⟩) hz0).trans (HX.out j u hj))
    go_wp2_with (refine wp_loadN rfl 41 _ rfl w.heap.size 0 rfl (idV x) _ C2.out Tryz.underlying41 rfl (by rw [hxl]; exact sizeId2) ?_)
    refine (place_any l x A c _ hn HO.out hx HS.out HSL1.out).mono ?_
    rintro e w2 ⟨hb2, n, rfl, hn2, hf⟩
    have HF := Lib.hid hf; clear hf
    go_wp2_with fail
    go_ret2
    exact ⟨hb01.trans (hb2.mono hb01.size), n, rfl, hn2, HF.out⟩
end Go.Proofs.YtdgbjhfkmembdaaGreatDoor
