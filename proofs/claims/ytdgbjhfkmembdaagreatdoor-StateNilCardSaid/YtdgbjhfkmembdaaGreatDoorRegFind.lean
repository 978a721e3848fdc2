/-
  What the register's Find gives. Conditions: claims well formed, at most 90 of them, each path of at most 2^30 bytes; the library's variable MaxLen holds a number.
-/
import Derived.Test.YtdgbjhfkmembdaaGreatDoorRegPaths
namespace Go.Proofs.YtdgbjhfkmembdaaGreatDoor
open Go.RowKit Go.Maps Go.Shelf
set_option linter.unusedVariables false
set_option linter.unusedSimpArgs false

def zeroKd : KeyD := (0, zero32, 0)
theorem zeroKd_ok : KeyOk zeroKd := ⟨by decide, zero32_ok, by decide⟩
theorem zeroKey_run (w : World) : (zeroValue 89).run Tryz.prog w = .ok (.agg (keyV zeroKd).toArray) w := by
  have h := zeroKey
  cases hq : Tryz.prog.info? 89 with
  | none => rw [hq] at h; cases h
  | some i =>
    rw [hq] at h
    have h2 : i.zero = some (keyA (0, zero32, 0)) := Option.some.inj h
    simp [zeroValue, typeInfo, hq, h2]
    rfl
theorem key_built0 : Tryz.prog.built 89 [] = some (keyV zeroKd).toArray := by kernel_rfl
theorem find_none {r : List NamedD} {l : List ClaimD} {p : ByteArray} (hr : (r.map fun x => (x.1, L x.2)) = pathsS l) (h : ∀ j (hj : j < r.length), r[j].2 ≠ p) : findS l (L p) = none := by
  unfold findS
  rw [Option.map_eq_none_iff, List.find?_eq_none, ← hr]
  intro x hx
  obtain ⟨y, hy, rfl⟩ := List.mem_map.1 hx
  obtain ⟨j, hj, rfl⟩ := List.getElem_of_mem hy
  simp only [beq_iff_eq]
  exact fun e => h j hj (L_inj e)
theorem find_hit {r : List NamedD} {l : List ClaimD} {p : ByteArray} (hr : (r.map fun x => (x.1, L x.2)) = pathsS l) {i : Nat} (hi : i < r.length) (hp : r[i].2 = p) (h : ∀ j (hj : j < r.length), j < i → r[j].2 ≠ p) : findS l (L p) = some r[i].1 := by
  unfold findS
  have : ((pathsS l).find? fun n => n.2 == L p) = some (r[i].1, L r[i].2) := by
    rw [← hr, List.find?_eq_some_iff_getElem]
    refine ⟨by simp [hp], i, by simpa using hi, by simp, fun j hj => ?_⟩
    simp only [List.getElem_map, Bool.not_eq_true', beq_eq_false_iff_ne, ne_eq]
    exact fun e => h j (by omega) hj (L_inj e)
  rw [this]; rfl
set_option maxHeartbeats 2000000 in
set_option maxRecDepth 100000 in
theorem find_any14 (l : List ClaimD) (p : ByteArray) (A : Option Addr) (c : Nat) (w : World) (hl : l.length ≤ 90) (hok : ∀ x ∈ l, ClaimOk x) (hsm : ∀ x ∈ l, x.2.2.2.size ≤ 1073741824) (hsl : Sl w w.heap.size A l.length 70 (rowsV claimV l)) (hg : Glob w) :
    Calls Tryz.prog 146 #[.slice A l.length c, .string p] w fun e w' => Below w.heap.size w w' ∧ e = .returned (.tuple #[keyA ((findS l (L p)).getD zeroKd), .bool (findS l (L p)).isSome]) := by
  have hb0 : Below w.heap.size w (w.alloc (.cells (keyV zeroKd).toArray 89)) := (Below.refl _ _).alloc (Nat.le_refl _) _
  have h0 : (w.alloc (.cells (keyV zeroKd).toArray 89)).heap[w.heap.size]? = some (.cells (keyV zeroKd).toArray 89 (0, 0)) := heap_alloc_new _ _
  have hpaths := paths_any l A c (w.alloc (.cells (keyV zeroKd).toArray 89)) hl hok hsm ((hsl.keep hb0).more hb0.size) (hg.next hb0)
  have hs0 : (w.alloc (.cells (keyV zeroKd).toArray 89)).heap.size = w.heap.size + 1 := by simp
  have hzk : (keyV zeroKd).length = 34 := keyV_length zeroKd_ok
  clear hsl hok hsm
  go_enter Tryz.func146, Tryz.ntmps146
  go_wp2_with fail
  refine hpaths.mono ?_
  generalize w.alloc (.cells (keyV zeroKd).toArray 89) = W0 at *
  rintro e w1 ⟨hb1, A1, c1, r, rfl, hr, hk, hs⟩
  have hB1 : Below w.heap.size w w1 := hb0.trans (hb1.mono hb0.size)
  have hbox : w1.heap[w.heap.size]? = some (.cells (keyV zeroKd).toArray 89 (0, 0)) := (hb1.block _ (by omega)).trans h0
  have hz1 : w.heap.size < w1.heap.size := (Array.getElem?_eq_some_iff.1 hbox).1
  have hrl : r.length ≤ 90 := by
    have h := congrArg List.length hr
    rw [List.length_map] at h
    rw [h]
    unfold pathsS
    split
    · have := pathsGo_length (lastOf l) (docsS l) []
      have := docsS_length l
      omega
    · simp
  have hnone := find_none (p := p) hr
  have hhit := fun i hi hp h => find_hit (p := p) hr (i := i) hi hp h
  obtain ⟨res, hres⟩ : ∃ res, findS l (L p) = res := ⟨_, rfl⟩
  rw [hres] at hnone hhit
  have HRES := Lib.hid hres
  have HNONE := Lib.hid hnone; have HHIT := Lib.hid hhit; have HK := Lib.hid hk; have HS := Lib.hid hs; have HBX := Lib.hid hbox; have HB1 := Lib.hid hB1
  clear hnone hhit hk hs hbox hB1 hb1 h0 hb0 hpaths hr hs0 hres
  go_wp2_with fail
  go_loopw [11] (fun t wr => ∃ i : Nat, i ≤ r.length ∧ t = .int .i64 i ∧ Below w1.heap.size w1 wr ∧ Hid (∀ j (hj : j < r.length), j < i → r[j].2 ≠ p)) (fun t _ => r.length - (intOf t).toNat)
  case atStart => exact ⟨0, by omega, rfl, Below.refl _ _, Lib.hid fun j hj h => absurd h (by omega)⟩
  case round =>
    obtain ⟨i, hi, rfl, hbr, hI⟩ := hrel
    by_cases hlt : i < r.length
    · obtain ⟨b, off, rfl, hbl, hcl⟩ := (HS.out.keep hbr).2 (by omega)
      have i0 : (0 : Int) ≤ (i : Int) := by omega
      have i1 : (i : Int) < (r.length : Int) := by omega
      have hnx : ∀ z ∈ r, NamedOk z := fun z hz => ⟨(HK.out z hz).1, by have := (HK.out z hz).2; unfold maxLen; omega⟩
      have hrow := Sl.row (fun z hz => namedV_length (hnx z hz)) hcl hlt
      have hn := hnx _ (List.getElem_mem hlt)
      have hhit := HHIT.out i hlt
      have hnext : r[i].2 ≠ p → ∀ j (hj : j < r.length), j < i + 1 → r[j].2 ≠ p := by
        intro h j hj hji
        rcases (by omega : j < i ∨ j = i) with q | rfl
        · exact hI.out j hj q
        · exact h
      have HH := Lib.hid (fun h => hhit h hI.out); have HNX := Lib.hid hnext; have HROW := Lib.hid hrow; have HN := Lib.hid hn
      clear hrow hcl hhit hnext hnx hn
      generalize r[i] = z at *
      have hzl := namedV_length HN.out
      have hsz : (Tryz.prog.info? 91).map (·.size) = some (namedV z).length := by rw [hzl]; kernel_rfl
      go_upto_region 4 with (first
        | (refine wp_loadN rfl 91 _ rfl b _ rfl (namedV z) _ HROW.out Tryz.underlying91 rfl hsz ?_)
        | (refine wp_storeN (B := wr.heap.size) (w0 := wr) rfl 91 _ _ rfl wr.heap.size _ rfl rfl 91 _ (heap_alloc_new _ _) (by rw [List.size_toArray]; exact hsz) (by rw [List.size_toArray, List.size_toArray, hzl]; rfl) (by simpa using namedV_one z) ((Below.refl _ _).alloc (Nat.le_refl _) _) (Nat.le_refl _) ?_; intro W2 hbW2 hW2 _))
      have c34 := (cells_box hW2 34).trans (named_cell HN.out)
      have K2 : Hid (∀ j u, (keyV z.1)[j]? = some u → W2.cell? ⟨wr.heap.size, 0 + j, none⟩ = some u) := fun j u hj => (cells_box hW2 (0 + j)).trans (named_doc HN.out j u hj)
      have B2 : Hid (Below w1.heap.size w1 W2) := hbr.trans (hbW2.mono hbr.size)
      have hkd : KeyOk z.1 := HN.out.1
      have BX2 : Hid (W2.heap[w.heap.size]? = some (.cells (keyV zeroKd).toArray 89 (0, 0))) := (B2.out.block _ hz1).trans HBX.out
      clear hW2 hbW2 hbr
      by_cases heq : z.2 = p
      · have hf := HH.out heq
        have HF := Lib.hid hf
        have e1 : (z.2.toList == p.toList) = true := by rw [heq]; exact beq_self_eq_true _
        clear hf heq HH HNX HNONE HHIT
        go_wp2_with (first
          | (refine wp_loadN rfl 89 _ rfl wr.heap.size 0 rfl (keyV z.1) _ K2.out Tryz.underlying89 rfl (by rw [keyV_length hkd]; exact sizeKey) ?_)
          | (refine wp_storeN (B := w.heap.size) (w0 := w) rfl 89 _ _ rfl w.heap.size _ rfl rfl 89 _ BX2.out (keyV_info hkd) (by rw [List.size_toArray, List.size_toArray, hzk, keyV_length hkd]) (by simpa using keyV_one z.1) (HB1.out.trans (B2.out.mono HB1.out.size)) (Nat.le_refl _) ?_; intro W4 hbW4 hW4 _))
        refine bodyPost_ret (results_row_tmp Tryz.results146 _ _ rfl rfl (run_loadVar_row (P := Tryz.prog) _ w.heap.size 89 89 _ (0, 0) _ hW4 Tryz.underlying89 rfl (keyV_info hkd))) rfl ⟨hbW4, ?_⟩
        rw [HRES.out, HF.out]; rfl
      · have e1 : (z.2.toList == p.toList) = false := by
          rw [beq_eq_false_iff_ne]
          intro h
          rw [toList_L, toList_L] at h
          exact heq (L_inj h)
        have hnx := HNX.out heq
        have HNX2 := Lib.hid hnx
        clear hnx heq HH HNX HHIT
        go_wp2_with fail
        go_roundw
        case rel => exact ⟨i + 1, by omega, by go_num, B2.out, HNX2⟩
        case measure => simp [intOf]; omega
    · have hf := HNONE.out (fun j hj => hI.out j hj (by omega))
      have HF := Lib.hid hf
      have BX2 : Hid (wr.heap[w.heap.size]? = some (.cells (keyV zeroKd).toArray 89 (0, 0))) := (hbr.block _ hz1).trans HBX.out
      have HBR := Lib.hid hbr
      clear hf hbr
      go_wp2_with (first
        | ((with_reducible refine wpList_buildTo rfl 89 _ rfl _ rfl (keyV zeroKd).toArray ?_ ?_)
           · simp only [List.map_toArray, List.map_nil]; exact key_built0)
        | (refine wp_storeN (B := w.heap.size) (w0 := w) rfl 89 _ _ rfl w.heap.size _ rfl rfl 89 _ BX2.out (keyV_info zeroKd_ok) rfl (by simpa using keyV_one zeroKd) (HB1.out.trans (HBR.out.mono HB1.out.size)) (Nat.le_refl _) ?_; intro W4 hbW4 hW4 _))
      refine bodyPost_ret (results_row_tmp Tryz.results146 _ _ rfl rfl (run_loadVar_row (P := Tryz.prog) _ w.heap.size 89 89 _ (0, 0) _ hW4 Tryz.underlying89 rfl (keyV_info zeroKd_ok))) rfl ⟨hbW4, ?_⟩
      rw [HRES.out, HF.out]; rfl
end Go.Proofs.YtdgbjhfkmembdaaGreatDoor
