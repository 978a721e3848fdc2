/-
  What the register's lasts gives: a map of each document's last claim. Conditions: claims well formed; at most 2^40 of them.
-/
import Derived.Test.YtdgbjhfkmembdaaGreatDoorRegWalks
import Derived.Carry
import Derived.Test.YtdgbjhfkmembdaaGreatDoorTreeWalks
namespace Go.Proofs.YtdgbjhfkmembdaaGreatDoor
open Go.RowKit
set_option linter.unusedVariables false

def claimA (c : ClaimD) : Value := .agg (claimV c).toArray
def lastM (l : List ClaimD) (d : KeyD) : Option Value := (lastOf l d).map claimA
theorem lastM_put {t : List ClaimD} {c : ClaimD} (h : ∀ x, lastOf t c.2.1 = some x → 0 < cmpK c.1 x.1) : (fun k => if k = c.2.1 then some (claimA c) else lastM t k) = lastM (t ++ [c]) := by
  funext k
  unfold lastM
  rw [lastOf_snoc]
  unfold later
  by_cases e : k = c.2.1
  · subst e
    rw [if_pos rfl, if_pos rfl]
    cases h0 : lastOf t c.2.1 with
    | none => rfl
    | some x => simp only [if_pos (h x h0)]; rfl
  · rw [if_neg e, if_neg (fun q => e q.symm)]
theorem lastM_keep {t : List ClaimD} {c x : ClaimD} (h0 : lastOf t c.2.1 = some x) (h : ¬ 0 < cmpK c.1 x.1) : lastM t = lastM (t ++ [c]) := by
  funext k
  unfold lastM
  rw [lastOf_snoc]
  unfold later
  by_cases e : c.2.1 = k
  · subst e
    rw [if_pos rfl, h0]
    simp only [if_neg h]
  · rw [if_neg e]
theorem sizeClaim : (Tryz.prog.info? 135).map (·.size) = some 70 := by kernel_rfl
theorem sizeKey : (Tryz.prog.info? 89).map (·.size) = some 34 := by kernel_rfl

def zeroC : ClaimD := ((0, zero32, 0), (0, zero32, 0), 0, ByteArray.empty)
theorem zeroC_ok : ClaimOk zeroC := ⟨⟨by decide, zero32_ok, by decide⟩, ⟨by decide, zero32_ok, by decide⟩, by decide, by decide⟩
set_option maxRecDepth 100000 in
theorem zeroC_info : (Tryz.prog.info? 135).map (·.zero) = some (some (claimA zeroC)) := by kernel_rfl
theorem zeroC_run (w : World) : (zeroValue 135).run Tryz.prog w = .ok (claimA zeroC) w := by
  have h := zeroC_info
  cases hq : Tryz.prog.info? 135 with
  | none => rw [hq] at h; cases h
  | some i =>
    rw [hq] at h
    have h2 : i.zero = some (claimA zeroC) := Option.some.inj h
    simp [zeroValue, typeInfo, hq, h2]
set_option maxHeartbeats 2000000 in
set_option maxRecDepth 100000 in
theorem lasts_any (l : List ClaimD) (A : Option Addr) (c : Nat) (w : World) (hl : l.length ≤ 1099511627776) (hok : ∀ x ∈ l, ClaimOk x) (hsl : Sl w w.heap.size A l.length 70 (rowsV claimV l)) :
    Calls Tryz.prog 74 #[.slice A l.length c] w fun e w' => Below w.heap.size w w' ∧ e = .returned (.map (some w.heap.size)) ∧ ∃ n, n ≤ l.length ∧ MapV w' Tryz.prog 89 KeyOk keyL w.heap.size n (lastM l) := by
  have HSL := Lib.hid hsl; clear hsl
  have HOK := Lib.hid hok; clear hok
  have hmm := @run_makeMap Tryz.prog
  go_enter Tryz.func74, Tryz.ntmps74
  go_upto_region 2 with fail
  have hm0 := MapV.made w Tryz.prog 89 KeyOk keyL
  have hb0 : Below w.heap.size w (w.alloc (.map #[] 0)) := (Below.refl _ _).alloc (Nat.le_refl _) _
  clear hmm
  generalize w.alloc (.map #[] 0) = W at *
  go_wp2_with fail
  go_loopw [11] (fun t wr => ∃ i : Nat, i ≤ l.length ∧ t = .int .i64 i ∧ Below w.heap.size w wr ∧ ∃ n0, n0 ≤ i ∧ Hid (MapV wr Tryz.prog 89 KeyOk keyL w.heap.size n0 (lastM (l.take i)))) (fun t _ => l.length - (intOf t).toNat)
  case atStart => exact ⟨0, by omega, rfl, hb0, 0, Nat.le_refl _, Lib.hid hm0⟩
  case round =>
    obtain ⟨i, hi, rfl, hbr, n0, hn0, hM⟩ := hrel
    by_cases hlt : i < l.length
    · obtain ⟨b, off, rfl, hbl, hcl⟩ := (HSL.out.keep hbr).2 (by omega)
      have i0 : (0 : Int) ≤ (i : Int) := by omega
      have i1 : (i : Int) < (l.length : Int) := by omega
      have hlens : ∀ x ∈ l, (claimV x).length = 70 := fun x hx => claimV_length (HOK.out x hx)
      have hrow := Sl.row hlens hcl hlt
      have hcx := HOK.out _ (List.getElem_mem hlt)
      have htk : l.take (i + 1) = l.take i ++ [l[i]] := List.take_succ_eq_append_getElem hlt
      have HCL := Lib.hid hcl; clear hcl
      have HROW := Lib.hid hrow; clear hrow
      have HTK := Lib.hid htk; clear htk
      have HX := Lib.hid hcx; clear hcx
      clear hlens
      generalize l[i] = x at *
      go_upto_region 5 with (first
        | (refine wp_loadN rfl 135 _ rfl b _ rfl (claimV x) _ HROW.out Tryz.underlying135 rfl (by rw [claimV_length HX.out]; exact sizeClaim) ?_)
        | (refine wp_storeN (B := wr.heap.size) (w0 := wr) rfl 135 _ _ rfl wr.heap.size _ rfl rfl 135 _ (heap_alloc_new _ _) (by rw [List.size_toArray, claimV_length HX.out]; exact sizeClaim) (by rw [show (claimV x).toArray.size = 70 by rw [List.size_toArray, claimV_length HX.out]]; rfl) (by simpa using claimV_one x) ((Below.refl _ _).alloc (Nat.le_refl _) _) (Nat.le_refl _) ?_; intro W2 hbW2 hW2 _))
      have hM2 := Lib.hid (hM.out.below hbW2)
      have hdoc : ∀ j u, (keyV x.2.1)[j]? = some u → W2.cell? ⟨wr.heap.size, 34 + j, none⟩ = some u := fun j u hj => (cells_box hW2 (34 + j)).trans (claim_doc HX.out j u hj)
      have HDOC := Lib.hid hdoc; clear hdoc
      have HB2 := Lib.hid hbW2; have HW2 := Lib.hid hW2
      clear hbW2 hW2 hM
      have hz2 : wr.heap.size < W2.heap.size := (Array.getElem?_eq_some_iff.1 HW2.out).1
      have hall : ∀ j u, (claimV x)[j]? = some u → W2.cell? ⟨wr.heap.size, 0 + j, none⟩ = some u := fun j u hj => by rw [Nat.zero_add]; exact (cells_box HW2.out j).trans hj
      have HALL := Lib.hid hall; clear hall
      have HZ2 := Lib.hid hz2; clear hz2
      have hmax : n0 < maxLen := by unfold maxLen; omega
      have hkd : KeyOk x.2.1 := HX.out.2.1
      have hkk : KeyOk x.1 := HX.out.1
      cases hlast : lastOf (l.take i) x.2.1 with
      | none =>
        have hLM : lastM (l.take i) x.2.1 = none := by unfold lastM; rw [hlast]; rfl
        have hput := lastM_put (t := l.take i) (c := x) (fun y hy => by rw [hlast] at hy; cases hy)
        have HLM := Lib.hid hLM; have HPUT := Lib.hid hput
        clear hLM hput hlast
        go_upto_region 6 with (first
          | (refine wp_loadN rfl 89 _ rfl wr.heap.size 34 rfl (keyV x.2.1) _ HDOC.out Tryz.underlying89 rfl (by rw [keyV_length hkd]; exact sizeKey) ?_)
          | (refine wp_mapGet2 rfl _ _ 159 rfl 135 keyEnc Tryz.underlying159 (claimA zeroC) (zeroC_run _) rfl hM2.out x.2.1 hkd rfl ?_; rw [HLM.out]; simp only [Option.getD_none, Option.isSome_none])
          | (refine wp_storeN (B := W2.heap.size) (w0 := W2) rfl 135 _ _ rfl W2.heap.size _ rfl rfl 135 _ (heap_alloc_new _ _) (by kernel_rfl) (by kernel_rfl) (by simpa using claimV_one zeroC) ((Below.refl _ _).alloc (Nat.le_refl _) _) (Nat.le_refl _) ?_; intro W3 hbW3 hW3 _))
        obtain ⟨cl3, _⟩ := bcell hbW3
        have hM3 := Lib.hid (hM2.out.below hbW3)
        have D3 : Hid (∀ j u, (keyV x.2.1)[j]? = some u → W3.cell? ⟨wr.heap.size, 34 + j, none⟩ = some u) := fun j u hj => (cl3 _ _ HZ2.out).trans (HDOC.out j u hj)
        have A3 : Hid (∀ j u, (claimV x)[j]? = some u → W3.cell? ⟨wr.heap.size, 0 + j, none⟩ = some u) := fun j u hj => (cl3 _ _ HZ2.out).trans (HALL.out j u hj)
        have hb3 : Below w.heap.size w W3 := (hbr.trans (HB2.out.mono hbr.size)).trans (hbW3.mono (Nat.le_trans hbr.size HB2.out.size))
        have HB3 := Lib.hid hb3
        clear hb3 cl3 hW3 hbW3 hbr
        go_wp2_with (first
          | (refine wp_loadN rfl 89 _ rfl wr.heap.size 34 rfl (keyV x.2.1) _ D3.out Tryz.underlying89 rfl (by rw [keyV_length hkd]; exact sizeKey) ?_)
          | (refine wp_loadN rfl 135 _ rfl wr.heap.size 0 rfl (claimV x) _ A3.out Tryz.underlying135 rfl (by rw [claimV_length HX.out]; exact sizeClaim) ?_)
          | (refine wp_mapPut rfl _ _ _ 159 rfl 135 keyEnc Tryz.underlying159 rfl hM3.out hmax x.2.1 hkd rfl (claimA x) rfl ?_; intro W4 hM4 hg4))
        go_roundw
        case rel => exact ⟨i + 1, by omega, by go_num, HB3.out.grown hg4 HB3.out.size (fun k e => by cases e; exact Nat.le_refl _), n0 + 1, by omega, Lib.hid (by rw [HTK.out, ← HPUT.out]; exact hM4)⟩
        case measure => simp [intOf]; omega
      | some y =>
        have hy : ClaimOk y := HOK.out y (List.mem_of_mem_take (lastOf_is hlast).1)
        have hLM : lastM (l.take i) x.2.1 = some (claimA y) := by unfold lastM; rw [hlast]; rfl
        have HLM := Lib.hid hLM; have HY := Lib.hid hy
        clear hLM hy
        have hky : KeyOk y.1 := HY.out.1
        have hkeys := fun q => keys_any x.1 y.1 q hkk hky
        by_cases hq : 0 < cmpK x.1 y.1
        · have hput := lastM_put (t := l.take i) (c := x) (fun z hz => by rw [hlast] at hz; cases hz; exact hq)
          have HPUT := Lib.hid hput
          clear hput hlast
          generalize cmpK x.1 y.1 = q at *
          go_upto_region 6 with (first
            | (refine wp_loadN rfl 89 _ rfl wr.heap.size 34 rfl (keyV x.2.1) _ HDOC.out Tryz.underlying89 rfl (by rw [keyV_length hkd]; exact sizeKey) ?_)
            | (refine wp_mapGet2 rfl _ _ 159 rfl 135 keyEnc Tryz.underlying159 (claimA zeroC) (zeroC_run _) rfl hM2.out x.2.1 hkd rfl ?_; rw [HLM.out]; simp only [Option.getD_some, Option.isSome_some])
            | (refine wp_storeN (B := W2.heap.size) (w0 := W2) rfl 135 _ _ rfl W2.heap.size _ rfl rfl 135 _ (heap_alloc_new _ _) (by rw [List.size_toArray, claimV_length HY.out]; exact sizeClaim) (by rw [show (claimV y).toArray.size = 70 by rw [List.size_toArray, claimV_length HY.out]]; rfl) (by simpa using claimV_one y) ((Below.refl _ _).alloc (Nat.le_refl _) _) (Nat.le_refl _) ?_; intro W3 hbW3 hW3 _))
          obtain ⟨cl3, _⟩ := bcell hbW3
          have hM3 := Lib.hid (hM2.out.below hbW3)
          have D3 : Hid (∀ j u, (keyV x.2.1)[j]? = some u → W3.cell? ⟨wr.heap.size, 34 + j, none⟩ = some u) := fun j u hj => (cl3 _ _ HZ2.out).trans (HDOC.out j u hj)
          have A3 : Hid (∀ j u, (claimV x)[j]? = some u → W3.cell? ⟨wr.heap.size, 0 + j, none⟩ = some u) := fun j u hj => (cl3 _ _ HZ2.out).trans (HALL.out j u hj)
          have K3 : Hid (W3.rangeAt wr.heap.size 0 (keyV x.1)) := fun j u hj => A3.out j u (by have := claim_key HX.out j u hj; rwa [Nat.zero_add] at this)
          have L3 : Hid (W3.rangeAt W2.heap.size 0 (keyV y.1)) := fun j u hj => (cells_box hW3 (0 + j)).trans (claim_key HY.out j u hj)
          have HZ3 : Hid (wr.heap.size < W3.heap.size) := Nat.lt_of_lt_of_le HZ2.out hbW3.size
          have hb3 : Below w.heap.size w W3 := (hbr.trans (HB2.out.mono hbr.size)).trans (hbW3.mono (Nat.le_trans hbr.size HB2.out.size))
          have HB3 := Lib.hid hb3
          clear hb3 cl3 hW3 hbW3 hbr
          have hcmp := hkeys W3
          clear hkeys
          go_wp2_with (first
            | (refine wp_val (by rfl) (ex_load 89 _ rfl (p := ⟨wr.heap.size, 0, none⟩) rfl (run_loadVar_mid W3 _ _ _ (keyV x.1) _ K3.out Tryz.underlying89 rfl (by rw [keyV_length hkk]; exact sizeKey))) ?_)
            | (refine wp_val (by rfl) (ex_load 89 _ rfl (p := ⟨W2.heap.size, 0, none⟩) rfl (run_loadVar_mid W3 _ _ _ (keyV y.1) _ L3.out Tryz.underlying89 rfl (by rw [keyV_length hky]; exact sizeKey))) ?_)
            | (go_at_call 78; refine hcmp.mono ?_; rintro e w5 ⟨hb5, rfl⟩
               obtain ⟨cl5, _⟩ := bcell hb5
               have hM5 := Lib.hid (hM3.out.below hb5)
               have D5 : Hid (∀ j u, (keyV x.2.1)[j]? = some u → w5.cell? ⟨wr.heap.size, 34 + j, none⟩ = some u) := fun j u hj => (cl5 _ _ HZ3.out).trans (D3.out j u hj)
               have A5 : Hid (∀ j u, (claimV x)[j]? = some u → w5.cell? ⟨wr.heap.size, 0 + j, none⟩ = some u) := fun j u hj => (cl5 _ _ HZ3.out).trans (A3.out j u hj)
               have HB5 := Lib.hid (HB3.out.trans (hb5.mono HB3.out.size))
               clear cl5 hb5)
            | (refine wp_loadN rfl 89 _ rfl wr.heap.size 34 rfl (keyV x.2.1) _ D5.out Tryz.underlying89 rfl (by rw [keyV_length hkd]; exact sizeKey) ?_)
            | (refine wp_loadN rfl 135 _ rfl wr.heap.size 0 rfl (claimV x) _ A5.out Tryz.underlying135 rfl (by rw [claimV_length HX.out]; exact sizeClaim) ?_)
            | (refine wp_mapPut rfl _ _ _ 159 rfl 135 keyEnc Tryz.underlying159 rfl hM5.out hmax x.2.1 hkd rfl (claimA x) rfl ?_; intro W4 hM4 hg4))
          go_roundw
          case rel => exact ⟨i + 1, by omega, by go_num, HB5.out.grown hg4 HB5.out.size (fun k e => by cases e; exact Nat.le_refl _), n0 + 1, by omega, Lib.hid (by rw [HTK.out, ← HPUT.out]; exact hM4)⟩
          case measure => simp [intOf]; omega
        · have hkeep := lastM_keep hlast hq
          have HKEEP := Lib.hid hkeep
          have hq2 : cmpK x.1 y.1 ≤ 0 := by omega
          clear hkeep hlast
          generalize cmpK x.1 y.1 = q at *
          go_upto_region 6 with (first
            | (refine wp_loadN rfl 89 _ rfl wr.heap.size 34 rfl (keyV x.2.1) _ HDOC.out Tryz.underlying89 rfl (by rw [keyV_length hkd]; exact sizeKey) ?_)
            | (refine wp_mapGet2 rfl _ _ 159 rfl 135 keyEnc Tryz.underlying159 (claimA zeroC) (zeroC_run _) rfl hM2.out x.2.1 hkd rfl ?_; rw [HLM.out]; simp only [Option.getD_some, Option.isSome_some])
            | (refine wp_storeN (B := W2.heap.size) (w0 := W2) rfl 135 _ _ rfl W2.heap.size _ rfl rfl 135 _ (heap_alloc_new _ _) (by rw [List.size_toArray, claimV_length HY.out]; exact sizeClaim) (by rw [show (claimV y).toArray.size = 70 by rw [List.size_toArray, claimV_length HY.out]]; rfl) (by simpa using claimV_one y) ((Below.refl _ _).alloc (Nat.le_refl _) _) (Nat.le_refl _) ?_; intro W3 hbW3 hW3 _))
          obtain ⟨cl3, _⟩ := bcell hbW3
          have hM3 := Lib.hid (hM2.out.below hbW3)
          have D3 : Hid (∀ j u, (keyV x.2.1)[j]? = some u → W3.cell? ⟨wr.heap.size, 34 + j, none⟩ = some u) := fun j u hj => (cl3 _ _ HZ2.out).trans (HDOC.out j u hj)
          have A3 : Hid (∀ j u, (claimV x)[j]? = some u → W3.cell? ⟨wr.heap.size, 0 + j, none⟩ = some u) := fun j u hj => (cl3 _ _ HZ2.out).trans (HALL.out j u hj)
          have K3 : Hid (W3.rangeAt wr.heap.size 0 (keyV x.1)) := fun j u hj => A3.out j u (by have := claim_key HX.out j u hj; rwa [Nat.zero_add] at this)
          have L3 : Hid (W3.rangeAt W2.heap.size 0 (keyV y.1)) := fun j u hj => (cells_box hW3 (0 + j)).trans (claim_key HY.out j u hj)
          have HZ3 : Hid (wr.heap.size < W3.heap.size) := Nat.lt_of_lt_of_le HZ2.out hbW3.size
          have hb3 : Below w.heap.size w W3 := (hbr.trans (HB2.out.mono hbr.size)).trans (hbW3.mono (Nat.le_trans hbr.size HB2.out.size))
          have HB3 := Lib.hid hb3
          clear hb3 cl3 hW3 hbW3 hbr
          have hcmp := hkeys W3
          clear hkeys
          go_wp2_with (first
            | (refine wp_val (by rfl) (ex_load 89 _ rfl (p := ⟨wr.heap.size, 0, none⟩) rfl (run_loadVar_mid W3 _ _ _ (keyV x.1) _ K3.out Tryz.underlying89 rfl (by rw [keyV_length hkk]; exact sizeKey))) ?_)
            | (refine wp_val (by rfl) (ex_load 89 _ rfl (p := ⟨W2.heap.size, 0, none⟩) rfl (run_loadVar_mid W3 _ _ _ (keyV y.1) _ L3.out Tryz.underlying89 rfl (by rw [keyV_length hky]; exact sizeKey))) ?_)
            | (go_at_call 78; refine hcmp.mono ?_; rintro e w5 ⟨hb5, rfl⟩
               obtain ⟨cl5, _⟩ := bcell hb5
               have hM5 := Lib.hid (hM3.out.below hb5)
               have HB5 := Lib.hid (HB3.out.trans (hb5.mono HB3.out.size))
               clear cl5 hb5))
          go_roundw
          case rel => exact ⟨i + 1, by omega, by go_num, HB5.out, n0, by omega, Lib.hid (by rw [HTK.out, ← HKEEP.out]; exact hM5.out)⟩
          case measure => simp [intOf]; omega
    · go_wp2_with fail
      go_ret
      have e : l.take i = l := List.take_of_length_le (by omega)
      have hM2 := hM.out
      rw [e] at hM2
      exact ⟨hbr, rfl, n0, by omega, hM2⟩
end Go.Proofs.YtdgbjhfkmembdaaGreatDoor
