/-
  What the register's Right gives. Conditions: claims well formed; at most 2^40 of them; the library's variable MaxLen holds a number. (Under way.)
-/
import Derived.Test.YtdgbjhfkmembdaaGreatDoorRegWalks
import Derived.Test.YtdgbjhfkmembdaaGreatDoorMapEntry
import Derived.Test.YtdgbjhfkmembdaaGreatDoorHandL
import Derived.Test.YtdgbjhfkmembdaaGreatDoorTreeWalks
import Derived.Carry
import Derived.OrdersHeld
namespace Go.Proofs.YtdgbjhfkmembdaaGreatDoor
open Go.RowKit
set_option linter.unusedVariables false
set_option linter.unusedSimpArgs false

/-- How often a key stands in a list of claims, as the map's value. -/
def cntM (t : List ClaimD) (k : KeyD) : Option Value := if k ∈ t.map (·.1) then some (.int .i64 1) else none
theorem cntM_snoc {t : List ClaimD} {x : ClaimD} (h : x.1 ∉ t.map (·.1)) : (fun k => if k = x.1 then some (.int .i64 (0 + 1)) else cntM t k) = cntM (t ++ [x]) := by
  funext k
  unfold cntM
  by_cases e : k = x.1
  · subst e; rw [if_pos rfl, if_pos (by simp)]; rfl
  · rw [if_neg e]
    by_cases q : k ∈ t.map (·.1)
    · rw [if_pos q, if_pos (by rw [List.map_append, List.mem_append]; exact .inl q)]
    · rw [if_neg q, if_neg (by rw [List.map_append, List.mem_append]; rintro (r | r); exact q r; simp at r; exact e r)]
theorem right_snoc {t : List ClaimD} {x : ClaimD} (h : RightP t) (hn : x.1 ∉ t.map (·.1)) (hg : goodB x.2.2.1 x.2.2.2 = true) : RightP (t ++ [x]) := by
  refine ⟨fun c hc => ?_, ?_⟩
  · rcases List.mem_append.1 hc with hc | hc
    · exact h.1 c hc
    · rw [List.mem_singleton.1 hc]; exact hg
  · rw [List.map_append, List.nodup_append]
    refine ⟨h.2, by simp, fun a ha b hb e => ?_⟩
    rw [List.map_cons, List.map_nil, List.mem_singleton] at hb
    subst hb; subst e; exact hn ha
theorem right_dup {l : List ClaimD} {i : Nat} (hi : i < l.length) (h : l[i].1 ∈ (l.take i).map (·.1)) : rightC l = false := by
  rw [Bool.eq_false_iff, ne_eq, rightB_iff]
  intro hr
  have hn := hr.2
  rw [← List.take_append_drop i l, List.map_append, List.nodup_append] at hn
  refine hn.2.2 _ h _ ?_ rfl
  rw [List.drop_eq_getElem_cons hi, List.map_cons]
  exact List.mem_cons_self
theorem right_bad {l : List ClaimD} {i : Nat} (hi : i < l.length) (h : goodB l[i].2.2.1 l[i].2.2.2 = false) : rightC l = false := by
  rw [Bool.eq_false_iff, ne_eq, rightB_iff]
  intro hr
  have := hr.1 _ (List.getElem_mem hi)
  rw [h] at this; cases this

theorem rangeAt_drew {w : World} {b o : Nat} {cs : List Value} (h : w.rangeAt b o cs) : w.drew.rangeAt b o cs := h
theorem rangeAt_grown {w w' : World} {row : Option Nat} {b o : Nat} {cs : List Value} (h : w.rangeAt b o cs) (hg : w.grownBy w' row) (hne : row ≠ some b) : w'.rangeAt b o cs :=
  fun j u hj => hg.cell (h j u hj) (fun e => hne e.symm)
theorem sizeClaim' : (Tryz.prog.info? 135).map (·.size) = some 70 := by kernel_rfl
theorem sizeKey' : (Tryz.prog.info? 89).map (·.size) = some 34 := by kernel_rfl
theorem zeroInt_run (w : World) : (zeroValue 3).run Tryz.prog w = .ok (.int .i64 0) w := by
  have h : (Tryz.prog.info? 3).map (·.zero) = some (some (.int .i64 0)) := by kernel_rfl
  cases hq : Tryz.prog.info? 3 with
  | none => rw [hq] at h; cases h
  | some i =>
    rw [hq] at h
    have h2 : i.zero = some (.int .i64 0) := Option.some.inj h
    simp [zeroValue, typeInfo, hq, h2]
set_option maxHeartbeats 2000000 in
set_option maxRecDepth 100000 in
theorem regRight_any (l : List ClaimD) (A : Option Addr) (c : Nat) (w : World) (hl : l.length ≤ 1099511627776) (hok : ∀ x ∈ l, ClaimOk x) (hsl : Sl w w.heap.size A l.length 70 (rowsV claimV l)) (hg : Glob w) :
    Calls Tryz.prog 73 #[.slice A l.length c] w fun e w' => Below w.heap.size w w' ∧ e = .returned (.bool (rightC l)) := by
  have HSL := Lib.hid hsl; clear hsl
  have HOK := Lib.hid hok; clear hok
  have hmm := @run_makeMap Tryz.prog
  go_enter Tryz.func73, Tryz.ntmps73
  go_upto_region 2 with fail
  have hm0 := MapV.made w Tryz.prog 89 KeyOk keyL
  have hb0 : Below w.heap.size w (w.alloc (.map #[] 0)) := (Below.refl _ _).alloc (Nat.le_refl _) _
  clear hmm
  generalize w.alloc (.map #[] 0) = W at *
  go_wp2_with fail
  go_loopw [9] (fun t wr => ∃ i : Nat, i ≤ l.length ∧ t = .int .i64 i ∧ Below w.heap.size w wr ∧ Hid (RightP (l.take i)) ∧ ∃ n0, n0 ≤ i ∧ Hid (MapV wr Tryz.prog 89 KeyOk keyL w.heap.size n0 (cntM (l.take i)))) (fun t _ => l.length - (intOf t).toNat)
  case atStart => exact ⟨0, by omega, rfl, hb0, Lib.hid ⟨fun c hc => absurd hc (by simp), by simp⟩, 0, Nat.le_refl _, Lib.hid hm0⟩
  case round =>
    obtain ⟨i, hi, rfl, hbr, hR, n0, hn0, hM⟩ := hrel
    by_cases hlt : i < l.length
    · obtain ⟨b, off, rfl, hbl, hcl⟩ := (HSL.out.keep hbr).2 (by omega)
      have i0 : (0 : Int) ≤ (i : Int) := by omega
      have i1 : (i : Int) < (l.length : Int) := by omega
      have hlens : ∀ x ∈ l, (claimV x).length = 70 := fun x hx => claimV_length (HOK.out x hx)
      have hrow := Sl.row hlens hcl hlt
      have hcx := HOK.out _ (List.getElem_mem hlt)
      have htk : l.take (i + 1) = l.take i ++ [l[i]] := List.take_succ_eq_append_getElem hlt
      have HDUP := Lib.hid fun h => right_dup hlt h
      have HBAD := Lib.hid fun h => right_bad hlt h
      have HCL := Lib.hid hcl; clear hcl
      have HROW := Lib.hid hrow; clear hrow
      have HTK := Lib.hid htk; clear htk
      have HX := Lib.hid hcx; clear hcx
      clear hlens
      generalize l[i] = x at *
      go_upto_region 5 with (first
        | (refine wp_loadN rfl 135 _ rfl b _ rfl (claimV x) _ HROW.out Tryz.underlying135 rfl (by rw [claimV_length HX.out]; exact sizeClaim') ?_)
        | (refine wp_storeN (B := wr.heap.size) (w0 := wr) rfl 135 _ _ rfl wr.heap.size _ rfl rfl 135 _ (heap_alloc_new _ _) (by rw [List.size_toArray, claimV_length HX.out]; exact sizeClaim') (by rw [show (claimV x).toArray.size = 70 by rw [List.size_toArray, claimV_length HX.out]]; rfl) (by simpa using claimV_one x) ((Below.refl _ _).alloc (Nat.le_refl _) _) (Nat.le_refl _) ?_; intro W2 hbW2 hW2 _))
      have hM2 := hM.out.below hbW2
      have hall : ∀ j u, (claimV x)[j]? = some u → W2.cell? ⟨wr.heap.size, 0 + j, none⟩ = some u := fun j u hj => by rw [Nat.zero_add]; exact (cells_box hW2 j).trans hj
      have hkr : W2.rangeAt wr.heap.size 0 (keyV x.1) := fun j u hj => hall j u (by have := claim_key HX.out j u hj; rwa [Nat.zero_add] at this)
      have hkk : KeyOk x.1 := HX.out.1
      have hmax : n0 < maxLen := by unfold maxLen; omega
      obtain ⟨old, hold, hdup, HOLD⟩ : ∃ old : Int, (old = 0 ∨ old = 1) ∧ Hid (old = 0 ↔ x.1 ∉ (l.take i).map (·.1)) ∧ Hid ((cntM (l.take i) x.1).getD (.int .i64 0) = .int .i64 old) := by
        by_cases h : x.1 ∈ (l.take i).map (·.1)
        · exact ⟨1, .inr rfl, Lib.hid ⟨fun e => absurd e (by decide), fun n => absurd h n⟩, Lib.hid (by unfold cntM; rw [if_pos h]; rfl)⟩
        · exact ⟨0, .inl rfl, Lib.hid ⟨fun _ => h, fun _ => rfl⟩, Lib.hid (by unfold cntM; rw [if_neg h]; rfl)⟩
      have hne : w.heap.size ≠ wr.heap.size := by have := hM.out.lt; omega
      obtain ⟨st, W3, hent, hg3, hM3, hstore⟩ := MapV.entry keyEnc eqKey.law Tryz.underlying241 zeroInt_run hM2.drew hmax hkk
      refine wp_region_held (S := fun w' => w'.rangeAt wr.heap.size 0 (keyV x.1)) (by kernel_rfl) ?_
      refine wpAnyH_take (i := 0) (v := .map (some w.heap.size)) rfl (by kernel_rfl) (by kernel_rfl) (by kernel_rfl) (fun _ _ _ h => h) (Or.inl ⟨by rfl, fun w' _ => by rfl⟩) hkr ?_
      simp only [Act.put, List.getElem_toArray, List.getElem_cons_succ, List.getElem_cons_zero, List.setIfInBounds_toArray, List.set_cons_zero, List.set_cons_succ, List.size_toArray, List.length_cons, List.length_nil, Nat.reduceAdd, Array.replicate_succ, Array.replicate_zero, List.push_toArray, List.nil_append, List.cons_append]
      refine wpAnyH_take (i := 1) (v := .pointer (some ⟨wr.heap.size, 0, none⟩)) rfl (by kernel_rfl) (by kernel_rfl) (by kernel_rfl) (fun _ _ _ h => h) (Or.inl ⟨by rfl, fun w' _ => by go_simp⟩) hkr ?_
      simp only [Act.put, List.getElem_toArray, List.getElem_cons_succ, List.getElem_cons_zero, List.setIfInBounds_toArray, List.set_cons_zero, List.set_cons_succ, List.size_toArray, List.length_cons, List.length_nil, Nat.reduceAdd, Array.replicate_succ, Array.replicate_zero, List.push_toArray, List.nil_append, List.cons_append]
      refine wpAnyH_take (i := 2) (v := keyA x.1) rfl (by kernel_rfl) (by kernel_rfl) (by kernel_rfl) (fun _ _ _ h => h) (Or.inl ⟨by rfl, fun w' hw' => ex_load 89 _ rfl (p := ⟨wr.heap.size, 0, none⟩) rfl (run_loadVar_mid w' _ _ _ (keyV x.1) _ hw' Tryz.underlying89 rfl (by rw [keyV_length hkk]; exact sizeKey'))⟩) hkr ?_
      simp only [Act.put, List.getElem_toArray, List.getElem_cons_succ, List.getElem_cons_zero, List.setIfInBounds_toArray, List.set_cons_zero, List.set_cons_succ, List.size_toArray, List.length_cons, List.length_nil, Nat.reduceAdd, Array.replicate_succ, Array.replicate_zero, List.push_toArray, List.nil_append, List.cons_append]
      refine wpAnyH_all (rs := [3, 5]) (by kernel_rfl) (by simp) ?_
      intro q hq
      simp only [List.mem_cons, List.not_mem_nil, or_false] at hq
      have hS3 : W3.rangeAt wr.heap.size 0 (keyV x.1) := rangeAt_grown (rangeAt_drew hkr) hg3 (fun e => hne (Option.some.inj e))
      rcases hq with rfl | rfl
      case' inr =>
        refine wpOp_val _ rfl (by kernel_rfl) (ex_mapEntry 241 _ _ rfl (vm := .map (some w.heap.size)) (vk := keyA x.1) rfl rfl hent) ?_
        rw [HOLD.out]
        refine ⟨hS3, ?_⟩
        simp only [Act.put, List.getElem_toArray, List.getElem_cons_succ, List.getElem_cons_zero, List.setIfInBounds_toArray, List.set_cons_zero, List.set_cons_succ, List.size_toArray, List.length_cons, List.length_nil, Nat.reduceAdd, Array.replicate_succ, Array.replicate_zero, List.push_toArray, List.nil_append, List.cons_append]
        refine wpAnyH_take (i := 6) (v := goInt st) rfl (by kernel_rfl) (by kernel_rfl) (by kernel_rfl) (fun _ _ _ h => h) (Or.inl ⟨by rfl, fun w' _ => by rfl⟩) hS3 ?_
        simp only [Act.put, List.getElem_toArray, List.getElem_cons_succ, List.getElem_cons_zero, List.setIfInBounds_toArray, List.set_cons_zero, List.set_cons_succ, List.size_toArray, List.length_cons, List.length_nil, Nat.reduceAdd, Array.replicate_succ, Array.replicate_zero, List.push_toArray, List.nil_append, List.cons_append]
        refine wpAnyH_all (rs := [3]) (by kernel_rfl) (by simp) ?_
        intro q hq
        obtain rfl : q = 3 := by simpa using hq
        refine wpOp_val _ rfl (by kernel_rfl) (ex_lookup 241 _ _ false rfl (vm := .map (some w.heap.size)) (vk := keyA x.1) rfl rfl (MapV.look keyEnc Tryz.underlying241 zeroInt_run hM3 hkk)) ?_
        rw [if_pos rfl, Option.getD_some, HOLD.out]
        refine ⟨hS3, ?_⟩
        simp only [Act.put, List.getElem_toArray, List.getElem_cons_succ, List.getElem_cons_zero, List.setIfInBounds_toArray, List.set_cons_zero, List.set_cons_succ, List.size_toArray, List.length_cons, List.length_nil, Nat.reduceAdd, Array.replicate_succ, Array.replicate_zero, List.push_toArray, List.nil_append, List.cons_append]
        refine wpAnyH_take (i := 4) (v := .int .i64 (old + 1)) rfl (by kernel_rfl) (by kernel_rfl) (by kernel_rfl) (fun _ _ _ h => h) (Or.inl ⟨by rfl, fun w' _ => by rcases hold with rfl | rfl <;> rfl⟩) hS3 ?_
        simp only [Act.put, List.getElem_toArray, List.getElem_cons_succ, List.getElem_cons_zero, List.setIfInBounds_toArray, List.set_cons_zero, List.set_cons_succ, List.size_toArray, List.length_cons, List.length_nil, Nat.reduceAdd, Array.replicate_succ, Array.replicate_zero, List.push_toArray, List.nil_append, List.cons_append]
        refine wpAnyH_all (rs := [7]) (by kernel_rfl) (by simp) ?_
        intro q hq
        obtain rfl : q = 7 := by simpa using hq
        obtain ⟨W4, hst, hM4, hg4⟩ := hstore (.int .i64 (old + 1))
        refine wpOp_skip _ rfl (by kernel_rfl) (ex_entryStore 241 _ _ _ rfl (vm := .map (some w.heap.size)) (vs := goInt st) (v := .int .i64 (old + 1)) rfl rfl rfl hst) ?_
        have hS4 : W4.rangeAt wr.heap.size 0 (keyV x.1) := rangeAt_grown (rangeAt_drew hkr) hg4 (fun e => hne (Option.some.inj e))
        refine ⟨hS4, wpAnyH_done (by kernel_rfl) ?_ _⟩
        simp only [Act.put, List.getElem_toArray, List.getElem_cons_succ, List.getElem_cons_zero, List.setIfInBounds_toArray, List.set_cons_zero, List.set_cons_succ, List.size_toArray, List.length_cons, List.length_nil, Nat.reduceAdd, Array.replicate_succ, Array.replicate_zero, List.push_toArray, List.nil_append, List.cons_append]
      case' inl =>
        refine wpOp_val _ rfl (by kernel_rfl) (ex_lookup 241 _ _ false rfl (vm := .map (some w.heap.size)) (vk := keyA x.1) rfl rfl (MapV.look keyEnc Tryz.underlying241 zeroInt_run hM2.drew hkk)) ?_
        rw [HOLD.out]
        refine ⟨(rangeAt_drew hkr), ?_⟩
        simp only [Act.put, List.getElem_toArray, List.getElem_cons_succ, List.getElem_cons_zero, List.setIfInBounds_toArray, List.set_cons_zero, List.set_cons_succ, List.size_toArray, List.length_cons, List.length_nil, Nat.reduceAdd, Array.replicate_succ, Array.replicate_zero, List.push_toArray, List.nil_append, List.cons_append]
        refine wpAnyH_take (i := 4) (v := .int .i64 (old + 1)) rfl (by kernel_rfl) (by kernel_rfl) (by kernel_rfl) (fun _ _ _ h => h) (Or.inl ⟨by rfl, fun w' _ => by rcases hold with rfl | rfl <;> rfl⟩) (rangeAt_drew hkr) ?_
        simp only [Act.put, List.getElem_toArray, List.getElem_cons_succ, List.getElem_cons_zero, List.setIfInBounds_toArray, List.set_cons_zero, List.set_cons_succ, List.size_toArray, List.length_cons, List.length_nil, Nat.reduceAdd, Array.replicate_succ, Array.replicate_zero, List.push_toArray, List.nil_append, List.cons_append]
        refine wpAnyH_all (rs := [5]) (by kernel_rfl) (by simp) ?_
        intro q hq
        obtain rfl : q = 5 := by simpa using hq
        refine wpOp_val _ rfl (by kernel_rfl) (ex_mapEntry 241 _ _ rfl (vm := .map (some w.heap.size)) (vk := keyA x.1) rfl rfl hent) ?_
        rw [HOLD.out]
        refine ⟨hS3, ?_⟩
        simp only [Act.put, List.getElem_toArray, List.getElem_cons_succ, List.getElem_cons_zero, List.setIfInBounds_toArray, List.set_cons_zero, List.set_cons_succ, List.size_toArray, List.length_cons, List.length_nil, Nat.reduceAdd, Array.replicate_succ, Array.replicate_zero, List.push_toArray, List.nil_append, List.cons_append]
        refine wpAnyH_take (i := 6) (v := goInt st) rfl (by kernel_rfl) (by kernel_rfl) (by kernel_rfl) (fun _ _ _ h => h) (Or.inl ⟨by rfl, fun w' _ => by rfl⟩) hS3 ?_
        simp only [Act.put, List.getElem_toArray, List.getElem_cons_succ, List.getElem_cons_zero, List.setIfInBounds_toArray, List.set_cons_zero, List.set_cons_succ, List.size_toArray, List.length_cons, List.length_nil, Nat.reduceAdd, Array.replicate_succ, Array.replicate_zero, List.push_toArray, List.nil_append, List.cons_append]
        refine wpAnyH_all (rs := [7]) (by kernel_rfl) (by simp) ?_
        intro q hq
        obtain rfl : q = 7 := by simpa using hq
        obtain ⟨W4, hst, hM4, hg4⟩ := hstore (.int .i64 (old + 1))
        refine wpOp_skip _ rfl (by kernel_rfl) (ex_entryStore 241 _ _ _ rfl (vm := .map (some w.heap.size)) (vs := goInt st) (v := .int .i64 (old + 1)) rfl rfl rfl hst) ?_
        have hS4 : W4.rangeAt wr.heap.size 0 (keyV x.1) := rangeAt_grown (rangeAt_drew hkr) hg4 (fun e => hne (Option.some.inj e))
        refine ⟨hS4, wpAnyH_done (by kernel_rfl) ?_ _⟩
        simp only [Act.put, List.getElem_toArray, List.getElem_cons_succ, List.getElem_cons_zero, List.setIfInBounds_toArray, List.set_cons_zero, List.set_cons_succ, List.size_toArray, List.length_cons, List.length_nil, Nat.reduceAdd, Array.replicate_succ, Array.replicate_zero, List.push_toArray, List.nil_append, List.cons_append]
      all_goals
        have HM4 := Lib.hid hM4
        have HK4 : Hid (W4.rangeAt wr.heap.size 0 (keyV x.1)) := hS4
        have HC4 : Hid (W4.rangeAt wr.heap.size 0 (claimV x)) := rangeAt_grown (rangeAt_drew hall) hg4 (fun e => hne (Option.some.inj e))
        have HB4 : Hid (Below w.heap.size w W4) := (hbr.trans (hbW2.mono hbr.size)).drew.grown hg4 (Nat.le_trans hbr.size hbW2.size) (fun k e => by cases e; exact Nat.le_refl _)
        have HG4 : Hid (Glob W4) := hg.next HB4.out
        clear hM4 hS4 hg4 hst hstore hent hM3 hg3 hS3 hkr hall hM2 hbW2 hW2 hM
        rcases hold with rfl | rfl
        · have hnd := hdup.out.1 rfl
          have HND := Lib.hid hnd
          clear hnd hdup HDUP HOLD
          cases hgd : goodB x.2.2.1 x.2.2.2 with
          | true =>
            have hcall := good_any x W4 HX.out HG4.out
            rw [hgd] at hcall
            have HGD := Lib.hid hgd; clear hgd HBAD
            go_wp2_with (first
              | (refine wp_val (by rfl) (ex_load 89 _ rfl (p := ⟨wr.heap.size, 0, none⟩) rfl (run_loadVar_mid W4 _ _ _ (keyV x.1) _ HK4.out Tryz.underlying89 rfl (by rw [keyV_length hkk]; exact sizeKey'))) ?_)
              | (refine wp_val (by rfl) (ex_load 135 _ rfl (p := ⟨wr.heap.size, 0, none⟩) rfl (run_loadVar_mid W4 _ _ _ (claimV x) _ HC4.out Tryz.underlying135 rfl (by rw [claimV_length HX.out]; exact sizeClaim'))) ?_)
              | (refine wp_mapGet1 rfl _ _ 241 rfl 3 keyEnc Tryz.underlying241 (.int .i64 0) (zeroInt_run _) rfl HM4.out x.1 hkk rfl ?_; simp only [if_true, Option.getD_some])
              | (go_at_call 123; refine hcall.mono ?_; rintro e w5 ⟨hb5, rfl⟩
                 have HM5 := Lib.hid (HM4.out.below hb5)
                 have HB5 := Lib.hid (HB4.out.trans (hb5.mono HB4.out.size))
                 clear hb5))
            go_roundw
            case rel => exact ⟨i + 1, by omega, by go_num, HB5.out, Lib.hid (by rw [HTK.out]; exact right_snoc hR.out HND.out HGD.out), n0 + 1, by omega, Lib.hid (by rw [HTK.out, ← cntM_snoc HND.out]; exact HM5.out)⟩
            case measure => simp [intOf]; omega
          | false =>
            have hcall := good_any x W4 HX.out HG4.out
            rw [hgd] at hcall
            have hrb := HBAD.out hgd
            have HRB := Lib.hid hrb; clear hgd HBAD hrb
            go_wp2_with (first
              | (refine wp_val (by rfl) (ex_load 89 _ rfl (p := ⟨wr.heap.size, 0, none⟩) rfl (run_loadVar_mid W4 _ _ _ (keyV x.1) _ HK4.out Tryz.underlying89 rfl (by rw [keyV_length hkk]; exact sizeKey'))) ?_)
              | (refine wp_val (by rfl) (ex_load 135 _ rfl (p := ⟨wr.heap.size, 0, none⟩) rfl (run_loadVar_mid W4 _ _ _ (claimV x) _ HC4.out Tryz.underlying135 rfl (by rw [claimV_length HX.out]; exact sizeClaim'))) ?_)
              | (refine wp_mapGet1 rfl _ _ 241 rfl 3 keyEnc Tryz.underlying241 (.int .i64 0) (zeroInt_run _) rfl HM4.out x.1 hkk rfl ?_; simp only [if_true, Option.getD_some])
              | (go_at_call 123; refine hcall.mono ?_; rintro e w5 ⟨hb5, rfl⟩
                 have HB5 := Lib.hid (HB4.out.trans (hb5.mono HB4.out.size))
                 clear hb5))
            go_ret
            exact ⟨HB5.out, by rw [HRB.out]; rfl⟩
        · have hdd := HDUP.out (Classical.byContradiction fun n => absurd (hdup.out.2 n) (by decide))
          have HRB := Lib.hid hdd
          clear hdd hdup HDUP HOLD HBAD
          go_wp2_with (first
            | (refine wp_val (by rfl) (ex_load 89 _ rfl (p := ⟨wr.heap.size, 0, none⟩) rfl (run_loadVar_mid W4 _ _ _ (keyV x.1) _ HK4.out Tryz.underlying89 rfl (by rw [keyV_length hkk]; exact sizeKey'))) ?_)
            | (refine wp_mapGet1 rfl _ _ 241 rfl 3 keyEnc Tryz.underlying241 (.int .i64 0) (zeroInt_run _) rfl HM4.out x.1 hkk rfl ?_; simp only [if_true, Option.getD_some]))
          go_ret
          exact ⟨HB4.out, by rw [HRB.out]; rfl⟩
    · go_wp2_with fail
      go_ret
      have e : l.take i = l := List.take_of_length_le (by omega)
      have hR2 := hR.out
      rw [e] at hR2
      exact ⟨hbr, by rw [rightB_iff.2 hR2]; rfl⟩
end Go.Proofs.YtdgbjhfkmembdaaGreatDoor
