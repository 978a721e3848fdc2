/-
  The law ObjectCut, walked. Conditions: the object's lists and the bytes lie in memory; the library's variable MaxLen holds a number.
-/
import Derived.Test.YthjaepmfkgejkaaDoorObjAwake
import Derived.Test.YthjaepmfkgejkaaDoorObjLight
import Derived.Test.YthjaepmfkgejkaaDoorObjEncode
import Derived.Test.YthjaepmfkgejkaaDoorObjDecode2
import Derived.Test.YthjaepmfkgejkaaDoorOrdMerge
import Derived.Test.YthjaepmfkgejkaaDoorSliceH
namespace Go.Proofs.YthjaepmfkgejkaaDoor.objectCut
open Go.RowKit Go.Maps
set_option linter.unusedVariables false
set_option linter.unusedSimpArgs false

theorem wrap_u64 (x : Int) : 0 ≤ IntKind.u64.wrap x ∧ IntKind.u64.wrap x < 18446744073709551616 := by
  unfold IntKind.wrap
  simp [IntKind.signed, IntKind.bits]
  omega
theorem wrap_u64_in {x : Int} (h0 : 0 ≤ x) (h : x < 18446744073709551616) : IntKind.u64.wrap x = x := by
  unfold IntKind.wrap
  simp [IntKind.signed, IntKind.bits]
  omega
/-- 'int(uint64(cut) % uint64(n))', n above 0. -/
theorem cut_at_k (cut : Int) {n : Nat} (hn : 0 < n) (hn2 : n ≤ 1099511627776) : ∃ u k : Nat, k < n ∧ Hid (IntKind.u64.wrap cut = (u : Int) ∧ IntKind.u64.wrap (n : Int) = (n : Int) ∧ wrap64 ((u : Int) % (n : Int)) = (k : Int) ∧ (0 : Int) ≤ (k : Int)) := by
  obtain ⟨h1, h2⟩ := wrap_u64 cut
  have hlt := Nat.mod_lt (IntKind.u64.wrap cut).toNat hn
  refine ⟨(IntKind.u64.wrap cut).toNat, (IntKind.u64.wrap cut).toNat % n, hlt, Lib.hid ⟨by omega, wrap_u64_in (by omega) (by omega), ?_, by omega⟩⟩
  rw [show (((IntKind.u64.wrap cut).toNat : Int) % (n : Int)) = (((IntKind.u64.wrap cut).toNat % n : Nat) : Int) from rfl]
  exact IntWalk.wrap64_in _ ⟨by omega, by omega⟩
theorem read_take {l : List UInt8} {o : ObjD} (h : readS l = some o) {n : Nat} (hn : n < l.length) : readS (l.take n) = none := by
  rcases hr : readS (l.take n) with _ | p
  · rfl
  · exfalso
    have h2 := readS_free (s := l.drop n) hr (by rw [List.take_append_drop]; exact h)
    have h3 := congrArg List.length h2
    rw [List.length_drop, List.length_nil] at h3
    omega
theorem read_more {l s : List UInt8} {o : ObjD} (h : readS l = some o) (hs : s ≠ []) : readS (l ++ s) = none := by
  rcases hr : readS (l ++ s) with _ | p
  · rfl
  · exact absurd (readS_free h hr) hs
theorem objE_pos {o : ObjD} : 0 < (objE o).length := by
  unfold objE
  split
  · unfold changeE; simp
  · unfold commitE; simp
theorem sl_take {w : World} {B n sz m : Nat} {A : Option Addr} {xs : List Value} (h : Sl w B A n sz xs) (hm : m ≤ n) : Sl w B A m sz (xs.take (m * sz)) := by
  refine ⟨by rw [List.length_take, h.1]; exact Nat.min_eq_left (Nat.mul_le_mul_right _ hm), fun hp => ?_⟩
  obtain ⟨b, off, e, hb, hc⟩ := h.2 (by omega)
  refine ⟨b, off, e, hb, fun j u hj => ?_⟩
  rw [List.getElem?_take] at hj
  split at hj
  · exact hc j u hj
  · cases hj
theorem idV_take8 (l : List UInt8) (k : Nat) : (idV l).take (k * 1) = idV (l.take k) := by unfold idV; rw [Nat.mul_one, List.map_take]
theorem idV_app8 (a b : List UInt8) : idV (a ++ b) = idV a ++ idV b := by unfold idV; rw [List.map_append]
set_option maxHeartbeats 4000000 in
set_option maxRecDepth 100000 in
theorem walk (o : ObjD) (v : Value) (cut : Int) (ms : List UInt8) (am : Option Addr) (cm : Nat) (w : World) (h : ObjIn w w.heap.size v o) (hcut : (Lit.int .i64 cut).wf = true) (hcm : ms.length ≤ cm) (hm : Sl w w.heap.size am ms.length 1 (idV ms)) (hg : Glob w) :
    Calls Tryd.prog 4 #[v, .int .i64 cut, .slice am ms.length cm] w fun e w' => e = .returned (.bool true) ∧ Below w.heap.size w w' := by
  have HIN0 := Lib.hid h; have HSM := Lib.hid hm; have HG := Lib.hid hg
  obtain ⟨c0, rfl, hl0, h10⟩ := h.ten
  have HIN := HIN0; have HL0 := Lib.hid hl0; have H10 := Lib.hid h10
  clear h hm hg HIN0 hl0 h10
  rcases Bool.eq_false_or_eq_true (lightB o) with hlb | hlb
  rotate_left
  · have HLB := Lib.hid hlb
    clear hlb
    go_enter Tryd.func4, Tryd.ntmps4
    go_upto_region 1 with (first
      | (with_reducible refine at_box ?_
         refine wp_boxM (by rfl) 29 _ rfl c0 (.agg c0.toArray) rfl rfl (by rw [HL0.out]; kernel_rfl) ?_
         intro W0 hb0 hz0 hs0
         have HB0 := Lib.hid hb0; have HZ0 := Lib.hid hz0; have HS0 := Lib.hid hs0
         clear hb0 hz0 hs0))
    obtain ⟨z, hz⟩ : ∃ z, w.heap.size = z := ⟨_, rfl⟩
    have HZL := Lib.hid (show z < W0.heap.size by have := HS0.out; omega)
    rw [hz] at HZ0 ⊢
    try simp only [Act.put, List.setIfInBounds_toArray, List.set_cons_zero, List.set_cons_succ]
    clear hz HS0
    go_wp2_with (first
      | (with_reducible refine at_load ?_
         refine wp_val (by rfl) (ex_load 29 _ rfl (p := ⟨z, 0, none⟩) rfl (load_obj HZ0.out HL0.out)) ?_)
      | (go_at_call 7; refine (light_any o _ W0 (HIN.out.keep HB0.out |>.more HB0.out.size)).mono ?_; rintro e W1 ⟨hb1, rfl⟩
         rw [HLB.out]
         have HB1 := Lib.hid (HB0.out.trans (hb1.mono HB0.out.size))
         have HZ1 := Lib.hid ((hb1.block z HZL.out).trans HZ0.out)
         have HZL1 := Lib.hid (Nat.lt_of_lt_of_le HZL.out hb1.size)
         clear hb1))
    go_ret
    exact ⟨rfl, HB1.out⟩
  obtain ⟨k1, k2, k3, k4⟩ := lightB_lens hlb
  have HLB := Lib.hid hlb
  have HK1 := Lib.hid k1; have HK2 := Lib.hid k2; have HK3 := Lib.hid k3; have HK4 := Lib.hid k4
  clear hlb k1 k2 k3 k4
  by_cases hll : 100 < ms.length
  · have d1 : decide ((100 : Int) < (ms.length : Int)) = true := decide_eq_true (by omega)
    have d2 : decide (100 < ms.length) = true := decide_eq_true hll
    go_enter Tryd.func4, Tryd.ntmps4
    go_upto_region 1 with (first
      | (with_reducible refine at_box ?_
         refine wp_boxM (by rfl) 29 _ rfl c0 (.agg c0.toArray) rfl rfl (by rw [HL0.out]; kernel_rfl) ?_
         intro W0 hb0 hz0 hs0
         have HB0 := Lib.hid hb0; have HZ0 := Lib.hid hz0; have HS0 := Lib.hid hs0
         clear hb0 hz0 hs0))
    obtain ⟨z, hz⟩ : ∃ z, w.heap.size = z := ⟨_, rfl⟩
    have HZL := Lib.hid (show z < W0.heap.size by have := HS0.out; omega)
    rw [hz] at HZ0 ⊢
    try simp only [Act.put, List.setIfInBounds_toArray, List.set_cons_zero, List.set_cons_succ]
    clear hz HS0
    go_wp2_with (first
      | (with_reducible refine at_load ?_
         refine wp_val (by rfl) (ex_load 29 _ rfl (p := ⟨z, 0, none⟩) rfl (load_obj HZ0.out HL0.out)) ?_)
      | (go_at_call 7; refine (light_any o _ W0 (HIN.out.keep HB0.out |>.more HB0.out.size)).mono ?_; rintro e W1 ⟨hb1, rfl⟩
         rw [HLB.out]
         have HB1 := Lib.hid (HB0.out.trans (hb1.mono HB0.out.size))
         have HZ1 := Lib.hid ((hb1.block z HZL.out).trans HZ0.out)
         have HZL1 := Lib.hid (Nat.lt_of_lt_of_le HZL.out hb1.size)
         clear hb1))
    go_ret
    exact ⟨rfl, HB1.out⟩
  have d1 : decide ((100 : Int) < (ms.length : Int)) = false := decide_eq_false (by omega)
  have d2 : decide (100 < ms.length) = false := decide_eq_false hll
  by_cases hok : rightB o = true ∧ ¬ 262144 < (objE o).length
  · have hre := read_enc HIN.out.ok hok.1
    obtain ⟨l, hl⟩ : ∃ l, objE o = l := ⟨_, rfl⟩
    have hpos : 0 < l.length := by rw [← hl]; exact objE_pos
    rw [hl] at hre hok
    have HR := Lib.hid hok.1; have HLEN := Lib.hid hok.2; have HLE := Lib.hid hl
    have hlen := hok.2
    clear hok hl
    obtain ⟨u, k, hkl, HW⟩ := cut_at_k cut hpos (by omega)
    have HQ1 := Lib.hid (read_take hre hkl)
    obtain ⟨lk, hlk⟩ : ∃ lk, l.take k = lk := ⟨_, rfl⟩
    have hlkl : lk.length = k := by rw [← hlk, List.length_take]; omega
    rw [hlk] at HQ1
    have HQP := Lib.hid (objDec_no (l := lk) (by omega) HQ1.out)
    have HLK := Lib.hid hlk
    have hdm : ∃ q er bb, decodeS (l ++ ms) = (q, er) ∧ (er == 0) = bb ∧ ((ms.length : Int) == 0) = bb := by
      by_cases hm0 : ms = []
      · subst hm0
        exact ⟨o, 0, true, by rw [List.append_nil]; exact objDec_yes hlen hre, rfl, rfl⟩
      · have hm1 : ((ms.length : Int) == 0) = false := by
          rw [beq_eq_false_iff_ne]
          intro h
          exact hm0 (List.length_eq_zero_iff.1 (by omega))
        by_cases hlo : 262144 < (l ++ ms).length
        · exact ⟨_, _, false, objDec_long hlo, rfl, hm1⟩
        · exact ⟨_, _, false, objDec_no hlo (read_more hre hm0), rfl, hm1⟩
    obtain ⟨q, er, bb, hqa, her, hmb⟩ := hdm
    have HQA := Lib.hid hqa
    have HDA := Lib.hid (fun (W : World) (A : Option Addr) (c : Nat) (h1 : Sl W W.heap.size A (l.length + ms.length) 1 (idV (l ++ ms))) (h2 : l.length + ms.length ≤ c) (h3 : Glob W) => (show Calls Tryd.prog 9 #[.slice A (l.length + ms.length) c] W _ from by
      have h := objDecode_any (l ++ ms) A c W (by rw [List.length_append]; exact h1) (by rw [List.length_append]; exact h2) (by rw [List.length_append]; omega) h3
      rw [List.length_append] at h
      exact h))
    have HKL := Lib.hid hlkl
    have iz : ¬ ((l.length : Int) = 0) := by omega
    have iz2 : ((l.length : Int) == 0) = false := by rw [beq_eq_false_iff_ne]; exact iz
    have hk0 : (0 : Int) ≤ (k : Int) := by omega
    clear hqa hre hlk HQ1 hlkl
    obtain ⟨hu, hul, hw64, hki⟩ := HW.out
    go_enter Tryd.func4, Tryd.ntmps4
    go_upto_region 1 with (first
      | (with_reducible refine at_box ?_
         refine wp_boxM (by rfl) 29 _ rfl c0 (.agg c0.toArray) rfl rfl (by rw [HL0.out]; kernel_rfl) ?_
         intro W0 hb0 hz0 hs0
         have HB0 := Lib.hid hb0; have HZ0 := Lib.hid hz0; have HS0 := Lib.hid hs0
         clear hb0 hz0 hs0))
    obtain ⟨z, hz⟩ : ∃ z, w.heap.size = z := ⟨_, rfl⟩
    have HZL := Lib.hid (show z < W0.heap.size by have := HS0.out; omega)
    rw [hz] at HZ0 ⊢
    try simp only [Act.put, List.setIfInBounds_toArray, List.set_cons_zero, List.set_cons_succ]
    clear hz HS0
    go_upto_region 3 with (first
      | (with_reducible refine at_load ?_
         refine wp_val (by rfl) (ex_load 29 _ rfl (p := ⟨z, 0, none⟩) rfl (load_obj HZ0.out HL0.out)) ?_)
      | (go_at_call 7; refine (light_any o _ W0 (HIN.out.keep HB0.out |>.more HB0.out.size)).mono ?_; rintro e W1 ⟨hb1, rfl⟩
         rw [HLB.out]
         have HB1 := Lib.hid (HB0.out.trans (hb1.mono HB0.out.size))
         have HZ1 := Lib.hid ((hb1.block z HZL.out).trans HZ0.out)
         have HZL1 := Lib.hid (Nat.lt_of_lt_of_le HZL.out hb1.size)
         clear hb1))
    go_upto_region 6 with (first
      | (with_reducible refine at_load ?_
         refine wp_val (by rfl) (ex_load 29 _ rfl (p := ⟨z, 0, none⟩) rfl (load_obj HZ1.out HL0.out)) ?_)
      | (go_at_call 8; refine (objEncode_any o _ W1 (HIN.out.keep HB1.out |>.more HB1.out.size) (by have := HK2.out; omega) (by have := HK1.out; omega) (by have := HK3.out; omega) (by have := HK4.out; omega) (HG.out.next HB1.out)).mono ?_; rintro e W2 ⟨hb2, hr⟩
         unfold EncRes at hr
         rw [if_pos HR.out, HLE.out, if_neg HLEN.out] at hr
         obtain ⟨Ac, cc, rfl, hsl, hcc⟩ := hr
         have HSL := Lib.hid hsl; have HCC := Lib.hid hcc
         have HB2 := Lib.hid (HB1.out.trans (hb2.mono HB1.out.size))
         have HZ2 := Lib.hid ((hb2.block z HZL1.out).trans HZ1.out)
         have HZL2 := Lib.hid (Nat.lt_of_lt_of_le HZL1.out hb2.size)
         clear hb2))
    clear HZ2 HZ1 HZ0
    have hkc : k ≤ cc := by have := HCC.out; omega
    have hsk := sl_take HSL.out (Nat.le_of_lt hkl)
    rw [idV_take8, HLK.out] at hsk
    have HSK := Lib.hid hsk
    have HDP := Lib.hid (show Calls Tryd.prog 9 #[.slice Ac k cc] W2 _ from by
      have h := objDecode_any lk Ac cc W2 (by rw [HKL.out]; exact HSK.out) (by rw [HKL.out]; exact hkc) (by rw [HKL.out]; omega) (HG.out.next HB2.out)
      rw [HKL.out] at h
      exact h)
    clear hsk
    go_upto_region 7 with (first
      | (go_at_call 9; refine (HDP.out).mono ?_; rintro e W3 ⟨hb3, v3, rfl, hin3⟩
         rw [HQP.out] at hin3 ⊢
         obtain ⟨c3, rfl, hc3, ho3⟩ := hin3.ten
         have HI3 := Lib.hid hin3; have HL3 := Lib.hid hc3; have HO3 := Lib.hid ho3
         have HB3 := Lib.hid (HB2.out.trans (hb3.mono HB2.out.size)); have hb23 := Lib.hid hb3
         clear hb3 hin3 hc3 ho3)
      | (with_reducible refine at_alloc ?_
         refine wp_allocM (by rfl) 29 rfl objZ (zeroObj_run _) ?_
         intro X3 hbx3 hzx3 hsx3
         have HBX3 := Lib.hid hbx3; have HZX3 := Lib.hid hzx3
         clear hbx3 hzx3 hsx3)
      | (with_reducible refine at_store ?_
         refine wp_storeM (by rfl) 29 _ _ rfl W3.heap.size 0 [] objZ [] c3 29 (.agg (c3).toArray) rfl rfl rfl rfl (by simpa using HZX3.out) HL3.out.symm (by rw [HL3.out]; kernel_rfl) HO3.out ?_
         intro Y3 hby3 hyy3 hsy3
         have HBY3 := Lib.hid (HBX3.out.trans (hby3.below HBX3.out.size (fun k hk e => by have e' : k = W3.heap.size := e; omega)))
         have HYY3 : Hid (Y3.heap[W3.heap.size]? = some (.cells (c3).toArray 29 (0, 0))) := Lib.hid (by simpa using hyy3)
         clear hby3 hyy3 hsy3))
    have HBY := Lib.hid (HB3.out.trans (HBY3.out.mono HB3.out.size))
    have HB2Y := Lib.hid (hb23.out.trans (HBY3.out.mono hb23.out.size))
    have HSB := Lib.hid ((HSL.out.keep HB2Y.out).more HB2Y.out.size)
    go_upto_region 8 with (first
      | (at_builtin; refine wp_appO (by rfl) _ _ 30 rfl 5 (.int .u8 0) 1 1 Tryd.underlying30 info_u8 rfl (by decide) rfl Ac l.length cc (idV l) rfl HSB.out (idV_one _) hpos (by unfold maxLen; omega) (by omega) ?_
         intro ga ca W4 hoa hca hga hla hba
         have HOA := Lib.hid hoa
         have HB4 := Lib.hid (HBY.out.trans (hba.mono HBY.out.size))
         have HG4 := Lib.hid hba.size
         clear hoa hca hba)
      | (at_builtin; refine wp_appL8 (by rfl) _ _ 30 rfl Y3.heap.size 5 (.int .u8 0) 1 1 Tryd.underlying30 info_u8 rfl (by decide) (.slice (some ⟨ga, 0, none⟩) l.length ca) l.length (idV l) rfl HOA.out am ms.length cm w.heap.size (idV ms) rfl (HSM.out.keep HB4.out) (idV_one _) (by unfold maxLen; omega) (by omega) HG4.out ?_
         intro v6 W6 ho6 hg6
         obtain ⟨A6, c6, rfl⟩ := own_form' ho6
         have HO6 := Lib.hid ho6
         have HB6 := Lib.hid (HB4.out.grown hg6 (Nat.le_trans HBY.out.size HG4.out) (fun k e => Nat.le_trans HBY.out.size (HOA.out.lt k e).1))
         clear ho6 hg6)
      | (go_at_call 9; refine (HDA.out W6 A6 c6 (by have h := Sl.of_own HO6.out; rwa [← idV_app8] at h) (own_cap8 HO6.out) (HG.out.next HB6.out)).mono ?_; rintro e W5 ⟨hb5, v5, rfl, hin5⟩
         rw [HQA.out] at hin5 ⊢
         obtain ⟨c5, rfl, hc5, ho5⟩ := hin5.ten
         have HI5 := Lib.hid hin5; have HL5 := Lib.hid hc5; have HO5 := Lib.hid ho5
         have HB5 := Lib.hid (HB6.out.trans (hb5.mono HB6.out.size))
         clear hb5 hin5 hc5 ho5)
      | (with_reducible refine at_alloc ?_
         refine wp_allocM (by rfl) 29 rfl objZ (zeroObj_run _) ?_
         intro X5 hbx5 hzx5 hsx5
         have HBX5 := Lib.hid hbx5; have HZX5 := Lib.hid hzx5
         clear hbx5 hzx5 hsx5)
      | (with_reducible refine at_store ?_
         refine wp_storeM (by rfl) 29 _ _ rfl W5.heap.size 0 [] objZ [] c5 29 (.agg (c5).toArray) rfl rfl rfl rfl (by simpa using HZX5.out) HL5.out.symm (by rw [HL5.out]; kernel_rfl) HO5.out ?_
         intro Y5 hby5 hyy5 hsy5
         have HBY5 := Lib.hid (HBX5.out.trans (hby5.below HBX5.out.size (fun k hk e => by have e' : k = W5.heap.size := e; omega)))
         have HYY5 : Hid (Y5.heap[W5.heap.size]? = some (.cells (c5).toArray 29 (0, 0))) := Lib.hid (by simpa using hyy5)
         clear hby5 hyy5 hsy5))
    have HBQ := Lib.hid (HB5.out.trans (HBY5.out.mono HB5.out.size))
    cases bb
    · go_wp2_with (first
        | (go_at_call 11; refine (awake08_any Y5 (HG.out.next HBQ.out)).mono ?_; rintro e W7 ⟨hb7, rfl⟩
           have HB7 := Lib.hid (HBQ.out.trans (hb7.mono HBQ.out.size))
           clear hb7))
      go_ret
      exact ⟨rfl, HB7.out⟩
    · go_wp2_with (first
        | (go_at_call 11; refine (awake08_any Y5 (HG.out.next HBQ.out)).mono ?_; rintro e W7 ⟨hb7, rfl⟩
           have HB7 := Lib.hid (HBQ.out.trans (hb7.mono HBQ.out.size))
           clear hb7))
      go_ret
      exact ⟨rfl, HB7.out⟩
  · have hno : (if rightB o = true then (if 262144 < (objE o).length then (2 : Int) else 0) else 1) ≠ 0 := by
      split
      · split
        · decide
        · exact absurd ⟨‹_›, ‹_›⟩ hok
      · decide
    obtain ⟨er, her⟩ : ∃ er : Int, (if rightB o = true then (if 262144 < (objE o).length then (2 : Int) else 0) else 1) = er := ⟨_, rfl⟩
    have HNO : Hid (∀ (e : Ending) (w' : World), EncRes o e w' → e = .returned (.tuple #[.slice none 0 0, .int .i64 er])) := Lib.hid (fun e w' h => by
      unfold EncRes at h
      rw [← her]
      split at h
      · rename_i hr
        rw [if_pos hr]
        split at h
        · rename_i h2; rw [if_pos h2]; exact h
        · rename_i h2; exact absurd ⟨hr, h2⟩ hok
      · rename_i hr
        rw [if_neg hr]; exact h)
    have e0 : (er == 0) = false := by rw [beq_eq_false_iff_ne, ← her]; exact hno
    clear hok hno her
    have e1 : (er != 0) = true := by simp only [bne, e0, Bool.not_false]
    go_enter Tryd.func4, Tryd.ntmps4
    go_upto_region 1 with (first
      | (with_reducible refine at_box ?_
         refine wp_boxM (by rfl) 29 _ rfl c0 (.agg c0.toArray) rfl rfl (by rw [HL0.out]; kernel_rfl) ?_
         intro W0 hb0 hz0 hs0
         have HB0 := Lib.hid hb0; have HZ0 := Lib.hid hz0; have HS0 := Lib.hid hs0
         clear hb0 hz0 hs0))
    obtain ⟨z, hz⟩ : ∃ z, w.heap.size = z := ⟨_, rfl⟩
    have HZL := Lib.hid (show z < W0.heap.size by have := HS0.out; omega)
    rw [hz] at HZ0 ⊢
    try simp only [Act.put, List.setIfInBounds_toArray, List.set_cons_zero, List.set_cons_succ]
    clear hz HS0
    go_upto_region 3 with (first
      | (with_reducible refine at_load ?_
         refine wp_val (by rfl) (ex_load 29 _ rfl (p := ⟨z, 0, none⟩) rfl (load_obj HZ0.out HL0.out)) ?_)
      | (go_at_call 7; refine (light_any o _ W0 (HIN.out.keep HB0.out |>.more HB0.out.size)).mono ?_; rintro e W1 ⟨hb1, rfl⟩
         rw [HLB.out]
         have HB1 := Lib.hid (HB0.out.trans (hb1.mono HB0.out.size))
         have HZ1 := Lib.hid ((hb1.block z HZL.out).trans HZ0.out)
         have HZL1 := Lib.hid (Nat.lt_of_lt_of_le HZL.out hb1.size)
         clear hb1))
    go_wp2_with (first
      | (with_reducible refine at_load ?_
         refine wp_val (by rfl) (ex_load 29 _ rfl (p := ⟨z, 0, none⟩) rfl (load_obj HZ1.out HL0.out)) ?_)
      | (go_at_call 8; refine (objEncode_any o _ W1 (HIN.out.keep HB1.out |>.more HB1.out.size) (by have := HK2.out; omega) (by have := HK1.out; omega) (by have := HK3.out; omega) (by have := HK4.out; omega) (HG.out.next HB1.out)).mono ?_; rintro e W2 ⟨hb2, hr⟩
         obtain rfl := HNO.out _ _ hr
         clear hr
         have HB2 := Lib.hid (HB1.out.trans (hb2.mono HB1.out.size))
         have HZ2 := Lib.hid ((hb2.block z HZL1.out).trans HZ1.out)
         have HZL2 := Lib.hid (Nat.lt_of_lt_of_le HZL1.out hb2.size)
         clear hb2)
      | (go_at_call 11; refine (awake08_any W2 (HG.out.next HB2.out)).mono ?_; rintro e W7 ⟨hb7, rfl⟩
         have HB7 := Lib.hid (HB2.out.trans (hb7.mono HB2.out.size))
         clear hb7))
    go_ret
    exact ⟨rfl, HB7.out⟩
end Go.Proofs.YthjaepmfkgejkaaDoor.objectCut
