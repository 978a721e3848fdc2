/-
  The law ObjectBack, walked. Conditions: the object's lists and the bytes lie in memory; the library's variable MaxLen holds a number.
-/
import Derived.Test.YthjaepmfkgejkaaDoorObjAwake
import Derived.Test.YthjaepmfkgejkaaDoorObjSame
import Derived.Test.YthjaepmfkgejkaaDoorObjLight
import Derived.Test.YthjaepmfkgejkaaDoorObjEncode
import Derived.Test.YthjaepmfkgejkaaDoorObjDecode2
namespace Go.Proofs.YthjaepmfkgejkaaDoor.objectBack
open Go.RowKit Go.Maps
set_option linter.unusedVariables false
set_option linter.unusedSimpArgs false

theorem dec_nil : decodeS [] = ((0, noChangeD, noCommitD), 6) := objDec_no (by decide) rfl
theorem right_lens {o : ObjD} (h : rightB o = true) : o.2.1.2.1.length ≤ 1099511627776 ∧ o.2.1.2.2.2.length ≤ 1099511627776 ∧ o.2.2.1.length ≤ 1099511627776 ∧ o.2.2.2.1.length ≤ 1099511627776 := by
  obtain ⟨k, ⟨n, ds, au, os⟩, ⟨ps, cs, a2, ms, st⟩⟩ := o
  unfold rightB at h
  simp only at h ⊢
  split at h
  · simp only [noCommitB, changeB, idsB, Bool.and_eq_true, decide_eq_true_eq] at h
    obtain ⟨⟨⟨⟨⟨h1, h2⟩, _⟩, _⟩, _⟩, ⟨⟨⟨⟨_, ⟨⟨h3, _⟩, _⟩⟩, _⟩, _⟩, h4⟩, _⟩ := h
    exact ⟨by omega, by omega, by rw [h1]; decide, by rw [h2]; decide⟩
  · split at h
    · simp only [noChangeB, commitB, idsB, Bool.and_eq_true, decide_eq_true_eq] at h
      obtain ⟨⟨⟨⟨_, h1⟩, _⟩, h2⟩, ⟨⟨⟨⟨⟨⟨h3, _⟩, _⟩, ⟨⟨h4, _⟩, _⟩⟩, _⟩, _⟩, _⟩, _⟩ := h
      exact ⟨by rw [h1]; decide, by rw [h2]; decide, by omega, by omega⟩
    · cases h
set_option maxHeartbeats 4000000 in
set_option maxRecDepth 100000 in
theorem walk (o : ObjD) (v : Value) (l : List UInt8) (ab : Option Addr) (cb : Nat) (w : World) (h : ObjIn w w.heap.size v o) (hcb : l.length ≤ cb) (hb : Sl w w.heap.size ab l.length 1 (idV l)) (hg : Glob w) :
    Calls Tryd.prog 3 #[v, .slice ab l.length cb] w fun e w' => e = .returned (.bool true) ∧ Below w.heap.size w w' := by
  have HIN0 := Lib.hid h; have HSB := Lib.hid hb; have HG := Lib.hid hg
  obtain ⟨c0, rfl, hl0, h10⟩ := h.ten
  have HIN := HIN0; have HL0 := Lib.hid hl0; have H10 := Lib.hid h10
  clear h hb hg HIN0 hl0 h10
  rcases Bool.eq_false_or_eq_true (lightB o) with hlb | hlb
  rotate_left
  · have HLB := Lib.hid hlb
    clear hlb
    go_enter Tryd.func3, Tryd.ntmps3
    go_upto_region 1 with (first
      | (with_reducible refine at_box ?_
         refine wp_boxM (by rfl) 29 _ rfl c0 (.agg c0.toArray) rfl rfl (by rw [HL0.out]; kernel_rfl) ?_
         intro W0 hb0 hz0 hs0
         have HB0 := Lib.hid hb0; have HZ0 := Lib.hid hz0; have HS0 := Lib.hid hs0
         clear hb0 hz0 hs0))
    obtain ⟨z, hz⟩ : ∃ z, w.heap.size = z := ⟨_, rfl⟩
    have HZL := Lib.hid (show z < W0.heap.size by have := HS0.out; omega)
    rw [hz] at HZ0 ⊢
    try simp only [Act.put, List.setIfInBounds_toArray, List.set_cons_zero, List.set_cons_succ]
    clear hz HS0
    go_wp2_with (first
      | (with_reducible refine at_load ?_
         refine wp_val (by rfl) (ex_load 29 _ rfl (p := ⟨z, 0, none⟩) rfl (load_obj HZ0.out HL0.out)) ?_)
      | (go_at_call 7; refine (light_any o _ W0 (HIN.out.keep HB0.out |>.more HB0.out.size)).mono ?_; rintro e W1 ⟨hb1, rfl⟩
         rw [HLB.out]
         have HB1 := Lib.hid (HB0.out.trans (hb1.mono HB0.out.size))
         have HZ1 := Lib.hid ((hb1.block z HZL.out).trans HZ0.out)
         have HZL1 := Lib.hid (Nat.lt_of_lt_of_le HZL.out hb1.size)
         clear hb1))
    go_ret
    exact ⟨rfl, HB1.out⟩
  obtain ⟨k1, k2, k3, k4⟩ := lightB_lens hlb
  have HLB := Lib.hid hlb
  have HK1 := Lib.hid k1; have HK2 := Lib.hid k2; have HK3 := Lib.hid k3; have HK4 := Lib.hid k4
  clear hlb k1 k2 k3 k4
  by_cases hll : 3000 < l.length
  · have d1 : decide ((3000 : Int) < (l.length : Int)) = true := decide_eq_true (by omega)
    have d2 : decide (3000 < l.length) = true := decide_eq_true hll
    go_enter Tryd.func3, Tryd.ntmps3
    go_upto_region 1 with (first
      | (with_reducible refine at_box ?_
         refine wp_boxM (by rfl) 29 _ rfl c0 (.agg c0.toArray) rfl rfl (by rw [HL0.out]; kernel_rfl) ?_
         intro W0 hb0 hz0 hs0
         have HB0 := Lib.hid hb0; have HZ0 := Lib.hid hz0; have HS0 := Lib.hid hs0
         clear hb0 hz0 hs0))
    obtain ⟨z, hz⟩ : ∃ z, w.heap.size = z := ⟨_, rfl⟩
    have HZL := Lib.hid (show z < W0.heap.size by have := HS0.out; omega)
    rw [hz] at HZ0 ⊢
    try simp only [Act.put, List.setIfInBounds_toArray, List.set_cons_zero, List.set_cons_succ]
    clear hz HS0
    go_wp2_with (first
      | (with_reducible refine at_load ?_
         refine wp_val (by rfl) (ex_load 29 _ rfl (p := ⟨z, 0, none⟩) rfl (load_obj HZ0.out HL0.out)) ?_)
      | (go_at_call 7; refine (light_any o _ W0 (HIN.out.keep HB0.out |>.more HB0.out.size)).mono ?_; rintro e W1 ⟨hb1, rfl⟩
         rw [HLB.out]
         have HB1 := Lib.hid (HB0.out.trans (hb1.mono HB0.out.size))
         have HZ1 := Lib.hid ((hb1.block z HZL.out).trans HZ0.out)
         have HZL1 := Lib.hid (Nat.lt_of_lt_of_le HZL.out hb1.size)
         clear hb1))
    go_ret
    exact ⟨rfl, HB1.out⟩
  have d1 : decide ((3000 : Int) < (l.length : Int)) = false := decide_eq_false (by omega)
  have d2 : decide (3000 < l.length) = false := decide_eq_false hll
  by_cases hok : rightB o = true ∧ ¬ 262144 < (objE o).length
  · have HR := Lib.hid hok.1; have HLEN := Lib.hid hok.2
    have HRD : Hid (decodeS (objE o) = (o, 0)) := Lib.hid (objDec_yes hok.2 (read_enc HIN.out.ok hok.1))
    clear hok
    go_enter Tryd.func3, Tryd.ntmps3
    go_upto_region 1 with (first
      | (with_reducible refine at_box ?_
         refine wp_boxM (by rfl) 29 _ rfl c0 (.agg c0.toArray) rfl rfl (by rw [HL0.out]; kernel_rfl) ?_
         intro W0 hb0 hz0 hs0
         have HB0 := Lib.hid hb0; have HZ0 := Lib.hid hz0; have HS0 := Lib.hid hs0
         clear hb0 hz0 hs0))
    obtain ⟨z, hz⟩ : ∃ z, w.heap.size = z := ⟨_, rfl⟩
    have HZL := Lib.hid (show z < W0.heap.size by have := HS0.out; omega)
    rw [hz] at HZ0 ⊢
    try simp only [Act.put, List.setIfInBounds_toArray, List.set_cons_zero, List.set_cons_succ]
    clear hz HS0
    go_upto_region 3 with (first
      | (with_reducible refine at_load ?_
         refine wp_val (by rfl) (ex_load 29 _ rfl (p := ⟨z, 0, none⟩) rfl (load_obj HZ0.out HL0.out)) ?_)
      | (go_at_call 7; refine (light_any o _ W0 (HIN.out.keep HB0.out |>.more HB0.out.size)).mono ?_; rintro e W1 ⟨hb1, rfl⟩
         rw [HLB.out]
         have HB1 := Lib.hid (HB0.out.trans (hb1.mono HB0.out.size))
         have HZ1 := Lib.hid ((hb1.block z HZL.out).trans HZ0.out)
         have HZL1 := Lib.hid (Nat.lt_of_lt_of_le HZL.out hb1.size)
         clear hb1))
    go_upto_region 4 with (first
      | (with_reducible refine at_load ?_
         refine wp_val (by rfl) (ex_load 29 _ rfl (p := ⟨z, 0, none⟩) rfl (load_obj HZ1.out HL0.out)) ?_)
      | (go_at_call 8; refine (objEncode_any o _ W1 (HIN.out.keep HB1.out |>.more HB1.out.size) (by have := HK2.out; omega) (by have := HK1.out; omega) (by have := HK3.out; omega) (by have := HK4.out; omega) (HG.out.next HB1.out)).mono ?_; rintro e W2 ⟨hb2, hr⟩
         unfold EncRes at hr
         rw [if_pos HR.out, if_neg HLEN.out] at hr
         obtain ⟨Ac, cc, rfl, hsl, hcc⟩ := hr
         have HSL := Lib.hid hsl; have HCC := Lib.hid hcc
         have HB2 := Lib.hid (HB1.out.trans (hb2.mono HB1.out.size))
         have HZ2 := Lib.hid ((hb2.block z HZL1.out).trans HZ1.out)
         have HZL2 := Lib.hid (Nat.lt_of_lt_of_le HZL1.out hb2.size)
         clear hb2))
    go_upto_region 5 with (first
      | (go_at_call 9; refine (objDecode_any (objE o) Ac cc W2 HSL.out HCC.out (by have := HLEN.out; omega) (HG.out.next HB2.out)).mono ?_; rintro e W3 ⟨hb3, v3, rfl, hin3⟩
         rw [HRD.out] at hin3 ⊢
         obtain ⟨c3, rfl, hc3, ho3⟩ := hin3.ten
         have HI3 := Lib.hid hin3; have HL3 := Lib.hid hc3; have HO3 := Lib.hid ho3
         have HB3 := Lib.hid (HB2.out.trans (hb3.mono HB2.out.size))
         have HZ3 := Lib.hid ((hb3.block z HZL2.out).trans HZ2.out)
         have HZL3 := Lib.hid (Nat.lt_of_lt_of_le HZL2.out hb3.size)
         clear hb3 hin3 hc3 ho3)
      | (with_reducible refine at_alloc ?_
         refine wp_allocM (by rfl) 29 rfl objZ (zeroObj_run _) ?_
         intro X3 hbx3 hzx3 hsx3
         have HBX3 := Lib.hid hbx3; have HZX3 := Lib.hid hzx3
         clear hbx3 hzx3 hsx3)
      | (with_reducible refine at_store ?_
         refine wp_storeM (by rfl) 29 _ _ rfl W3.heap.size 0 [] objZ [] c3 29 (.agg (c3).toArray) rfl rfl rfl rfl (by simpa using HZX3.out) HL3.out.symm (by rw [HL3.out]; kernel_rfl) HO3.out ?_
         intro Y3 hby3 hyy3 hsy3
         have HBY3 := Lib.hid (HBX3.out.trans (hby3.below HBX3.out.size (fun k hk e => by have e' : k = W3.heap.size := e; omega)))
         have HYY3 : Hid (Y3.heap[W3.heap.size]? = some (.cells (c3).toArray 29 (0, 0))) := Lib.hid (by simpa using hyy3)
         clear hby3 hyy3 hsy3))
    have HBY := Lib.hid (HB3.out.trans (HBY3.out.mono HB3.out.size))
    have HZY := Lib.hid ((HBY3.out.block z HZL3.out).trans HZ3.out)
    have HZLY := Lib.hid (Nat.lt_of_lt_of_le HZL3.out HBY3.out.size)
    clear HZ3 HZ2 HZ1 HZ0
    go_upto_region 7 with (first
      | (with_reducible refine at_load ?_
         refine wp_val (by rfl) (ex_load 29 _ rfl (p := ⟨W3.heap.size, 0, none⟩) rfl (load_obj HYY3.out HL3.out)) ?_)
      | (with_reducible refine at_load ?_
         refine wp_val (by rfl) (ex_load 29 _ rfl (p := ⟨z, 0, none⟩) rfl (load_obj HZY.out HL0.out)) ?_)
      | (go_at_call 10; refine (objSame_any o _ _ Y3 (HI3.out.keep HBY3.out |>.more HBY3.out.size) (HIN.out.keep HBY.out |>.more HBY.out.size) (by have := HK2.out; omega) (by have := HK1.out; omega) (by have := HK3.out; omega) (by have := HK4.out; omega)).mono ?_; rintro e W4 ⟨hb4, rfl⟩
         have HB4 := Lib.hid (HBY.out.trans (hb4.mono HBY.out.size))
         clear hb4))
    rcases hrd2 : readS l with _ | q
    · have HQ := Lib.hid (objDec_no (l := l) (by omega) hrd2)
      obtain ⟨q, hq⟩ : ∃ q : ObjD, (0, noChangeD, noCommitD) = q := ⟨_, rfl⟩
      rw [hq] at HQ
      have HQ1 : Hid (q.2.1.2.1.length ≤ 1099511627776) := Lib.hid (by rw [← hq]; decide)
      have HQ2 : Hid (q.2.1.2.2.2.length ≤ 1099511627776) := Lib.hid (by rw [← hq]; decide)
      have HQ3 : Hid (q.2.2.1.length ≤ 1099511627776) := Lib.hid (by rw [← hq]; decide)
      have HQ4 : Hid (q.2.2.2.1.length ≤ 1099511627776) := Lib.hid (by rw [← hq]; decide)
      have HQR : Hid (¬ rightB q = true) := Lib.hid (by rw [← hq]; decide)
      clear hrd2 hq
      go_upto_region 8 with (first
        | (go_at_call 9; refine (objDecode_any l ab cb W4 (HSB.out.keep HB4.out |>.more HB4.out.size) hcb (by omega) (HG.out.next HB4.out)).mono ?_; rintro e W5 ⟨hb5, v5, rfl, hin5⟩
           rw [HQ.out] at hin5 ⊢
           obtain ⟨c5, rfl, hc5, ho5⟩ := hin5.ten
           have HI5 := Lib.hid hin5; have HL5 := Lib.hid hc5; have HO5 := Lib.hid ho5
           have HB5 := Lib.hid (HB4.out.trans (hb5.mono HB4.out.size))
           clear hb5 hin5 hc5 ho5)
        | (with_reducible refine at_alloc ?_
           refine wp_allocM (by rfl) 29 rfl objZ (zeroObj_run _) ?_
           intro X5 hbx5 hzx5 hsx5
           have HBX5 := Lib.hid hbx5; have HZX5 := Lib.hid hzx5
           clear hbx5 hzx5 hsx5)
        | (with_reducible refine at_store ?_
           refine wp_storeM (by rfl) 29 _ _ rfl W5.heap.size 0 [] objZ [] c5 29 (.agg (c5).toArray) rfl rfl rfl rfl (by simpa using HZX5.out) HL5.out.symm (by rw [HL5.out]; kernel_rfl) HO5.out ?_
           intro Y5 hby5 hyy5 hsy5
           have HBY5 := Lib.hid (HBX5.out.trans (hby5.below HBX5.out.size (fun k hk e => by have e' : k = W5.heap.size := e; omega)))
           have HYY5 : Hid (Y5.heap[W5.heap.size]? = some (.cells (c5).toArray 29 (0, 0))) := Lib.hid (by simpa using hyy5)
           clear hby5 hyy5 hsy5))
      have HBY6 := Lib.hid (HB5.out.trans (HBY5.out.mono HB5.out.size))
      go_wp2_with (first
        | (with_reducible refine at_load ?_
           refine wp_val (by rfl) (ex_load 29 _ rfl (p := ⟨W5.heap.size, 0, none⟩) rfl (load_obj HYY5.out HL5.out)) ?_)
        | (go_at_call 8; refine (objEncode_any q _ Y5 (HI5.out.keep HBY5.out |>.more HBY5.out.size) HQ1.out HQ2.out HQ3.out HQ4.out (HG.out.next HBY6.out)).mono ?_; rintro e W6 ⟨hb6, hr⟩
           unfold EncRes at hr
           rw [if_neg HQR.out] at hr
           obtain rfl := hr
           have HB6 := Lib.hid (HBY6.out.trans (hb6.mono HBY6.out.size))
           clear hb6)
        | (go_at_call 11; refine (awake08_any W6 (HG.out.next HB6.out)).mono ?_; rintro e W7 ⟨hb7, rfl⟩
           have HB7 := Lib.hid (HB6.out.trans (hb7.mono HB6.out.size))
           clear hb7))
      go_ret
      exact ⟨rfl, HB7.out⟩
    · have HQ := Lib.hid (objDec_yes (l := l) (by omega) hrd2)
      obtain ⟨hqe, hqr⟩ := enc_read hrd2
      obtain ⟨b1, b2, b3, b4⟩ := right_lens hqr
      have HQ1 := Lib.hid b1; have HQ2 := Lib.hid b2; have HQ3 := Lib.hid b3; have HQ4 := Lib.hid b4
      have HQE := Lib.hid hqe; have HQR := Lib.hid hqr
      have HQL : Hid (¬ 262144 < l.length) := Lib.hid (by omega)
      have HPOS : Hid (0 < l.length) := Lib.hid (by
        rcases l with _ | ⟨x, t⟩
        · have h0 : readS [] = none := rfl
          rw [h0] at hrd2; cases hrd2
        · simp)
      clear hrd2 hqe hqr b1 b2 b3 b4
      go_upto_region 8 with (first
        | (go_at_call 9; refine (objDecode_any l ab cb W4 (HSB.out.keep HB4.out |>.more HB4.out.size) hcb (by omega) (HG.out.next HB4.out)).mono ?_; rintro e W5 ⟨hb5, v5, rfl, hin5⟩
           rw [HQ.out] at hin5 ⊢
           obtain ⟨c5, rfl, hc5, ho5⟩ := hin5.ten
           have HI5 := Lib.hid hin5; have HL5 := Lib.hid hc5; have HO5 := Lib.hid ho5
           have HB5 := Lib.hid (HB4.out.trans (hb5.mono HB4.out.size))
           clear hb5 hin5 hc5 ho5)
        | (with_reducible refine at_alloc ?_
           refine wp_allocM (by rfl) 29 rfl objZ (zeroObj_run _) ?_
           intro X5 hbx5 hzx5 hsx5
           have HBX5 := Lib.hid hbx5; have HZX5 := Lib.hid hzx5
           clear hbx5 hzx5 hsx5)
        | (with_reducible refine at_store ?_
           refine wp_storeM (by rfl) 29 _ _ rfl W5.heap.size 0 [] objZ [] c5 29 (.agg (c5).toArray) rfl rfl rfl rfl (by simpa using HZX5.out) HL5.out.symm (by rw [HL5.out]; kernel_rfl) HO5.out ?_
           intro Y5 hby5 hyy5 hsy5
           have HBY5 := Lib.hid (HBX5.out.trans (hby5.below HBX5.out.size (fun k hk e => by have e' : k = W5.heap.size := e; omega)))
           have HYY5 : Hid (Y5.heap[W5.heap.size]? = some (.cells (c5).toArray 29 (0, 0))) := Lib.hid (by simpa using hyy5)
           clear hby5 hyy5 hsy5))
      have HBY6 := Lib.hid (HB5.out.trans (HBY5.out.mono HB5.out.size))
      go_wp2_with (first
        | (with_reducible refine at_load ?_
           refine wp_val (by rfl) (ex_load 29 _ rfl (p := ⟨W5.heap.size, 0, none⟩) rfl (load_obj HYY5.out HL5.out)) ?_)
        | (go_at_call 8; refine (objEncode_any q _ Y5 (HI5.out.keep HBY5.out |>.more HBY5.out.size) HQ1.out HQ2.out HQ3.out HQ4.out (HG.out.next HBY6.out)).mono ?_; rintro e W6 ⟨hb6, hr⟩
           unfold EncRes at hr
           rw [if_pos HQR.out, HQE.out, if_neg HQL.out] at hr
           obtain ⟨Ad, cd, rfl, hsd, hcd⟩ := hr
           have HB6 := Lib.hid (HBY6.out.trans (hb6.mono HBY6.out.size))
           have hcv1 := conv_bytes hsd HPOS.out (c := cd)
           have hcv2 := conv_bytes (HSB.out.keep HB6.out) HPOS.out (c := cb)
           clear hb6)
        | (go_at_call 11; refine (awake08_any W6 (HG.out.next HB6.out)).mono ?_; rintro e W7 ⟨hb7, rfl⟩
           have HB7 := Lib.hid (HB6.out.trans (hb7.mono HB6.out.size))
           clear hb7))
      go_ret
      exact ⟨rfl, HB7.out⟩
  · have hno : (if rightB o = true then (if 262144 < (objE o).length then (2 : Int) else 0) else 1) ≠ 0 := by
      split
      · split
        · decide
        · exact absurd ⟨‹_›, ‹_›⟩ hok
      · decide
    obtain ⟨er, her⟩ : ∃ er : Int, (if rightB o = true then (if 262144 < (objE o).length then (2 : Int) else 0) else 1) = er := ⟨_, rfl⟩
    have HNO : Hid (∀ (e : Ending) (w' : World), EncRes o e w' → e = .returned (.tuple #[.slice none 0 0, .int .i64 er])) := Lib.hid (fun e w' h => by
      unfold EncRes at h
      rw [← her]
      split at h
      · rename_i hr
        rw [if_pos hr]
        split at h
        · rename_i h2; rw [if_pos h2]; exact h
        · rename_i h2; exact absurd ⟨hr, h2⟩ hok
      · rename_i hr
        rw [if_neg hr]; exact h)
    have e0 : (er == 0) = false := by rw [beq_eq_false_iff_ne, ← her]; exact hno
    clear hok hno her
    go_enter Tryd.func3, Tryd.ntmps3
    go_upto_region 1 with (first
      | (with_reducible refine at_box ?_
         refine wp_boxM (by rfl) 29 _ rfl c0 (.agg c0.toArray) rfl rfl (by rw [HL0.out]; kernel_rfl) ?_
         intro W0 hb0 hz0 hs0
         have HB0 := Lib.hid hb0; have HZ0 := Lib.hid hz0; have HS0 := Lib.hid hs0
         clear hb0 hz0 hs0))
    obtain ⟨z, hz⟩ : ∃ z, w.heap.size = z := ⟨_, rfl⟩
    have HZL := Lib.hid (show z < W0.heap.size by have := HS0.out; omega)
    rw [hz] at HZ0 ⊢
    try simp only [Act.put, List.setIfInBounds_toArray, List.set_cons_zero, List.set_cons_succ]
    clear hz HS0
    go_upto_region 3 with (first
      | (with_reducible refine at_load ?_
         refine wp_val (by rfl) (ex_load 29 _ rfl (p := ⟨z, 0, none⟩) rfl (load_obj HZ0.out HL0.out)) ?_)
      | (go_at_call 7; refine (light_any o _ W0 (HIN.out.keep HB0.out |>.more HB0.out.size)).mono ?_; rintro e W1 ⟨hb1, rfl⟩
         rw [HLB.out]
         have HB1 := Lib.hid (HB0.out.trans (hb1.mono HB0.out.size))
         have HZ1 := Lib.hid ((hb1.block z HZL.out).trans HZ0.out)
         have HZL1 := Lib.hid (Nat.lt_of_lt_of_le HZL.out hb1.size)
         clear hb1))
    go_upto_region 4 with (first
      | (with_reducible refine at_load ?_
         refine wp_val (by rfl) (ex_load 29 _ rfl (p := ⟨z, 0, none⟩) rfl (load_obj HZ1.out HL0.out)) ?_)
      | (go_at_call 8; refine (objEncode_any o _ W1 (HIN.out.keep HB1.out |>.more HB1.out.size) (by have := HK2.out; omega) (by have := HK1.out; omega) (by have := HK3.out; omega) (by have := HK4.out; omega) (HG.out.next HB1.out)).mono ?_; rintro e W2 ⟨hb2, hr⟩
         obtain rfl := HNO.out _ _ hr
         clear hr
         have HB2 := Lib.hid (HB1.out.trans (hb2.mono HB1.out.size))
         have HZ2 := Lib.hid ((hb2.block z HZL1.out).trans HZ1.out)
         have HZL2 := Lib.hid (Nat.lt_of_lt_of_le HZL1.out hb2.size)
         clear hb2))
    go_upto_region 5 with (first
      | (go_at_call 9; refine (objDecode_any [] none 0 W2 Sl.nil (Nat.le_refl _) (by decide) (HG.out.next HB2.out)).mono ?_; rintro e W3 ⟨hb3, v3, rfl, hin3⟩
         rw [dec_nil] at hin3 ⊢
         obtain ⟨c3, rfl, hc3, ho3⟩ := hin3.ten
         have HI3 := Lib.hid hin3; have HL3 := Lib.hid hc3; have HO3 := Lib.hid ho3
         have HB3 := Lib.hid (HB2.out.trans (hb3.mono HB2.out.size))
         have HZ3 := Lib.hid ((hb3.block z HZL2.out).trans HZ2.out)
         have HZL3 := Lib.hid (Nat.lt_of_lt_of_le HZL2.out hb3.size)
         clear hb3 hin3 hc3 ho3)
      | (with_reducible refine at_alloc ?_
         refine wp_allocM (by rfl) 29 rfl objZ (zeroObj_run _) ?_
         intro X3 hbx3 hzx3 hsx3
         have HBX3 := Lib.hid hbx3; have HZX3 := Lib.hid hzx3
         clear hbx3 hzx3 hsx3)
      | (with_reducible refine at_store ?_
         refine wp_storeM (by rfl) 29 _ _ rfl W3.heap.size 0 [] objZ [] c3 29 (.agg (c3).toArray) rfl rfl rfl rfl (by simpa using HZX3.out) HL3.out.symm (by rw [HL3.out]; kernel_rfl) HO3.out ?_
         intro Y3 hby3 hyy3 hsy3
         have HBY3 := Lib.hid (HBX3.out.trans (hby3.below HBX3.out.size (fun k hk e => by have e' : k = W3.heap.size := e; omega)))
         have HYY3 : Hid (Y3.heap[W3.heap.size]? = some (.cells (c3).toArray 29 (0, 0))) := Lib.hid (by simpa using hyy3)
         clear hby3 hyy3 hsy3))
    have HBY := Lib.hid (HB3.out.trans (HBY3.out.mono HB3.out.size))
    have HZY := Lib.hid ((HBY3.out.block z HZL3.out).trans HZ3.out)
    have HZLY := Lib.hid (Nat.lt_of_lt_of_le HZL3.out HBY3.out.size)
    clear HZ3 HZ2 HZ1 HZ0
    go_upto_region 7 with fail
    rcases hrd2 : readS l with _ | q
    · have HQ := Lib.hid (objDec_no (l := l) (by omega) hrd2)
      obtain ⟨q, hq⟩ : ∃ q : ObjD, (0, noChangeD, noCommitD) = q := ⟨_, rfl⟩
      rw [hq] at HQ
      have HQ1 : Hid (q.2.1.2.1.length ≤ 1099511627776) := Lib.hid (by rw [← hq]; decide)
      have HQ2 : Hid (q.2.1.2.2.2.length ≤ 1099511627776) := Lib.hid (by rw [← hq]; decide)
      have HQ3 : Hid (q.2.2.1.length ≤ 1099511627776) := Lib.hid (by rw [← hq]; decide)
      have HQ4 : Hid (q.2.2.2.1.length ≤ 1099511627776) := Lib.hid (by rw [← hq]; decide)
      have HQR : Hid (¬ rightB q = true) := Lib.hid (by rw [← hq]; decide)
      clear hrd2 hq
      go_upto_region 8 with (first
        | (go_at_call 9; refine (objDecode_any l ab cb Y3 (HSB.out.keep HBY.out |>.more HBY.out.size) hcb (by omega) (HG.out.next HBY.out)).mono ?_; rintro e W5 ⟨hb5, v5, rfl, hin5⟩
           rw [HQ.out] at hin5 ⊢
           obtain ⟨c5, rfl, hc5, ho5⟩ := hin5.ten
           have HI5 := Lib.hid hin5; have HL5 := Lib.hid hc5; have HO5 := Lib.hid ho5
           have HB5 := Lib.hid (HBY.out.trans (hb5.mono HBY.out.size))
           clear hb5 hin5 hc5 ho5)
        | (with_reducible refine at_alloc ?_
           refine wp_allocM (by rfl) 29 rfl objZ (zeroObj_run _) ?_
           intro X5 hbx5 hzx5 hsx5
           have HBX5 := Lib.hid hbx5; have HZX5 := Lib.hid hzx5
           clear hbx5 hzx5 hsx5)
        | (with_reducible refine at_store ?_
           refine wp_storeM (by rfl) 29 _ _ rfl W5.heap.size 0 [] objZ [] c5 29 (.agg (c5).toArray) rfl rfl rfl rfl (by simpa using HZX5.out) HL5.out.symm (by rw [HL5.out]; kernel_rfl) HO5.out ?_
           intro Y5 hby5 hyy5 hsy5
           have HBY5 := Lib.hid (HBX5.out.trans (hby5.below HBX5.out.size (fun k hk e => by have e' : k = W5.heap.size := e; omega)))
           have HYY5 : Hid (Y5.heap[W5.heap.size]? = some (.cells (c5).toArray 29 (0, 0))) := Lib.hid (by simpa using hyy5)
           clear hby5 hyy5 hsy5))
      have HBY6 := Lib.hid (HB5.out.trans (HBY5.out.mono HB5.out.size))
      go_wp2_with (first
        | (with_reducible refine at_load ?_
           refine wp_val (by rfl) (ex_load 29 _ rfl (p := ⟨W5.heap.size, 0, none⟩) rfl (load_obj HYY5.out HL5.out)) ?_)
        | (go_at_call 8; refine (objEncode_any q _ Y5 (HI5.out.keep HBY5.out |>.more HBY5.out.size) HQ1.out HQ2.out HQ3.out HQ4.out (HG.out.next HBY6.out)).mono ?_; rintro e W6 ⟨hb6, hr⟩
           unfold EncRes at hr
           rw [if_neg HQR.out] at hr
           obtain rfl := hr
           have HB6 := Lib.hid (HBY6.out.trans (hb6.mono HBY6.out.size))
           clear hb6)
        | (go_at_call 11; refine (awake08_any W6 (HG.out.next HB6.out)).mono ?_; rintro e W7 ⟨hb7, rfl⟩
           have HB7 := Lib.hid (HB6.out.trans (hb7.mono HB6.out.size))
           clear hb7))
      go_ret
      exact ⟨rfl, HB7.out⟩
    · have HQ := Lib.hid (objDec_yes (l := l) (by omega) hrd2)
      obtain ⟨hqe, hqr⟩ := enc_read hrd2
      obtain ⟨b1, b2, b3, b4⟩ := right_lens hqr
      have HQ1 := Lib.hid b1; have HQ2 := Lib.hid b2; have HQ3 := Lib.hid b3; have HQ4 := Lib.hid b4
      have HQE := Lib.hid hqe; have HQR := Lib.hid hqr
      have HQL : Hid (¬ 262144 < l.length) := Lib.hid (by omega)
      have HPOS : Hid (0 < l.length) := Lib.hid (by
        rcases l with _ | ⟨x, t⟩
        · have h0 : readS [] = none := rfl
          rw [h0] at hrd2; cases hrd2
        · simp)
      clear hrd2 hqe hqr b1 b2 b3 b4
      go_upto_region 8 with (first
        | (go_at_call 9; refine (objDecode_any l ab cb Y3 (HSB.out.keep HBY.out |>.more HBY.out.size) hcb (by omega) (HG.out.next HBY.out)).mono ?_; rintro e W5 ⟨hb5, v5, rfl, hin5⟩
           rw [HQ.out] at hin5 ⊢
           obtain ⟨c5, rfl, hc5, ho5⟩ := hin5.ten
           have HI5 := Lib.hid hin5; have HL5 := Lib.hid hc5; have HO5 := Lib.hid ho5
           have HB5 := Lib.hid (HBY.out.trans (hb5.mono HBY.out.size))
           clear hb5 hin5 hc5 ho5)
        | (with_reducible refine at_alloc ?_
           refine wp_allocM (by rfl) 29 rfl objZ (zeroObj_run _) ?_
           intro X5 hbx5 hzx5 hsx5
           have HBX5 := Lib.hid hbx5; have HZX5 := Lib.hid hzx5
           clear hbx5 hzx5 hsx5)
        | (with_reducible refine at_store ?_
           refine wp_storeM (by rfl) 29 _ _ rfl W5.heap.size 0 [] objZ [] c5 29 (.agg (c5).toArray) rfl rfl rfl rfl (by simpa using HZX5.out) HL5.out.symm (by rw [HL5.out]; kernel_rfl) HO5.out ?_
           intro Y5 hby5 hyy5 hsy5
           have HBY5 := Lib.hid (HBX5.out.trans (hby5.below HBX5.out.size (fun k hk e => by have e' : k = W5.heap.size := e; omega)))
           have HYY5 : Hid (Y5.heap[W5.heap.size]? = some (.cells (c5).toArray 29 (0, 0))) := Lib.hid (by simpa using hyy5)
           clear hby5 hyy5 hsy5))
      have HBY6 := Lib.hid (HB5.out.trans (HBY5.out.mono HB5.out.size))
      go_wp2_with (first
        | (with_reducible refine at_load ?_
           refine wp_val (by rfl) (ex_load 29 _ rfl (p := ⟨W5.heap.size, 0, none⟩) rfl (load_obj HYY5.out HL5.out)) ?_)
        | (go_at_call 8; refine (objEncode_any q _ Y5 (HI5.out.keep HBY5.out |>.more HBY5.out.size) HQ1.out HQ2.out HQ3.out HQ4.out (HG.out.next HBY6.out)).mono ?_; rintro e W6 ⟨hb6, hr⟩
           unfold EncRes at hr
           rw [if_pos HQR.out, HQE.out, if_neg HQL.out] at hr
           obtain ⟨Ad, cd, rfl, hsd, hcd⟩ := hr
           have HB6 := Lib.hid (HBY6.out.trans (hb6.mono HBY6.out.size))
           have hcv1 := conv_bytes hsd HPOS.out (c := cd)
           have hcv2 := conv_bytes (HSB.out.keep HB6.out) HPOS.out (c := cb)
           clear hb6)
        | (go_at_call 11; refine (awake08_any W6 (HG.out.next HB6.out)).mono ?_; rintro e W7 ⟨hb7, rfl⟩
           have HB7 := Lib.hid (HB6.out.trans (hb7.mono HB6.out.size))
           clear hb7))
      go_ret
      exact ⟨rfl, HB7.out⟩
end Go.Proofs.YthjaepmfkgejkaaDoor.objectBack
