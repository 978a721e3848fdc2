/-
  The document's foreign, doc, elements. Conditions: ids of 32 bytes; at most 2^40 of them; the changes hung on are a set.
-/
import Derived.Test.YthjaepmfkgejkaaGreatDoorMerged1
import Derived.Test.YthjaepmfkgejkaaGreatDoorMerged4
import Derived.Test.YthjaepmfkgejkaaGreatDoorMerged13
import Derived.Test.YthjaepmfkgejkaaGreatDoorMerged22
import Derived.Test.YthjaepmfkgejkaaGreatDoorMerged11
import Derived.Test.YthjaepmfkgejkaaGreatDoorMerged7
set_option linter.unusedVariables false
set_option linter.unusedSimpArgs false
set_option maxHeartbeats 4000000
set_option maxRecDepth 100000
namespace Go.Proofs.YthjaepmfkgejkaaGreatDoor
open Lib (hid)
open Go.RowKit Go.Maps
theorem KZ : (Tryz.prog.info? 68).map (·.size) = some 33 := by kernel_rfl
theorem vp (deps : List (List UInt8)) (r : jQ) (A : Option Addr) (c : Nat) (w : World) (hn : deps.length ≤ 1099511627776) (ho : IdsOk deps) (hr : jN r) (hset : kI deps = true) (hs : Sl w w.heap.size A deps.length 32 (kr deps)) :
    Calls Tryz.prog 125 #[.slice A deps.length c, .agg (ke r).toArray] w fun e w' => Below w.heap.size w w' ∧ e = .returned (.bool (jY deps r)) := by
  obtain ⟨rc, ri⟩ := r
  have HO := hid ho; have HS := hid hs; have H0R := hid hr
  have HF := hid (show jY deps (rc, ri) = (decide (rc ∈ deps) && decide (0 ≤ ri) && decide (ri ≤ 2147483647)) by unfold jY; rw [hset, Bool.true_and])
  clear ho hs hr hset
  obtain ⟨m, hm⟩ : ∃ m, decide (rc ∈ deps) = m := ⟨_, rfl⟩
  have HM := hid hm
  clear hm
  go_enter Tryz.func125, Tryz.ntmps125
  go_upto_region 1 with (first
    | (with_reducible refine kz ?_
       refine ko (by rfl) 68 _ rfl (ke (rc, ri)) _ rfl rfl (by rw [kf H0R.out]; exact KZ) ?_
       intro W0 hb0 hz0 hs0
       have HB0 := hid hb0; have HZ0 := hid hz0
       clear hb0 hz0 hs0))
  obtain ⟨z, hz⟩ : ∃ z, w.heap.size = z := ⟨_, rfl⟩
  rw [hz] at HZ0 ⊢
  have HZL := hid (show z < W0.heap.size from (qX HZ0.out))
  try go_frame
  clear hz
  have HXI := hid (show W0.rangeAt z 0 (idV rc) from fun j u hj => by rw [qZ]; exact (k5 HZ0.out j).trans ((kA H0R.out).1 j u hj))
  have HXR := hid (show W0.rangeAt z 0 (ke (rc, ri)) from fun j u hj => by rw [qZ]; exact (k5 HZ0.out j).trans hj)
  have c32 : W0.cell? ⟨z, 32, none⟩ = some (.int .i64 ri) := (k5 HZ0.out 32).trans (kA H0R.out).2
  have CALL := hid ((vC deps rc A c W0 hn HO.out H0R.out.1 ((HS.out.keep HB0.out).more HB0.out.size)))
  cases m
  ·
   go_wp2_with (first
     | (refine k6 (by rfl) (k9 47 _ rfl (p := ⟨z, 0, none⟩) rfl (qV _ _ _ _ (idV rc) _ HXI.out Tryz.underlying47 rfl (by rw [k8, show rc.length = 32 from H0R.out.1]; exact kt))) ?_)
     | (go_at_call 85; refine CALL.out.mono ?_; rintro e w1 ⟨hb1, rfl⟩
        rw [HM.out]
        have HB1 := hid (HB0.out.trans (hb1.mono HB0.out.size))
        clear hb1))
   go_ret
   exact ⟨HB1.out, by rw [HF.out, HM.out]; rfl⟩
  ·
   have HZ1 := hid (fun (u : World) (hu : Below W0.heap.size W0 u) => (show u.cell? ⟨z, 32, none⟩ = some (.int .i64 ri) from (hu.cell (p := ⟨z, 32, none⟩) HZL.out).trans c32))
   clear c32
   rcases (by omega : ri < 0 ∨ (0 ≤ ri ∧ 2147483647 < ri) ∨ (0 ≤ ri ∧ ri ≤ 2147483647)) with q | ⟨q, q2⟩ | ⟨q, q2⟩
   ·
    have d1 : decide ((0 : Int) ≤ ri) = false := by simp; omega
    go_wp2_with (first
      | (refine k6 (by rfl) (k9 47 _ rfl (p := ⟨z, 0, none⟩) rfl (qV _ _ _ _ (idV rc) _ HXI.out Tryz.underlying47 rfl (by rw [k8, show rc.length = 32 from H0R.out.1]; exact kt))) ?_)
      | (go_at_call 85; refine CALL.out.mono ?_; rintro e w1 ⟨hb1, rfl⟩
         rw [HM.out]
         have c32 := HZ1.out w1 hb1
         have HB1 := hid (HB0.out.trans (hb1.mono HB0.out.size))
         clear hb1))
    go_ret
    exact ⟨HB1.out, by rw [HF.out, HM.out]; simp only [d1, Bool.and_true, Bool.and_false, Bool.true_and]; try rfl⟩
   ·
    have d1 : decide ((0 : Int) ≤ ri) = true := by simp; omega
    have d2 : decide (ri ≤ 2147483647) = false := by simp; omega
    go_wp2_with (first
      | (refine k6 (by rfl) (k9 47 _ rfl (p := ⟨z, 0, none⟩) rfl (qV _ _ _ _ (idV rc) _ HXI.out Tryz.underlying47 rfl (by rw [k8, show rc.length = 32 from H0R.out.1]; exact kt))) ?_)
      | (go_at_call 85; refine CALL.out.mono ?_; rintro e w1 ⟨hb1, rfl⟩
         rw [HM.out]
         have c32 := HZ1.out w1 hb1
         have HB1 := hid (HB0.out.trans (hb1.mono HB0.out.size))
         clear hb1))
    go_ret
    exact ⟨HB1.out, by rw [HF.out, HM.out]; simp only [d1, d2, Bool.and_true, Bool.and_false, Bool.true_and]; try rfl⟩
   ·
    have d1 : decide ((0 : Int) ≤ ri) = true := by simp; omega
    have d2 : decide (ri ≤ 2147483647) = true := by simp; omega
    go_wp2_with (first
      | (refine k6 (by rfl) (k9 47 _ rfl (p := ⟨z, 0, none⟩) rfl (qV _ _ _ _ (idV rc) _ HXI.out Tryz.underlying47 rfl (by rw [k8, show rc.length = 32 from H0R.out.1]; exact kt))) ?_)
      | (go_at_call 85; refine CALL.out.mono ?_; rintro e w1 ⟨hb1, rfl⟩
         rw [HM.out]
         have c32 := HZ1.out w1 hb1
         have HB1 := hid (HB0.out.trans (hb1.mono HB0.out.size))
         clear hb1))
    go_ret
    exact ⟨HB1.out, by rw [HF.out, HM.out]; simp only [d1, d2, Bool.and_true, Bool.and_false, Bool.true_and]; try rfl⟩
theorem jk (deps : List (List UInt8)) (mk : List jw) (r : jQ) (A : Option Addr) (c : Nat) (Am : Option Addr) (cm : Nat) (w : World) (hn : deps.length ≤ 1099511627776) (hmn : mk.length ≤ 1099511627776) (ho : IdsOk deps) (hm : ∀ m ∈ mk, Z9 m) (hr : jN r) (hset : kI deps = true) (hs : Sl w w.heap.size A deps.length 32 (kr deps)) (hsm : Sl w w.heap.size Am mk.length 34 (jb kE mk)) :
    Calls Tryz.prog 107 #[.slice A deps.length c, .slice Am mk.length cm, .agg (ke r).toArray] w fun e w' => Below w.heap.size w w' ∧ e = .returned (.bool (KU deps mk r)) := by
  obtain ⟨rc, ri⟩ := r
  have HO := hid ho; have HS := hid hs; have H0R := hid hr; have HSM := hid hsm; have HM := hid hm
  clear ho hs hr hsm hm
  by_cases hz0 : rc = zero32
  ·
   have EQ : Hid (∀ u : World, (Op.equalIn 10000 47 (.agg (idV rc).toArray) (.agg (idV zero32).toArray)).run Tryz.prog u = .ok true u) := hid (fun u => (jX H0R.out.1 zP u).trans (by rw [dT hz0]))
   have HF := hid (show KU deps mk (rc, ri) = (decide (0 ≤ ri) && decide (ri < mk.length) && (mk.getD ri.toNat (false, kd)).1) by unfold KU; rw [if_neg (by simp [hz0])])
   clear hz0
   rcases (by omega : ri < 0 ∨ (0 ≤ ri ∧ (mk.length : Int) ≤ ri) ∨ (0 ≤ ri ∧ ri < mk.length)) with q | ⟨q, q2⟩ | ⟨q, q2⟩
   ·
    have d1 : decide ((0 : Int) ≤ ri) = false := by simp; omega
    go_enter Tryz.func107, Tryz.ntmps107
    go_upto_region 1 with (first
      | (with_reducible refine kz ?_
         refine ko (by rfl) 68 _ rfl (ke (rc, ri)) _ rfl rfl (by rw [kf H0R.out]; exact KZ) ?_
         intro W0 hb0 hz0 hs0
         have HB0 := hid hb0; have HZ0 := hid hz0
         clear hb0 hz0 hs0))
    obtain ⟨z, hz⟩ : ∃ z, w.heap.size = z := ⟨_, rfl⟩
    rw [hz] at HZ0 ⊢
    have HZL := hid (show z < W0.heap.size from (qX HZ0.out))
    try go_frame
    clear hz
    have HXI := hid (show W0.rangeAt z 0 (idV rc) from fun j u hj => by rw [qZ]; exact (k5 HZ0.out j).trans ((kA H0R.out).1 j u hj))
    have HXR := hid (show W0.rangeAt z 0 (ke (rc, ri)) from fun j u hj => by rw [qZ]; exact (k5 HZ0.out j).trans hj)
    have c32 : W0.cell? ⟨z, 32, none⟩ = some (.int .i64 ri) := (k5 HZ0.out 32).trans (kA H0R.out).2
    go_wp2_with (first
      | (refine k6 (by rfl) (k9 47 _ rfl (p := ⟨z, 0, none⟩) rfl (qV _ _ _ _ (idV rc) _ HXI.out Tryz.underlying47 rfl (by rw [k8, show rc.length = 32 from H0R.out.1]; exact kt))) ?_)
      | (refine k6 (by rfl) (kB 47 #[] rfl (jI _)) ?_)
      | (refine k6 (by rfl) (kN 47 _ _ _ rfl (xs := (idV rc).toArray) (ys := (idV zero32).toArray) rfl rfl (r := true) eqId.noGuard (EQ.out _)) ?_; go_frame; try simp only [nTF]))
    go_ret
    exact ⟨HB0.out, by rw [HF.out]; simp only [d1, Bool.false_and]; rfl⟩
   ·
    have d1 : decide ((0 : Int) ≤ ri) = true := by simp; omega
    have d2 : decide (ri < (mk.length : Int)) = false := by simp; omega
    go_enter Tryz.func107, Tryz.ntmps107
    go_upto_region 1 with (first
      | (with_reducible refine kz ?_
         refine ko (by rfl) 68 _ rfl (ke (rc, ri)) _ rfl rfl (by rw [kf H0R.out]; exact KZ) ?_
         intro W0 hb0 hz0 hs0
         have HB0 := hid hb0; have HZ0 := hid hz0
         clear hb0 hz0 hs0))
    obtain ⟨z, hz⟩ : ∃ z, w.heap.size = z := ⟨_, rfl⟩
    rw [hz] at HZ0 ⊢
    have HZL := hid (show z < W0.heap.size from (qX HZ0.out))
    try go_frame
    clear hz
    have HXI := hid (show W0.rangeAt z 0 (idV rc) from fun j u hj => by rw [qZ]; exact (k5 HZ0.out j).trans ((kA H0R.out).1 j u hj))
    have HXR := hid (show W0.rangeAt z 0 (ke (rc, ri)) from fun j u hj => by rw [qZ]; exact (k5 HZ0.out j).trans hj)
    have c32 : W0.cell? ⟨z, 32, none⟩ = some (.int .i64 ri) := (k5 HZ0.out 32).trans (kA H0R.out).2
    go_wp2_with (first
      | (refine k6 (by rfl) (k9 47 _ rfl (p := ⟨z, 0, none⟩) rfl (qV _ _ _ _ (idV rc) _ HXI.out Tryz.underlying47 rfl (by rw [k8, show rc.length = 32 from H0R.out.1]; exact kt))) ?_)
      | (refine k6 (by rfl) (kB 47 #[] rfl (jI _)) ?_)
      | (refine k6 (by rfl) (kN 47 _ _ _ rfl (xs := (idV rc).toArray) (ys := (idV zero32).toArray) rfl rfl (r := true) eqId.noGuard (EQ.out _)) ?_; go_frame; try simp only [nTF]))
    go_ret
    exact ⟨HB0.out, by rw [HF.out]; simp only [d1, d2, Bool.true_and, Bool.false_and]; rfl⟩
   ·
    obtain ⟨i, rfl⟩ : ∃ i : Nat, ri = (i : Int) := ⟨ri.toNat, by omega⟩
    have hil : i < mk.length := by omega
    have d1 : decide ((0 : Int) ≤ (i : Int)) = true := by simp
    have d2 : decide ((i : Int) < (mk.length : Int)) = true := by simp; omega
    obtain ⟨b, off, rfl, hbl, hcl⟩ := HSM.out.2 (by omega)
    have hrow := Sl.row (fun m h => kV (HM.out m h)) hcl hil 0 (.bool mk[i].1) rfl
    have HRW := hid hrow
    have HG := hid (show (mk.getD (i : Int).toNat (false, kd)) = mk[i] by rw [Int.toNat_natCast, List.getD_eq_getElem?_getD, List.getElem?_eq_getElem hil]; rfl)
    clear hrow hcl
    go_enter Tryz.func107, Tryz.ntmps107
    go_upto_region 1 with (first
      | (with_reducible refine kz ?_
         refine ko (by rfl) 68 _ rfl (ke (rc, (i : Int))) _ rfl rfl (by rw [kf H0R.out]; exact KZ) ?_
         intro W0 hb0 hz0 hs0
         have HB0 := hid hb0; have HZ0 := hid hz0
         clear hb0 hz0 hs0))
    obtain ⟨z, hz⟩ : ∃ z, w.heap.size = z := ⟨_, rfl⟩
    rw [hz] at HZ0 ⊢
    have HZL := hid (show z < W0.heap.size from (qX HZ0.out))
    try go_frame
    clear hz
    have HXI := hid (show W0.rangeAt z 0 (idV rc) from fun j u hj => by rw [qZ]; exact (k5 HZ0.out j).trans ((kA H0R.out).1 j u hj))
    have HXR := hid (show W0.rangeAt z 0 (ke (rc, (i : Int))) from fun j u hj => by rw [qZ]; exact (k5 HZ0.out j).trans hj)
    have c32 : W0.cell? ⟨z, 32, none⟩ = some (.int .i64 (i : Int)) := (k5 HZ0.out 32).trans (kA H0R.out).2
    have CD : W0.cell? ⟨b, off + i * 34, none⟩ = some (.bool mk[i].1) := (HB0.out.cell (p := ⟨b, off + i * 34, none⟩) hbl).trans HRW.out
    go_wp2_with (first
      | (refine k6 (by rfl) (k9 47 _ rfl (p := ⟨z, 0, none⟩) rfl (qV _ _ _ _ (idV rc) _ HXI.out Tryz.underlying47 rfl (by rw [k8, show rc.length = 32 from H0R.out.1]; exact kt))) ?_)
      | (refine k6 (by rfl) (kB 47 #[] rfl (jI _)) ?_)
      | (refine k6 (by rfl) (kN 47 _ _ _ rfl (xs := (idV rc).toArray) (ys := (idV zero32).toArray) rfl rfl (r := true) eqId.noGuard (EQ.out _)) ?_; go_frame; try simp only [nTF]))
    go_ret
    exact ⟨HB0.out, by rw [HF.out]; simp only [d1, d2, Bool.true_and]; rw [HG.out]; rfl⟩
  ·
   have EQ : Hid (∀ u : World, (Op.equalIn 10000 47 (.agg (idV rc).toArray) (.agg (idV zero32).toArray)).run Tryz.prog u = .ok false u) := hid (fun u => (jX H0R.out.1 zP u).trans (by rw [dF hz0]))
   have HF := hid (show KU deps mk (rc, ri) = jY deps (rc, ri) by unfold KU; rw [if_pos (by simp [hz0])])
   clear hz0
   go_enter Tryz.func107, Tryz.ntmps107
   go_upto_region 1 with (first
     | (with_reducible refine kz ?_
        refine ko (by rfl) 68 _ rfl (ke (rc, ri)) _ rfl rfl (by rw [kf H0R.out]; exact KZ) ?_
        intro W0 hb0 hz0 hs0
        have HB0 := hid hb0; have HZ0 := hid hz0
        clear hb0 hz0 hs0))
   obtain ⟨z, hz⟩ : ∃ z, w.heap.size = z := ⟨_, rfl⟩
   rw [hz] at HZ0 ⊢
   have HZL := hid (show z < W0.heap.size from (qX HZ0.out))
   try go_frame
   clear hz
   have HXI := hid (show W0.rangeAt z 0 (idV rc) from fun j u hj => by rw [qZ]; exact (k5 HZ0.out j).trans ((kA H0R.out).1 j u hj))
   have HXR := hid (show W0.rangeAt z 0 (ke (rc, ri)) from fun j u hj => by rw [qZ]; exact (k5 HZ0.out j).trans hj)
   have c32 : W0.cell? ⟨z, 32, none⟩ = some (.int .i64 ri) := (k5 HZ0.out 32).trans (kA H0R.out).2
   go_wp2_with (first
     | (refine k6 (by rfl) (k9 47 _ rfl (p := ⟨z, 0, none⟩) rfl (qV _ _ _ _ (idV rc) _ HXI.out Tryz.underlying47 rfl (by rw [k8, show rc.length = 32 from H0R.out.1]; exact kt))) ?_)
     | (refine k6 (by rfl) (kB 47 #[] rfl (jI _)) ?_)
     | (refine k6 (by rfl) (kN 47 _ _ _ rfl (xs := (idV rc).toArray) (ys := (idV zero32).toArray) rfl rfl (r := false) eqId.noGuard (EQ.out _)) ?_; go_frame; try simp only [nTF])
     | (refine k6 (by rfl) (ldR H0R.out HXR.out) ?_)
     | (go_at_call 125; refine (vp deps (rc, ri) A c W0 hn HO.out H0R.out hset ((HS.out.keep HB0.out).more HB0.out.size)).mono ?_; rintro e w2 ⟨hb2, rfl⟩
        have HB2 := hid (HB0.out.trans (hb2.mono HB0.out.size))
        clear hb2))
   go_ret
   exact ⟨HB2.out, by rw [HF.out]; rfl⟩
def ElUpto (mk : List jw) (ri : Int) (d : jQ) (i : Nat) : Prop := ∀ j, j < i → 0 ≤ ri ∧ ∃ h : ri.toNat + j < mk.length, mk[ri.toNat + j].1 = false ∧ mk[ri.toNat + j].2 = d
theorem refEls_all {deps : List (List UInt8)} {mk : List jw} {rc : List UInt8} {ri : Int} {d : jQ} {m : Nat} (hz : rc = zero32) (hm : 1 ≤ m) (h : ElUpto mk ri d m) : jh deps mk (rc, ri) d (m : Int) = true := by
  obtain ⟨h0, hl, _⟩ := h (m - 1) (by omega)
  unfold jh
  rw [if_neg (by simp [hz])]
  simp only [Bool.and_eq_true, decide_eq_true_eq]
  refine ⟨⟨⟨h0, by omega⟩, by omega⟩, ?_⟩
  rw [List.all_eq_true]
  intro x hx
  obtain ⟨j, hj, rfl⟩ := List.getElem_of_mem hx
  rw [List.length_take, List.length_drop] at hj
  rw [List.getElem_take, List.getElem_drop]
  obtain ⟨_, hl2, h1, h2⟩ := h j (by omega)
  simp [h1, h2]
theorem refEls_not {deps : List (List UInt8)} {mk : List jw} {rc : List UInt8} {ri : Int} {d : jQ} {m j : Nat} (hz : rc = zero32) (hj : j < m) (h : 0 ≤ ri → ∀ hl : ri.toNat + j < mk.length, mk[ri.toNat + j].1 = true ∨ mk[ri.toNat + j].2 ≠ d) : jh deps mk (rc, ri) d (m : Int) = false := by
  rw [Bool.eq_false_iff]
  intro he
  unfold jh at he
  rw [if_neg (by simp [hz])] at he
  simp only [Bool.and_eq_true, decide_eq_true_eq] at he
  obtain ⟨⟨⟨h0, h1⟩, h2⟩, h3⟩ := he
  have hl : ri.toNat + j < mk.length := by omega
  rw [List.all_eq_true] at h3
  have h4 := h3 mk[ri.toNat + j] (by
    have hlen : j < ((mk.drop ri.toNat).take (m : Int).toNat).length := by rw [List.length_take, List.length_drop]; omega
    have := List.getElem_mem hlen
    rwa [List.getElem_take, List.getElem_drop] at this)
  simp only [Bool.and_eq_true, Bool.not_eq_true', decide_eq_true_eq] at h4
  rcases h h0 hl with q | q
  · rw [q] at h4; exact absurd h4.1 (by simp)
  · exact q h4.2
theorem ZH (deps : List (List UInt8)) (mk : List jw) (r d : jQ) (m : Nat) (A : Option Addr) (c : Nat) (Am : Option Addr) (cm : Nat) (w : World) (hm1 : 1 ≤ m) (hm2 : m ≤ 4096) (hn : deps.length ≤ 1099511627776) (hmn : mk.length ≤ 1099511627776) (ho : IdsOk deps) (hm : ∀ m ∈ mk, Z9 m) (hr : jN r) (hd : jN d) (hset : kI deps = true) (hs : Sl w w.heap.size A deps.length 32 (kr deps)) (hsm : Sl w w.heap.size Am mk.length 34 (jb kE mk)) :
    Calls Tryz.prog 109 #[.slice A deps.length c, .slice Am mk.length cm, .agg (ke r).toArray, .agg (ke d).toArray, .int .i64 (m : Int)] w fun e w' => Below w.heap.size w w' ∧ e = .returned (.bool (jh deps mk r d (m : Int))) := by
  obtain ⟨rc, ri⟩ := r
  have HO := hid ho; have HS := hid hs; have H0R := hid hr; have H1R := hid hd; have HSM := hid hsm; have HM := hid hm
  have HWF := hid (jO hr.2)
  clear ho hs hr hsm hm hd
  by_cases hz0 : rc = zero32
  ·
   have EQ : Hid (∀ u : World, (Op.equalIn 10000 47 (.agg (idV rc).toArray) (.agg (idV zero32).toArray)).run Tryz.prog u = .ok true u) := hid (fun u => (jX H0R.out.1 zP u).trans (by rw [dT hz0]))
   have HZQ := hid hz0
   clear hz0
   go_enter Tryz.func109, Tryz.ntmps109
   go_upto_region 1 with (first
     | (with_reducible refine kz ?_
        refine ko (by rfl) 68 _ rfl (ke (rc, ri)) _ rfl rfl (by rw [kf H0R.out]; exact KZ) ?_
        intro W0 hb0 hz0 hs0
        have HB0 := hid hb0; have HZ0 := hid hz0
        clear hb0 hz0 hs0)
     | (with_reducible refine kz ?_
        refine ko (by rfl) 68 _ rfl (ke d) _ rfl rfl (by rw [kf H1R.out]; exact KZ) ?_
        intro W1 hb1 hz1 hs1
        have HB1 := hid hb1; have HZ1 := hid hz1
        clear hb1 hz1 hs1))
   obtain ⟨z, hz⟩ : ∃ z, w.heap.size = z := ⟨_, rfl⟩
   obtain ⟨z1, hz1⟩ : ∃ z, W0.heap.size = z := ⟨_, rfl⟩
   have HZL := hid (show z < W1.heap.size by rw [← hz]; exact qL (qX HZ0.out) HB1.out.size)
   have HZL1 := hid (show z1 < W1.heap.size by rw [← hz1]; exact (qX HZ1.out))
   have HZA := hid ((HB1.out.block _ (qX HZ0.out)).trans HZ0.out)
   have HBW := hid (HB0.out.trans (HB1.out.mono HB0.out.size))
   rw [hz] at HZA ⊢
   rw [hz1] at HZ1 ⊢
   try go_frame
   clear hz hz1 HZ0 HB0 HB1
   have HXI := hid (show W1.rangeAt z 0 (idV rc) from fun j u hj => by rw [qZ]; exact (k5 HZA.out j).trans ((kA H0R.out).1 j u hj))
   have HXR := hid (show W1.rangeAt z 0 (ke (rc, ri)) from fun j u hj => by rw [qZ]; exact (k5 HZA.out j).trans hj)
   have c32 : W1.cell? ⟨z, 32, none⟩ = some (.int .i64 ri) := (k5 HZA.out 32).trans (kA H0R.out).2
   go_upto_region 4 with (first
     | (refine k6 (by rfl) (k9 47 _ rfl (p := ⟨z, 0, none⟩) rfl (qV _ _ _ _ (idV rc) _ HXI.out Tryz.underlying47 rfl (by rw [k8, show rc.length = 32 from H0R.out.1]; exact kt))) ?_)
     | (refine k6 (by rfl) (kB 47 #[] rfl (jI _)) ?_)
     | (refine k6 (by rfl) (kN 47 _ _ _ rfl (xs := (idV rc).toArray) (ys := (idV zero32).toArray) rfl rfl (r := true) eqId.noGuard (EQ.out _)) ?_; go_frame; try simp only [nTF]))
   have HC32 := hid (fun (u : World) (hu : Below W1.heap.size W1 u) => (show u.cell? ⟨z, 32, none⟩ = some (.int .i64 ri) from (hu.cell (p := ⟨z, 32, none⟩) HZL.out).trans c32))
   have HD33 := hid (fun (u : World) (hu : Below W1.heap.size W1 u) => (show ∀ j v, (ke d)[j]? = some v → u.cell? ⟨z1, 0 + j, none⟩ = some v from fun j v hj => by rw [qZ]; exact ((hu.cell (p := ⟨z1, j, none⟩) HZL1.out).trans (k5 HZ1.out j)).trans hj))
   clear c32 HXI HXR HZ1 HZA
   go_wp2_with fail
   go_loopw [11] (fun t wr => ∃ i : Nat, i ≤ m ∧ t = .int .i64 (i : Int) ∧ Hid (Below W1.heap.size W1 wr) ∧ Hid (ElUpto mk ri d i)) (fun t _ => m - (intOf t).toNat)
   case atStart => exact ⟨0, Nat.zero_le _, rfl, hid (qB _ _), hid fun j hj => absurd hj (by omega)⟩
   case round =>
     obtain ⟨i, hi, rfl, HBR, HU⟩ := hrel
     by_cases hlt : i < m
     ·
      have i1 : (i : Int) < (m : Int) := by omega
      have c32 := Wd.cell (base := wr.heap.size) (HC32.out wr HBR.out) (qL HZL.out HBR.out.size)
      have HSTP := hid (fun h => refEls_not (deps := deps) (mk := mk) (ri := ri) (d := d) (m := m) (j := i) HZQ.out hlt h)
      by_cases hneg : ri < 0
      ·
       have d1 : decide (ri < 0) = true := dT hneg
       have HSTOP := hid (HSTP.out fun h => absurd h (by omega))
       go_wp2_with fail
       refine jl (base := wr.heap.size) wr (qB _ _) (by kernel_rfl) (by kernel_rfl) ?_
       repeat (first
         | go_big_quiet_skip
         | (go_big_quiet_want
            first
              | (go_big_quiet_op
                 go_big_quiet_on)))
       refine wpQuiet_nil ?_
       rintro w' ⟨kk, rfl⟩
       have hk9 := kk.2
       generalize kk.val = w9 at *
       clear kk
       have HBN := hid (HBR.out.trans (hk9.mono HBR.out.size))
       clear hk9
       go_wp2_with fail
       go_ret
       exact ⟨HBW.out.trans (HBN.out.mono HBW.out.size), by rw [HSTOP.out]; rfl⟩
      ·
       obtain ⟨k, rfl⟩ : ∃ k : Nat, ri = (k : Int) := ⟨ri.toNat, by omega⟩
       have hkb := HWF.out
       have d1 : decide ((k : Int) < 0) = false := by simp
       have ew : IntKind.i64.wrap ((mk.length : Int) - (i : Int)) = (mk.length : Int) - (i : Int) := IntWalk.i64_in _ ⟨by omega, by omega⟩
       by_cases hfar : (mk.length : Int) - (i : Int) ≤ (k : Int)
       ·
        have d2 : decide ((mk.length : Int) - (i : Int) ≤ (k : Int)) = true := dT hfar
        have HSTOP := hid (HSTP.out fun _ hl => absurd hl (by rw [Int.toNat_natCast]; omega))
        go_wp2_with fail
        refine jl (base := wr.heap.size) wr (qB _ _) (by kernel_rfl) (by kernel_rfl) ?_
        repeat (first
          | go_big_quiet_skip
          | (go_big_quiet_want
             first
               | (go_big_quiet_op
                  go_big_quiet_on)))
        refine wpQuiet_nil ?_
        rintro w' ⟨kk, rfl⟩
        have hk9 := kk.2
        generalize kk.val = w9 at *
        clear kk
        have HBN := hid (HBR.out.trans (hk9.mono HBR.out.size))
        clear hk9
        go_wp2_with fail
        go_ret
        exact ⟨HBW.out.trans (HBN.out.mono HBW.out.size), by rw [HSTOP.out]; rfl⟩
       ·
        have d2 : decide ((mk.length : Int) - (i : Int) ≤ (k : Int)) = false := dF hfar
        have ew2 : IntKind.i64.wrap ((k : Int) + (i : Int)) = ((k + i : Nat) : Int) := by rw [IntWalk.i64_in _ ⟨by omega, by omega⟩]; omega
        have hkl : k + i < mk.length := by omega
        have q1 : ((k + i : Nat) : Int) < (mk.length : Int) := by omega
        have q0 : (0 : Int) ≤ ((k + i : Nat) : Int) := by omega
        obtain ⟨b, off, rfl, hbl, hcl⟩ := ((HSM.out.keep HBW.out).keep (HBR.out.mono HBW.out.size)).2 (by omega)
        have hrow := Sl.row (fun m h => kV (HM.out m h)) hcl hkl
        have hbl2 : b < wr.heap.size := qL hbl (qT HBW.out.size HBR.out.size)
        have HYO := hid (show jN mk[k + i].2 from HM.out _ (List.getElem_mem hkl))
        have HNX := hid (show mk[k + i].1 = false → mk[k + i].2 = d → ElUpto mk (k : Int) d (i + 1) from fun h1 h2 j hj => by
          rcases (by omega : j < i ∨ j = i) with q | q
          · exact HU.out j q
          · subst q
            exact ⟨by omega, by simpa using hkl, by simpa using h1, by simpa using h2⟩)
        have HST2 := hid (show (mk[k + i].1 = true ∨ mk[k + i].2 ≠ d) → jh deps mk (rc, (k : Int)) d (m : Int) = false from fun h => HSTP.out fun _ hl => by simpa using h)
        clear HSTP hcl HU
        obtain ⟨y, hy⟩ : ∃ y, mk[k + i] = y := ⟨_, rfl⟩
        rw [hy] at hrow HYO HNX HST2
        clear hy
        have CD := Wd.cell (base := wr.heap.size) (b := b) (o := off + (k + i) * 34) (hrow 0 (.bool y.1) rfl) hbl2
        have R1 := hid (Wd.row (base := wr.heap.size) (b := b) (o := off + (k + i) * 34 + 1) (cs := ke y.2) (fun j u hj => by rw [Nat.add_assoc]; exact hrow (1 + j) u (by unfold kE; rw [Nat.add_comm 1 j]; exact hj)) hbl2)
        have R2 := hid (Wd.row (base := wr.heap.size) (HD33.out wr HBR.out) (qL HZL1.out HBR.out.size))
        clear hrow
        rcases hy1 : y.1 with _ | _
        ·
         rw [hy1] at CD
         by_cases hy2 : y.2 = d
         ·
          have HEQ : Hid (∀ u : World, (Op.equalIn 10000 68 (.agg (ke y.2).toArray) (.agg (ke d).toArray)).run Tryz.prog u = .ok true u) := hid (fun u => (kR HYO.out H1R.out u).trans (by rw [dT hy2]))
          have HN := hid (HNX.out hy1 hy2)
          clear hy1 hy2 HNX HST2
          go_wp2_with fail
          refine jl (base := wr.heap.size) wr (qB _ _) (by kernel_rfl) (by kernel_rfl) ?_
          repeat (first
            | go_big_quiet_skip
            | (go_big_quiet_want
               first
                 | (refine kG (fun w' hw' => ldR HYO.out (R1.out w' hw')) ?_
                    go_big_quiet_on
                    go_frame; try simp only [nTF])
                 | (refine kG (fun w' hw' => ldR H1R.out (R2.out w' hw')) ?_
                    go_big_quiet_on
                    go_frame; try simp only [nTF])
                 | (refine kG (fun w' hw' => kN 68 _ _ _ rfl (xs := (ke y.2).toArray) (ys := (ke d).toArray) rfl rfl (r := true) eqRef.noGuard (HEQ.out w')) ?_
                    go_big_quiet_on
                    go_frame; try simp only [nTF])
                 | (go_big_quiet_op
                    go_big_quiet_on)))
          refine wpQuiet_nil ?_
          rintro w' ⟨kk, rfl⟩
          have hk9 := kk.2
          generalize kk.val = w9 at *
          clear kk
          have HBN := hid (HBR.out.trans (hk9.mono HBR.out.size))
          clear hk9
          go_wp2_with fail
          go_roundw
          case rel => exact ⟨i + 1, by omega, by go_num, HBN, HN⟩
          case measure => (simp [intOf]) <;> omega
         ·
          have HEQ : Hid (∀ u : World, (Op.equalIn 10000 68 (.agg (ke y.2).toArray) (.agg (ke d).toArray)).run Tryz.prog u = .ok false u) := hid (fun u => (kR HYO.out H1R.out u).trans (by rw [dF hy2]))
          have HSTOP := hid (HST2.out (.inr hy2))
          clear hy1 hy2 HNX HST2
          go_wp2_with fail
          refine jl (base := wr.heap.size) wr (qB _ _) (by kernel_rfl) (by kernel_rfl) ?_
          repeat (first
            | go_big_quiet_skip
            | (go_big_quiet_want
               first
                 | (refine kG (fun w' hw' => ldR HYO.out (R1.out w' hw')) ?_
                    go_big_quiet_on
                    go_frame; try simp only [nTF])
                 | (refine kG (fun w' hw' => ldR H1R.out (R2.out w' hw')) ?_
                    go_big_quiet_on
                    go_frame; try simp only [nTF])
                 | (refine kG (fun w' hw' => kN 68 _ _ _ rfl (xs := (ke y.2).toArray) (ys := (ke d).toArray) rfl rfl (r := false) eqRef.noGuard (HEQ.out w')) ?_
                    go_big_quiet_on
                    go_frame; try simp only [nTF])
                 | (go_big_quiet_op
                    go_big_quiet_on)))
          refine wpQuiet_nil ?_
          rintro w' ⟨kk, rfl⟩
          have hk9 := kk.2
          generalize kk.val = w9 at *
          clear kk
          have HBN := hid (HBR.out.trans (hk9.mono HBR.out.size))
          clear hk9
          go_wp2_with fail
          go_ret
          exact ⟨HBW.out.trans (HBN.out.mono HBW.out.size), by rw [HSTOP.out]; rfl⟩
        ·
         rw [hy1] at CD
         have HSTOP := hid (HST2.out (.inl hy1))
         clear hy1 HNX HST2
         go_wp2_with fail
         refine jl (base := wr.heap.size) wr (qB _ _) (by kernel_rfl) (by kernel_rfl) ?_
         repeat (first
           | go_big_quiet_skip
           | (go_big_quiet_want
              first
                | (go_big_quiet_op
                   go_big_quiet_on)))
         refine wpQuiet_nil ?_
         rintro w' ⟨kk, rfl⟩
         have hk9 := kk.2
         generalize kk.val = w9 at *
         clear kk
         have HBN := hid (HBR.out.trans (hk9.mono HBR.out.size))
         clear hk9
         go_wp2_with fail
         go_ret
         exact ⟨HBW.out.trans (HBN.out.mono HBW.out.size), by rw [HSTOP.out]; rfl⟩
     ·
      have i1 : ¬ (i : Int) < (m : Int) := by omega
      have HALL := hid (refEls_all (deps := deps) (m := m) HZQ.out hm1 (by have h := HU.out; rwa [show i = m by omega] at h))
      go_wp2_with fail
      go_ret
      exact ⟨HBW.out.trans (HBR.out.mono HBW.out.size), by rw [HALL.out]; rfl⟩
  ·
   have EQ : Hid (∀ u : World, (Op.equalIn 10000 47 (.agg (idV rc).toArray) (.agg (idV zero32).toArray)).run Tryz.prog u = .ok false u) := hid (fun u => (jX H0R.out.1 zP u).trans (by rw [dF hz0]))
   have HF := hid (show jh deps mk (rc, ri) d (m : Int) = jY deps (rc, ri) by unfold jh; rw [if_pos (by simp [hz0])])
   clear hz0
   go_enter Tryz.func109, Tryz.ntmps109
   go_upto_region 1 with (first
     | (with_reducible refine kz ?_
        refine ko (by rfl) 68 _ rfl (ke (rc, ri)) _ rfl rfl (by rw [kf H0R.out]; exact KZ) ?_
        intro W0 hb0 hz0 hs0
        have HB0 := hid hb0; have HZ0 := hid hz0
        clear hb0 hz0 hs0)
     | (with_reducible refine kz ?_
        refine ko (by rfl) 68 _ rfl (ke d) _ rfl rfl (by rw [kf H1R.out]; exact KZ) ?_
        intro W1 hb1 hz1 hs1
        have HB1 := hid hb1; have HZ1 := hid hz1
        clear hb1 hz1 hs1))
   obtain ⟨z, hz⟩ : ∃ z, w.heap.size = z := ⟨_, rfl⟩
   obtain ⟨z1, hz1⟩ : ∃ z, W0.heap.size = z := ⟨_, rfl⟩
   have HZL := hid (show z < W1.heap.size by rw [← hz]; exact qL (qX HZ0.out) HB1.out.size)
   have HZL1 := hid (show z1 < W1.heap.size by rw [← hz1]; exact (qX HZ1.out))
   have HZA := hid ((HB1.out.block _ (qX HZ0.out)).trans HZ0.out)
   have HBW := hid (HB0.out.trans (HB1.out.mono HB0.out.size))
   rw [hz] at HZA ⊢
   rw [hz1] at HZ1 ⊢
   try go_frame
   clear hz hz1 HZ0 HB0 HB1
   have HXI := hid (show W1.rangeAt z 0 (idV rc) from fun j u hj => by rw [qZ]; exact (k5 HZA.out j).trans ((kA H0R.out).1 j u hj))
   have HXR := hid (show W1.rangeAt z 0 (ke (rc, ri)) from fun j u hj => by rw [qZ]; exact (k5 HZA.out j).trans hj)
   have c32 : W1.cell? ⟨z, 32, none⟩ = some (.int .i64 ri) := (k5 HZA.out 32).trans (kA H0R.out).2
   go_wp2_with (first
     | (refine k6 (by rfl) (k9 47 _ rfl (p := ⟨z, 0, none⟩) rfl (qV _ _ _ _ (idV rc) _ HXI.out Tryz.underlying47 rfl (by rw [k8, show rc.length = 32 from H0R.out.1]; exact kt))) ?_)
     | (refine k6 (by rfl) (kB 47 #[] rfl (jI _)) ?_)
     | (refine k6 (by rfl) (kN 47 _ _ _ rfl (xs := (idV rc).toArray) (ys := (idV zero32).toArray) rfl rfl (r := false) eqId.noGuard (EQ.out _)) ?_; go_frame; try simp only [nTF])
     | (refine k6 (by rfl) (ldR H0R.out HXR.out) ?_)
     | (go_at_call 125; refine (vp deps (rc, ri) A c W1 hn HO.out H0R.out hset ((HS.out.keep HBW.out).more HBW.out.size)).mono ?_; rintro e w2 ⟨hb2, rfl⟩
        have HB2 := hid (HBW.out.trans (hb2.mono HBW.out.size))
        clear hb2))
   go_ret
   exact ⟨HB2.out, by rw [HF.out]; rfl⟩
end Go.Proofs.YthjaepmfkgejkaaGreatDoor
