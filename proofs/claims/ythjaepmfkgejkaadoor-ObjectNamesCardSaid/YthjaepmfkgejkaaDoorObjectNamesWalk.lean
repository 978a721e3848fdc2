/-
  The law ObjectNames, walked. Conditions: the object's lists lie in memory, their lengths within their capacities; the library's variable MaxLen holds a number.
-/
import Derived.Test.YthjaepmfkgejkaaDoorObjAwake
import Derived.Test.YthjaepmfkgejkaaDoorObjLight
import Derived.Test.YthjaepmfkgejkaaDoorObjRight3
import Derived.Test.YthjaepmfkgejkaaDoorOrdUnion
namespace Go.Proofs.YthjaepmfkgejkaaDoor.objectNames
open Go.RowKit Go.Maps
set_option linter.unusedVariables false
set_option linter.unusedSimpArgs false

theorem doc_up {deps : List (List UInt8)} {mk : List MadeD} {r : RefD} (h : docB deps mk r = true) (hz : r.1 = zero32) : r.2 ≤ mk.length := by
  unfold docB at h
  rw [if_neg (by simp [hz])] at h
  simp only [Bool.and_eq_true, decide_eq_true_eq] at h
  omega
theorem elems_up {deps : List (List UInt8)} {mk : List MadeD} {r d : RefD} {n : Int} (h : elemsB deps mk r d n = true) (hn : 0 ≤ n) (hz : r.1 = zero32) : r.2 ≤ mk.length := by
  unfold elemsB at h
  rw [if_neg (by simp [hz])] at h
  simp only [Bool.and_eq_true, decide_eq_true_eq] at h
  omega
theorem op_up {deps : List (List UInt8)} {mk : List MadeD} {x : OpD} (h : opB deps mk x = true) : (x.2.1.1 = zero32 → x.2.1.2 ≤ mk.length) ∧ (x.2.2.1.1 = zero32 → x.2.2.1.2 ≤ mk.length) := by
  rcases hp : partsOf x.1 with _ | p
  · unfold opB at h; rw [hp] at h; cases h
  · obtain ⟨n1, n2, n3, n4, _⟩ := op_names hp h
    have hzr : ∀ r : RefD, r = zeroRef → r.2 ≤ mk.length := fun r hr => by rw [hr]; show (0 : Int) ≤ _; omega
    have h' := h
    unfold opB at h'
    rw [hp] at h'
    simp only [Bool.and_eq_true, Bool.or_eq_true, Bool.not_eq_true', decide_eq_true_eq, decide_eq_false_iff_not] at h'
    obtain ⟨⟨⟨⟨_, hd⟩, _⟩, h2⟩, h1⟩ := h'
    have hdoc : x.2.1.1 = zero32 → x.2.1.2 ≤ mk.length := fun hz => by
      rcases hd with q | q
      · exact hzr _ (n2 q)
      · exact doc_up q hz
    refine ⟨hdoc, fun hz => ?_⟩
    rcases partsOf_cases hp with ⟨hk, rfl⟩ | ⟨hk, rfl⟩ | ⟨hk, rfl⟩ | ⟨hk, rfl⟩ | ⟨hk, rfl⟩
    · rcases h1 with q | ⟨⟨q, _⟩, _⟩
      · exact absurd hk q
      · rcases q with q | q
        · rw [q]; exact hdoc (by rw [← q]; exact hz)
        · exact elems_up q (by decide) hz
    · rcases h2 with q | ⟨⟨q1, _⟩, q⟩
      · exact absurd hk q
      · exact elems_up q (by omega) hz
    · exact hzr _ (n4 rfl)
    · exact hzr _ (n4 rfl)
    · exact hzr _ (n4 rfl)
theorem madeB_sz {deps : List (List UInt8)} {mk : List MadeD} {x : OpD} (h : opB deps mk x = true) : (madeB x).length = szOp x := by
  unfold madeB szOp
  split
  · rfl
  · split
    · rename_i h3 h1
      rw [List.length_replicate]
      unfold cntN
      rw [if_pos]
      have hp : partsOf x.1 = some (true, true, true, false, false) := by rw [h1]; rfl
      unfold opB at h
      rw [hp] at h
      simp only [Bool.and_eq_true, Bool.or_eq_true, Bool.not_eq_true', decide_eq_true_eq, decide_eq_false_iff_not] at h
      rcases h.2 with q | ⟨_, q⟩
      · exact absurd h1 q
      · unfold fileB at q
        simp only [Bool.and_eq_true] at q
        exact q.2
    · rfl
theorem madeL_sz {deps : List (List UInt8)} : ∀ {l : List OpD} {mk : List MadeD}, opsB deps mk l = true → (madeL l).length = szL l
  | [], _, _ => rfl
  | x :: l, mk, h => by
    unfold opsB at h
    rw [Bool.and_eq_true] at h
    have h1 := madeB_sz h.1
    have h2 := madeL_sz h.2
    have e1 : madeL (x :: l) = madeB x ++ madeL l := by simp [madeL]
    have e2 : szL (x :: l) = szOp x + szL l := by simp [szL]
    rw [e1, e2, List.length_append, h1, h2]
/-- Each operation names what was made ahead, or a change hung on. -/
theorem names_any {deps : List (List UInt8)} {l : List OpD} (h : opsB deps [] l = true) {i : Nat} (hi : i < l.length) {r : RefD} (hr : r = l[i].2.1 ∨ r = l[i].2.2.1) : (r.1 ≠ zero32 → r.1 ∈ deps) ∧ (r.1 = zero32 → 0 ≤ r.2 ∧ r.2 ≤ (szL l : Int)) := by
  have h1 := opsB_take h (i + 1)
  rw [opsB_next hi, Bool.and_eq_true] at h1
  have h2 := madeL_sz h1.1
  have h3 := szL_le l i
  have hu := op_up h1.2
  rcases hp : partsOf l[i].1 with _ | p
  · have h4 := h1.2
    unfold opB at h4; rw [hp] at h4; cases h4
  · obtain ⟨n1, n2, n3, n4, _⟩ := op_names hp h1.2
    have key : ∀ (b : Bool) (r : RefD), (b = true → (r.1 = zero32 ∨ r.1 ∈ deps) ∧ 0 ≤ r.2) → (b = false → r = zeroRef) → (r.1 = zero32 → r.2 ≤ (madeL (l.take i)).length) → (r.1 ≠ zero32 → r.1 ∈ deps) ∧ (r.1 = zero32 → 0 ≤ r.2 ∧ r.2 ≤ (szL l : Int)) := by
      intro b r q1 q2 q3
      cases b
      · have q := q2 rfl
        subst q
        exact ⟨fun hne => absurd rfl hne, fun _ => ⟨Int.le_refl _, by show (0 : Int) ≤ _; omega⟩⟩
      · have q := q1 rfl
        refine ⟨fun hne => q.1.resolve_left hne, fun hz => ⟨q.2, ?_⟩⟩
        have := q3 hz
        rw [h2] at this
        omega
    rcases hr with rfl | rfl
    · exact key p.1 _ n1 n2 hu.1
    · exact key p.2.1 _ n3 n4 hu.2
theorem szL_few {d : List (List UInt8)} {l : List OpD} (h : opsB d [] l = true) : szL l ≤ l.length * 4096 := by rw [← madeL_sz h]; exact madeL_len h
theorem right_names {o : ObjD} (h : rightB o = true) : o.2.1.2.2.2 = [] ∨ (o.1 = 1 ∧ opsB o.2.1.2.1 [] o.2.1.2.2.2 = true) := by
  obtain ⟨k, ⟨n, ds, au, os⟩, ⟨ps, cs, a2, ms, st⟩⟩ := o
  unfold rightB at h
  simp only at h ⊢
  split at h
  · rename_i h1
    simp only [changeB, Bool.and_eq_true, decide_eq_true_eq] at h
    exact .inr ⟨h1, h.2.2⟩
  · split at h
    · simp only [noChangeB, Bool.and_eq_true, decide_eq_true_eq] at h
      exact .inl h.1.2
    · cases h
theorem zeroRef_run8 (w : World) : (zeroValue 47).run Tryd.prog w = .ok (.agg (refV zeroRef).toArray) w := by kernel_rfl
theorem sizeRef8 : (Tryd.prog.info? 47).map (·.size) = some 33 := by kernel_rfl
set_option maxHeartbeats 4000000 in
set_option maxRecDepth 100000 in
theorem walk (o : ObjD) (v : Value) (w : World) (h : ObjIn w w.heap.size v o) (hcap : CapOk v) (hg : Glob w) :
    Calls Tryd.prog 5 #[v] w fun e w' => e = .returned (.bool true) ∧ Below w.heap.size w w' := by
  have HIN0 := Lib.hid h; have HG := Lib.hid hg
  obtain ⟨ok, hop, ha, ha2, hm, Ad, cd, Ao, co, Ap, cp, Ac, cc, rfl, sd, so, sp, sc⟩ := h
  obtain ⟨k, ⟨n, ds, au, os⟩, ⟨ps, cs, a2, ms, st⟩⟩ := o
  dsimp only at *
  have HIN : Hid (ObjIn w w.heap.size (.agg ([.int .u8 (k.toNat : Int), .int .i64 n, .slice Ad ds.length cd, .string au, .slice Ao os.length co, .slice Ap ps.length cp, .slice Ac cs.length cc, .string a2, .string ms, .int .i64 st] : List Value).toArray) (k, (n, ds, au, os), (ps, cs, a2, ms, st))) := HIN0
  have HCH := Lib.hid (show ChIn w w.heap.size (.agg ([.int .i64 n, .slice Ad ds.length cd, .string au, .slice Ao os.length co] : List Value).toArray) (n, ds, au, os) from ⟨ok.1, hop, ha, Ad, cd, Ao, co, rfl, sd, so⟩)
  have HSO := Lib.hid so; have HOP := Lib.hid hop; have HOD := Lib.hid ok.1.2.1; have HCAP := Lib.hid hcap
  clear ok hop ha ha2 hm sd so sp sc HIN0 hcap hg
  rcases Bool.eq_false_or_eq_true (lightB (k, (n, ds, au, os), (ps, cs, a2, ms, st))) with hlb | hlb
  rotate_left
  · have HLB := Lib.hid hlb
    clear hlb
    go_enter Tryd.func5, Tryd.ntmps5
    go_upto_region 1 with (first
      | (with_reducible refine at_box ?_
         refine wp_boxM (by rfl) 29 _ rfl [.int .u8 (k.toNat : Int), .int .i64 n, .slice Ad ds.length cd, .string au, .slice Ao os.length co, .slice Ap ps.length cp, .slice Ac cs.length cc, .string a2, .string ms, .int .i64 st] _ rfl rfl (by kernel_rfl) ?_
         intro W0 hb0 hz0 hs0
         have HB0 := Lib.hid hb0; have HZ0 := Lib.hid hz0; have HS0 := Lib.hid hs0
         clear hb0 hz0 hs0))
    obtain ⟨z, hz⟩ : ∃ z, w.heap.size = z := ⟨_, rfl⟩
    have HZL := Lib.hid (show z < W0.heap.size by have := HS0.out; omega)
    rw [hz] at HZ0 ⊢
    try simp only [Act.put, List.setIfInBounds_toArray, List.set_cons_zero, List.set_cons_succ]
    clear hz HS0
    go_wp2_with (first
      | (with_reducible refine at_load ?_
         refine wp_val (by rfl) (ex_load 29 _ rfl (p := ⟨z, 0, none⟩) rfl (load_obj HZ0.out rfl)) ?_)
      | (go_at_call 7; refine (light_any (k, (n, ds, au, os), (ps, cs, a2, ms, st)) _ W0 (HIN.out.keep HB0.out |>.more HB0.out.size)).mono ?_; rintro e W1 ⟨hb1, rfl⟩
         rw [HLB.out]
         have HB1 := Lib.hid (HB0.out.trans (hb1.mono HB0.out.size))
         have HZ1 := Lib.hid ((hb1.block z HZL.out).trans HZ0.out)
         have HZL1 := Lib.hid (Nat.lt_of_lt_of_le HZL.out hb1.size)
         clear hb1)
      | (go_at_call 11; refine (awake08_any W1 (HG.out.next HB1.out)).mono ?_; rintro e W7 ⟨hb7, rfl⟩
         have HB7 := Lib.hid (HB1.out.trans (hb7.mono HB1.out.size))
         clear hb7))
    go_ret
    exact ⟨rfl, HB7.out⟩
  obtain ⟨k1, k2, k3, k4⟩ := lightB_lens hlb
  dsimp only at k1 k2 k3 k4
  have HLB := Lib.hid hlb
  have HK1 := Lib.hid (show os.length ≤ 1099511627776 by omega); have HK2 := Lib.hid (show ds.length ≤ 1099511627776 by omega); have HK3 := Lib.hid (show ps.length ≤ 1099511627776 by omega); have HK4 := Lib.hid (show cs.length ≤ 1099511627776 by omega); have HK34 := Lib.hid (show ps.length + cs.length ≤ 1099511627776 by omega)
  have HK60 := Lib.hid k1
  clear hlb k1 k2 k3 k4
  rcases Bool.eq_false_or_eq_true (rightB (k, (n, ds, au, os), (ps, cs, a2, ms, st))) with hrb | hrb
  rotate_left
  · have HRB := Lib.hid hrb
    clear hrb
    go_enter Tryd.func5, Tryd.ntmps5
    go_upto_region 1 with (first
      | (with_reducible refine at_box ?_
         refine wp_boxM (by rfl) 29 _ rfl [.int .u8 (k.toNat : Int), .int .i64 n, .slice Ad ds.length cd, .string au, .slice Ao os.length co, .slice Ap ps.length cp, .slice Ac cs.length cc, .string a2, .string ms, .int .i64 st] _ rfl rfl (by kernel_rfl) ?_
         intro W0 hb0 hz0 hs0
         have HB0 := Lib.hid hb0; have HZ0 := Lib.hid hz0; have HS0 := Lib.hid hs0
         clear hb0 hz0 hs0))
    obtain ⟨z, hz⟩ : ∃ z, w.heap.size = z := ⟨_, rfl⟩
    have HZL := Lib.hid (show z < W0.heap.size by have := HS0.out; omega)
    rw [hz] at HZ0 ⊢
    try simp only [Act.put, List.setIfInBounds_toArray, List.set_cons_zero, List.set_cons_succ]
    clear hz HS0
    go_upto_region 1 with (first
      | (with_reducible refine at_load ?_
         refine wp_val (by rfl) (ex_load 29 _ rfl (p := ⟨z, 0, none⟩) rfl (load_obj HZ0.out rfl)) ?_)
      | (go_at_call 7; refine (light_any (k, (n, ds, au, os), (ps, cs, a2, ms, st)) _ W0 (HIN.out.keep HB0.out |>.more HB0.out.size)).mono ?_; rintro e W1 ⟨hb1, rfl⟩
         rw [HLB.out]
         have HB1 := Lib.hid (HB0.out.trans (hb1.mono HB0.out.size))
         have HZ1 := Lib.hid ((hb1.block z HZL.out).trans HZ0.out)
         have HZL1 := Lib.hid (Nat.lt_of_lt_of_le HZL.out hb1.size)
         clear hb1))
    go_wp2_with (first
      | (with_reducible refine at_load ?_
         refine wp_val (by rfl) (ex_load 29 _ rfl (p := ⟨z, 0, none⟩) rfl (load_obj HZ0.out rfl)) ?_)
      | (go_at_call 7; refine (light_any (k, (n, ds, au, os), (ps, cs, a2, ms, st)) _ W0 (HIN.out.keep HB0.out |>.more HB0.out.size)).mono ?_; rintro e W1 ⟨hb1, rfl⟩
         rw [HLB.out]
         have HB1 := Lib.hid (HB0.out.trans (hb1.mono HB0.out.size))
         have HZ1 := Lib.hid ((hb1.block z HZL.out).trans HZ0.out)
         have HZL1 := Lib.hid (Nat.lt_of_lt_of_le HZL.out hb1.size)
         clear hb1)
      | (with_reducible refine at_load ?_
         refine wp_val (by rfl) (ex_load 29 _ rfl (p := ⟨z, 0, none⟩) rfl (load_obj HZ1.out rfl)) ?_)
      | (go_at_call 12; refine (right_any (k, (n, ds, au, os), (ps, cs, a2, ms, st)) _ W1.heap.size W1 (HIN.out.keep HB1.out |>.more HB1.out.size) (Nat.le_refl _) HK2.out HK1.out HK3.out HK4.out (HG.out.next HB1.out)).mono ?_; rintro e W2 ⟨hb2, rfl⟩
         rw [HRB.out]
         have HB2 := Lib.hid (HB1.out.trans (hb2.mono HB1.out.size))
         have HZ2 := Lib.hid ((hb2.block z HZL1.out).trans HZ1.out)
         have HZL2 := Lib.hid (Nat.lt_of_lt_of_le HZL1.out hb2.size)
         clear hb2)
      | (go_at_call 11; refine (awake08_any W2 (HG.out.next HB2.out)).mono ?_; rintro e W7 ⟨hb7, rfl⟩
         have HB7 := Lib.hid (HB2.out.trans (hb7.mono HB2.out.size))
         clear hb7))
    go_ret
    exact ⟨rfl, HB7.out⟩
  have HRB := Lib.hid hrb
  have HSZN := Lib.hid (show szL os ≤ 1099511627776 by
    rcases right_names hrb with q | ⟨_, q⟩
    · have q' : os = [] := q
      rw [q']; decide
    · have h1 := szL_few q
      have h2 := HK60.out
      dsimp only at h1
      omega)
  have HSZL := Lib.hid (show szL os ≤ 4611686018427387904 by have := HSZN.out; omega)
  have HNM0 := Lib.hid (show ∀ (i : Nat) (hi : i < os.length) (r : RefD), r = os[i].2.1 ∨ r = os[i].2.2.1 → (r.1 ≠ zero32 → r.1 ∈ linksL (k, (n, ds, au, os), (ps, cs, a2, ms, st))) ∧ (r.1 = zero32 → 0 ≤ r.2 ∧ r.2 ≤ (szL os : Int)) from fun i hi r hr => by
    rcases right_names hrb with q | ⟨q1, q⟩
    · have q' : os = [] := q
      subst q'
      exact absurd hi (by simp)
    · have h1 := names_any q hi hr
      have e1 : linksL (k, (n, ds, au, os), (ps, cs, a2, ms, st)) = ds := by unfold linksL; rw [if_pos q1]
      rw [e1]
      exact h1)
  clear hrb
  go_enter Tryd.func5, Tryd.ntmps5
  go_upto_region 1 with (first
    | (with_reducible refine at_box ?_
       refine wp_boxM (by rfl) 29 _ rfl [.int .u8 (k.toNat : Int), .int .i64 n, .slice Ad ds.length cd, .string au, .slice Ao os.length co, .slice Ap ps.length cp, .slice Ac cs.length cc, .string a2, .string ms, .int .i64 st] _ rfl rfl (by kernel_rfl) ?_
       intro W0 hb0 hz0 hs0
       have HB0 := Lib.hid hb0; have HZ0 := Lib.hid hz0; have HS0 := Lib.hid hs0
       clear hb0 hz0 hs0))
  obtain ⟨z, hz⟩ : ∃ z, w.heap.size = z := ⟨_, rfl⟩
  have HZL := Lib.hid (show z < W0.heap.size by have := HS0.out; omega)
  rw [hz] at HZ0 ⊢
  try simp only [Act.put, List.setIfInBounds_toArray, List.set_cons_zero, List.set_cons_succ]
  clear hz HS0
  go_upto_region 3 with (first
    | (with_reducible refine at_load ?_
       refine wp_val (by rfl) (ex_load 29 _ rfl (p := ⟨z, 0, none⟩) rfl (load_obj HZ0.out rfl)) ?_)
    | (go_at_call 7; refine (light_any (k, (n, ds, au, os), (ps, cs, a2, ms, st)) _ W0 (HIN.out.keep HB0.out |>.more HB0.out.size)).mono ?_; rintro e W1 ⟨hb1, rfl⟩
       rw [HLB.out]
       have HB1 := Lib.hid (HB0.out.trans (hb1.mono HB0.out.size))
       have HZ1 := Lib.hid ((hb1.block z HZL.out).trans HZ0.out)
       have HZL1 := Lib.hid (Nat.lt_of_lt_of_le HZL.out hb1.size)
       clear hb1)
    | (with_reducible refine at_load ?_
       refine wp_val (by rfl) (ex_load 29 _ rfl (p := ⟨z, 0, none⟩) rfl (load_obj HZ1.out rfl)) ?_)
    | (go_at_call 12; refine (right_any (k, (n, ds, au, os), (ps, cs, a2, ms, st)) _ W1.heap.size W1 (HIN.out.keep HB1.out |>.more HB1.out.size) (Nat.le_refl _) HK2.out HK1.out HK3.out HK4.out (HG.out.next HB1.out)).mono ?_; rintro e W2 ⟨hb2, rfl⟩
       rw [HRB.out]
       have HB2 := Lib.hid (HB1.out.trans (hb2.mono HB1.out.size))
       have HZ2 := Lib.hid ((hb2.block z HZL1.out).trans HZ1.out)
       have HZL2 := Lib.hid (Nat.lt_of_lt_of_le HZL1.out hb2.size)
       clear hb2))
  go_upto_region 4 with (first
    | (with_reducible refine at_load ?_
       refine wp_val (by rfl) (ex_load 29 _ rfl (p := ⟨z, 0, none⟩) rfl (load_obj HZ2.out rfl)) ?_)
    | (go_at_call 13; refine (links_any (k, (n, ds, au, os), (ps, cs, a2, ms, st)) _ W2 (HIN.out.keep HB2.out |>.more HB2.out.size) HCAP.out HK2.out HK34.out).mono ?_; rintro e W3 ⟨hb3, l, Al, cl, rfl, hl1, hl2, hl3, hl4⟩
       have HB3 := Lib.hid (HB2.out.trans (hb3.mono HB2.out.size))
       have HZ3 := Lib.hid ((hb3.block z HZL2.out).trans HZ2.out)
       have HZL3 := Lib.hid (Nat.lt_of_lt_of_le HZL2.out hb3.size)
       have HL := Lib.hid hl1; have HLS := Lib.hid hl3; have HLM := Lib.hid hl4
       clear hb3 hl1 hl2 hl3 hl4))
  go_upto_region 5 with (first
    | (with_reducible refine at_load ?_
       refine wp_val (by rfl) (ex_load 25 _ rfl (p := ⟨z, 1, none⟩) rfl (run_loadVar_mid _ _ _ _ [.int .i64 n, .slice Ad ds.length cd, .string au, .slice Ao os.length co] _ (fun j u hj => (cells_at0 HZ3.out (1 + j)).trans (mid1 hj)) Tryd.underlying25 rfl (by kernel_rfl))) ?_)
    | (go_at_call 14; refine (size_any (n, ds, au, os) _ W3 ((HCH.out.keep HB3.out).more HB3.out.size) HK1.out HSZL.out).mono ?_; rintro e W4 ⟨hb4, rfl⟩
       have HB4 := Lib.hid (HB3.out.trans (hb4.mono HB3.out.size))
       have HZ4 := Lib.hid ((hb4.block z HZL3.out).trans HZ3.out)
       have HZL4 := Lib.hid (Nat.lt_of_lt_of_le HZL3.out hb4.size)
       have HL4 := Lib.hid ((HL.out.keep hb4).more hb4.size)
       clear hb4))
  have c4 : ∀ u : World, Below W4.heap.size W4 u → u.cell? ⟨z, 4, none⟩ = some (.slice Ao os.length co) := fun u hu => (hu.cell HZL4.out).trans (cells_at0 HZ4.out 4)
  have HC4 := Lib.hid c4
  have HLN := Lib.hid (show l.length ≤ 1099511627776 from Nat.le_trans (set_length_le HLS.out fun x hx => (HLM.out x).1 hx) (by
    unfold linksL
    split
    · exact HK2.out
    · split
      · show (ps ++ cs).length ≤ _
        rw [List.length_append]; exact HK34.out
      · exact Nat.zero_le _))
  have HLO := Lib.hid (show IdsOk l from fun i hi => by
    have h1 := (HLM.out i).1 hi
    unfold linksL at h1
    split at h1
    · exact HOD.out i h1
    · split at h1
      · rcases List.mem_append.1 h1 with q | q
        · exact HIN.out.ok.2.1 i q
        · exact HIN.out.ok.2.2.1 i q
      · cases h1)
  have HMM := Lib.hid (show ∀ x, x ∈ linksL (k, (n, ds, au, os), (ps, cs, a2, ms, st)) → x ∈ l from fun x hx => (HLM.out x).2 hx)
  clear c4 HZ0 HZ1 HZ2 HZ3 HZ4 HZL HZL1 HZL2 HZL3 HB0 HB1 HB2 HB3 HL HCH HLB HRB HLM
  go_wp2_with fail
  go_loopw [5] (fun t wr => ∃ i : Nat, i ≤ os.length ∧ t = .int .i64 (i : Int) ∧ Hid (Below W4.heap.size W4 wr)) (fun t _ => os.length - (intOf t).toNat)
  case atStart => exact ⟨0, Nat.zero_le _, rfl, Lib.hid (Below.refl _ _)⟩
  case round =>
    obtain ⟨i, hi, rfl, HBR⟩ := hrel
    have c4 := HC4.out wr HBR.out
    have hk1 := HK1.out
    by_cases hlt : i < os.length
    · have i1 : (i : Int) < (os.length : Int) := by omega
      have i0 : (0 : Int) ≤ (i : Int) := by omega
      obtain ⟨wo, hwo⟩ : ∃ wo : World, wo = wr := ⟨_, rfl⟩
      subst hwo
      go_wp2_with fail
      go_loopw [6] (fun t wr => ∃ j : Nat, j ≤ 2 ∧ t = .int .i64 (j : Int) ∧ Hid (Below W4.heap.size W4 wr)) (fun t _ => 2 - (intOf t).toNat)
      case atStart => exact ⟨0, Nat.zero_le _, rfl, HBR⟩
      case round =>
        clear c4 HBR
        obtain ⟨j, hj, rfl, HBR⟩ := hrel
        have c4 := HC4.out wr HBR.out
        obtain ⟨b, off, rfl, hbl, hcl⟩ := ((HSO.out.keep HB4.out).keep (HBR.out.mono HB4.out.size)).2 (by omega)
        have HBLT := Lib.hid (show b < W4.heap.size from Nat.lt_of_lt_of_le hbl HB4.out.size)
        have HROW := Lib.hid (Sl.row (fun x hx => opV_length (HOP.out x hx)) hcl hlt)
        have HX := Lib.hid (HOP.out _ (List.getElem_mem hlt))
        have HNMD := Lib.hid (HNM0.out i hlt _ (.inl rfl))
        have HNMA := Lib.hid (HNM0.out i hlt _ (.inr rfl))
        clear hcl hbl
        generalize os[i] = x at *
        have HOC := Lib.hid (op_cells HX.out)
        have HRD := Lib.hid (show ∀ j u, (refV x.2.1)[j]? = some u → wr.cell? ⟨b, off + i * 70 + 1 + j, none⟩ = some u from fun j u hj => by rw [Nat.add_assoc]; exact HROW.out (1 + j) u (HOC.out.2.1 j u hj))
        have HRKD := Lib.hid HX.out.1.1
        have HRKA := Lib.hid HX.out.1.2.1
        obtain ⟨zr, hzr⟩ : ∃ z, wr.heap.size = z := ⟨_, rfl⟩
        have HZR := Lib.hid (show W4.heap.size ≤ zr by rw [← hzr]; exact HBR.out.size)
        by_cases hj2 : j < 2
        · by_cases hj0 : j = 0
          · have j1 : (j : Int) < 2 := by omega
            have j2 : ((j : Int) == 1) = false := by rw [beq_eq_false_iff_ne]; omega
            obtain ⟨r, hr⟩ : ∃ r, x.2.1 = r := ⟨_, rfl⟩
            rw [hr] at HRD HRKD HNMD
            have HRK := HRKD; have HNM := HNMD
            have HJ0 := Lib.hid hj0
            clear hj0 hr HRKA HNMA HROW HOC
            go_upto_region 12 with (first
              | (with_reducible refine at_load ?_
                 refine wp_loadN rfl 47 _ rfl b _ rfl (refV r) _ HRD.out Tryd.underlying47 rfl (by rw [refV_length HRK.out]; exact sizeRef8) ?_)
              | (with_reducible refine at_alloc ?_
                 refine wp_allocM (by rfl) 47 rfl (refV zeroRef) (zeroRef_run8 _) ?_
                 intro Wa hba hya hsa
                 have HBa := Lib.hid hba; have HYa := Lib.hid hya; have HSa := Lib.hid hsa
                 clear hba hya hsa)
              | (with_reducible refine at_store ?_
                 refine wp_storeM (by rfl) 47 _ _ rfl wr.heap.size 0 [] (refV zeroRef) [] (refV r) 47 _ rfl rfl rfl rfl (by simpa using HYa.out) (by rw [refV_length HRK.out]; exact refV_length (by first | exact zeroRef_ok | exact HRK0.out)) (by rw [refV_length HRK.out]; exact sizeRef8) (refV_one _) ?_
                 intro Wb hbb hyb hsb
                 have HBBWb := Lib.hid (HBa.out.trans (hbb.below HBa.out.size (fun k hk e => by have e' : k = wr.heap.size := e; omega)))
                 have HYBWb : Hid (Wb.heap[wr.heap.size]? = some (.cells (refV r).toArray 47 (0, 0))) := Lib.hid (by simpa using hyb)
                 clear hbb hyb hsb))
            have HZRL := Lib.hid (show wr.heap.size < Wb.heap.size from (Array.getElem?_eq_some_iff.1 HYBWb.out).1)
            have HBW := Lib.hid (HBR.out.trans (HBBWb.out.mono HBR.out.size))
            have HYR := HYBWb
            rw [hzr] at HYR HZRL ⊢
            try simp only [Act.put, List.setIfInBounds_toArray, List.set_cons_zero, List.set_cons_succ]
            clear hzr HBa HYa HSa HBBWb HYBWb HRD
            have hjs : j + 1 ≤ 2 := by omega
            by_cases hz : r.1 = zero32
            · have EQ := Lib.hid (fun (u : World) => (run_eqId HRK.out.1 zero32_ok u).trans (by rw [decide_eq_true hz]))
              obtain ⟨hi0, hi1⟩ := HNM.out.2 hz
              have hg0 : decide (r.2 < 0) = false := by simp; omega
              have hg1 : decide ((szL os : Int) < r.2) = false := by simp; omega
              obtain ⟨th, hth⟩ : ∃ t, (isSetB l && decide (r.1 ∈ l)) = t := ⟨_, rfl⟩
              have HTH := Lib.hid hth
              clear hth
              clear hz
              go_upto_region 15 with (first
                | (with_reducible refine at_load ?_
                   refine wp_val (by rfl) (ex_load 45 _ rfl (p := ⟨zr, 0, none⟩) rfl (run_loadVar_mid _ _ _ _ (idV r.1) _ (fun j u hj => (cells_at0 HYR.out (0 + j)).trans (by rw [Nat.zero_add]; exact (ref_cells HRK.out).1 j u hj)) Tryd.underlying45 rfl (by rw [idV_length, show r.1.length = 32 from HRK.out.1]; exact sizeId2))) ?_)
                | (go_at_call 15; refine (find_any l r.1 Al cl Wb HLN.out HLO.out HRK.out.1 ((HL4.out.keep HBW.out).more HBW.out.size)).mono ?_; rintro e W6 hf
                   obtain ⟨hb6, q, rfl, hq1, hq2⟩ := hf
                   rw [HTH.out]
                   have HB6 := Lib.hid (HBW.out.trans (hb6.mono HBW.out.size))
                   have HY6 := Lib.hid ((hb6.block zr HZRL.out).trans HYR.out)
                   clear hb6 hq1 hq2))
              have c32 : W6.cell? ⟨zr, 32, none⟩ = some (.int .i64 r.2) := (cells_at0 HY6.out 32).trans (ref_cells HRK.out).2
              go_wp2_with (first
                | (with_reducible refine at_load ?_
                   refine wp_val (by rfl) (ex_load 45 _ rfl (p := ⟨zr, 0, none⟩) rfl (run_loadVar_mid _ _ _ _ (idV r.1) _ (fun j u hj => (cells_at0 HY6.out (0 + j)).trans (by rw [Nat.zero_add]; exact (ref_cells HRK.out).1 j u hj)) Tryd.underlying45 rfl (by rw [idV_length, show r.1.length = 32 from HRK.out.1]; exact sizeId2))) ?_)
                | (with_reducible refine at_build ?_
                   refine wp_val (by rfl) (ex_build 45 #[] rfl (zeroId_built _)) ?_)
                | (with_reducible refine at_binOp ?_
                   refine wp_val (by rfl) (ex_neq 45 _ _ _ rfl (xs := (idV r.1).toArray) (ys := (idV zero32).toArray) rfl rfl (r := true) eqId.noGuard (EQ.out _)) ?_
                   simp only [Act.put, List.setIfInBounds_toArray, List.set_cons_zero, List.set_cons_succ, Bool.not_true, Bool.not_false])
                | (with_reducible refine at_binOp ?_
                   refine wp_val (by rfl) (ex_eql 45 _ _ _ rfl (xs := (idV r.1).toArray) (ys := (idV zero32).toArray) rfl rfl (r := true) eqId.noGuard (EQ.out _)) ?_
                   simp only [Act.put, List.setIfInBounds_toArray, List.set_cons_zero, List.set_cons_succ, Bool.not_true, Bool.not_false]))
              go_roundw
              case rel => exact ⟨j + 1, by omega, by go_num, HB6⟩
              case measure => (simp [intOf]) <;> omega
            · have EQ := Lib.hid (fun (u : World) => (run_eqId HRK.out.1 zero32_ok u).trans (by rw [decide_eq_false hz]))
              have HTH : Hid ((isSetB l && decide (r.1 ∈ l)) = true) := Lib.hid (by rw [HLS.out]; simpa using HMM.out _ (HNM.out.1 hz))
              clear hz
              go_upto_region 15 with (first
                | (with_reducible refine at_load ?_
                   refine wp_val (by rfl) (ex_load 45 _ rfl (p := ⟨zr, 0, none⟩) rfl (run_loadVar_mid _ _ _ _ (idV r.1) _ (fun j u hj => (cells_at0 HYR.out (0 + j)).trans (by rw [Nat.zero_add]; exact (ref_cells HRK.out).1 j u hj)) Tryd.underlying45 rfl (by rw [idV_length, show r.1.length = 32 from HRK.out.1]; exact sizeId2))) ?_)
                | (go_at_call 15; refine (find_any l r.1 Al cl Wb HLN.out HLO.out HRK.out.1 ((HL4.out.keep HBW.out).more HBW.out.size)).mono ?_; rintro e W6 hf
                   obtain ⟨hb6, q, rfl, hq1, hq2⟩ := hf
                   rw [HTH.out]
                   have HB6 := Lib.hid (HBW.out.trans (hb6.mono HBW.out.size))
                   have HY6 := Lib.hid ((hb6.block zr HZRL.out).trans HYR.out)
                   clear hb6 hq1 hq2))
              have c32 : W6.cell? ⟨zr, 32, none⟩ = some (.int .i64 r.2) := (cells_at0 HY6.out 32).trans (ref_cells HRK.out).2
              go_wp2_with (first
                | (with_reducible refine at_load ?_
                   refine wp_val (by rfl) (ex_load 45 _ rfl (p := ⟨zr, 0, none⟩) rfl (run_loadVar_mid _ _ _ _ (idV r.1) _ (fun j u hj => (cells_at0 HY6.out (0 + j)).trans (by rw [Nat.zero_add]; exact (ref_cells HRK.out).1 j u hj)) Tryd.underlying45 rfl (by rw [idV_length, show r.1.length = 32 from HRK.out.1]; exact sizeId2))) ?_)
                | (with_reducible refine at_build ?_
                   refine wp_val (by rfl) (ex_build 45 #[] rfl (zeroId_built _)) ?_)
                | (with_reducible refine at_binOp ?_
                   refine wp_val (by rfl) (ex_neq 45 _ _ _ rfl (xs := (idV r.1).toArray) (ys := (idV zero32).toArray) rfl rfl (r := false) eqId.noGuard (EQ.out _)) ?_
                   simp only [Act.put, List.setIfInBounds_toArray, List.set_cons_zero, List.set_cons_succ, Bool.not_true, Bool.not_false])
                | (with_reducible refine at_binOp ?_
                   refine wp_val (by rfl) (ex_eql 45 _ _ _ rfl (xs := (idV r.1).toArray) (ys := (idV zero32).toArray) rfl rfl (r := false) eqId.noGuard (EQ.out _)) ?_
                   simp only [Act.put, List.setIfInBounds_toArray, List.set_cons_zero, List.set_cons_succ, Bool.not_true, Bool.not_false]))
              go_roundw
              case rel => exact ⟨j + 1, by omega, by go_num, HB6⟩
              case measure => (simp [intOf]) <;> omega
          · have hj1 : j = 1 := by omega
            have j1 : (j : Int) < 2 := by omega
            have j2 : ((j : Int) == 1) = true := by rw [hj1]; rfl
            have HJ0 := Lib.hid hj1
            clear hj0 hj1
            obtain ⟨r0, hr0⟩ : ∃ r, x.2.1 = r := ⟨_, rfl⟩
            obtain ⟨r, hr⟩ : ∃ r, x.2.2.1 = r := ⟨_, rfl⟩
            have HRA := Lib.hid (show ∀ j u, (refV x.2.2.1)[j]? = some u → wr.cell? ⟨b, off + i * 70 + 34 + j, none⟩ = some u from fun j u hj => by rw [Nat.add_assoc]; exact HROW.out (34 + j) u (HOC.out.2.2.1 j u hj))
            rw [hr0] at HRD HRKD
            rw [hr] at HRA HRKA HNMA
            have HNM := HNMA
            have HRK0 := HRKD
            clear hr hr0 HNMD HROW HOC
            go_upto_region 12 with (first
              | (with_reducible refine at_load ?_
                 refine wp_loadN rfl 47 _ rfl b _ rfl (refV r0) _ HRD.out Tryd.underlying47 rfl (by rw [refV_length HRK0.out]; exact sizeRef8) ?_)
              | (with_reducible refine at_alloc ?_
                 refine wp_allocM (by rfl) 47 rfl (refV zeroRef) (zeroRef_run8 _) ?_
                 intro Wa hba hya hsa
                 have HBa := Lib.hid hba; have HYa := Lib.hid hya; have HSa := Lib.hid hsa
                 clear hba hya hsa)
              | (with_reducible refine at_store ?_
                 refine wp_storeM (by rfl) 47 _ _ rfl wr.heap.size 0 [] (refV zeroRef) [] (refV r0) 47 _ rfl rfl rfl rfl (by simpa using HYa.out) (by rw [refV_length HRK0.out]; exact refV_length (by first | exact zeroRef_ok | exact HRK0.out)) (by rw [refV_length HRK0.out]; exact sizeRef8) (refV_one _) ?_
                 intro Wb hbb hyb hsb
                 have HBBWb := Lib.hid (HBa.out.trans (hbb.below HBa.out.size (fun k hk e => by have e' : k = wr.heap.size := e; omega)))
                 have HYBWb : Hid (Wb.heap[wr.heap.size]? = some (.cells (refV r0).toArray 47 (0, 0))) := Lib.hid (by simpa using hyb)
                 clear hbb hyb hsb))
            have HRK := HRKA
            have HZRB := Lib.hid (show wr.heap.size < Wb.heap.size from (Array.getElem?_eq_some_iff.1 HYBWb.out).1)
            have HBW0 := Lib.hid (HBR.out.trans (HBBWb.out.mono HBR.out.size))
            have HRA2 := Lib.hid (show ∀ j u, (refV r)[j]? = some u → Wb.cell? ⟨b, off + i * 70 + 34 + j, none⟩ = some u from fun j u hj => ((HBBWb.out.mono HBR.out.size).cell (p := ⟨b, off + i * 70 + 34 + j, none⟩) HBLT.out).trans (HRA.out j u hj))
            have c4b := HC4.out Wb HBW0.out
            have HYB0 := HYBWb
            rw [hzr] at HYB0 HZRB ⊢
            try simp only [Act.put, List.setIfInBounds_toArray, List.set_cons_zero, List.set_cons_succ]
            clear hzr HBa HYa HSa HBBWb HYBWb HRD c4
            go_upto_region 14 with (first
              | (with_reducible refine at_load ?_
                 refine wp_loadN rfl 47 _ rfl b _ rfl (refV r) _ HRA2.out Tryd.underlying47 rfl (by rw [refV_length HRK.out]; exact sizeRef8) ?_)
              | (with_reducible refine at_store ?_
                 refine wp_storeM (by rfl) 47 _ _ rfl zr 0 [] (refV r0) [] (refV r) 47 _ rfl rfl rfl rfl (by simpa using HYB0.out) (by rw [refV_length HRK.out]; exact refV_length (by first | exact zeroRef_ok | exact HRK0.out)) (by rw [refV_length HRK.out]; exact sizeRef8) (refV_one _) ?_
                 intro Wc hbb hyb hsb
                 have HBBWc := Lib.hid (HBW0.out.trans (hbb.below HBW0.out.size (fun k hk e => by have e' : k = zr := e; have h9 := HZR.out; omega)))
                 have HYBWc : Hid (Wc.heap[zr]? = some (.cells (refV r).toArray 47 (0, 0))) := Lib.hid (by simpa using hyb)
                 clear hbb hyb hsb))
            have HZRL := Lib.hid (show zr < Wc.heap.size from (Array.getElem?_eq_some_iff.1 HYBWc.out).1)
            have HBW := HBBWc
            have HYR := HYBWc
            try simp only [Act.put, List.setIfInBounds_toArray, List.set_cons_zero, List.set_cons_succ]
            clear HYBWc HBBWc HRA HRA2 HYB0
            have hjs : j + 1 ≤ 2 := by omega
            by_cases hz : r.1 = zero32
            · have EQ := Lib.hid (fun (u : World) => (run_eqId HRK.out.1 zero32_ok u).trans (by rw [decide_eq_true hz]))
              obtain ⟨hi0, hi1⟩ := HNM.out.2 hz
              have hg0 : decide (r.2 < 0) = false := by simp; omega
              have hg1 : decide ((szL os : Int) < r.2) = false := by simp; omega
              obtain ⟨th, hth⟩ : ∃ t, (isSetB l && decide (r.1 ∈ l)) = t := ⟨_, rfl⟩
              have HTH := Lib.hid hth
              clear hth
              clear hz
              go_upto_region 15 with (first
                | (with_reducible refine at_load ?_
                   refine wp_val (by rfl) (ex_load 45 _ rfl (p := ⟨zr, 0, none⟩) rfl (run_loadVar_mid _ _ _ _ (idV r.1) _ (fun j u hj => (cells_at0 HYR.out (0 + j)).trans (by rw [Nat.zero_add]; exact (ref_cells HRK.out).1 j u hj)) Tryd.underlying45 rfl (by rw [idV_length, show r.1.length = 32 from HRK.out.1]; exact sizeId2))) ?_)
                | (go_at_call 15; refine (find_any l r.1 Al cl Wc HLN.out HLO.out HRK.out.1 ((HL4.out.keep HBW.out).more HBW.out.size)).mono ?_; rintro e W6 hf
                   obtain ⟨hb6, q, rfl, hq1, hq2⟩ := hf
                   rw [HTH.out]
                   have HB6 := Lib.hid (HBW.out.trans (hb6.mono HBW.out.size))
                   have HY6 := Lib.hid ((hb6.block zr HZRL.out).trans HYR.out)
                   clear hb6 hq1 hq2))
              have c32 : W6.cell? ⟨zr, 32, none⟩ = some (.int .i64 r.2) := (cells_at0 HY6.out 32).trans (ref_cells HRK.out).2
              go_wp2_with (first
                | (with_reducible refine at_load ?_
                   refine wp_val (by rfl) (ex_load 45 _ rfl (p := ⟨zr, 0, none⟩) rfl (run_loadVar_mid _ _ _ _ (idV r.1) _ (fun j u hj => (cells_at0 HY6.out (0 + j)).trans (by rw [Nat.zero_add]; exact (ref_cells HRK.out).1 j u hj)) Tryd.underlying45 rfl (by rw [idV_length, show r.1.length = 32 from HRK.out.1]; exact sizeId2))) ?_)
                | (with_reducible refine at_build ?_
                   refine wp_val (by rfl) (ex_build 45 #[] rfl (zeroId_built _)) ?_)
                | (with_reducible refine at_binOp ?_
                   refine wp_val (by rfl) (ex_neq 45 _ _ _ rfl (xs := (idV r.1).toArray) (ys := (idV zero32).toArray) rfl rfl (r := true) eqId.noGuard (EQ.out _)) ?_
                   simp only [Act.put, List.setIfInBounds_toArray, List.set_cons_zero, List.set_cons_succ, Bool.not_true, Bool.not_false])
                | (with_reducible refine at_binOp ?_
                   refine wp_val (by rfl) (ex_eql 45 _ _ _ rfl (xs := (idV r.1).toArray) (ys := (idV zero32).toArray) rfl rfl (r := true) eqId.noGuard (EQ.out _)) ?_
                   simp only [Act.put, List.setIfInBounds_toArray, List.set_cons_zero, List.set_cons_succ, Bool.not_true, Bool.not_false]))
              go_roundw
              case rel => exact ⟨j + 1, by omega, by go_num, HB6⟩
              case measure => (simp [intOf]) <;> omega
            · have EQ := Lib.hid (fun (u : World) => (run_eqId HRK.out.1 zero32_ok u).trans (by rw [decide_eq_false hz]))
              have HTH : Hid ((isSetB l && decide (r.1 ∈ l)) = true) := Lib.hid (by rw [HLS.out]; simpa using HMM.out _ (HNM.out.1 hz))
              clear hz
              go_upto_region 15 with (first
                | (with_reducible refine at_load ?_
                   refine wp_val (by rfl) (ex_load 45 _ rfl (p := ⟨zr, 0, none⟩) rfl (run_loadVar_mid _ _ _ _ (idV r.1) _ (fun j u hj => (cells_at0 HYR.out (0 + j)).trans (by rw [Nat.zero_add]; exact (ref_cells HRK.out).1 j u hj)) Tryd.underlying45 rfl (by rw [idV_length, show r.1.length = 32 from HRK.out.1]; exact sizeId2))) ?_)
                | (go_at_call 15; refine (find_any l r.1 Al cl Wc HLN.out HLO.out HRK.out.1 ((HL4.out.keep HBW.out).more HBW.out.size)).mono ?_; rintro e W6 hf
                   obtain ⟨hb6, q, rfl, hq1, hq2⟩ := hf
                   rw [HTH.out]
                   have HB6 := Lib.hid (HBW.out.trans (hb6.mono HBW.out.size))
                   have HY6 := Lib.hid ((hb6.block zr HZRL.out).trans HYR.out)
                   clear hb6 hq1 hq2))
              have c32 : W6.cell? ⟨zr, 32, none⟩ = some (.int .i64 r.2) := (cells_at0 HY6.out 32).trans (ref_cells HRK.out).2
              go_wp2_with (first
                | (with_reducible refine at_load ?_
                   refine wp_val (by rfl) (ex_load 45 _ rfl (p := ⟨zr, 0, none⟩) rfl (run_loadVar_mid _ _ _ _ (idV r.1) _ (fun j u hj => (cells_at0 HY6.out (0 + j)).trans (by rw [Nat.zero_add]; exact (ref_cells HRK.out).1 j u hj)) Tryd.underlying45 rfl (by rw [idV_length, show r.1.length = 32 from HRK.out.1]; exact sizeId2))) ?_)
                | (with_reducible refine at_build ?_
                   refine wp_val (by rfl) (ex_build 45 #[] rfl (zeroId_built _)) ?_)
                | (with_reducible refine at_binOp ?_
                   refine wp_val (by rfl) (ex_neq 45 _ _ _ rfl (xs := (idV r.1).toArray) (ys := (idV zero32).toArray) rfl rfl (r := false) eqId.noGuard (EQ.out _)) ?_
                   simp only [Act.put, List.setIfInBounds_toArray, List.set_cons_zero, List.set_cons_succ, Bool.not_true, Bool.not_false])
                | (with_reducible refine at_binOp ?_
                   refine wp_val (by rfl) (ex_eql 45 _ _ _ rfl (xs := (idV r.1).toArray) (ys := (idV zero32).toArray) rfl rfl (r := false) eqId.noGuard (EQ.out _)) ?_
                   simp only [Act.put, List.setIfInBounds_toArray, List.set_cons_zero, List.set_cons_succ, Bool.not_true, Bool.not_false]))
              go_roundw
              case rel => exact ⟨j + 1, by omega, by go_num, HB6⟩
              case measure => (simp [intOf]) <;> omega
        · have j1 : ¬ (j : Int) < 2 := by omega
          clear hzr
          go_wp2_with fail
          go_roundw
          case rel => exact ⟨i + 1, by omega, by go_num, HBR⟩
          case measure => (simp [intOf]) <;> omega
    · have i1 : ¬ (i : Int) < (os.length : Int) := by omega
      go_wp2_with (first
        | (go_at_call 16; refine (isSet_any l Al cl wr HLN.out HLO.out ((HL4.out.keep HBR.out).more HBR.out.size)).mono ?_; rintro e W5 ⟨hb5, rfl⟩
           rw [HLS.out]
           have HB5 := Lib.hid (HB4.out.trans ((HBR.out.trans (hb5.mono HBR.out.size)).mono HB4.out.size))
           clear hb5)
        | (go_at_call 11; refine (awake08_any W5 (HG.out.next HB5.out)).mono ?_; rintro e W7 ⟨hb7, rfl⟩
           have HB7 := Lib.hid (HB5.out.trans (hb7.mono HB5.out.size))
           clear hb7))
      go_ret
      exact ⟨rfl, HB7.out⟩
end Go.Proofs.YthjaepmfkgejkaaDoor.objectNames
