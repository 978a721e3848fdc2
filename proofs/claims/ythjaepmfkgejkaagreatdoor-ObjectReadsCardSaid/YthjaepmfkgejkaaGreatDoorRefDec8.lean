/-
  The document's Decode. Conditions: the bytes' slice is one.
-/
import Derived.Test.YthjaepmfkgejkaaGreatDoorRefDecC8
set_option linter.unusedVariables false
set_option linter.unusedSimpArgs false
set_option maxHeartbeats 4000000
set_option maxRecDepth 100000
namespace Go.Proofs.YthjaepmfkgejkaaGreatDoor
open Lib (hid)
open Go.RowKit Go.Maps
theorem Uw (l : List UInt8) (A : Option Addr) (c : Nat) (w : World) (hs : Sl w w.heap.size A l.length 1 (idV l)) (hc : l.length ≤ c) (hl : l.length ≤ 1099511627776) :
    Calls Tryz.prog 7 #[.slice A l.length c] w (ObjDec l w) := by
  have HS := hid hs
  clear hs
  by_cases hlong : 262144 < l.length
  ·
   have i1 : (262144 : Int) < (l.length : Int) := by omega
   have HWH := hid (JQ hlong)
   go_enter Tryz.func7, Tryz.ntmps7
   go_upto_region 1 with (first
     | (with_reducible refine kG ?_
        refine kE (by rfl) 30 rfl objZ (jt _) ?_
        intro W0 hb0 hz0 hs0
        have HB0 := hid hb0; have HZ0 := hid hz0; have HQ0 := hid hs0
        clear hb0 hz0 hs0))
   obtain ⟨z2, hz2⟩ : ∃ z, w.heap.size = z := ⟨_, rfl⟩
   have HZR : Hid (W0.heap[z2]? = some (.cells objZ.toArray 30 (0, 0))) := hid (by rw [← hz2]; exact HZ0.out)
   have HN2 := hid (show w.heap.size ≤ z2 by omega)
   rw [hz2] at HQ0 ⊢
   try go_frame
   clear HZ0
   clear hz2 HQ0
   go_wp2_with (first
     | (with_reducible refine kQ ?_
        refine k9 (by rfl) (kF 30 _ rfl (zy _)) ?_)
     | (with_reducible refine ko ?_
        refine kj (by rfl) 30 _ _ rfl z2 0 [] objZ [] objZ 30 (.agg objZ.toArray) rfl rfl rfl rfl (by simpa using HZR.out) rfl (by kernel_rfl) (by unfold objZ; intro u hu; simp only [List.mem_cons, List.not_mem_nil, or_false] at hu; rcases hu with rfl | rfl | rfl | rfl | rfl | rfl | rfl | rfl | rfl | rfl <;> rfl) ?_
        intro W9 hb9 hy9 hs9
        have HB9 := hid hb9
        have HY9 : Hid (W9.heap[z2]? = some (.cells objZ.toArray 30 (0, 0))) := hid (by simpa using hy9)
        clear hb9 hy9 hs9))
   refine bodyPost_ret (jn Tryz.results7 _ _ rfl rfl (zq HY9.out (by rfl))) rfl ?_
   refine ⟨HB0.out.trans (HB9.out.below HB0.out.size fun k hk e => by have := HN2.out; omega), _, by rw [HWH.out]; rfl, by rw [HWH.out]; exact Kr _ _⟩
  ·
   have i1 : ¬ (262144 : Int) < (l.length : Int) := by omega
   by_cases h0 : l.length = 0
   ·
    have i2 : ((l.length : Int) == 0) = true := by rw [beq_iff_eq]; omega
    have HWH := hid (jx hlong (show ji l = none by rw [List.eq_nil_of_length_eq_zero h0]; rfl))
    clear h0
    go_enter Tryz.func7, Tryz.ntmps7
    go_upto_region 1 with (first
      | (with_reducible refine kG ?_
         refine kE (by rfl) 30 rfl objZ (jt _) ?_
         intro W0 hb0 hz0 hs0
         have HB0 := hid hb0; have HZ0 := hid hz0; have HQ0 := hid hs0
         clear hb0 hz0 hs0))
    obtain ⟨z2, hz2⟩ : ∃ z, w.heap.size = z := ⟨_, rfl⟩
    have HZR : Hid (W0.heap[z2]? = some (.cells objZ.toArray 30 (0, 0))) := hid (by rw [← hz2]; exact HZ0.out)
    have HN2 := hid (show w.heap.size ≤ z2 by omega)
    rw [hz2] at HQ0 ⊢
    try go_frame
    clear HZ0
    clear hz2 HQ0
    go_wp2_with (first
      | (with_reducible refine kQ ?_
         refine k9 (by rfl) (kF 30 _ rfl (zy _)) ?_)
      | (with_reducible refine ko ?_
         refine kj (by rfl) 30 _ _ rfl z2 0 [] objZ [] objZ 30 (.agg objZ.toArray) rfl rfl rfl rfl (by simpa using HZR.out) rfl (by kernel_rfl) (by unfold objZ; intro u hu; simp only [List.mem_cons, List.not_mem_nil, or_false] at hu; rcases hu with rfl | rfl | rfl | rfl | rfl | rfl | rfl | rfl | rfl | rfl <;> rfl) ?_
         intro W9 hb9 hy9 hs9
         have HB9 := hid hb9
         have HY9 : Hid (W9.heap[z2]? = some (.cells objZ.toArray 30 (0, 0))) := hid (by simpa using hy9)
         clear hb9 hy9 hs9))
    refine bodyPost_ret (jn Tryz.results7 _ _ rfl rfl (zq HY9.out (by rfl))) rfl ?_
    refine ⟨HB0.out.trans (HB9.out.below HB0.out.size fun k hk e => by have := HN2.out; omega), _, by rw [HWH.out]; rfl, by rw [HWH.out]; exact Kr _ _⟩
   ·
    have i2 : ((l.length : Int) == 0) = false := by rw [beq_eq_false_iff_ne]; omega
    have i3 : (0 : Int) < (l.length : Int) := by omega
    have hl1 : 1 ≤ l.length := by omega
    by_cases h67' : l[0] = 67
    · exact qs l A c w HS.out hc hl hlong hl1 h67'
    obtain ⟨b, off, rfl, hbw, hcl⟩ := HS.out.2 hl1
    have HBY := hid (fun j (hj : j < l.length) => (show w.cell? ⟨b, off + j, none⟩ = some (.int .u8 ((l[j]).toNat : Int)) from hcl j _ (by unfold idV; rw [List.getElem?_map, List.getElem?_eq_getElem hj]; rfl)))
    obtain ⟨k, hk⟩ : ∃ k, l[0] = k := ⟨_, rfl⟩
    have HKE := hid hk
    have HPK : Hid (zX l = some (k, l.drop 1)) := hid (by rw [← hk]; cases l with | nil => exact absurd hl1 (by simp) | cons x t => simp [zX])
    have HPB : Hid (k = 75 → zX l = some (75, l.drop 1)) := hid (by intro e; subst e; rw [← hk]; cases l with | nil => exact absurd hl1 (by simp) | cons x t => simp [zX])
    have h67 : ¬ k = 67 := by rw [← hk]; exact h67'
    clear hcl h0 hk h67'
    go_enter Tryz.func7, Tryz.ntmps7
    go_upto_region 1 with (first
      | (with_reducible refine kG ?_
         refine kE (by rfl) 30 rfl objZ (jt _) ?_
         intro W0 hb0 hz0 hs0
         have HB0 := hid hb0; have HZ0 := hid hz0; have HQ0 := hid hs0
         clear hb0 hz0 hs0))
    obtain ⟨z2, hz2⟩ : ∃ z, w.heap.size = z := ⟨_, rfl⟩
    have HZR : Hid (W0.heap[z2]? = some (.cells objZ.toArray 30 (0, 0))) := hid (by rw [← hz2]; exact HZ0.out)
    have HN2 := hid (show w.heap.size ≤ z2 by omega)
    rw [hz2] at HQ0 ⊢
    try go_frame
    clear HZ0
    go_upto_region 7 with (first
      | (with_reducible refine kG ?_
         refine kE (by rfl) 30 rfl objZ (jt _) ?_
         intro W4 hb4 hz4 hs4
         have HB4 := hid hb4; have HZ4 := hid hz4; have HQ4 := hid hs4
         clear hb4 hz4 hs4)
      | (with_reducible refine kQ ?_
         refine k9 (by rfl) (kF 63 _ rfl (UY _ _ _ _ _)) ?_)
      | (with_reducible refine kH ?_
         refine kA (by rfl) 63 _ rfl [.slice (some ⟨b, off, none⟩) l.length c, .int .i64 1, .bool true] _ rfl rfl (by kernel_rfl) ?_
         intro W5 hb5 hz5 hs5
         have HB5 := hid hb5; have HZ5 := hid hz5; have HQ5 := hid hs5
         clear hb5 hz5 hs5))
    obtain ⟨z4, hz4⟩ : ∃ z, W0.heap.size = z := ⟨_, rfl⟩
    obtain ⟨z5, hz5⟩ : ∃ z, W4.heap.size = z := ⟨_, rfl⟩
    have HDZ : Hid (DcZ w z2 z4 z5) := hid (by have q0 := HQ0.out; have q4 := HQ4.out; have q5 := HQ5.out; exact ⟨by omega, by omega, by omega, by omega, by omega, by omega⟩)
    have HST : Hid (DcSt w z2 z4 z5 b off c l objZ 1 true W5) := hid (by
      have h5 := HB4.out.trans (HB5.out.mono HB4.out.size)
      have h0 := HB0.out.trans (h5.mono HB0.out.size)
      refine ⟨⟨by rw [← hz5]; exact HZ5.out, hl1, hc, Nat.lt_of_lt_of_le hbw HDZ.out.n5, fun j hj => ?_⟩, h0, (h5.block z2 (Array.getElem?_eq_some_iff.1 HZR.out).1).trans HZR.out, by rw [← hz4]; exact (HB5.out.block _ (Array.getElem?_eq_some_iff.1 HZ4.out).1).trans HZ4.out⟩
      exact (h0.cell (p := ⟨b, off + j, none⟩) hbw).trans (HBY.out j hj))
    rw [hz4, hz5]
    try go_frame
    clear hz2 hz4 hz5 HQ0 HQ4 HQ5 HB0 HB4 HB5 HZ4 HZ5 HZR HN2
    have HK0 := hid (HBY.out 0 hl1)
    have ck : W5.cell? ⟨b, off, none⟩ = some (.int .u8 (k.toNat : Int)) := by have h := HST.out.rd.bytes 0 hl1; rw [Nat.add_zero, HKE.out] at h; exact h
    by_cases h75 : k = 75
    ·
     have e67 : ((k.toNat : Int) == 67) = false := by rw [h75]; rfl
     have e75 : ((k.toNat : Int) == 75) = true := by rw [h75]; rfl
     go_upto_region 19 with fail
     have ck : W5.cell? ⟨b, off, none⟩ = some (.int .u8 (k.toNat : Int)) := ck
     go_upto_region 20 with fail
     go_upto_region 21 with (first
       | (with_reducible refine ko ?_
          refine kj (by rfl) 5 _ _ rfl z4 0 [] [.int .u8 0] [.int .i64 0, .slice none 0 0, .string k7, .slice none 0 0, .slice none 0 0, .slice none 0 0, .string k7, .string k7, .int .i64 0] [.int .u8 2] 30 (.int .u8 2) rfl rfl rfl rfl HST.out.obj rfl (by kernel_rfl) (by intro u hu; rw [List.mem_singleton.1 hu]; rfl) ?_
          intro V0 hbs hys hss
          have HST : Hid (DcSt w z2 z4 z5 b off c l [.int .u8 2, .int .i64 0, .slice none 0 0, .string k7, .slice none 0 0, .slice none 0 0, .slice none 0 0, .string k7, .string k7, .int .i64 0] 1 true V0) := hid (HST.out.put HDZ.out hbw hbs hys)
          have HRB := hid HST.out.rd.box
          clear hbs hys hss))
     have HRB := hid HST.out.rd.box
     have HST0 := HST
     go_upto_region 22 with (first
       | (go_at_call 26; refine (uj z5 b off c l 1 true 2 _ HST.out.rd hl (by decide)).mono ?_
          rintro e u1 ⟨ps, v1, a1, ok1, rfl, ⟨hio, hpl1, Ap, cp, rfl, hiow⟩, hrd, hbt, himp⟩
          have HST := hid (HST.out.read HDZ.out hrd hbt)
          have HIM1 := hid himp
          have HW_ps := hid (KM hiow HST0.out.bel.size)
          have HI_ps := hid hio
          clear hio hiow
          clear hrd hbt himp)
       | (with_reducible refine ko ?_
          refine kj (by rfl) 23 _ _ rfl z4 5 [.int .u8 2, .int .i64 0, .slice none 0 0, .string k7, .slice none 0 0] [.slice none 0 0] [.slice none 0 0, .string k7, .string k7, .int .i64 0] [.slice Ap ps.length cp] 30 (.slice Ap ps.length cp) rfl rfl rfl rfl HST.out.obj rfl (by kernel_rfl) (by intro u hu; rw [List.mem_singleton.1 hu]; rfl) ?_
          intro V1 hbs hys hss
          have HW_ps := hid (hbs.own HW_ps.out fun k hk e => kN HW_ps.out HST.out.obj (by decide) (by rw [hk, e]))
          have HST : Hid (DcSt w z2 z4 z5 b off c l [.int .u8 2, .int .i64 0, .slice none 0 0, .string k7, .slice none 0 0, .slice Ap ps.length cp, .slice none 0 0, .string k7, .string k7, .int .i64 0] a1 ok1 V1) := hid (HST.out.put HDZ.out hbw hbs hys)
          have HRB := hid HST.out.rd.box
          clear hbs hys hss))
     have HST0 := HST
     go_upto_region 23 with (first
       | (go_at_call 26; refine (uj z5 b off c l a1 ok1 4096 _ HST.out.rd hl (by decide)).mono ?_
          rintro e u2 ⟨cs, v2, a2, ok2, rfl, ⟨hio, hpl2, Ac, cc, rfl, hiow⟩, hrd, hbt, himp⟩
          have HST := hid (HST.out.read HDZ.out hrd hbt)
          have HIM2 := hid himp
          have HW_ps := hid (hbt.own HW_ps.out fun k hk e => kN HW_ps.out HRB.out (by decide) (by rw [hk, e]))
          have HW_cs := hid (KM hiow HST0.out.bel.size)
          have HI_cs := hid hio
          clear hio hiow
          clear hrd hbt himp)
       | (with_reducible refine ko ?_
          refine kj (by rfl) 23 _ _ rfl z4 6 [.int .u8 2, .int .i64 0, .slice none 0 0, .string k7, .slice none 0 0, .slice Ap ps.length cp] [.slice none 0 0] [.string k7, .string k7, .int .i64 0] [.slice Ac cs.length cc] 30 (.slice Ac cs.length cc) rfl rfl rfl rfl HST.out.obj rfl (by kernel_rfl) (by intro u hu; rw [List.mem_singleton.1 hu]; rfl) ?_
          intro V2 hbs hys hss
          have HW_ps := hid (hbs.own HW_ps.out fun k hk e => kN HW_ps.out HST.out.obj (by decide) (by rw [hk, e]))
          have HW_cs := hid (hbs.own HW_cs.out fun k hk e => kN HW_cs.out HST.out.obj (by decide) (by rw [hk, e]))
          have HST : Hid (DcSt w z2 z4 z5 b off c l [.int .u8 2, .int .i64 0, .slice none 0 0, .string k7, .slice none 0 0, .slice Ap ps.length cp, .slice Ac cs.length cc, .string k7, .string k7, .int .i64 0] a2 ok2 V2) := hid (HST.out.put HDZ.out hbw hbs hys)
          have HRB := hid HST.out.rd.box
          clear hbs hys hss))
     go_upto_region 24 with (first
       | (go_at_call 27; refine (Jd z5 b off c l a2 ok2 _ HST.out.rd hl).mono ?_
          rintro e u3 ⟨au, v3, a3, ok3, rfl, ⟨rfl, hts3⟩, hrd, hbt, himp⟩
          have HST := hid (HST.out.read HDZ.out hrd hbt)
          have HIM3 := hid himp
          have HW_ps := hid (hbt.own HW_ps.out fun k hk e => kN HW_ps.out HRB.out (by decide) (by rw [hk, e]))
          have HW_cs := hid (hbt.own HW_cs.out fun k hk e => kN HW_cs.out HRB.out (by decide) (by rw [hk, e]))
          clear hrd hbt himp)
       | (with_reducible refine ko ?_
          refine kj (by rfl) 9 _ _ rfl z4 7 [.int .u8 2, .int .i64 0, .slice none 0 0, .string k7, .slice none 0 0, .slice Ap ps.length cp, .slice Ac cs.length cc] [.string k7] [.string k7, .int .i64 0] [.string au] 30 (.string au) rfl rfl rfl rfl HST.out.obj rfl (by kernel_rfl) (by intro u hu; rw [List.mem_singleton.1 hu]; rfl) ?_
          intro V3 hbs hys hss
          have HW_ps := hid (hbs.own HW_ps.out fun k hk e => kN HW_ps.out HST.out.obj (by decide) (by rw [hk, e]))
          have HW_cs := hid (hbs.own HW_cs.out fun k hk e => kN HW_cs.out HST.out.obj (by decide) (by rw [hk, e]))
          have HST : Hid (DcSt w z2 z4 z5 b off c l [.int .u8 2, .int .i64 0, .slice none 0 0, .string k7, .slice none 0 0, .slice Ap ps.length cp, .slice Ac cs.length cc, .string au, .string k7, .int .i64 0] a3 ok3 V3) := hid (HST.out.put HDZ.out hbw hbs hys)
          have HRB := hid HST.out.rd.box
          clear hbs hys hss))
     go_upto_region 25 with (first
       | (go_at_call 27; refine (Jd z5 b off c l a3 ok3 _ HST.out.rd hl).mono ?_
          rintro e u4 ⟨ms, v4, a4, ok4, rfl, ⟨rfl, hts4⟩, hrd, hbt, himp⟩
          have HST := hid (HST.out.read HDZ.out hrd hbt)
          have HIM4 := hid himp
          have HW_ps := hid (hbt.own HW_ps.out fun k hk e => kN HW_ps.out HRB.out (by decide) (by rw [hk, e]))
          have HW_cs := hid (hbt.own HW_cs.out fun k hk e => kN HW_cs.out HRB.out (by decide) (by rw [hk, e]))
          clear hrd hbt himp)
       | (with_reducible refine ko ?_
          refine kj (by rfl) 9 _ _ rfl z4 8 [.int .u8 2, .int .i64 0, .slice none 0 0, .string k7, .slice none 0 0, .slice Ap ps.length cp, .slice Ac cs.length cc, .string au] [.string k7] [.int .i64 0] [.string ms] 30 (.string ms) rfl rfl rfl rfl HST.out.obj rfl (by kernel_rfl) (by intro u hu; rw [List.mem_singleton.1 hu]; rfl) ?_
          intro V4 hbs hys hss
          have HW_ps := hid (hbs.own HW_ps.out fun k hk e => kN HW_ps.out HST.out.obj (by decide) (by rw [hk, e]))
          have HW_cs := hid (hbs.own HW_cs.out fun k hk e => kN HW_cs.out HST.out.obj (by decide) (by rw [hk, e]))
          have HST : Hid (DcSt w z2 z4 z5 b off c l [.int .u8 2, .int .i64 0, .slice none 0 0, .string k7, .slice none 0 0, .slice Ap ps.length cp, .slice Ac cs.length cc, .string au, .string ms, .int .i64 0] a4 ok4 V4) := hid (HST.out.put HDZ.out hbw hbs hys)
          have HRB := hid HST.out.rd.box
          clear hbs hys hss))
     go_upto_region 26 with (first
       | (go_at_call 25; refine (Jc z5 b off c l a4 ok4 _ HST.out.rd hl).mono ?_
          rintro e u5 ⟨st, v5, a5, ok5, rfl, ⟨rfl, hnb5⟩, hrd, hbt, himp⟩
          have HST := hid (HST.out.read HDZ.out hrd hbt)
          have HIM5 := hid himp
          have HW_ps := hid (hbt.own HW_ps.out fun k hk e => kN HW_ps.out HRB.out (by decide) (by rw [hk, e]))
          have HW_cs := hid (hbt.own HW_cs.out fun k hk e => kN HW_cs.out HRB.out (by decide) (by rw [hk, e]))
          clear hrd hbt himp)
       | (with_reducible refine ko ?_
          refine kj (by rfl) 3 _ _ rfl z4 9 [.int .u8 2, .int .i64 0, .slice none 0 0, .string k7, .slice none 0 0, .slice Ap ps.length cp, .slice Ac cs.length cc, .string au, .string ms] [.int .i64 0] [] [.int .i64 (st : Int)] 30 (.int .i64 (st : Int)) rfl rfl rfl rfl HST.out.obj rfl (by kernel_rfl) (by intro u hu; rw [List.mem_singleton.1 hu]; rfl) ?_
          intro V5 hbs hys hss
          have HW_ps := hid (hbs.own HW_ps.out fun k hk e => kN HW_ps.out HST.out.obj (by decide) (by rw [hk, e]))
          have HW_cs := hid (hbs.own HW_cs.out fun k hk e => kN HW_cs.out HST.out.obj (by decide) (by rw [hk, e]))
          have HST : Hid (DcSt w z2 z4 z5 b off c l [.int .u8 2, .int .i64 0, .slice none 0 0, .string k7, .slice none 0 0, .slice Ap ps.length cp, .slice Ac cs.length cc, .string au, .string ms, .int .i64 (st : Int)] a5 ok5 V5) := hid (HST.out.put HDZ.out hbw hbs hys)
          have HRB := hid HST.out.rd.box
          clear hbs hys hss))
     have HOI := hid (uf HI_ps.out HI_cs.out HW_ps.out HW_cs.out hnb5 hts3 hts4)
     have HFN := hid (qr (fun _ => HIM1.out trivial) HIM2.out HIM3.out HIM4.out HIM5.out (HPB.out h75))
     have hd1 : (0 : Nat) ≤ 1099511627776 := by omega
     have hd2 : (0 : Nat) ≤ 1099511627776 := by omega
     have hd3 : ps.length ≤ 1099511627776 := by omega
     have hd4 : cs.length ≤ 1099511627776 := by omega
     clear HIM1 HIM2 HIM3 HIM4 HIM5
     have hE1 : ∀ (u : World) (args : Array Value), (callFunc 16 args).run Tryz.prog u = .ok (.enter 16 args) u := fun u args => enters_of Tryz.func16 (by kernel_rfl) rfl args u
     have hE2 : ∀ (u : World) (args : Array Value), (callFunc 29 args).run Tryz.prog u = .ok (.enter 29 args) u := fun u args => enters_of Tryz.func29 (by kernel_rfl) rfl args u
     go_upto_region 26 with fail
     cases ok5
     ·
      have HFK := hid (fun (u : World) (hu : Below V5.heap.size V5 u) => (show (fun u => u.cell? ⟨z5, 2, none⟩ = some (.bool false) ∧ u.rangeAt z4 0 [.int .u8 2, .int .i64 0, .slice none 0 0, .string k7, .slice none 0 0, .slice Ap ps.length cp, .slice Ac cs.length cc, .string au, .string ms, .int .i64 (st : Int)] ∧ Sl u w.heap.size (some ⟨b, off, none⟩) l.length 1 (idV l)) u from ⟨(hu.cell (p := ⟨z5, 2, none⟩) HST.out.rd.lt).trans (k6 HST.out.rd.box 2), fun j v hj => by rw [Nat.zero_add]; exact (hu.cell (p := ⟨z4, j, none⟩) HST.out.l4).trans ((k6 HST.out.obj j).trans hj), HS.out.keep (HST.out.bel.trans (hu.mono HST.out.bel.size))⟩))
      have HFD := hid (HFK.out _ (Below.refl _ V5).drew)
      have HNO : Hid (ji l = none) := hid (by
        rcases hq : ji l with _ | o
        · rfl
        · exact absurd (HFN.out o hq).1 (by decide))
      refine kr 17 (fun u => u.cell? ⟨z5, 2, none⟩ = some (.bool false) ∧ u.rangeAt z4 0 [.int .u8 2, .int .i64 0, .slice none 0 0, .string k7, .slice none 0 0, .slice Ap ps.length cp, .slice Ac cs.length cc, .string au, .string ms, .int .i64 (st : Int)] ∧ Sl u w.heap.size (some ⟨b, off, none⟩) l.length 1 (idV l)) (by kernel_rfl) ?_
      have hF26 : (fun u => u.cell? ⟨z5, 2, none⟩ = some (.bool false) ∧ u.rangeAt z4 0 [.int .u8 2, .int .i64 0, .slice none 0 0, .string k7, .slice none 0 0, .slice Ap ps.length cp, .slice Ac cs.length cc, .string au, .string ms, .int .i64 (st : Int)] ∧ Sl u w.heap.size (some ⟨b, off, none⟩) l.length 1 (idV l)) V5.drew := HFD.out
      refine tw 0 (.pointer (some ⟨z5, 0, none⟩)) ?_
      go_frame
      refine tw 1 (.pointer (some ⟨z5, 0, none⟩)) ?_
      go_frame
      refine tw 2 (.pointer (some ⟨z5, 2, none⟩)) ?_
      go_frame
      refine tkF 3 (.bool false) (by kernel_rfl) rfl (fun _ _ _ h => h) (by rfl) hF26 (fun w' hw' => ki 4 _ rfl (p := ⟨z5, 2, none⟩) rfl Tryz.underlying4 rfl hw'.1) ?_
      go_frame
      refine tw 4 (.bool true) ?_
      go_frame
      refine tw 5 (.bool true) ?_
      go_frame
      refine tn 6 ?_
      go_frame
      refine tn 7 ?_
      go_frame
      refine tn 8 ?_
      go_frame
      refine tw 9 (.bool true) ?_
      go_frame
      refine tw 10 (.bool true) ?_
      go_frame
      refine tn 11 ?_
      go_frame
      refine tn 12 ?_
      go_frame
      refine tn 13 ?_
      go_frame
      refine tn 14 ?_
      go_frame
      refine tn 15 ?_
      go_frame
      refine tn 16 ?_
      go_frame
      refine tw 17 (.bool true) ?_
      go_frame
      refine kx (by kernel_rfl) ?_ _
      go_upto_region 27 with fail
      go_wp2_with (first
        | (with_reducible refine kQ ?_
           refine k9 (by rfl) (kF 30 _ rfl (zy _)) ?_)
        | (with_reducible refine ko ?_
           refine kj (by rfl) 30 _ _ rfl z2 0 [] objZ [] objZ 30 (.agg objZ.toArray) rfl rfl rfl rfl (by simpa using (((Below.refl V5.heap.size V5).drew).block z2 HST.out.l2).trans HST.out.res) rfl (by kernel_rfl) (by unfold objZ; intro u hu; simp only [List.mem_cons, List.not_mem_nil, or_false] at hu; rcases hu with rfl | rfl | rfl | rfl | rfl | rfl | rfl | rfl | rfl | rfl <;> rfl) ?_
           intro W9 hb9 hy9 hs9
           have HB9 := hid hb9
           have HY9 : Hid (W9.heap[z2]? = some (.cells objZ.toArray 30 (0, 0))) := hid (by simpa using hy9)
           clear hb9 hy9 hs9))
      refine bodyPost_ret (jn Tryz.results7 _ _ rfl rfl (zq HY9.out (by rfl))) rfl ?_
      refine ⟨HST.out.bel.trans ((((Below.refl V5.heap.size V5).drew).mono HST.out.bel.size).trans (HB9.out.below (Nat.le_trans HST.out.bel.size ((Below.refl V5.heap.size V5).drew).size) fun k hk e => by have := HDZ.out.n2; omega)), _, by rw [jx hlong HNO.out]; rfl, by rw [jx hlong HNO.out]; exact Kr _ _⟩
     ·
      have HFK := hid (fun (u : World) (hu : Below V5.heap.size V5 u) => (show (fun u => u.cell? ⟨z5, 2, none⟩ = some (.bool true) ∧ u.rangeAt z4 0 [.int .u8 2, .int .i64 0, .slice none 0 0, .string k7, .slice none 0 0, .slice Ap ps.length cp, .slice Ac cs.length cc, .string au, .string ms, .int .i64 (st : Int)] ∧ Sl u w.heap.size (some ⟨b, off, none⟩) l.length 1 (idV l)) u from ⟨(hu.cell (p := ⟨z5, 2, none⟩) HST.out.rd.lt).trans (k6 HST.out.rd.box 2), fun j v hj => by rw [Nat.zero_add]; exact (hu.cell (p := ⟨z4, j, none⟩) HST.out.l4).trans ((k6 HST.out.obj j).trans hj), HS.out.keep (HST.out.bel.trans (hu.mono HST.out.bel.size))⟩))
      have HFD := hid (HFK.out _ (Below.refl _ V5).drew)
      rcases hrt : kJ (2, kL, (ps, cs, au, ms, ((st : Nat) : Int))) with _ | _
      ·
       have HRB := hid hrt
       have HNO : Hid (ji l = none) := hid (by
         rcases hq : ji l with _ | o
         · rfl
         · have e1 := (Zw hq).2
           rw [(HFN.out o hq).2, hrt] at e1; cases e1)
       clear hrt
       refine kr 17 (fun u => u.cell? ⟨z5, 2, none⟩ = some (.bool true) ∧ u.rangeAt z4 0 [.int .u8 2, .int .i64 0, .slice none 0 0, .string k7, .slice none 0 0, .slice Ap ps.length cp, .slice Ac cs.length cc, .string au, .string ms, .int .i64 (st : Int)] ∧ Sl u w.heap.size (some ⟨b, off, none⟩) l.length 1 (idV l)) (by kernel_rfl) ?_
       have hF26 : (fun u => u.cell? ⟨z5, 2, none⟩ = some (.bool true) ∧ u.rangeAt z4 0 [.int .u8 2, .int .i64 0, .slice none 0 0, .string k7, .slice none 0 0, .slice Ap ps.length cp, .slice Ac cs.length cc, .string au, .string ms, .int .i64 (st : Int)] ∧ Sl u w.heap.size (some ⟨b, off, none⟩) l.length 1 (idV l)) V5.drew := HFD.out
       refine tw 0 (.pointer (some ⟨z5, 0, none⟩)) ?_
       go_frame
       refine tw 1 (.pointer (some ⟨z5, 0, none⟩)) ?_
       go_frame
       refine tw 2 (.pointer (some ⟨z5, 2, none⟩)) ?_
       go_frame
       refine tkF 3 (.bool true) (by kernel_rfl) rfl (fun _ _ _ h => h) (by rfl) hF26 (fun w' hw' => ki 4 _ rfl (p := ⟨z5, 2, none⟩) rfl Tryz.underlying4 rfl hw'.1) ?_
       go_frame
       refine tw 4 (.bool false) ?_
       go_frame
       refine tw 5 (.bool false) ?_
       go_frame
       refine tkF 6 (.agg [.int .u8 2, .int .i64 0, .slice none 0 0, .string k7, .slice none 0 0, .slice Ap ps.length cp, .slice Ac cs.length cc, .string au, .string ms, .int .i64 (st : Int)].toArray) (by kernel_rfl) rfl (fun _ _ _ h => h) (by rfl) hF26 (fun w' hw' => kd 30 _ rfl (p := ⟨z4, 0, none⟩) rfl (run_loadVar_mid w' _ _ _ [.int .u8 2, .int .i64 0, .slice none 0 0, .string k7, .slice none 0 0, .slice Ap ps.length cp, .slice Ac cs.length cc, .string au, .string ms, .int .i64 (st : Int)] _ hw'.2.1 Tryz.underlying30 rfl (by kernel_rfl))) ?_
       go_frame
       refine ta 7 ?_
       refine kC _ rfl (by kernel_rfl) (kv (f := 16) (args := #[.agg [.int .u8 2, .int .i64 0, .slice none 0 0, .string k7, .slice none 0 0, .slice Ap ps.length cp, .slice Ac cs.length cc, .string au, .string ms, .int .i64 (st : Int)].toArray]) rfl rfl (fun args w => hE1 w args) (by simp only [List.map_toArray, List.map_cons, List.map_nil]; rfl)) ?_
       refine (K3 (2, kL, (ps, cs, au, ms, ((st : Nat) : Int))) _ V5.drew (HOI.out.keep (Below.refl _ V5).drew) hd1 hd2 hd3 hd4).mono ?_
       rintro e x1 ⟨hbx, rfl⟩
       rw [HRB.out]
       have hbV := (Below.refl V5.heap.size V5).drew.trans hbx
       have HFx := HFK.out _ hbV
       refine ⟨_, rfl, fun _ _ => HFx, ?_⟩
       go_frame
       refine tw 8 (.bool true) ?_
       go_frame
       refine tw 9 (.bool true) ?_
       go_frame
       refine tw 10 (.bool true) ?_
       go_frame
       refine tn 11 ?_
       go_frame
       refine tn 12 ?_
       go_frame
       refine tn 13 ?_
       go_frame
       refine tn 14 ?_
       go_frame
       refine tn 15 ?_
       go_frame
       refine tn 16 ?_
       go_frame
       refine tw 17 (.bool true) ?_
       go_frame
       refine kx (by kernel_rfl) ?_ _
       go_upto_region 27 with fail
       go_wp2_with (first
         | (with_reducible refine kQ ?_
            refine k9 (by rfl) (kF 30 _ rfl (zy _)) ?_)
         | (with_reducible refine ko ?_
            refine kj (by rfl) 30 _ _ rfl z2 0 [] objZ [] objZ 30 (.agg objZ.toArray) rfl rfl rfl rfl (by simpa using ((hbV).block z2 HST.out.l2).trans HST.out.res) rfl (by kernel_rfl) (by unfold objZ; intro u hu; simp only [List.mem_cons, List.not_mem_nil, or_false] at hu; rcases hu with rfl | rfl | rfl | rfl | rfl | rfl | rfl | rfl | rfl | rfl <;> rfl) ?_
            intro W9 hb9 hy9 hs9
            have HB9 := hid hb9
            have HY9 : Hid (W9.heap[z2]? = some (.cells objZ.toArray 30 (0, 0))) := hid (by simpa using hy9)
            clear hb9 hy9 hs9))
       refine bodyPost_ret (jn Tryz.results7 _ _ rfl rfl (zq HY9.out (by rfl))) rfl ?_
       refine ⟨HST.out.bel.trans (((hbV).mono HST.out.bel.size).trans (HB9.out.below (Nat.le_trans HST.out.bel.size (hbV).size) fun k hk e => by have := HDZ.out.n2; omega)), _, by rw [jx hlong HNO.out]; rfl, by rw [jx hlong HNO.out]; exact Kr _ _⟩
      ·
       have HRB := hid hrt; have HRT := hid hrt
       clear hrt
       by_cases heq : KQ (2, kL, (ps, cs, au, ms, ((st : Nat) : Int))) = l
       ·
        have HEQ : Hid ((!((⟨(KQ (2, kL, (ps, cs, au, ms, ((st : Nat) : Int)))).toArray⟩ : ByteArray).toList == (⟨l.toArray⟩ : ByteArray).toList)) = false) := hid (by rw [qq, decide_eq_true heq]; rfl)
        have HYES : Hid (ji l = some (2, kL, (ps, cs, au, ms, ((st : Nat) : Int)))) := hid (by rw [← heq]; exact read_enc HOI.out.1 HRT.out)
        clear heq
        refine kr 17 (fun u => u.cell? ⟨z5, 2, none⟩ = some (.bool true) ∧ u.rangeAt z4 0 [.int .u8 2, .int .i64 0, .slice none 0 0, .string k7, .slice none 0 0, .slice Ap ps.length cp, .slice Ac cs.length cc, .string au, .string ms, .int .i64 (st : Int)] ∧ Sl u w.heap.size (some ⟨b, off, none⟩) l.length 1 (idV l)) (by kernel_rfl) ?_
        have hF26 : (fun u => u.cell? ⟨z5, 2, none⟩ = some (.bool true) ∧ u.rangeAt z4 0 [.int .u8 2, .int .i64 0, .slice none 0 0, .string k7, .slice none 0 0, .slice Ap ps.length cp, .slice Ac cs.length cc, .string au, .string ms, .int .i64 (st : Int)] ∧ Sl u w.heap.size (some ⟨b, off, none⟩) l.length 1 (idV l)) V5.drew := HFD.out
        refine tw 0 (.pointer (some ⟨z5, 0, none⟩)) ?_
        go_frame
        refine tw 1 (.pointer (some ⟨z5, 0, none⟩)) ?_
        go_frame
        refine tw 2 (.pointer (some ⟨z5, 2, none⟩)) ?_
        go_frame
        refine tkF 3 (.bool true) (by kernel_rfl) rfl (fun _ _ _ h => h) (by rfl) hF26 (fun w' hw' => ki 4 _ rfl (p := ⟨z5, 2, none⟩) rfl Tryz.underlying4 rfl hw'.1) ?_
        go_frame
        refine tw 4 (.bool false) ?_
        go_frame
        refine tw 5 (.bool false) ?_
        go_frame
        refine tkF 6 (.agg [.int .u8 2, .int .i64 0, .slice none 0 0, .string k7, .slice none 0 0, .slice Ap ps.length cp, .slice Ac cs.length cc, .string au, .string ms, .int .i64 (st : Int)].toArray) (by kernel_rfl) rfl (fun _ _ _ h => h) (by rfl) hF26 (fun w' hw' => kd 30 _ rfl (p := ⟨z4, 0, none⟩) rfl (run_loadVar_mid w' _ _ _ [.int .u8 2, .int .i64 0, .slice none 0 0, .string k7, .slice none 0 0, .slice Ap ps.length cp, .slice Ac cs.length cc, .string au, .string ms, .int .i64 (st : Int)] _ hw'.2.1 Tryz.underlying30 rfl (by kernel_rfl))) ?_
        go_frame
        refine ta 7 ?_
        refine kC _ rfl (by kernel_rfl) (kv (f := 16) (args := #[.agg [.int .u8 2, .int .i64 0, .slice none 0 0, .string k7, .slice none 0 0, .slice Ap ps.length cp, .slice Ac cs.length cc, .string au, .string ms, .int .i64 (st : Int)].toArray]) rfl rfl (fun args w => hE1 w args) (by simp only [List.map_toArray, List.map_cons, List.map_nil]; rfl)) ?_
        refine (K3 (2, kL, (ps, cs, au, ms, ((st : Nat) : Int))) _ V5.drew (HOI.out.keep (Below.refl _ V5).drew) hd1 hd2 hd3 hd4).mono ?_
        rintro e x1 ⟨hbx, rfl⟩
        rw [HRB.out]
        have hbV := (Below.refl V5.heap.size V5).drew.trans hbx
        have HFx := HFK.out _ hbV
        refine ⟨_, rfl, fun _ _ => HFx, ?_⟩
        go_frame
        refine tw 8 (.bool false) ?_
        go_frame
        refine tw 9 (.bool false) ?_
        go_frame
        refine tw 10 (.bool false) ?_
        go_frame
        refine tkF 11 (.agg [.int .u8 2, .int .i64 0, .slice none 0 0, .string k7, .slice none 0 0, .slice Ap ps.length cp, .slice Ac cs.length cc, .string au, .string ms, .int .i64 (st : Int)].toArray) (by kernel_rfl) rfl (fun _ _ _ h => h) (by rfl) HFx (fun w' hw' => kd 30 _ rfl (p := ⟨z4, 0, none⟩) rfl (run_loadVar_mid w' _ _ _ [.int .u8 2, .int .i64 0, .slice none 0 0, .string k7, .slice none 0 0, .slice Ap ps.length cp, .slice Ac cs.length cc, .string au, .string ms, .int .i64 (st : Int)] _ hw'.2.1 Tryz.underlying30 rfl (by kernel_rfl))) ?_
        go_frame
        refine tw 14 (.slice (some ⟨b, off, none⟩) l.length c) ?_
        go_frame
        refine tkF 15 (.string ⟨l.toArray⟩) (by kernel_rfl) rfl (fun _ _ _ h => h) (by rfl) HFx (fun w' hw' => Jm _ rfl (v := .slice (some ⟨b, off, none⟩) l.length c) rfl (uy hw'.2.2 hl1)) ?_
        go_frame
        refine ta 12 ?_
        refine kC _ rfl (by kernel_rfl) (kv (f := 29) (args := #[.agg [.int .u8 2, .int .i64 0, .slice none 0 0, .string k7, .slice none 0 0, .slice Ap ps.length cp, .slice Ac cs.length cc, .string au, .string ms, .int .i64 (st : Int)].toArray]) rfl rfl (fun args w => hE2 w args) (by simp only [List.map_toArray, List.map_cons, List.map_nil]; rfl)) ?_
        refine (Ji (2, kL, (ps, cs, au, ms, ((st : Nat) : Int))) _ x1 ((HOI.out.keep hbV).more hbV.size) HRT.out).mono ?_
        rintro e x2 ⟨hby, Ay, cy, rfl, hoy⟩
        have hbV2 := hbV.trans (hby.mono hbV.size)
        have HFy := HFK.out _ hbV2
        have hcy := uy (c := cy) (Sl.of_own hoy) (vV _)
        refine ⟨_, rfl, fun _ _ => HFy, ?_⟩
        go_frame
        refine ta 13 ?_
        refine jo _ rfl (by kernel_rfl) (Jm _ rfl (v := .slice Ay (KQ (2, kL, (ps, cs, au, ms, ((st : Nat) : Int)))).length cy) rfl hcy) ?_
        refine ⟨fun _ _ => HFy, ?_⟩
        go_frame
        refine tkW 16 (.bool false) (by kernel_rfl) rfl (fun _ _ _ h => h) (by rfl) (fun w' hw' => Zo _ _ _ rfl rfl rfl HEQ.out) ?_
        go_frame
        refine tw 17 (.bool false) ?_
        go_frame
        refine kx (by kernel_rfl) ?_ _
        go_upto_region 28 with fail
        have HZX := hid (((hbV2).block z4 HST.out.l4).trans HST.out.obj)
        go_wp2_with (first
          | (with_reducible refine ke ?_
             refine k9 (by rfl) (kd 30 _ rfl (p := ⟨z4, 0, none⟩) rfl (run_loadVar_mid _ _ _ _ [.int .u8 2, .int .i64 0, .slice none 0 0, .string k7, .slice none 0 0, .slice Ap ps.length cp, .slice Ac cs.length cc, .string au, .string ms, .int .i64 (st : Int)] _ (fun j v hj => by rw [Nat.zero_add]; exact (k6 HZX.out j).trans hj) Tryz.underlying30 rfl (by kernel_rfl))) ?_)
          | (with_reducible refine ko ?_
             refine kj (by rfl) 30 _ _ rfl z2 0 [] objZ [] [.int .u8 2, .int .i64 0, .slice none 0 0, .string k7, .slice none 0 0, .slice Ap ps.length cp, .slice Ac cs.length cc, .string au, .string ms, .int .i64 (st : Int)] 30 (.agg [.int .u8 2, .int .i64 0, .slice none 0 0, .string k7, .slice none 0 0, .slice Ap ps.length cp, .slice Ac cs.length cc, .string au, .string ms, .int .i64 (st : Int)].toArray) rfl rfl rfl rfl (by simpa using ((hbV2).block z2 HST.out.l2).trans HST.out.res) rfl (by kernel_rfl) (by intro u hu; simp only [List.mem_cons, List.not_mem_nil, or_false] at hu; rcases hu with rfl | rfl | rfl | rfl | rfl | rfl | rfl | rfl | rfl | rfl <;> rfl) ?_
             intro W9 hb9 hy9 hs9
             have HB9 := hid hb9
             have HY9 : Hid (W9.heap[z2]? = some (.cells [.int .u8 2, .int .i64 0, .slice none 0 0, .string k7, .slice none 0 0, .slice Ap ps.length cp, .slice Ac cs.length cc, .string au, .string ms, .int .i64 (st : Int)].toArray 30 (0, 0))) := hid (by simpa using hy9)
             clear hb9 hy9 hs9))
        refine bodyPost_ret (jn Tryz.results7 _ _ rfl rfl (zq HY9.out (by rfl))) rfl ?_
        refine ⟨HST.out.bel.trans (((hbV2).mono HST.out.bel.size).trans (HB9.out.below (Nat.le_trans HST.out.bel.size (hbV2).size) fun k hk e => by have := HDZ.out.n2; omega)), _, by rw [KF hlong HYES.out]; rfl, ?_⟩
        rw [KF hlong HYES.out]
        exact ((HOI.out.keep (hbV2)).small HB9.out (hbV2).size (fun k hk => ⟨objZ, 30, by rw [hk]; exact ((hbV2).block z2 HST.out.l2).trans HST.out.res, by decide⟩)).more (Nat.le_trans (hbV2).size HB9.out.size)
       ·
        have HEQ : Hid ((!((⟨(KQ (2, kL, (ps, cs, au, ms, ((st : Nat) : Int)))).toArray⟩ : ByteArray).toList == (⟨l.toArray⟩ : ByteArray).toList)) = true) := hid (by rw [qq, decide_eq_false heq]; rfl)
        have HNO : Hid (ji l = none) := hid (by
          rcases hq : ji l with _ | o
          · rfl
          · exact absurd (by rw [← (HFN.out o hq).2]; exact (Zw hq).1) heq)
        clear heq
        refine kr 17 (fun u => u.cell? ⟨z5, 2, none⟩ = some (.bool true) ∧ u.rangeAt z4 0 [.int .u8 2, .int .i64 0, .slice none 0 0, .string k7, .slice none 0 0, .slice Ap ps.length cp, .slice Ac cs.length cc, .string au, .string ms, .int .i64 (st : Int)] ∧ Sl u w.heap.size (some ⟨b, off, none⟩) l.length 1 (idV l)) (by kernel_rfl) ?_
        have hF26 : (fun u => u.cell? ⟨z5, 2, none⟩ = some (.bool true) ∧ u.rangeAt z4 0 [.int .u8 2, .int .i64 0, .slice none 0 0, .string k7, .slice none 0 0, .slice Ap ps.length cp, .slice Ac cs.length cc, .string au, .string ms, .int .i64 (st : Int)] ∧ Sl u w.heap.size (some ⟨b, off, none⟩) l.length 1 (idV l)) V5.drew := HFD.out
        refine tw 0 (.pointer (some ⟨z5, 0, none⟩)) ?_
        go_frame
        refine tw 1 (.pointer (some ⟨z5, 0, none⟩)) ?_
        go_frame
        refine tw 2 (.pointer (some ⟨z5, 2, none⟩)) ?_
        go_frame
        refine tkF 3 (.bool true) (by kernel_rfl) rfl (fun _ _ _ h => h) (by rfl) hF26 (fun w' hw' => ki 4 _ rfl (p := ⟨z5, 2, none⟩) rfl Tryz.underlying4 rfl hw'.1) ?_
        go_frame
        refine tw 4 (.bool false) ?_
        go_frame
        refine tw 5 (.bool false) ?_
        go_frame
        refine tkF 6 (.agg [.int .u8 2, .int .i64 0, .slice none 0 0, .string k7, .slice none 0 0, .slice Ap ps.length cp, .slice Ac cs.length cc, .string au, .string ms, .int .i64 (st : Int)].toArray) (by kernel_rfl) rfl (fun _ _ _ h => h) (by rfl) hF26 (fun w' hw' => kd 30 _ rfl (p := ⟨z4, 0, none⟩) rfl (run_loadVar_mid w' _ _ _ [.int .u8 2, .int .i64 0, .slice none 0 0, .string k7, .slice none 0 0, .slice Ap ps.length cp, .slice Ac cs.length cc, .string au, .string ms, .int .i64 (st : Int)] _ hw'.2.1 Tryz.underlying30 rfl (by kernel_rfl))) ?_
        go_frame
        refine ta 7 ?_
        refine kC _ rfl (by kernel_rfl) (kv (f := 16) (args := #[.agg [.int .u8 2, .int .i64 0, .slice none 0 0, .string k7, .slice none 0 0, .slice Ap ps.length cp, .slice Ac cs.length cc, .string au, .string ms, .int .i64 (st : Int)].toArray]) rfl rfl (fun args w => hE1 w args) (by simp only [List.map_toArray, List.map_cons, List.map_nil]; rfl)) ?_
        refine (K3 (2, kL, (ps, cs, au, ms, ((st : Nat) : Int))) _ V5.drew (HOI.out.keep (Below.refl _ V5).drew) hd1 hd2 hd3 hd4).mono ?_
        rintro e x1 ⟨hbx, rfl⟩
        rw [HRB.out]
        have hbV := (Below.refl V5.heap.size V5).drew.trans hbx
        have HFx := HFK.out _ hbV
        refine ⟨_, rfl, fun _ _ => HFx, ?_⟩
        go_frame
        refine tw 8 (.bool false) ?_
        go_frame
        refine tw 9 (.bool false) ?_
        go_frame
        refine tw 10 (.bool false) ?_
        go_frame
        refine tkF 11 (.agg [.int .u8 2, .int .i64 0, .slice none 0 0, .string k7, .slice none 0 0, .slice Ap ps.length cp, .slice Ac cs.length cc, .string au, .string ms, .int .i64 (st : Int)].toArray) (by kernel_rfl) rfl (fun _ _ _ h => h) (by rfl) HFx (fun w' hw' => kd 30 _ rfl (p := ⟨z4, 0, none⟩) rfl (run_loadVar_mid w' _ _ _ [.int .u8 2, .int .i64 0, .slice none 0 0, .string k7, .slice none 0 0, .slice Ap ps.length cp, .slice Ac cs.length cc, .string au, .string ms, .int .i64 (st : Int)] _ hw'.2.1 Tryz.underlying30 rfl (by kernel_rfl))) ?_
        go_frame
        refine tw 14 (.slice (some ⟨b, off, none⟩) l.length c) ?_
        go_frame
        refine tkF 15 (.string ⟨l.toArray⟩) (by kernel_rfl) rfl (fun _ _ _ h => h) (by rfl) HFx (fun w' hw' => Jm _ rfl (v := .slice (some ⟨b, off, none⟩) l.length c) rfl (uy hw'.2.2 hl1)) ?_
        go_frame
        refine ta 12 ?_
        refine kC _ rfl (by kernel_rfl) (kv (f := 29) (args := #[.agg [.int .u8 2, .int .i64 0, .slice none 0 0, .string k7, .slice none 0 0, .slice Ap ps.length cp, .slice Ac cs.length cc, .string au, .string ms, .int .i64 (st : Int)].toArray]) rfl rfl (fun args w => hE2 w args) (by simp only [List.map_toArray, List.map_cons, List.map_nil]; rfl)) ?_
        refine (Ji (2, kL, (ps, cs, au, ms, ((st : Nat) : Int))) _ x1 ((HOI.out.keep hbV).more hbV.size) HRT.out).mono ?_
        rintro e x2 ⟨hby, Ay, cy, rfl, hoy⟩
        have hbV2 := hbV.trans (hby.mono hbV.size)
        have HFy := HFK.out _ hbV2
        have hcy := uy (c := cy) (Sl.of_own hoy) (vV _)
        refine ⟨_, rfl, fun _ _ => HFy, ?_⟩
        go_frame
        refine ta 13 ?_
        refine jo _ rfl (by kernel_rfl) (Jm _ rfl (v := .slice Ay (KQ (2, kL, (ps, cs, au, ms, ((st : Nat) : Int)))).length cy) rfl hcy) ?_
        refine ⟨fun _ _ => HFy, ?_⟩
        go_frame
        refine tkW 16 (.bool true) (by kernel_rfl) rfl (fun _ _ _ h => h) (by rfl) (fun w' hw' => Zo _ _ _ rfl rfl rfl HEQ.out) ?_
        go_frame
        refine tw 17 (.bool true) ?_
        go_frame
        refine kx (by kernel_rfl) ?_ _
        go_upto_region 27 with fail
        go_wp2_with (first
          | (with_reducible refine kQ ?_
             refine k9 (by rfl) (kF 30 _ rfl (zy _)) ?_)
          | (with_reducible refine ko ?_
             refine kj (by rfl) 30 _ _ rfl z2 0 [] objZ [] objZ 30 (.agg objZ.toArray) rfl rfl rfl rfl (by simpa using ((hbV2).block z2 HST.out.l2).trans HST.out.res) rfl (by kernel_rfl) (by unfold objZ; intro u hu; simp only [List.mem_cons, List.not_mem_nil, or_false] at hu; rcases hu with rfl | rfl | rfl | rfl | rfl | rfl | rfl | rfl | rfl | rfl <;> rfl) ?_
             intro W9 hb9 hy9 hs9
             have HB9 := hid hb9
             have HY9 : Hid (W9.heap[z2]? = some (.cells objZ.toArray 30 (0, 0))) := hid (by simpa using hy9)
             clear hb9 hy9 hs9))
        refine bodyPost_ret (jn Tryz.results7 _ _ rfl rfl (zq HY9.out (by rfl))) rfl ?_
        refine ⟨HST.out.bel.trans (((hbV2).mono HST.out.bel.size).trans (HB9.out.below (Nat.le_trans HST.out.bel.size (hbV2).size) fun k hk e => by have := HDZ.out.n2; omega)), _, by rw [jx hlong HNO.out]; rfl, by rw [jx hlong HNO.out]; exact Kr _ _⟩
    ·
     have e67 : ((k.toNat : Int) == 67) = false := by
       rw [beq_eq_false_iff_ne]; intro h; exact h67 (by apply UInt8.toNat_inj.1; show k.toNat = 67; omega)
     have e75 : ((k.toNat : Int) == 75) = false := by
       rw [beq_eq_false_iff_ne]; intro h; exact h75 (by apply UInt8.toNat_inj.1; show k.toNat = 75; omega)
     have HNO : Hid (ji l = none) := hid (Ui (HPK.out) h67 h75)
     go_upto_region 19 with fail
     have ck : W5.cell? ⟨b, off, none⟩ = some (.int .u8 (k.toNat : Int)) := ck
     have HRB := hid HST.out.rd.box
     have HOI : Hid (ObjIn W5 W5.heap.size (.agg [.int .u8 0, .int .i64 0, .slice none 0 0, .string k7, .slice none 0 0, .slice none 0 0, .slice none 0 0, .string k7, .string k7, .int .i64 0].toArray) (0, kL, kO)) := hid (Kr _ _)
     have hd1 : (0 : Nat) ≤ 1099511627776 := by omega
     have hd2 := hd1; have hd3 := hd1; have hd4 := hd1
     have hE1 : ∀ (u : World) (args : Array Value), (callFunc 16 args).run Tryz.prog u = .ok (.enter 16 args) u := fun u args => enters_of Tryz.func16 (by kernel_rfl) rfl args u
     have hE2 : ∀ (u : World) (args : Array Value), (callFunc 29 args).run Tryz.prog u = .ok (.enter 29 args) u := fun u args => enters_of Tryz.func29 (by kernel_rfl) rfl args u
     go_upto_region 26 with fail
     have HFK := hid (fun (u : World) (hu : Below W5.heap.size W5 u) => (show (fun u => u.cell? ⟨z5, 2, none⟩ = some (.bool true) ∧ u.rangeAt z4 0 [.int .u8 0, .int .i64 0, .slice none 0 0, .string k7, .slice none 0 0, .slice none 0 0, .slice none 0 0, .string k7, .string k7, .int .i64 0] ∧ Sl u w.heap.size (some ⟨b, off, none⟩) l.length 1 (idV l)) u from ⟨(hu.cell (p := ⟨z5, 2, none⟩) HST.out.rd.lt).trans (k6 HST.out.rd.box 2), fun j v hj => by rw [Nat.zero_add]; exact (hu.cell (p := ⟨z4, j, none⟩) HST.out.l4).trans ((k6 HST.out.obj j).trans hj), HS.out.keep (HST.out.bel.trans (hu.mono HST.out.bel.size))⟩))
     have HFD := hid (HFK.out _ (Below.refl _ W5).drew)
     have HRB : Hid (kJ ((0 : UInt8), kL, kO) = false) := hid rfl
     refine kr 17 (fun u => u.cell? ⟨z5, 2, none⟩ = some (.bool true) ∧ u.rangeAt z4 0 [.int .u8 0, .int .i64 0, .slice none 0 0, .string k7, .slice none 0 0, .slice none 0 0, .slice none 0 0, .string k7, .string k7, .int .i64 0] ∧ Sl u w.heap.size (some ⟨b, off, none⟩) l.length 1 (idV l)) (by kernel_rfl) ?_
     have hF26 : (fun u => u.cell? ⟨z5, 2, none⟩ = some (.bool true) ∧ u.rangeAt z4 0 [.int .u8 0, .int .i64 0, .slice none 0 0, .string k7, .slice none 0 0, .slice none 0 0, .slice none 0 0, .string k7, .string k7, .int .i64 0] ∧ Sl u w.heap.size (some ⟨b, off, none⟩) l.length 1 (idV l)) W5.drew := HFD.out
     refine tw 0 (.pointer (some ⟨z5, 0, none⟩)) ?_
     go_frame
     refine tw 1 (.pointer (some ⟨z5, 0, none⟩)) ?_
     go_frame
     refine tw 2 (.pointer (some ⟨z5, 2, none⟩)) ?_
     go_frame
     refine tkF 3 (.bool true) (by kernel_rfl) rfl (fun _ _ _ h => h) (by rfl) hF26 (fun w' hw' => ki 4 _ rfl (p := ⟨z5, 2, none⟩) rfl Tryz.underlying4 rfl hw'.1) ?_
     go_frame
     refine tw 4 (.bool false) ?_
     go_frame
     refine tw 5 (.bool false) ?_
     go_frame
     refine tkF 6 (.agg [.int .u8 0, .int .i64 0, .slice none 0 0, .string k7, .slice none 0 0, .slice none 0 0, .slice none 0 0, .string k7, .string k7, .int .i64 0].toArray) (by kernel_rfl) rfl (fun _ _ _ h => h) (by rfl) hF26 (fun w' hw' => kd 30 _ rfl (p := ⟨z4, 0, none⟩) rfl (run_loadVar_mid w' _ _ _ [.int .u8 0, .int .i64 0, .slice none 0 0, .string k7, .slice none 0 0, .slice none 0 0, .slice none 0 0, .string k7, .string k7, .int .i64 0] _ hw'.2.1 Tryz.underlying30 rfl (by kernel_rfl))) ?_
     go_frame
     refine ta 7 ?_
     refine kC _ rfl (by kernel_rfl) (kv (f := 16) (args := #[.agg [.int .u8 0, .int .i64 0, .slice none 0 0, .string k7, .slice none 0 0, .slice none 0 0, .slice none 0 0, .string k7, .string k7, .int .i64 0].toArray]) rfl rfl (fun args w => hE1 w args) (by simp only [List.map_toArray, List.map_cons, List.map_nil]; rfl)) ?_
     refine (K3 ((0 : UInt8), kL, kO) _ W5.drew (HOI.out.keep (Below.refl _ W5).drew) hd1 hd2 hd3 hd4).mono ?_
     rintro e x1 ⟨hbx, rfl⟩
     rw [HRB.out]
     have hbV := (Below.refl W5.heap.size W5).drew.trans hbx
     have HFx := HFK.out _ hbV
     refine ⟨_, rfl, fun _ _ => HFx, ?_⟩
     go_frame
     refine tw 8 (.bool true) ?_
     go_frame
     refine tw 9 (.bool true) ?_
     go_frame
     refine tw 10 (.bool true) ?_
     go_frame
     refine tn 11 ?_
     go_frame
     refine tn 12 ?_
     go_frame
     refine tn 13 ?_
     go_frame
     refine tn 14 ?_
     go_frame
     refine tn 15 ?_
     go_frame
     refine tn 16 ?_
     go_frame
     refine tw 17 (.bool true) ?_
     go_frame
     refine kx (by kernel_rfl) ?_ _
     go_upto_region 27 with fail
     go_wp2_with (first
       | (with_reducible refine kQ ?_
          refine k9 (by rfl) (kF 30 _ rfl (zy _)) ?_)
       | (with_reducible refine ko ?_
          refine kj (by rfl) 30 _ _ rfl z2 0 [] objZ [] objZ 30 (.agg objZ.toArray) rfl rfl rfl rfl (by simpa using ((hbV).block z2 HST.out.l2).trans HST.out.res) rfl (by kernel_rfl) (by unfold objZ; intro u hu; simp only [List.mem_cons, List.not_mem_nil, or_false] at hu; rcases hu with rfl | rfl | rfl | rfl | rfl | rfl | rfl | rfl | rfl | rfl <;> rfl) ?_
          intro W9 hb9 hy9 hs9
          have HB9 := hid hb9
          have HY9 : Hid (W9.heap[z2]? = some (.cells objZ.toArray 30 (0, 0))) := hid (by simpa using hy9)
          clear hb9 hy9 hs9))
     refine bodyPost_ret (jn Tryz.results7 _ _ rfl rfl (zq HY9.out (by rfl))) rfl ?_
     refine ⟨HST.out.bel.trans (((hbV).mono HST.out.bel.size).trans (HB9.out.below (Nat.le_trans HST.out.bel.size (hbV).size) fun k hk e => by have := HDZ.out.n2; omega)), _, by rw [jx hlong HNO.out]; rfl, by rw [jx hlong HNO.out]; exact Kr _ _⟩
end Go.Proofs.YthjaepmfkgejkaaGreatDoor
