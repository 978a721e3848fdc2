/-
  The document's Decode of a change's bytes. Conditions: the bytes' slice is one.
-/
import Derived.Test.YthjaepmfkgejkaaGreatDoorMerged25
set_option linter.unusedVariables false
set_option linter.unusedSimpArgs false
set_option maxHeartbeats 4000000
set_option maxRecDepth 100000
namespace Go.Proofs.YthjaepmfkgejkaaGreatDoor
open Lib (hid)
open Go.RowKit Go.Maps
theorem vW {l : List UInt8} {ds : List (List UInt8)} {au : ByteArray} {xs : List OpD} {tm nn i a1 a2 a3 a4 aE : Nat} {ok1 ok2 ok3 ok4 okE : Bool}
    (h1 : true = true → ∀ y r, zR (l.drop 1) = some (y, r) → tm = y ∧ r = l.drop a1 ∧ ok1 = true)
    (h2 : ok1 = true → ∀ y r, kV 4096 pId (l.drop a1) = some (y, r) → ds = y ∧ r = l.drop a2 ∧ ok2 = true)
    (h3 : ok2 = true → ∀ y r, jL (l.drop a2) = some (y, r) → au = y ∧ r = l.drop a3 ∧ ok3 = true)
    (h4 : ok3 = true → ∀ y r, zR (l.drop a3) = some (y, r) → nn = y ∧ r = l.drop a4 ∧ ok4 = true)
    (hR : (ok4 && decide (nn ≤ 4096)) = true → ∀ ys r, zY (pOp ds) nn (l.drop a4) = some (ys, r) → okE = true ∧ ∃ zs, zY (pOp ds) (nn - i) (l.drop aE) = some (zs, r) ∧ ys = xs ++ zs)
    (hE : okE = true → nn ≤ i)
    (hb : zX l = some (67, l.drop 1)) (o : KO) (ho : ji l = some o) : okE = true ∧ o = (1, (((tm : Nat) : Int), ds, au, xs), kO) := by
  rw [readS_ch hb] at ho
  rcases hp : zT (l.drop 1) with _ | ⟨m, q⟩
  · rw [hp] at ho; cases ho
  ·
   rw [hp] at ho
   simp only at ho
   split at ho
   ·
    cases ho
    unfold zT at hp
    obtain ⟨x1, r1, g1, hp⟩ := kp hp
    obtain ⟨x2, r2, g2, hp⟩ := kp hp
    obtain ⟨x3, r3, g3, hp⟩ := kp hp
    obtain ⟨x4, r4, g4, hp⟩ := kp hp
    unfold Jk at g1
    obtain ⟨x6, r6, g6, g1⟩ := kp g1
    cases g1
    cases hp
    obtain ⟨rfl, rfl, k1⟩ := h1 rfl _ _ g6
    obtain ⟨rfl, rfl, k2⟩ := h2 k1 _ _ g2
    obtain ⟨rfl, rfl, k3⟩ := h3 k2 _ _ g3
    unfold kV at g4
    obtain ⟨x7, r7, g7, g4⟩ := kp g4
    obtain ⟨rfl, rfl, k4⟩ := h4 k3 _ _ g7
    unfold KS at g4
    split at g4
    ·
     rename_i hle
     obtain ⟨k5, zs, g8, rfl⟩ := hR (by rw [k4, hle]; rfl) _ _ g4
     rw [show nn - i = 0 by have := hE k5; omega] at g8
     cases g8
     exact ⟨k5, by rw [List.append_nil]⟩
    · cases g4
   · cases ho
theorem many_next {d : Ps OpD} {n a a2 : Nat} {l : List UInt8} {zs : List OpD} {r : List UInt8} {x : OpD} {ok2 : Bool} (hn : 0 < n) (h : zY d n (l.drop a) = some (zs, r)) (hx : ∀ y r, d (l.drop a) = some (y, r) → x = y ∧ r = l.drop a2 ∧ ok2 = true) : ok2 = true ∧ ∃ zt, zY d (n - 1) (l.drop a2) = some (zt, r) ∧ zs = x :: zt := by
  obtain ⟨m, rfl⟩ : ∃ m, n = m + 1 := ⟨n - 1, by omega⟩
  unfold zY at h
  obtain ⟨y, s, g1, h⟩ := kp h
  obtain ⟨t, s2, g2, h⟩ := kp h
  cases h
  obtain ⟨rfl, rfl, k⟩ := hx _ _ g1
  exact ⟨k, t, g2, rfl⟩
theorem rows_apart {w : World} {b1 b2 : Nat} {e1 e2 : TypeId} {s1 s2 n1 n2 k : Nat} {v1 v2 : Value} {x1 x2 : List Value} (h1 : w.ownsRow b1 e1 s1 v1 n1 x1) (h2 : w.ownsRow b2 e2 s2 v2 n2 x2) (he : e1 ≠ e2) (k1 : v1.ownBlock = some k) (k2 : v2.ownBlock = some k) : False := by
  rcases h1.2 with ⟨h6, _⟩ | ⟨g1, cap1, cur1, h6, _, hh1, _⟩
  · rw [h6] at k1; cases k1
  rcases h2.2 with ⟨h7, _⟩ | ⟨g2, cap2, cur2, h7, _, hh2, _⟩
  · rw [h7] at k2; cases k2
  rw [h6] at k1
  rw [h7] at k2
  have e1' : g1 = k := by simpa [Value.ownBlock] using k1
  have e2' : g2 = k := by simpa [Value.ownBlock] using k2
  subst e1'
  subst e2'
  rw [hh1] at hh2
  injection hh2 with hh2
  injection hh2 with _ hh2 _
  exact he hh2
theorem DcSt.app {w wx wy : World} {z2 z4 z5 b off c a : Nat} {l : List UInt8} {cs : List Value} {ok : Bool} {B : Option Nat} (h : DcSt w z2 z4 z5 b off c l cs a ok wx) (hw : b < w.heap.size) (hb : But (fun k => B = some k) wx wy) (hX : ∀ k, B = some k → w.heap.size ≤ k ∧ k ≠ z2 ∧ k ≠ z4 ∧ k ≠ z5) : DcSt w z2 z4 z5 b off c l cs a ok wy := by
  have h4 := h.rd.lt; have h5 := h.rd.low
  exact ⟨⟨(hb.block z5 h.rd.lt (fun e => (hX _ e).2.2.2 rfl)).trans h.rd.box, h.rd.le, h.rd.cap, h.rd.low, fun j hj => (hb.cell (Nat.lt_trans h5 h4) (fun e => by have := (hX _ e).1; omega)).trans (h.rd.bytes j hj)⟩, h.bel.trans (hb.below h.bel.size fun k hk e => by have := (hX _ e).1; omega), (hb.block z2 h.l2 (fun e => (hX _ e).2.1 rfl)).trans h.res, (hb.block z4 h.l4 (fun e => (hX _ e).2.2.1 rfl)).trans h.obj⟩
theorem qs (l : List UInt8) (A : Option Addr) (c : Nat) (w : World) (hs : Sl w w.heap.size A l.length 1 (idV l)) (hc : l.length ≤ c) (hl : l.length ≤ 1099511627776) (hlong : ¬ 262144 < l.length) (hl1 : 1 ≤ l.length) (h67 : l[0] = 67) :
    Calls Tryz.prog 7 #[.slice A l.length c] w (ObjDec l w) := by
  have HS := hid hs
  clear hs
  have i1 : ¬ (262144 : Int) < (l.length : Int) := by omega
  have i2 : ((l.length : Int) == 0) = false := by rw [beq_eq_false_iff_ne]; omega
  have i3 : (0 : Int) < (l.length : Int) := by omega
  obtain ⟨b, off, rfl, hbw, hcl⟩ := HS.out.2 hl1
  have HBY := hid (fun j (hj : j < l.length) => (show w.cell? ⟨b, off + j, none⟩ = some (.int .u8 ((l[j]).toNat : Int)) from hcl j _ (by unfold idV; rw [List.getElem?_map, List.getElem?_eq_getElem hj]; rfl)))
  obtain ⟨k, hk⟩ : ∃ k, l[0] = k := ⟨_, rfl⟩
  have HKE := hid hk
  have h67 : k = 67 := by rw [← hk]; exact h67
  have HPB : Hid (zX l = some (67, l.drop 1)) := hid (by rw [← h67, ← hk]; cases l with | nil => exact absurd hl1 (by simp) | cons x t => simp [zX])
  have e67 : ((k.toNat : Int) == 67) = true := by rw [h67]; rfl
  have e75 : ((k.toNat : Int) == 75) = false := by rw [h67]; rfl
  clear hcl hk
  go_enter Tryz.func7, Tryz.ntmps7
  go_upto_region 1 with (first
    | (with_reducible refine kG ?_
       refine kE (by rfl) 30 rfl objZ (jt _) ?_
       intro W0 hb0 hz0 hs0
       have HB0 := hid hb0; have HZ0 := hid hz0; have HQ0 := hid hs0
       clear hb0 hz0 hs0))
  obtain ⟨z2, hz2⟩ : ∃ z, w.heap.size = z := ⟨_, rfl⟩
  have HZR : Hid (W0.heap[z2]? = some (.cells objZ.toArray 30 (0, 0))) := hid (by rw [← hz2]; exact HZ0.out)
  have HN2 := hid (show w.heap.size ≤ z2 by omega)
  rw [hz2] at HQ0 ⊢
  try go_frame
  clear HZ0
  go_upto_region 7 with (first
    | (with_reducible refine kG ?_
       refine kE (by rfl) 30 rfl objZ (jt _) ?_
       intro W4 hb4 hz4 hs4
       have HB4 := hid hb4; have HZ4 := hid hz4; have HQ4 := hid hs4
       clear hb4 hz4 hs4)
    | (with_reducible refine kQ ?_
       refine k9 (by rfl) (kF 63 _ rfl (UY _ _ _ _ _)) ?_)
    | (with_reducible refine kH ?_
       refine kA (by rfl) 63 _ rfl [.slice (some ⟨b, off, none⟩) l.length c, .int .i64 1, .bool true] _ rfl rfl (by kernel_rfl) ?_
       intro W5 hb5 hz5 hs5
       have HB5 := hid hb5; have HZ5 := hid hz5; have HQ5 := hid hs5
       clear hb5 hz5 hs5))
  obtain ⟨z4, hz4⟩ : ∃ z, W0.heap.size = z := ⟨_, rfl⟩
  obtain ⟨z5, hz5⟩ : ∃ z, W4.heap.size = z := ⟨_, rfl⟩
  have HDZ : Hid (DcZ w z2 z4 z5) := hid (by have q0 := HQ0.out; have q4 := HQ4.out; have q5 := HQ5.out; exact ⟨by omega, by omega, by omega, by omega, by omega, by omega⟩)
  have HST : Hid (DcSt w z2 z4 z5 b off c l objZ 1 true W5) := hid (by
    have h5 := HB4.out.trans (HB5.out.mono HB4.out.size)
    have h0 := HB0.out.trans (h5.mono HB0.out.size)
    refine ⟨⟨by rw [← hz5]; exact HZ5.out, hl1, hc, Nat.lt_of_lt_of_le hbw HDZ.out.n5, fun j hj => ?_⟩, h0, (h5.block z2 (Array.getElem?_eq_some_iff.1 HZR.out).1).trans HZR.out, by rw [← hz4]; exact (HB5.out.block _ (Array.getElem?_eq_some_iff.1 HZ4.out).1).trans HZ4.out⟩
    exact (h0.cell (p := ⟨b, off + j, none⟩) hbw).trans (HBY.out j hj))
  rw [hz4, hz5]
  try go_frame
  clear hz2 hz4 hz5 HQ0 HQ4 HQ5 HB0 HB4 HB5 HZ4 HZ5 HZR HN2
  have HK0 := hid (HBY.out 0 hl1)
  have ck : W5.cell? ⟨b, off, none⟩ = some (.int .u8 (k.toNat : Int)) := by have h := HST.out.rd.bytes 0 hl1; rw [Nat.add_zero, HKE.out] at h; exact h
  go_upto_region 8 with fail
  go_upto_region 9 with (first
    | (with_reducible refine ko ?_
       refine kj (by rfl) 5 _ _ rfl z4 0 [] [.int .u8 0] [.int .i64 0, .slice none 0 0, .string k7, .slice none 0 0, .slice none 0 0, .slice none 0 0, .string k7, .string k7, .int .i64 0] [.int .u8 1] 30 (.int .u8 1) rfl rfl rfl rfl HST.out.obj rfl (by kernel_rfl) (by intro u hu; rw [List.mem_singleton.1 hu]; rfl) ?_
       intro V0 hbs hys hss
       have HST : Hid (DcSt w z2 z4 z5 b off c l [.int .u8 1, .int .i64 0, .slice none 0 0, .string k7, .slice none 0 0, .slice none 0 0, .slice none 0 0, .string k7, .string k7, .int .i64 0] 1 true V0) := hid (HST.out.put HDZ.out hbw hbs hys)
       have HRB := hid HST.out.rd.box
       clear hbs hys hss))
  have HRB := hid HST.out.rd.box
  go_upto_region 10 with (first
    | (go_at_call 25; refine (Jc z5 b off c l 1 true _ HST.out.rd hl).mono ?_
       rintro e u1 ⟨tm, v1, a1, ok1, rfl, ⟨rfl, hnb1⟩, hrd, hbt, himp⟩
       have HST := hid (HST.out.read HDZ.out hrd hbt)
       have HIM1 := hid himp
       clear hrd hbt himp)
    | (with_reducible refine ko ?_
       refine kj (by rfl) 3 _ _ rfl z4 1 [.int .u8 1] [.int .i64 0] [.slice none 0 0, .string k7, .slice none 0 0, .slice none 0 0, .slice none 0 0, .string k7, .string k7, .int .i64 0] [.int .i64 (tm : Int)] 30 (.int .i64 (tm : Int)) rfl rfl rfl rfl HST.out.obj rfl (by kernel_rfl) (by intro u hu; rw [List.mem_singleton.1 hu]; rfl) ?_
       intro V1 hbs hys hss
       have HST : Hid (DcSt w z2 z4 z5 b off c l [.int .u8 1, .int .i64 (tm : Int), .slice none 0 0, .string k7, .slice none 0 0, .slice none 0 0, .slice none 0 0, .string k7, .string k7, .int .i64 0] a1 ok1 V1) := hid (HST.out.put HDZ.out hbw hbs hys)
       have HRB := hid HST.out.rd.box
       clear hbs hys hss))
  have HST0 := HST
  go_upto_region 11 with (first
    | (go_at_call 26; refine (uj z5 b off c l a1 ok1 4096 _ HST.out.rd hl (by decide)).mono ?_
       rintro e u2 ⟨ds, v2, a2, ok2, rfl, ⟨hio, hpl2, Ad, cd, rfl, hiow⟩, hrd, hbt, himp⟩
       have HST := hid (HST.out.read HDZ.out hrd hbt)
       have HIM2 := hid himp
       have HW_ds := hid (KM hiow HST0.out.bel.size)
       have HI_ds := hid hio
       clear hio hiow
       clear hrd hbt himp)
    | (with_reducible refine ko ?_
       refine kj (by rfl) 23 _ _ rfl z4 2 [.int .u8 1, .int .i64 (tm : Int)] [.slice none 0 0] [.string k7, .slice none 0 0, .slice none 0 0, .slice none 0 0, .string k7, .string k7, .int .i64 0] [.slice Ad ds.length cd] 30 (.slice Ad ds.length cd) rfl rfl rfl rfl HST.out.obj rfl (by kernel_rfl) (by intro u hu; rw [List.mem_singleton.1 hu]; rfl) ?_
       intro V2 hbs hys hss
       have HW_ds := hid (hbs.own HW_ds.out fun k hk e => kN HW_ds.out HST.out.obj (by decide) (by rw [hk, e]))
       have HST : Hid (DcSt w z2 z4 z5 b off c l [.int .u8 1, .int .i64 (tm : Int), .slice Ad ds.length cd, .string k7, .slice none 0 0, .slice none 0 0, .slice none 0 0, .string k7, .string k7, .int .i64 0] a2 ok2 V2) := hid (HST.out.put HDZ.out hbw hbs hys)
       have HRB := hid HST.out.rd.box
       clear hbs hys hss))
  go_upto_region 12 with (first
    | (go_at_call 27; refine (Jd z5 b off c l a2 ok2 _ HST.out.rd hl).mono ?_
       rintro e u3 ⟨au, v3, a3, ok3, rfl, ⟨rfl, hts3⟩, hrd, hbt, himp⟩
       have HST := hid (HST.out.read HDZ.out hrd hbt)
       have HIM3 := hid himp
       have HW_ds := hid (hbt.own HW_ds.out fun k hk e => kN HW_ds.out HRB.out (by decide) (by rw [hk, e]))
       clear hrd hbt himp)
    | (with_reducible refine ko ?_
       refine kj (by rfl) 9 _ _ rfl z4 3 [.int .u8 1, .int .i64 (tm : Int), .slice Ad ds.length cd] [.string k7] [.slice none 0 0, .slice none 0 0, .slice none 0 0, .string k7, .string k7, .int .i64 0] [.string au] 30 (.string au) rfl rfl rfl rfl HST.out.obj rfl (by kernel_rfl) (by intro u hu; rw [List.mem_singleton.1 hu]; rfl) ?_
       intro V3 hbs hys hss
       have HW_ds := hid (hbs.own HW_ds.out fun k hk e => kN HW_ds.out HST.out.obj (by decide) (by rw [hk, e]))
       have HST : Hid (DcSt w z2 z4 z5 b off c l [.int .u8 1, .int .i64 (tm : Int), .slice Ad ds.length cd, .string au, .slice none 0 0, .slice none 0 0, .slice none 0 0, .string k7, .string k7, .int .i64 0] a3 ok3 V3) := hid (HST.out.put HDZ.out hbw hbs hys)
       have HRB := hid HST.out.rd.box
       clear hbs hys hss))
  go_upto_region 13 with (first
    | (go_at_call 25; refine (Jc z5 b off c l a3 ok3 _ HST.out.rd hl).mono ?_
       rintro e u4 ⟨nn, v4, a4, ok4, rfl, ⟨rfl, hnb4⟩, hrd, hbt, himp⟩
       have HST := hid (HST.out.read HDZ.out hrd hbt)
       have HIM4 := hid himp
       have HW_ds := hid (hbt.own HW_ds.out fun k hk e => kN HW_ds.out HRB.out (by decide) (by rw [hk, e]))
       clear hrd hbt himp))
  have HRB := hid HST.out.rd.box
  obtain ⟨okn, hokn⟩ : ∃ okn, (ok4 && decide (nn ≤ 4096)) = okn := ⟨_, rfl⟩
  have HKN := hid hokn
  have f2 := HST.out.rd.frozen 2
  obtain ⟨hm1, hm2⟩ := HST.out.rd.say okn
  have HM1 := hid hm1; have HM2 := hid hm2
  have HSTn := hid (HST.out.read HDZ.out hm1 hm2)
  have HW_n := hid (hm2.own HW_ds.out fun k hk e => kN HW_ds.out HRB.out (by decide) (by rw [hk, e]))
  clear hm1 hm2
  go_cut [] from 39 to 49 (fun wx => Hid (wx = (u4.setCell ⟨z5, 2, none⟩ (.bool okn))))
  case first =>
    have c2 : u4.cell? ⟨z5, 2, none⟩ = some (.bool ok4) := k6 HST.out.rd.box 2
    cases ok4
    ·
     rw [Bool.false_and] at hokn
     subst hokn
     go_wp2_with fail
     go_meet
     case rel => exact hid rfl
    ·
     by_cases hn : nn ≤ 4096
     ·
      rw [Bool.true_and, decide_eq_true hn] at hokn
      subst hokn
      have i4 : (nn : Int) ≤ 4096 := by omega
      go_wp2_with fail
      go_meet
      case rel => exact hid rfl
     ·
      rw [Bool.true_and, decide_eq_false hn] at hokn
      subst hokn
      have i4 : ¬ (nn : Int) ≤ 4096 := by omega
      go_wp2_with fail
      go_meet
      case rel => exact hid rfl
  case rest =>
    have HCT := hcut.out
    subst HCT
    generalize u4.setCell ⟨z5, 2, none⟩ (.bool okn) = u5 at *
    clear HST HW_ds HM1 HM2 hokn f2
    go_wp2_with fail
    go_loopw [7] (fun t7 wr => ∃ (i : Nat) (xs : List OpD) (Ao : Option Addr) (co a : Nat) (ok : Bool), i ≤ nn ∧ i ≤ 4096 ∧ t7 = .int .i64 ((i : Nat) : Int) ∧ xs.length = i ∧ Hid (DcSt w z2 z4 z5 b off c l [.int .u8 1, .int .i64 (tm : Int), .slice Ad ds.length cd, .string au, .slice Ao xs.length co, .slice none 0 0, .slice none 0 0, .string k7, .string k7, .int .i64 0] a ok wr) ∧ Hid (wr.ownsRow w.heap.size 47 32 (.slice Ad ds.length cd) ds.length (jf ds)) ∧ Hid (wr.ownsRow w.heap.size 70 70 (.slice Ao xs.length co) xs.length (jk opV xs)) ∧ Hid (∀ x ∈ xs, KW x) ∧ Hid (ok = true → nn ≤ 4096) ∧ Hid (okn = true → ∀ ys r, zY (pOp ds) nn (l.drop a4) = some (ys, r) → ok = true ∧ ∃ zs, zY (pOp ds) (nn - i) (l.drop a) = some (zs, r) ∧ ys = xs ++ zs)) (fun t7 _ => nn - (intOf t7).toNat)
    case atStart => exact ⟨0, [], none, 0, a4, okn, Nat.zero_le _, Nat.zero_le _, rfl, rfl, HSTn, HW_n, hid (World.ownsRow_nil _ _ _ _), hid (fun x hx => by cases hx), hid (fun e => by rw [← HKN.out] at e; simp only [Bool.and_eq_true, decide_eq_true_eq] at e; exact e.2), hid (fun e ys r h => ⟨e, ys, h, rfl⟩)⟩
    case round =>
      obtain ⟨i, xs, Ao, co, a, ok, hi, hi4, rfl, hxl, HST, HWD, HWO, HOX, HNL, HRS⟩ := hrel
      have HXL := hid hxl
      clear hxl
      have HRB := hid HST.out.rd.box
      have c2 : wr.cell? ⟨z5, 2, none⟩ = some (.bool ok) := k6 HST.out.rd.box 2
      by_cases hlt : i < nn
      ·
       have i5 : (i : Int) < (nn : Int) := by omega
       cases ok
       ·
        have HEX : Hid (false = true → nn ≤ i) := hid (fun h => absurd h (by decide))
        have HFN := hid (vW (fun _ => HIM1.out trivial) HIM2.out HIM3.out HIM4.out (by rw [HKN.out]; exact HRS.out) HEX.out HPB.out)
        have HOI := hid (vd (t := tm) HI_ds.out HOX.out HWD.out HWO.out hnb1 hts3)
        have hd1 : ds.length ≤ 1099511627776 := by omega
        have hd2 : xs.length ≤ 1099511627776 := by have := HXL.out; omega
        have hd3 : (0 : Nat) ≤ 1099511627776 := by omega
        have hd4 := hd3
        obtain ⟨wf, hwf⟩ : ∃ u : World, u = wr := ⟨_, rfl⟩
        subst hwf
        clear HIM1 HIM2 HIM3 HIM4 HRS HEX HNL
        go_upto_region 19 with fail
        have ck : wf.cell? ⟨b, off, none⟩ = some (.int .u8 (k.toNat : Int)) := by have h := HST.out.rd.bytes 0 hl1; rw [Nat.add_zero, HKE.out] at h; exact h
        have hE1 : ∀ (u : World) (args : Array Value), (callFunc 16 args).run Tryz.prog u = .ok (.enter 16 args) u := fun u args => enters_of Tryz.func16 (by kernel_rfl) rfl args u
        have hE2 : ∀ (u : World) (args : Array Value), (callFunc 29 args).run Tryz.prog u = .ok (.enter 29 args) u := fun u args => enters_of Tryz.func29 (by kernel_rfl) rfl args u
        go_upto_region 26 with fail
        have HFK := hid (fun (u : World) (hu : Below wf.heap.size wf u) => (show (fun u => u.cell? ⟨z5, 2, none⟩ = some (.bool false) ∧ u.rangeAt z4 0 [.int .u8 1, .int .i64 (tm : Int), .slice Ad ds.length cd, .string au, .slice Ao xs.length co, .slice none 0 0, .slice none 0 0, .string k7, .string k7, .int .i64 0] ∧ Sl u w.heap.size (some ⟨b, off, none⟩) l.length 1 (idV l)) u from ⟨(hu.cell (p := ⟨z5, 2, none⟩) HST.out.rd.lt).trans (k6 HST.out.rd.box 2), fun j v hj => by rw [Nat.zero_add]; exact (hu.cell (p := ⟨z4, j, none⟩) HST.out.l4).trans ((k6 HST.out.obj j).trans hj), HS.out.keep (HST.out.bel.trans (hu.mono HST.out.bel.size))⟩))
        have HFD := hid (HFK.out _ (Below.refl _ wf).drew)
        have HNO : Hid (ji l = none) := hid (by
          rcases hq : ji l with _ | o
          · rfl
          · exact absurd (HFN.out o hq).1 (by decide))
        refine kr 17 (fun u => u.cell? ⟨z5, 2, none⟩ = some (.bool false) ∧ u.rangeAt z4 0 [.int .u8 1, .int .i64 (tm : Int), .slice Ad ds.length cd, .string au, .slice Ao xs.length co, .slice none 0 0, .slice none 0 0, .string k7, .string k7, .int .i64 0] ∧ Sl u w.heap.size (some ⟨b, off, none⟩) l.length 1 (idV l)) (by kernel_rfl) ?_
        have hF26 : (fun u => u.cell? ⟨z5, 2, none⟩ = some (.bool false) ∧ u.rangeAt z4 0 [.int .u8 1, .int .i64 (tm : Int), .slice Ad ds.length cd, .string au, .slice Ao xs.length co, .slice none 0 0, .slice none 0 0, .string k7, .string k7, .int .i64 0] ∧ Sl u w.heap.size (some ⟨b, off, none⟩) l.length 1 (idV l)) wf.drew := HFD.out
        refine tw 0 (.pointer (some ⟨z5, 0, none⟩)) ?_
        go_frame
        refine tw 1 (.pointer (some ⟨z5, 0, none⟩)) ?_
        go_frame
        refine tw 2 (.pointer (some ⟨z5, 2, none⟩)) ?_
        go_frame
        refine tkF 3 (.bool false) (by kernel_rfl) rfl (fun _ _ _ h => h) (by rfl) hF26 (fun w' hw' => ki 4 _ rfl (p := ⟨z5, 2, none⟩) rfl Tryz.underlying4 rfl hw'.1) ?_
        go_frame
        refine tw 4 (.bool true) ?_
        go_frame
        refine tw 5 (.bool true) ?_
        go_frame
        refine tn 6 ?_
        go_frame
        refine tn 7 ?_
        go_frame
        refine tn 8 ?_
        go_frame
        refine tw 9 (.bool true) ?_
        go_frame
        refine tw 10 (.bool true) ?_
        go_frame
        refine tn 11 ?_
        go_frame
        refine tn 12 ?_
        go_frame
        refine tn 13 ?_
        go_frame
        refine tn 14 ?_
        go_frame
        refine tn 15 ?_
        go_frame
        refine tn 16 ?_
        go_frame
        refine tw 17 (.bool true) ?_
        go_frame
        refine kx (by kernel_rfl) ?_ _
        go_upto_region 27 with fail
        go_wp2_with (first
          | (with_reducible refine kQ ?_
             refine k9 (by rfl) (kF 30 _ rfl (zy _)) ?_)
          | (with_reducible refine ko ?_
             refine kj (by rfl) 30 _ _ rfl z2 0 [] objZ [] objZ 30 (.agg objZ.toArray) rfl rfl rfl rfl (by simpa using (((Below.refl wf.heap.size wf).drew).block z2 HST.out.l2).trans HST.out.res) rfl (by kernel_rfl) (by unfold objZ; intro u hu; simp only [List.mem_cons, List.not_mem_nil, or_false] at hu; rcases hu with rfl | rfl | rfl | rfl | rfl | rfl | rfl | rfl | rfl | rfl <;> rfl) ?_
             intro W9 hb9 hy9 hs9
             have HB9 := hid hb9
             have HY9 : Hid (W9.heap[z2]? = some (.cells objZ.toArray 30 (0, 0))) := hid (by simpa using hy9)
             clear hb9 hy9 hs9))
        refine bodyPost_ret (jn Tryz.results7 _ _ rfl rfl (zq HY9.out (by rfl))) rfl ?_
        refine ⟨HST.out.bel.trans ((((Below.refl wf.heap.size wf).drew).mono HST.out.bel.size).trans (HB9.out.below (Nat.le_trans HST.out.bel.size ((Below.refl wf.heap.size wf).drew).size) fun k hk e => by have := HDZ.out.n2; omega)), _, by rw [jx hlong HNO.out]; rfl, by rw [jx hlong HNO.out]; exact Kr _ _⟩
       ·
        have hn4 := HNL.out rfl
        have cds : wr.cell? ⟨z4, 2, none⟩ = some (.slice Ad ds.length cd) := k6 HST.out.obj 2
        go_upto_region 18 with (first
          | (go_at_call 28; refine (rrOp_any z5 b off c l a true _ HST.out.rd hl ds Ad cd (by omega) HI_ds.out (Sl.of_own HWD.out)).mono ?_
             rintro e v1 ⟨x, v, a', ok', rfl, ⟨rfl, hxi⟩, hrd, hbt, himp⟩
             have HX := hid hxi; have HIX := hid himp
             have HST := hid (HST.out.read HDZ.out hrd hbt)
             have HWD := hid (hbt.own HWD.out fun k hk e => kN HWD.out HRB.out (by decide) (by rw [hk, e]))
             have HWO := hid (hbt.own HWO.out fun k hk e => kN HWO.out HRB.out (by decide) (by rw [hk, e]))
             clear hrd hbt himp hxi)
          | (with_reducible refine kG ?_
             refine kE (by rfl) 70 rfl (opV jd) (zj _) ?_
             intro Wa hba hya hsa
             have HBa := hid hba; have HYa := hid hya; have HSa := hid hsa
             clear hba hya hsa)
          | (with_reducible refine ko ?_
             refine kj (by rfl) 70 _ _ rfl v1.heap.size 0 [] (opV jd) [] (opV x) 70 _ rfl rfl rfl rfl (by simpa using HYa.out) (by rw [kg HX.out]; exact kg (jI 0)) (by rw [kg HX.out]; exact kw) (zA x) ?_
             intro Wb hbb hyb hsb
             have HBb := hid (HBa.out.trans (hbb.below (by have := HSa.out; omega) (fun k hk e => by omega)))
             have HYb : Hid (Wb.heap[v1.heap.size]? = some (.cells (opV x).toArray 70 (0, 0))) := hid (by simpa using hyb)
             clear hbb hyb hsb))
        have HST := hid (HST.out.keep HBb.out)
        have HWD := hid ((But.of_below (X := NoB) HBb.out).own HWD.out fun _ _ q => q)
        have HWO := hid ((But.of_below (X := NoB) HBb.out).own HWO.out fun _ _ q => q)
        obtain ⟨zx, hzx⟩ : ∃ zx, v1.heap.size = zx := ⟨_, rfl⟩
        rw [hzx] at HYb ⊢
        have hal : Below Wb.heap.size Wb (Wb.alloc (.cells (opV x).toArray 70)) := (Below.refl _ _).alloc (Nat.le_refl _) _
        have HSA := hid (HST.out.keep hal)
        have HDA := hid ((But.of_below (X := NoB) hal).own HWD.out fun _ _ q => q)
        have HOA := hid ((But.of_below (X := NoB) hal).own HWO.out fun _ _ q => q)
        have HBZ := hid (show w.heap.size ≤ (Wb.alloc (.cells (opV x).toArray 70)).heap.size from Nat.le_trans HST.out.bel.size hal.size)
        have HNW := hid (show ∀ j u, (opV x)[j]? = some u → (Wb.alloc (.cells (opV x).toArray 70)).cell? ((⟨Wb.heap.size, 0, none⟩ : Addr).add j) = some u from fun j u hj => by
          have e1 : (⟨Wb.heap.size, 0, none⟩ : Addr).add j = ⟨Wb.heap.size, j, none⟩ := by unfold Addr.add; split <;> simp_all
          rw [e1]
          exact (k6 (heap_alloc_new Wb (.cells (opV x).toArray 70)) j).trans hj)
        have cop : Wb.cell? ⟨z4, 4, none⟩ = some (.slice Ao xs.length co) := k6 HST.out.obj 4
        clear hzx HBa HYa HSa HBb hal
        go_upto_region 16 with (first
          | (with_reducible refine ke ?_
             refine k9 (by rfl) (kd 70 _ rfl (p := ⟨zx, 0, none⟩) rfl (run_loadVar_mid _ _ _ _ (opV x) _ (fun j u hj => by rw [Nat.zero_add]; exact (k6 HYb.out j).trans hj) Tryz.underlying70 rfl (by rw [kg HX.out]; exact kw))) ?_)
          | (refine K0 (by rfl) 24 _ rfl 70 Tryz.underlying24 (.agg (opV jd).toArray) 70 128 qk rfl (by decide) (by decide) (opV x) (kg HX.out) rfl ?_)
          | (at_builtin; refine Kn (by rfl) _ _ 24 rfl w.heap.size 70 (.agg (opV jd).toArray) 70 128 Tryz.underlying24 qk rfl (by decide) (.slice Ao xs.length co) xs.length (jk opV xs) rfl HOA.out ⟨Wb.heap.size, 0, none⟩ 1 1 (opV x) rfl (by rw [kg HX.out]) HNW.out (zA x) (by have hq := HXL.out; unfold maxLen; omega) (by have hq := HXL.out; omega) HBZ.out ?_
             intro v9 w9 ho9 hg9 hw9
             obtain ⟨A9, c9, rfl⟩ := kB ho9
             have hbk : But (fun k => (Value.slice Ao xs.length co).ownBlock = some k) (Wb.alloc (.cells (opV x).toArray 70)) w9 := (But.refl _ _).grown hg9 fun k hk _ => hk
             have HST9 := hid (HSA.out.app hbw hbk (fun k e => ⟨(HOA.out.lt k e).1, fun q => kN HOA.out HSA.out.res (by decide) (by rw [e, q]), fun q => kN HOA.out HSA.out.obj (by decide) (by rw [e, q]), fun q => kN HOA.out HSA.out.rd.box (by decide) (by rw [e, q])⟩))
             have HWD9 := hid (hbk.own HDA.out fun k hk e => rows_apart HDA.out HOA.out (by decide) hk e)
             have HWO9 := hid ho9
             clear ho9 hg9 hw9 hbk)
          | (with_reducible refine ko ?_
             refine kj (by rfl) 24 _ _ rfl z4 4 [.int .u8 1, .int .i64 (tm : Int), .slice Ad ds.length cd, .string au] [.slice Ao xs.length co] [.slice none 0 0, .slice none 0 0, .string k7, .string k7, .int .i64 0] [.slice A9 (xs.length + 1) c9] 30 (.slice A9 (xs.length + 1) c9) rfl rfl rfl rfl HST9.out.obj rfl (by kernel_rfl) (by intro u hu; rw [List.mem_singleton.1 hu]; rfl) ?_
             intro W9 hbs hys hss
             have HWD := hid (hbs.own HWD9.out fun k hk e => kN HWD9.out HST9.out.obj (by decide) (by rw [hk, e]))
             have HWO := hid (hbs.own HWO9.out fun k hk e => kN HWO9.out HST9.out.obj (by decide) (by rw [hk, e]))
             have HST : Hid (DcSt w z2 z4 z5 b off c l [.int .u8 1, .int .i64 (tm : Int), .slice Ad ds.length cd, .string au, .slice A9 (xs.length + 1) c9, .slice none 0 0, .slice none 0 0, .string k7, .string k7, .int .i64 0] a' ok' W9) := hid (HST9.out.put HDZ.out hbw hbs hys)
             clear hbs hys hss))
        have HRS2 : Hid (okn = true → ∀ ys r, zY (pOp ds) nn (l.drop a4) = some (ys, r) → ok' = true ∧ ∃ zs, zY (pOp ds) (nn - (i + 1)) (l.drop a') = some (zs, r) ∧ ys = (xs ++ [x]) ++ zs) := hid (fun e ys r h => by
          obtain ⟨_, zs, g1, rfl⟩ := HRS.out e ys r h
          obtain ⟨k1, zt, g2, rfl⟩ := many_next (by omega) g1 (HIX.out (by trivial))
          exact ⟨k1, zt, by rw [show nn - (i + 1) = nn - i - 1 by omega]; exact g2, by simp⟩)
        have HRW := hid (show W9.ownsRow w.heap.size 70 70 (.slice A9 (xs ++ [x]).length c9) (xs ++ [x]).length (jk opV (xs ++ [x])) by rw [List.length_append, show [x].length = 1 from rfl, Ug]; exact HWO.out)
        go_wp2_with fail
        go_roundw
        case rel => exact ⟨i + 1, xs ++ [x], A9, c9, a', ok', by omega, by omega, by go_num, by rw [List.length_append, HXL.out]; rfl, hid (by rw [List.length_append]; exact HST.out), HWD, HRW, hid (fun y hy => by rcases List.mem_append.1 hy with hy | hy; exact HOX.out y hy; rw [List.mem_singleton.1 hy]; exact HX.out), hid (fun _ => hn4), HRS2⟩
        case measure => (simp [intOf]) <;> omega
      ·
       have i5 : ¬ (i : Int) < (nn : Int) := by omega
       have HEX : Hid (ok = true → nn ≤ i) := hid (fun _ => by omega)
       have HFN := hid (vW (fun _ => HIM1.out trivial) HIM2.out HIM3.out HIM4.out (by rw [HKN.out]; exact HRS.out) HEX.out HPB.out)
       have HOI := hid (vd (t := tm) HI_ds.out HOX.out HWD.out HWO.out hnb1 hts3)
       have hd1 : ds.length ≤ 1099511627776 := by omega
       have hd2 : xs.length ≤ 1099511627776 := by have := HXL.out; omega
       have hd3 : (0 : Nat) ≤ 1099511627776 := by omega
       have hd4 := hd3
       obtain ⟨wf, hwf⟩ : ∃ u : World, u = wr := ⟨_, rfl⟩
       subst hwf
       clear HIM1 HIM2 HIM3 HIM4 HRS HEX HNL
       go_upto_region 19 with fail
       have ck : wf.cell? ⟨b, off, none⟩ = some (.int .u8 (k.toNat : Int)) := by have h := HST.out.rd.bytes 0 hl1; rw [Nat.add_zero, HKE.out] at h; exact h
       have hE1 : ∀ (u : World) (args : Array Value), (callFunc 16 args).run Tryz.prog u = .ok (.enter 16 args) u := fun u args => enters_of Tryz.func16 (by kernel_rfl) rfl args u
       have hE2 : ∀ (u : World) (args : Array Value), (callFunc 29 args).run Tryz.prog u = .ok (.enter 29 args) u := fun u args => enters_of Tryz.func29 (by kernel_rfl) rfl args u
       go_upto_region 26 with fail
       cases ok
       ·
        have HFK := hid (fun (u : World) (hu : Below wf.heap.size wf u) => (show (fun u => u.cell? ⟨z5, 2, none⟩ = some (.bool false) ∧ u.rangeAt z4 0 [.int .u8 1, .int .i64 (tm : Int), .slice Ad ds.length cd, .string au, .slice Ao xs.length co, .slice none 0 0, .slice none 0 0, .string k7, .string k7, .int .i64 0] ∧ Sl u w.heap.size (some ⟨b, off, none⟩) l.length 1 (idV l)) u from ⟨(hu.cell (p := ⟨z5, 2, none⟩) HST.out.rd.lt).trans (k6 HST.out.rd.box 2), fun j v hj => by rw [Nat.zero_add]; exact (hu.cell (p := ⟨z4, j, none⟩) HST.out.l4).trans ((k6 HST.out.obj j).trans hj), HS.out.keep (HST.out.bel.trans (hu.mono HST.out.bel.size))⟩))
        have HFD := hid (HFK.out _ (Below.refl _ wf).drew)
        have HNO : Hid (ji l = none) := hid (by
          rcases hq : ji l with _ | o
          · rfl
          · exact absurd (HFN.out o hq).1 (by decide))
        refine kr 17 (fun u => u.cell? ⟨z5, 2, none⟩ = some (.bool false) ∧ u.rangeAt z4 0 [.int .u8 1, .int .i64 (tm : Int), .slice Ad ds.length cd, .string au, .slice Ao xs.length co, .slice none 0 0, .slice none 0 0, .string k7, .string k7, .int .i64 0] ∧ Sl u w.heap.size (some ⟨b, off, none⟩) l.length 1 (idV l)) (by kernel_rfl) ?_
        have hF26 : (fun u => u.cell? ⟨z5, 2, none⟩ = some (.bool false) ∧ u.rangeAt z4 0 [.int .u8 1, .int .i64 (tm : Int), .slice Ad ds.length cd, .string au, .slice Ao xs.length co, .slice none 0 0, .slice none 0 0, .string k7, .string k7, .int .i64 0] ∧ Sl u w.heap.size (some ⟨b, off, none⟩) l.length 1 (idV l)) wf.drew := HFD.out
        refine tw 0 (.pointer (some ⟨z5, 0, none⟩)) ?_
        go_frame
        refine tw 1 (.pointer (some ⟨z5, 0, none⟩)) ?_
        go_frame
        refine tw 2 (.pointer (some ⟨z5, 2, none⟩)) ?_
        go_frame
        refine tkF 3 (.bool false) (by kernel_rfl) rfl (fun _ _ _ h => h) (by rfl) hF26 (fun w' hw' => ki 4 _ rfl (p := ⟨z5, 2, none⟩) rfl Tryz.underlying4 rfl hw'.1) ?_
        go_frame
        refine tw 4 (.bool true) ?_
        go_frame
        refine tw 5 (.bool true) ?_
        go_frame
        refine tn 6 ?_
        go_frame
        refine tn 7 ?_
        go_frame
        refine tn 8 ?_
        go_frame
        refine tw 9 (.bool true) ?_
        go_frame
        refine tw 10 (.bool true) ?_
        go_frame
        refine tn 11 ?_
        go_frame
        refine tn 12 ?_
        go_frame
        refine tn 13 ?_
        go_frame
        refine tn 14 ?_
        go_frame
        refine tn 15 ?_
        go_frame
        refine tn 16 ?_
        go_frame
        refine tw 17 (.bool true) ?_
        go_frame
        refine kx (by kernel_rfl) ?_ _
        go_upto_region 27 with fail
        go_wp2_with (first
          | (with_reducible refine kQ ?_
             refine k9 (by rfl) (kF 30 _ rfl (zy _)) ?_)
          | (with_reducible refine ko ?_
             refine kj (by rfl) 30 _ _ rfl z2 0 [] objZ [] objZ 30 (.agg objZ.toArray) rfl rfl rfl rfl (by simpa using (((Below.refl wf.heap.size wf).drew).block z2 HST.out.l2).trans HST.out.res) rfl (by kernel_rfl) (by unfold objZ; intro u hu; simp only [List.mem_cons, List.not_mem_nil, or_false] at hu; rcases hu with rfl | rfl | rfl | rfl | rfl | rfl | rfl | rfl | rfl | rfl <;> rfl) ?_
             intro W9 hb9 hy9 hs9
             have HB9 := hid hb9
             have HY9 : Hid (W9.heap[z2]? = some (.cells objZ.toArray 30 (0, 0))) := hid (by simpa using hy9)
             clear hb9 hy9 hs9))
        refine bodyPost_ret (jn Tryz.results7 _ _ rfl rfl (zq HY9.out (by rfl))) rfl ?_
        refine ⟨HST.out.bel.trans ((((Below.refl wf.heap.size wf).drew).mono HST.out.bel.size).trans (HB9.out.below (Nat.le_trans HST.out.bel.size ((Below.refl wf.heap.size wf).drew).size) fun k hk e => by have := HDZ.out.n2; omega)), _, by rw [jx hlong HNO.out]; rfl, by rw [jx hlong HNO.out]; exact Kr _ _⟩
       ·
        have HFK := hid (fun (u : World) (hu : Below wf.heap.size wf u) => (show (fun u => u.cell? ⟨z5, 2, none⟩ = some (.bool true) ∧ u.rangeAt z4 0 [.int .u8 1, .int .i64 (tm : Int), .slice Ad ds.length cd, .string au, .slice Ao xs.length co, .slice none 0 0, .slice none 0 0, .string k7, .string k7, .int .i64 0] ∧ Sl u w.heap.size (some ⟨b, off, none⟩) l.length 1 (idV l)) u from ⟨(hu.cell (p := ⟨z5, 2, none⟩) HST.out.rd.lt).trans (k6 HST.out.rd.box 2), fun j v hj => by rw [Nat.zero_add]; exact (hu.cell (p := ⟨z4, j, none⟩) HST.out.l4).trans ((k6 HST.out.obj j).trans hj), HS.out.keep (HST.out.bel.trans (hu.mono HST.out.bel.size))⟩))
        have HFD := hid (HFK.out _ (Below.refl _ wf).drew)
        rcases hrt : kJ (1, (((tm : Nat) : Int), ds, au, xs), kO) with _ | _
        ·
         have HRB := hid hrt
         have HNO : Hid (ji l = none) := hid (by
           rcases hq : ji l with _ | o
           · rfl
           · have e1 := (Zw hq).2
             rw [(HFN.out o hq).2, hrt] at e1; cases e1)
         clear hrt
         refine kr 17 (fun u => u.cell? ⟨z5, 2, none⟩ = some (.bool true) ∧ u.rangeAt z4 0 [.int .u8 1, .int .i64 (tm : Int), .slice Ad ds.length cd, .string au, .slice Ao xs.length co, .slice none 0 0, .slice none 0 0, .string k7, .string k7, .int .i64 0] ∧ Sl u w.heap.size (some ⟨b, off, none⟩) l.length 1 (idV l)) (by kernel_rfl) ?_
         have hF26 : (fun u => u.cell? ⟨z5, 2, none⟩ = some (.bool true) ∧ u.rangeAt z4 0 [.int .u8 1, .int .i64 (tm : Int), .slice Ad ds.length cd, .string au, .slice Ao xs.length co, .slice none 0 0, .slice none 0 0, .string k7, .string k7, .int .i64 0] ∧ Sl u w.heap.size (some ⟨b, off, none⟩) l.length 1 (idV l)) wf.drew := HFD.out
         refine tw 0 (.pointer (some ⟨z5, 0, none⟩)) ?_
         go_frame
         refine tw 1 (.pointer (some ⟨z5, 0, none⟩)) ?_
         go_frame
         refine tw 2 (.pointer (some ⟨z5, 2, none⟩)) ?_
         go_frame
         refine tkF 3 (.bool true) (by kernel_rfl) rfl (fun _ _ _ h => h) (by rfl) hF26 (fun w' hw' => ki 4 _ rfl (p := ⟨z5, 2, none⟩) rfl Tryz.underlying4 rfl hw'.1) ?_
         go_frame
         refine tw 4 (.bool false) ?_
         go_frame
         refine tw 5 (.bool false) ?_
         go_frame
         refine tkF 6 (.agg [.int .u8 1, .int .i64 (tm : Int), .slice Ad ds.length cd, .string au, .slice Ao xs.length co, .slice none 0 0, .slice none 0 0, .string k7, .string k7, .int .i64 0].toArray) (by kernel_rfl) rfl (fun _ _ _ h => h) (by rfl) hF26 (fun w' hw' => kd 30 _ rfl (p := ⟨z4, 0, none⟩) rfl (run_loadVar_mid w' _ _ _ [.int .u8 1, .int .i64 (tm : Int), .slice Ad ds.length cd, .string au, .slice Ao xs.length co, .slice none 0 0, .slice none 0 0, .string k7, .string k7, .int .i64 0] _ hw'.2.1 Tryz.underlying30 rfl (by kernel_rfl))) ?_
         go_frame
         refine ta 7 ?_
         refine kC _ rfl (by kernel_rfl) (kv (f := 16) (args := #[.agg [.int .u8 1, .int .i64 (tm : Int), .slice Ad ds.length cd, .string au, .slice Ao xs.length co, .slice none 0 0, .slice none 0 0, .string k7, .string k7, .int .i64 0].toArray]) rfl rfl (fun args w => hE1 w args) (by simp only [List.map_toArray, List.map_cons, List.map_nil]; rfl)) ?_
         refine (K3 (1, (((tm : Nat) : Int), ds, au, xs), kO) _ wf.drew (HOI.out.keep (Below.refl _ wf).drew) hd1 hd2 hd3 hd4).mono ?_
         rintro e x1 ⟨hbx, rfl⟩
         rw [HRB.out]
         have hbV := (Below.refl wf.heap.size wf).drew.trans hbx
         have HFx := HFK.out _ hbV
         refine ⟨_, rfl, fun _ _ => HFx, ?_⟩
         go_frame
         refine tw 8 (.bool true) ?_
         go_frame
         refine tw 9 (.bool true) ?_
         go_frame
         refine tw 10 (.bool true) ?_
         go_frame
         refine tn 11 ?_
         go_frame
         refine tn 12 ?_
         go_frame
         refine tn 13 ?_
         go_frame
         refine tn 14 ?_
         go_frame
         refine tn 15 ?_
         go_frame
         refine tn 16 ?_
         go_frame
         refine tw 17 (.bool true) ?_
         go_frame
         refine kx (by kernel_rfl) ?_ _
         go_upto_region 27 with fail
         go_wp2_with (first
           | (with_reducible refine kQ ?_
              refine k9 (by rfl) (kF 30 _ rfl (zy _)) ?_)
           | (with_reducible refine ko ?_
              refine kj (by rfl) 30 _ _ rfl z2 0 [] objZ [] objZ 30 (.agg objZ.toArray) rfl rfl rfl rfl (by simpa using ((hbV).block z2 HST.out.l2).trans HST.out.res) rfl (by kernel_rfl) (by unfold objZ; intro u hu; simp only [List.mem_cons, List.not_mem_nil, or_false] at hu; rcases hu with rfl | rfl | rfl | rfl | rfl | rfl | rfl | rfl | rfl | rfl <;> rfl) ?_
              intro W9 hb9 hy9 hs9
              have HB9 := hid hb9
              have HY9 : Hid (W9.heap[z2]? = some (.cells objZ.toArray 30 (0, 0))) := hid (by simpa using hy9)
              clear hb9 hy9 hs9))
         refine bodyPost_ret (jn Tryz.results7 _ _ rfl rfl (zq HY9.out (by rfl))) rfl ?_
         refine ⟨HST.out.bel.trans (((hbV).mono HST.out.bel.size).trans (HB9.out.below (Nat.le_trans HST.out.bel.size (hbV).size) fun k hk e => by have := HDZ.out.n2; omega)), _, by rw [jx hlong HNO.out]; rfl, by rw [jx hlong HNO.out]; exact Kr _ _⟩
        ·
         have HRB := hid hrt; have HRT := hid hrt
         clear hrt
         by_cases heq : KQ (1, (((tm : Nat) : Int), ds, au, xs), kO) = l
         ·
          have HEQ : Hid ((!((⟨(KQ (1, (((tm : Nat) : Int), ds, au, xs), kO)).toArray⟩ : ByteArray).toList == (⟨l.toArray⟩ : ByteArray).toList)) = false) := hid (by rw [qq, decide_eq_true heq]; rfl)
          have HYES : Hid (ji l = some (1, (((tm : Nat) : Int), ds, au, xs), kO)) := hid (by rw [← heq]; exact read_enc HOI.out.1 HRT.out)
          clear heq
          refine kr 17 (fun u => u.cell? ⟨z5, 2, none⟩ = some (.bool true) ∧ u.rangeAt z4 0 [.int .u8 1, .int .i64 (tm : Int), .slice Ad ds.length cd, .string au, .slice Ao xs.length co, .slice none 0 0, .slice none 0 0, .string k7, .string k7, .int .i64 0] ∧ Sl u w.heap.size (some ⟨b, off, none⟩) l.length 1 (idV l)) (by kernel_rfl) ?_
          have hF26 : (fun u => u.cell? ⟨z5, 2, none⟩ = some (.bool true) ∧ u.rangeAt z4 0 [.int .u8 1, .int .i64 (tm : Int), .slice Ad ds.length cd, .string au, .slice Ao xs.length co, .slice none 0 0, .slice none 0 0, .string k7, .string k7, .int .i64 0] ∧ Sl u w.heap.size (some ⟨b, off, none⟩) l.length 1 (idV l)) wf.drew := HFD.out
          refine tw 0 (.pointer (some ⟨z5, 0, none⟩)) ?_
          go_frame
          refine tw 1 (.pointer (some ⟨z5, 0, none⟩)) ?_
          go_frame
          refine tw 2 (.pointer (some ⟨z5, 2, none⟩)) ?_
          go_frame
          refine tkF 3 (.bool true) (by kernel_rfl) rfl (fun _ _ _ h => h) (by rfl) hF26 (fun w' hw' => ki 4 _ rfl (p := ⟨z5, 2, none⟩) rfl Tryz.underlying4 rfl hw'.1) ?_
          go_frame
          refine tw 4 (.bool false) ?_
          go_frame
          refine tw 5 (.bool false) ?_
          go_frame
          refine tkF 6 (.agg [.int .u8 1, .int .i64 (tm : Int), .slice Ad ds.length cd, .string au, .slice Ao xs.length co, .slice none 0 0, .slice none 0 0, .string k7, .string k7, .int .i64 0].toArray) (by kernel_rfl) rfl (fun _ _ _ h => h) (by rfl) hF26 (fun w' hw' => kd 30 _ rfl (p := ⟨z4, 0, none⟩) rfl (run_loadVar_mid w' _ _ _ [.int .u8 1, .int .i64 (tm : Int), .slice Ad ds.length cd, .string au, .slice Ao xs.length co, .slice none 0 0, .slice none 0 0, .string k7, .string k7, .int .i64 0] _ hw'.2.1 Tryz.underlying30 rfl (by kernel_rfl))) ?_
          go_frame
          refine ta 7 ?_
          refine kC _ rfl (by kernel_rfl) (kv (f := 16) (args := #[.agg [.int .u8 1, .int .i64 (tm : Int), .slice Ad ds.length cd, .string au, .slice Ao xs.length co, .slice none 0 0, .slice none 0 0, .string k7, .string k7, .int .i64 0].toArray]) rfl rfl (fun args w => hE1 w args) (by simp only [List.map_toArray, List.map_cons, List.map_nil]; rfl)) ?_
          refine (K3 (1, (((tm : Nat) : Int), ds, au, xs), kO) _ wf.drew (HOI.out.keep (Below.refl _ wf).drew) hd1 hd2 hd3 hd4).mono ?_
          rintro e x1 ⟨hbx, rfl⟩
          rw [HRB.out]
          have hbV := (Below.refl wf.heap.size wf).drew.trans hbx
          have HFx := HFK.out _ hbV
          refine ⟨_, rfl, fun _ _ => HFx, ?_⟩
          go_frame
          refine tw 8 (.bool false) ?_
          go_frame
          refine tw 9 (.bool false) ?_
          go_frame
          refine tw 10 (.bool false) ?_
          go_frame
          refine tkF 11 (.agg [.int .u8 1, .int .i64 (tm : Int), .slice Ad ds.length cd, .string au, .slice Ao xs.length co, .slice none 0 0, .slice none 0 0, .string k7, .string k7, .int .i64 0].toArray) (by kernel_rfl) rfl (fun _ _ _ h => h) (by rfl) HFx (fun w' hw' => kd 30 _ rfl (p := ⟨z4, 0, none⟩) rfl (run_loadVar_mid w' _ _ _ [.int .u8 1, .int .i64 (tm : Int), .slice Ad ds.length cd, .string au, .slice Ao xs.length co, .slice none 0 0, .slice none 0 0, .string k7, .string k7, .int .i64 0] _ hw'.2.1 Tryz.underlying30 rfl (by kernel_rfl))) ?_
          go_frame
          refine tw 14 (.slice (some ⟨b, off, none⟩) l.length c) ?_
          go_frame
          refine tkF 15 (.string ⟨l.toArray⟩) (by kernel_rfl) rfl (fun _ _ _ h => h) (by rfl) HFx (fun w' hw' => Jm _ rfl (v := .slice (some ⟨b, off, none⟩) l.length c) rfl (uy hw'.2.2 hl1)) ?_
          go_frame
          refine ta 12 ?_
          refine kC _ rfl (by kernel_rfl) (kv (f := 29) (args := #[.agg [.int .u8 1, .int .i64 (tm : Int), .slice Ad ds.length cd, .string au, .slice Ao xs.length co, .slice none 0 0, .slice none 0 0, .string k7, .string k7, .int .i64 0].toArray]) rfl rfl (fun args w => hE2 w args) (by simp only [List.map_toArray, List.map_cons, List.map_nil]; rfl)) ?_
          refine (Ji (1, (((tm : Nat) : Int), ds, au, xs), kO) _ x1 ((HOI.out.keep hbV).more hbV.size) HRT.out).mono ?_
          rintro e x2 ⟨hby, Ay, cy, rfl, hoy⟩
          have hbV2 := hbV.trans (hby.mono hbV.size)
          have HFy := HFK.out _ hbV2
          have hcy := uy (c := cy) (Sl.of_own hoy) (vV _)
          refine ⟨_, rfl, fun _ _ => HFy, ?_⟩
          go_frame
          refine ta 13 ?_
          refine jo _ rfl (by kernel_rfl) (Jm _ rfl (v := .slice Ay (KQ (1, (((tm : Nat) : Int), ds, au, xs), kO)).length cy) rfl hcy) ?_
          refine ⟨fun _ _ => HFy, ?_⟩
          go_frame
          refine tkW 16 (.bool false) (by kernel_rfl) rfl (fun _ _ _ h => h) (by rfl) (fun w' hw' => Zo _ _ _ rfl rfl rfl HEQ.out) ?_
          go_frame
          refine tw 17 (.bool false) ?_
          go_frame
          refine kx (by kernel_rfl) ?_ _
          go_upto_region 28 with fail
          have HZX := hid (((hbV2).block z4 HST.out.l4).trans HST.out.obj)
          go_wp2_with (first
            | (with_reducible refine ke ?_
               refine k9 (by rfl) (kd 30 _ rfl (p := ⟨z4, 0, none⟩) rfl (run_loadVar_mid _ _ _ _ [.int .u8 1, .int .i64 (tm : Int), .slice Ad ds.length cd, .string au, .slice Ao xs.length co, .slice none 0 0, .slice none 0 0, .string k7, .string k7, .int .i64 0] _ (fun j v hj => by rw [Nat.zero_add]; exact (k6 HZX.out j).trans hj) Tryz.underlying30 rfl (by kernel_rfl))) ?_)
            | (with_reducible refine ko ?_
               refine kj (by rfl) 30 _ _ rfl z2 0 [] objZ [] [.int .u8 1, .int .i64 (tm : Int), .slice Ad ds.length cd, .string au, .slice Ao xs.length co, .slice none 0 0, .slice none 0 0, .string k7, .string k7, .int .i64 0] 30 (.agg [.int .u8 1, .int .i64 (tm : Int), .slice Ad ds.length cd, .string au, .slice Ao xs.length co, .slice none 0 0, .slice none 0 0, .string k7, .string k7, .int .i64 0].toArray) rfl rfl rfl rfl (by simpa using ((hbV2).block z2 HST.out.l2).trans HST.out.res) rfl (by kernel_rfl) (by intro u hu; simp only [List.mem_cons, List.not_mem_nil, or_false] at hu; rcases hu with rfl | rfl | rfl | rfl | rfl | rfl | rfl | rfl | rfl | rfl <;> rfl) ?_
               intro W9 hb9 hy9 hs9
               have HB9 := hid hb9
               have HY9 : Hid (W9.heap[z2]? = some (.cells [.int .u8 1, .int .i64 (tm : Int), .slice Ad ds.length cd, .string au, .slice Ao xs.length co, .slice none 0 0, .slice none 0 0, .string k7, .string k7, .int .i64 0].toArray 30 (0, 0))) := hid (by simpa using hy9)
               clear hb9 hy9 hs9))
          refine bodyPost_ret (jn Tryz.results7 _ _ rfl rfl (zq HY9.out (by rfl))) rfl ?_
          refine ⟨HST.out.bel.trans (((hbV2).mono HST.out.bel.size).trans (HB9.out.below (Nat.le_trans HST.out.bel.size (hbV2).size) fun k hk e => by have := HDZ.out.n2; omega)), _, by rw [KF hlong HYES.out]; rfl, ?_⟩
          rw [KF hlong HYES.out]
          exact ((HOI.out.keep (hbV2)).small HB9.out (hbV2).size (fun k hk => ⟨objZ, 30, by rw [hk]; exact ((hbV2).block z2 HST.out.l2).trans HST.out.res, by decide⟩)).more (Nat.le_trans (hbV2).size HB9.out.size)
         ·
          have HEQ : Hid ((!((⟨(KQ (1, (((tm : Nat) : Int), ds, au, xs), kO)).toArray⟩ : ByteArray).toList == (⟨l.toArray⟩ : ByteArray).toList)) = true) := hid (by rw [qq, decide_eq_false heq]; rfl)
          have HNO : Hid (ji l = none) := hid (by
            rcases hq : ji l with _ | o
            · rfl
            · exact absurd (by rw [← (HFN.out o hq).2]; exact (Zw hq).1) heq)
          clear heq
          refine kr 17 (fun u => u.cell? ⟨z5, 2, none⟩ = some (.bool true) ∧ u.rangeAt z4 0 [.int .u8 1, .int .i64 (tm : Int), .slice Ad ds.length cd, .string au, .slice Ao xs.length co, .slice none 0 0, .slice none 0 0, .string k7, .string k7, .int .i64 0] ∧ Sl u w.heap.size (some ⟨b, off, none⟩) l.length 1 (idV l)) (by kernel_rfl) ?_
          have hF26 : (fun u => u.cell? ⟨z5, 2, none⟩ = some (.bool true) ∧ u.rangeAt z4 0 [.int .u8 1, .int .i64 (tm : Int), .slice Ad ds.length cd, .string au, .slice Ao xs.length co, .slice none 0 0, .slice none 0 0, .string k7, .string k7, .int .i64 0] ∧ Sl u w.heap.size (some ⟨b, off, none⟩) l.length 1 (idV l)) wf.drew := HFD.out
          refine tw 0 (.pointer (some ⟨z5, 0, none⟩)) ?_
          go_frame
          refine tw 1 (.pointer (some ⟨z5, 0, none⟩)) ?_
          go_frame
          refine tw 2 (.pointer (some ⟨z5, 2, none⟩)) ?_
          go_frame
          refine tkF 3 (.bool true) (by kernel_rfl) rfl (fun _ _ _ h => h) (by rfl) hF26 (fun w' hw' => ki 4 _ rfl (p := ⟨z5, 2, none⟩) rfl Tryz.underlying4 rfl hw'.1) ?_
          go_frame
          refine tw 4 (.bool false) ?_
          go_frame
          refine tw 5 (.bool false) ?_
          go_frame
          refine tkF 6 (.agg [.int .u8 1, .int .i64 (tm : Int), .slice Ad ds.length cd, .string au, .slice Ao xs.length co, .slice none 0 0, .slice none 0 0, .string k7, .string k7, .int .i64 0].toArray) (by kernel_rfl) rfl (fun _ _ _ h => h) (by rfl) hF26 (fun w' hw' => kd 30 _ rfl (p := ⟨z4, 0, none⟩) rfl (run_loadVar_mid w' _ _ _ [.int .u8 1, .int .i64 (tm : Int), .slice Ad ds.length cd, .string au, .slice Ao xs.length co, .slice none 0 0, .slice none 0 0, .string k7, .string k7, .int .i64 0] _ hw'.2.1 Tryz.underlying30 rfl (by kernel_rfl))) ?_
          go_frame
          refine ta 7 ?_
          refine kC _ rfl (by kernel_rfl) (kv (f := 16) (args := #[.agg [.int .u8 1, .int .i64 (tm : Int), .slice Ad ds.length cd, .string au, .slice Ao xs.length co, .slice none 0 0, .slice none 0 0, .string k7, .string k7, .int .i64 0].toArray]) rfl rfl (fun args w => hE1 w args) (by simp only [List.map_toArray, List.map_cons, List.map_nil]; rfl)) ?_
          refine (K3 (1, (((tm : Nat) : Int), ds, au, xs), kO) _ wf.drew (HOI.out.keep (Below.refl _ wf).drew) hd1 hd2 hd3 hd4).mono ?_
          rintro e x1 ⟨hbx, rfl⟩
          rw [HRB.out]
          have hbV := (Below.refl wf.heap.size wf).drew.trans hbx
          have HFx := HFK.out _ hbV
          refine ⟨_, rfl, fun _ _ => HFx, ?_⟩
          go_frame
          refine tw 8 (.bool false) ?_
          go_frame
          refine tw 9 (.bool false) ?_
          go_frame
          refine tw 10 (.bool false) ?_
          go_frame
          refine tkF 11 (.agg [.int .u8 1, .int .i64 (tm : Int), .slice Ad ds.length cd, .string au, .slice Ao xs.length co, .slice none 0 0, .slice none 0 0, .string k7, .string k7, .int .i64 0].toArray) (by kernel_rfl) rfl (fun _ _ _ h => h) (by rfl) HFx (fun w' hw' => kd 30 _ rfl (p := ⟨z4, 0, none⟩) rfl (run_loadVar_mid w' _ _ _ [.int .u8 1, .int .i64 (tm : Int), .slice Ad ds.length cd, .string au, .slice Ao xs.length co, .slice none 0 0, .slice none 0 0, .string k7, .string k7, .int .i64 0] _ hw'.2.1 Tryz.underlying30 rfl (by kernel_rfl))) ?_
          go_frame
          refine tw 14 (.slice (some ⟨b, off, none⟩) l.length c) ?_
          go_frame
          refine tkF 15 (.string ⟨l.toArray⟩) (by kernel_rfl) rfl (fun _ _ _ h => h) (by rfl) HFx (fun w' hw' => Jm _ rfl (v := .slice (some ⟨b, off, none⟩) l.length c) rfl (uy hw'.2.2 hl1)) ?_
          go_frame
          refine ta 12 ?_
          refine kC _ rfl (by kernel_rfl) (kv (f := 29) (args := #[.agg [.int .u8 1, .int .i64 (tm : Int), .slice Ad ds.length cd, .string au, .slice Ao xs.length co, .slice none 0 0, .slice none 0 0, .string k7, .string k7, .int .i64 0].toArray]) rfl rfl (fun args w => hE2 w args) (by simp only [List.map_toArray, List.map_cons, List.map_nil]; rfl)) ?_
          refine (Ji (1, (((tm : Nat) : Int), ds, au, xs), kO) _ x1 ((HOI.out.keep hbV).more hbV.size) HRT.out).mono ?_
          rintro e x2 ⟨hby, Ay, cy, rfl, hoy⟩
          have hbV2 := hbV.trans (hby.mono hbV.size)
          have HFy := HFK.out _ hbV2
          have hcy := uy (c := cy) (Sl.of_own hoy) (vV _)
          refine ⟨_, rfl, fun _ _ => HFy, ?_⟩
          go_frame
          refine ta 13 ?_
          refine jo _ rfl (by kernel_rfl) (Jm _ rfl (v := .slice Ay (KQ (1, (((tm : Nat) : Int), ds, au, xs), kO)).length cy) rfl hcy) ?_
          refine ⟨fun _ _ => HFy, ?_⟩
          go_frame
          refine tkW 16 (.bool true) (by kernel_rfl) rfl (fun _ _ _ h => h) (by rfl) (fun w' hw' => Zo _ _ _ rfl rfl rfl HEQ.out) ?_
          go_frame
          refine tw 17 (.bool true) ?_
          go_frame
          refine kx (by kernel_rfl) ?_ _
          go_upto_region 27 with fail
          go_wp2_with (first
            | (with_reducible refine kQ ?_
               refine k9 (by rfl) (kF 30 _ rfl (zy _)) ?_)
            | (with_reducible refine ko ?_
               refine kj (by rfl) 30 _ _ rfl z2 0 [] objZ [] objZ 30 (.agg objZ.toArray) rfl rfl rfl rfl (by simpa using ((hbV2).block z2 HST.out.l2).trans HST.out.res) rfl (by kernel_rfl) (by unfold objZ; intro u hu; simp only [List.mem_cons, List.not_mem_nil, or_false] at hu; rcases hu with rfl | rfl | rfl | rfl | rfl | rfl | rfl | rfl | rfl | rfl <;> rfl) ?_
               intro W9 hb9 hy9 hs9
               have HB9 := hid hb9
               have HY9 : Hid (W9.heap[z2]? = some (.cells objZ.toArray 30 (0, 0))) := hid (by simpa using hy9)
               clear hb9 hy9 hs9))
          refine bodyPost_ret (jn Tryz.results7 _ _ rfl rfl (zq HY9.out (by rfl))) rfl ?_
          refine ⟨HST.out.bel.trans (((hbV2).mono HST.out.bel.size).trans (HB9.out.below (Nat.le_trans HST.out.bel.size (hbV2).size) fun k hk e => by have := HDZ.out.n2; omega)), _, by rw [jx hlong HNO.out]; rfl, by rw [jx hlong HNO.out]; exact Kr _ _⟩
end Go.Proofs.YthjaepmfkgejkaaGreatDoor
