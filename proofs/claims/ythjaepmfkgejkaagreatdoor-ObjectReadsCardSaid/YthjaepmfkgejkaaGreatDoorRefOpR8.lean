/-
  What the document's reader reads: an operation. Conditions: as RrAt says.
-/
import Derived.Test.YthjaepmfkgejkaaGreatDoorMerged24
import Derived.Test.YthjaepmfkgejkaaGreatDoorRefRight8
import Derived.Test.YthjaepmfkgejkaaGreatDoorObjReadOp
import Derived.Test.YthjaepmfkgejkaaGreatDoorMerged16
set_option linter.unusedVariables false
set_option linter.unusedSimpArgs false
set_option maxHeartbeats 4000000
set_option maxRecDepth 100000
namespace Go.Proofs.YthjaepmfkgejkaaGreatDoor
open Lib (hid)
open Go.RowKit Go.Maps
structure OrSt (w : World) (g b off c : Nat) (l : List UInt8) (z4 z5 : Nat) (x : OpD) (a : Nat) (ok : Bool) (wx : World) : Prop where
  rd : RrAt wx g b off c l a ok
  but : But (fun k => k = g) w wx
  res : wx.heap[z4]? = some (.cells (opV jd).toArray 70 (0, 0))
  box : wx.heap[z5]? = some (.cells (opV x).toArray 70 (0, 0))
  ok : KW x
structure OrZ (w : World) (g z4 z5 : Nat) : Prop where
  low : g < w.heap.size
  h4 : w.heap.size ≤ z4
  h5 : w.heap.size ≤ z5
  ne : z4 ≠ z5
section
variable {w wx wy : World} {g b off c : Nat} {l : List UInt8} {z4 z5 : Nat} {x y : OpD} {a a2 : Nat} {ok ok2 : Bool}
theorem OrSt.read (h : OrSt w g b off c l z4 z5 x a ok wx) (hz : OrZ w g z4 z5) (hr : RrAt wy g b off c l a2 ok2) (hb : But (fun k => k = g) wx wy) : OrSt w g b off c l z4 z5 x a2 ok2 wy := by
  have l4 := (Array.getElem?_eq_some_iff.1 h.res).1
  have l5 := (Array.getElem?_eq_some_iff.1 h.box).1
  have h1 := hz.low; have h2 := hz.h4; have h3 := hz.h5
  exact ⟨hr, h.but.trans hb fun _ _ q => q, (hb.block z4 l4 (by omega)).trans h.res, (hb.block z5 l5 (by omega)).trans h.box, h.ok⟩
theorem OrSt.store (h : OrSt w g b off c l z4 z5 x a ok wx) (hz : OrZ w g z4 z5) (hb : But (fun k => k = z5) wx wy) (hy : wy.heap[z5]? = some (.cells (opV y).toArray 70 (0, 0))) (hok : KW y) : OrSt w g b off c l z4 z5 y a ok wy := by
  have l4 := (Array.getElem?_eq_some_iff.1 h.res).1
  have h1 := hz.low; have h3 := hz.h5; have h5 := hz.ne
  exact ⟨h.rd.but hb fun k hk e => by omega, h.but.trans hb fun i hi e => by omega, (hb.block z4 l4 (by omega)).trans h.res, hy, hok⟩
theorem OrSt.keep (h : OrSt w g b off c l z4 z5 x a ok wx) (hb : Below wx.heap.size wx wy) : OrSt w g b off c l z4 z5 x a ok wy := by
  have l4 := (Array.getElem?_eq_some_iff.1 h.res).1
  have l5 := (Array.getElem?_eq_some_iff.1 h.box).1
  exact ⟨h.rd.keep hb, h.but.andBelow hb, (hb.block z4 l4).trans h.res, (hb.block z5 l5).trans h.box, h.ok⟩
end
theorem Ze {α : Type} {z : α} {d : Ps α} : pIf true z d = d := rfl
theorem JJ {α : Type} {z : α} {d : Ps α} : pIf false z d = Jo z := rfl
theorem JK {α β : Type} {z : α} {f : α → Ps β} : jb (Jo z) f = f z := rfl
theorem rrOp_any (g b off c : Nat) (l : List UInt8) (at' : Nat) (ok : Bool) (w : World) (hr : RrAt w g b off c l at' ok) (hl : l.length ≤ 1099511627776) (deps : List (List UInt8)) (Ad : Option Addr) (cd : Nat) (hdl : deps.length ≤ 1099511627776) (ho : IdsOk deps) (hd : Sl w w.heap.size Ad deps.length 32 (jf deps)) :
    Calls Tryz.prog 28 #[.pointer (some ⟨g, 0, none⟩), .slice Ad deps.length cd] w (RrGives g b off c l at' ok w (pOp deps) (fun x v _ => v = .agg (opV x).toArray ∧ KW x)) := by
  have HO := hid ho; have HD := hid hd; have HRD := hid hr
  have hle := hr.le
  clear ho hd hr
  go_enter Tryz.func28, Tryz.ntmps28
  go_upto_region 1 with (first
    | (with_reducible refine kG ?_
       refine kE (by rfl) 70 rfl (opV jd) (zj _) ?_
       intro W4 hb4 hz4 hs4
       have HB4 := hid hb4; have HZ4 := hid hz4
       clear hb4 hz4 hs4))
  go_upto_region 2 with (first
    | (with_reducible refine kG ?_
       refine kE (by rfl) 70 rfl (opV jd) (zj _) ?_
       intro W5 hb5 hz5 hs5
       have HB5 := hid hb5; have HZ5 := hid hz5
       clear hb5 hz5 hs5))
  obtain ⟨z4, hz4⟩ : ∃ z, w.heap.size = z := ⟨_, rfl⟩
  obtain ⟨z5, hz5⟩ : ∃ z, W4.heap.size = z := ⟨_, rfl⟩
  have l4 := (Array.getElem?_eq_some_iff.1 HZ4.out).1
  have HZ : Hid (OrZ w g z4 z5) := hid ⟨HRD.out.lt, by omega, by omega, by omega⟩
  have HST : Hid (OrSt w g b off c l z4 z5 jd at' ok W5) := hid ⟨(HRD.out.keep HB4.out).keep HB5.out, (But.of_below (X := fun k => k = g) HB4.out).andBelow HB5.out, by rw [← hz4]; exact (HB5.out.block _ l4).trans HZ4.out, by rw [← hz5]; exact HZ5.out, jI 0⟩
  rw [hz4, hz5]
  try go_frame
  clear hz4 hz5 l4 HZ4 HZ5 HB4 HB5
  have c0 := Wg.cell (show W5.cell? ⟨g, 0, none⟩ = some (.slice (some ⟨b, off, none⟩) l.length c) from k6 HST.out.rd.box 0) HST.out.rd.lt
  have c1 := Wg.cell (show W5.cell? ⟨g, 1, none⟩ = some (.int .i64 (at' : Int)) from k6 HST.out.rd.box 1) HST.out.rd.lt
  by_cases hlt : at' < l.length
  ·
   have dl : decide ((l.length : Int) ≤ (at' : Int)) = false := decide_eq_false (by omega)
   have HST0 := hid (show w.heap.size ≤ W5.heap.size from HST.out.but.size)
   obtain ⟨k, hk⟩ : ∃ k, l[at'] = k := ⟨_, rfl⟩
   have HKB := hid (show W5.cell? ⟨b, off + at' * 1, none⟩ = some (.int .u8 (k.toNat : Int)) by rw [Nat.mul_one, ← hk]; exact HST.out.rd.bytes at' hlt)
   have HPB := hid (show zX (l.drop at') = some (k, l.drop (at' + 1)) by rw [List.drop_eq_getElem_cons hlt, hk]; rfl)
   clear hk
   refine jv (by kernel_rfl) (by kernel_rfl) ?_
   repeat (first
     | go_big_quiet_skip
     | (go_big_quiet_want
        first
          | (go_big_quiet_op
             first
               | go_big_quiet_on
               | go_big_quiet_call (first | (fail)))))
   refine wpQuiet_nil ?_
   rintro w' ⟨kk, rfl⟩
   have hk2 := kk.2
   generalize kk.val = w2 at *
   clear kk
   have HST := hid (HST.out.keep hk2.below)
   have HK2 := hid ((hk2.below.cell (p := ⟨b, off + at' * 1, none⟩) (show b < W5.heap.size from by have h9 := HRD.out.low; have h8 := HRD.out.lt; have h7 := HST0.out; omega)).trans HKB.out)
   clear hk2 c0 c1
   go_upto_region 5 with fail
   have HBD := hid (show Below w2.heap.size w2 w2.drew from (Below.refl _ _).drew)
   have HSD := hid (HST.out.keep HBD.out)
   have HF5 := hid (show (fun u => u.cell? ⟨g, 0, none⟩ = some (.slice (some ⟨b, off, none⟩) l.length c) ∧ u.cell? ⟨g, 1, none⟩ = some (.int .i64 (at' : Int)) ∧ u.cell? ⟨b, off + at' * 1, none⟩ = some (.int .u8 (k.toNat : Int))) w2.drew from ⟨k6 HSD.out.rd.box 0, k6 HSD.out.rd.box 1, (HBD.out.cell (p := ⟨b, off + at' * 1, none⟩) (by have h9 := HST.out.rd.low; have h8 := HST.out.rd.lt; show b < w2.heap.size; omega)).trans HK2.out⟩)
   refine kr 10 (fun u => u.cell? ⟨g, 0, none⟩ = some (.slice (some ⟨b, off, none⟩) l.length c) ∧ u.cell? ⟨g, 1, none⟩ = some (.int .i64 (at' : Int)) ∧ u.cell? ⟨b, off + at' * 1, none⟩ = some (.int .u8 (k.toNat : Int))) (by kernel_rfl) ?_
   have hF0 : (fun u => u.cell? ⟨g, 0, none⟩ = some (.slice (some ⟨b, off, none⟩) l.length c) ∧ u.cell? ⟨g, 1, none⟩ = some (.int .i64 (at' : Int)) ∧ u.cell? ⟨b, off + at' * 1, none⟩ = some (.int .u8 (k.toNat : Int))) w2.drew := HF5.out
   refine tw 0 (.pointer (some ⟨g, 0, none⟩)) ?_
   go_frame
   refine tw 1 (.pointer (some ⟨g, 0, none⟩)) ?_
   go_frame
   refine tw 2 (.pointer (some ⟨g, 0, none⟩)) ?_
   go_frame
   refine tkF 3 (.slice (some ⟨b, off, none⟩) l.length c) (by kernel_rfl) rfl (fun _ _ _ h => h) (by rfl) hF0 (fun w' hw' => ki 22 _ rfl (p := ⟨g, 0, none⟩) rfl Tryz.underlying22 rfl hw'.1) ?_
   go_frame
   refine tw 4 (.pointer (some ⟨g, 0, none⟩)) ?_
   go_frame
   refine tw 5 (.pointer (some ⟨g, 0, none⟩)) ?_
   go_frame
   refine tw 6 (.pointer (some ⟨g, 1, none⟩)) ?_
   go_frame
   refine tkF 7 (.int .i64 (at' : Int)) (by kernel_rfl) rfl (fun _ _ _ h => h) (by rfl) hF0 (fun w' hw' => ki 3 _ rfl (p := ⟨g, 1, none⟩) rfl Tryz.underlying3 rfl hw'.2.1) ?_
   go_frame
   refine tkW 8 (.pointer (some ⟨b, off + at' * 1, none⟩)) (by kernel_rfl) rfl (fun _ _ _ h => h) (by rfl) (fun w' hw' => uh 22 _ _ rfl rfl rfl hlt Tryz.underlying22 size_u8) ?_
   go_frame
   refine tkF 9 (.int .u8 (k.toNat : Int)) (by kernel_rfl) rfl (fun _ _ _ h => h) (by rfl) hF0 (fun w' hw' => ki 5 _ rfl (p := ⟨b, off + at' * 1, none⟩) rfl Tryz.underlying5 rfl hw'.2.2) ?_
   go_frame
   refine tw 10 (.pointer (some ⟨z5, 0, none⟩)) ?_
   go_frame
   refine ta 11 ?_
   refine jE _ rfl (by kernel_rfl) 5 _ _ rfl z5 0 [] [.int .u8 0] (kf kc ++ (kf kc ++ [.string k7, .int .i64 0, .string k7])) [.int .u8 (k.toNat : Int)] 70 (.int .u8 (k.toNat : Int)) rfl rfl rfl rfl HSD.out.box rfl (by kernel_rfl) (by intro u hu; rw [List.mem_singleton.1 hu]; rfl) ?_
   intro W7 hb7 hz7 hs7
   have HST : Hid (OrSt w g b off c l z4 z5 (k, kc, kc, k7, 0, k7) at' ok W7) := hid (HSD.out.store HZ.out hb7 hz7 (jI k))
   clear hb7 hz7 hs7
   refine ⟨fun h => absurd h (by decide), ?_⟩
   go_frame
   refine kx (by kernel_rfl) ?_ _
   have d1 : W7.cell? ⟨g, 1, none⟩ = some (.int .i64 (at' : Int)) := k6 HST.out.rd.box 1
   have f1 := HST.out.rd.frozen 1
   obtain ⟨hm1, hm2⟩ := HST.out.rd.move (at2 := at' + 1) hlt
   have HM1 := hid hm1; have HM2 := hid hm2
   rw [Int.natCast_add] at HM1 HM2
   clear hm1 hm2
   go_upto_region 7 with fail
   obtain ⟨W8, hW8⟩ : ∃ u, W7.setCell ⟨g, 1, none⟩ (.int .i64 ((at' : Int) + ((1 : Nat) : Int))) = u := ⟨_, rfl⟩
   rw [hW8] at HM1 HM2
   try rw [show ((1 : Nat) : Int) = 1 from rfl] at hW8
   rw [hW8]
   clear hW8 d1 f1
   have HST : Hid (OrSt w g b off c l z4 z5 (k, kc, kc, k7, 0, k7) (at' + 1) ok W8) := hid (HST.out.read HZ.out HM1.out HM2.out)
   clear HM1 HM2 HF5 HSD HBD
   have y0 : W8.cell? ⟨z5, 0, none⟩ = some (.int .u8 (k.toNat : Int)) := (k6 HST.out.box 0).trans rfl
   try go_frame
   by_cases h1 : k = 1
   ·
    subst h1
    go_upto_region 9 with (first
      | (go_at_call 61; refine (Je g b off c l (at' + 1) ok _ HST.out.rd hl deps Ad cd hdl HO.out ((HD.out.small HST.out.but (Nat.le_refl _) (by decide) (fun k hk => ⟨[.slice (some ⟨b, off, none⟩) l.length c, .int .i64 (at' : Int), .bool ok], 63, by have e : k = g := hk; subst e; exact HRD.out.box, by show 3 < 32; omega⟩)).more HST.out.but.size)).mono ?_; rintro e U1 ⟨x1, vv1, a1, ok1, rfl, ⟨rfl, hx1⟩, hrd1, hbt1, hp1⟩
         have HST := hid (HST.out.read HZ.out hrd1 hbt1)
         have HP1 := hid hp1; have HX1 := hid hx1
         clear hrd1 hbt1 hp1 hx1)
      | (with_reducible refine ko ?_
         refine kj (by rfl) 68 _ _ rfl z5 1 [.int .u8 1] (kf kc) (kf kc ++ [.string k7, .int .i64 0, .string k7]) (kf x1) 70 (.agg (kf x1).toArray) rfl rfl rfl rfl (by have h9 := HST.out.box; rwa [show opV (1, kc, kc, k7, 0, k7) = [.int .u8 1] ++ ((kf kc) ++ (kf kc ++ [.string k7, .int .i64 0, .string k7])) from rfl] at h9) (by rw [k8 HX1.out]; rfl) (by rw [k8 HX1.out]; exact kn) (jO _) ?_
         intro V1 hb9 hz9 hs9
         have HST : Hid (OrSt w g b off c l z4 z5 (1, x1, kc, k7, 0, k7) a1 ok1 V1) := hid (HST.out.store HZ.out hb9 (by rw [show opV (1, x1, kc, k7, 0, k7) = [.int .u8 1] ++ ((kf x1) ++ (kf kc ++ [.string k7, .int .i64 0, .string k7])) from rfl]; exact hz9) ⟨⟨HX1.out, HST.out.ok.1.2.1, HST.out.ok.1.2.2⟩, HST.out.ok.2.1, HST.out.ok.2.2⟩)
         clear hb9 hz9 hs9))
    have y0 : V1.cell? ⟨z5, 0, none⟩ = some (.int .u8 1) := (k6 HST.out.box 0).trans rfl
    try go_frame
    go_upto_region 12 with (first
      | (go_at_call 61; refine (Je g b off c l a1 ok1 _ HST.out.rd hl deps Ad cd hdl HO.out ((HD.out.small HST.out.but (Nat.le_refl _) (by decide) (fun k hk => ⟨[.slice (some ⟨b, off, none⟩) l.length c, .int .i64 (at' : Int), .bool ok], 63, by have e : k = g := hk; subst e; exact HRD.out.box, by show 3 < 32; omega⟩)).more HST.out.but.size)).mono ?_; rintro e U2 ⟨x2, vv2, a2, ok2, rfl, ⟨rfl, hx2⟩, hrd2, hbt2, hp2⟩
         have HST := hid (HST.out.read HZ.out hrd2 hbt2)
         have HP2 := hid hp2; have HX2 := hid hx2
         clear hrd2 hbt2 hp2 hx2)
      | (with_reducible refine ko ?_
         refine kj (by rfl) 68 _ _ rfl z5 34 (.int .u8 1 :: kf x1) (kf kc) [.string k7, .int .i64 0, .string k7] (kf x2) 70 (.agg (kf x2).toArray) rfl (by rw [List.length_cons, k8 HST.out.ok.1.1]) rfl rfl (by have h9 := HST.out.box; rwa [show opV (1, x1, kc, k7, 0, k7) = (.int .u8 1 :: kf x1) ++ ((kf kc) ++ [.string k7, .int .i64 0, .string k7]) from (ZW 1 x1 kc k7 0 k7)] at h9) (by rw [k8 HX2.out]; rfl) (by rw [k8 HX2.out]; exact kn) (jO _) ?_
         intro V2 hb9 hz9 hs9
         have HST : Hid (OrSt w g b off c l z4 z5 (1, x1, x2, k7, 0, k7) a2 ok2 V2) := hid (HST.out.store HZ.out hb9 (by rw [show opV (1, x1, x2, k7, 0, k7) = (.int .u8 1 :: kf x1) ++ ((kf x2) ++ [.string k7, .int .i64 0, .string k7]) from (ZW 1 x1 x2 k7 0 k7)]; exact hz9) ⟨⟨HST.out.ok.1.1, HX2.out, HST.out.ok.1.2.2⟩, HST.out.ok.2.1, HST.out.ok.2.2⟩)
         clear hb9 hz9 hs9))
    have y0 : V2.cell? ⟨z5, 0, none⟩ = some (.int .u8 1) := (k6 HST.out.box 0).trans rfl
    try go_frame
    go_upto_region 19 with (first
      | (go_at_call 27; refine (Jd g b off c l a2 ok2 _ HST.out.rd hl).mono ?_; rintro e U3 ⟨x3, vv3, a3, ok3, rfl, ⟨rfl, hx3⟩, hrd3, hbt3, hp3⟩
         have HST := hid (HST.out.read HZ.out hrd3 hbt3)
         have HP3 := hid hp3; have HX3 := hid hx3
         clear hrd3 hbt3 hp3 hx3)
      | (with_reducible refine ko ?_
         refine kj (by rfl) 9 _ _ rfl z5 67 (.int .u8 1 :: (kf x1 ++ kf x2)) [.string k7] [.int .i64 0, .string k7] [.string x3] 70 (.string x3) rfl (by rw [List.length_cons, List.length_append, k8 HST.out.ok.1.1, k8 HST.out.ok.1.2.1]) rfl rfl (by have h9 := HST.out.box; rwa [show opV (1, x1, x2, k7, 0, k7) = (.int .u8 1 :: (kf x1 ++ kf x2)) ++ ([.string k7] ++ [.int .i64 0, .string k7]) from (uF 1 x1 x2 k7 0 k7)] at h9) rfl (by kernel_rfl) (by intro u hu; rw [List.mem_singleton.1 hu]; rfl) ?_
         intro V3 hb9 hz9 hs9
         have HST : Hid (OrSt w g b off c l z4 z5 (1, x1, x2, x3, 0, k7) a3 ok3 V3) := hid (HST.out.store HZ.out hb9 (by rw [show opV (1, x1, x2, x3, 0, k7) = (.int .u8 1 :: (kf x1 ++ kf x2)) ++ ([.string x3] ++ [.int .i64 0, .string k7]) from (uF 1 x1 x2 x3 0 k7)]; exact hz9) ⟨HST.out.ok.1, (show x3.size ≤ maxLen by have h9 := HX3.out; unfold maxLen; omega), HST.out.ok.2.2⟩)
         clear hb9 hz9 hs9))
    have y0 : V3.cell? ⟨z5, 0, none⟩ = some (.int .u8 1) := (k6 HST.out.box 0).trans rfl
    try go_frame
    go_wp2_with (first
      | (with_reducible refine ke ?_
         refine k9 (by rfl) (kd 70 _ rfl (p := ⟨z5, 0, none⟩) rfl (run_loadVar_mid _ _ _ _ (opV (1, x1, x2, x3, 0, k7)) _ (fun j u hj => by rw [Nat.zero_add]; exact (k6 HST.out.box j).trans hj) Tryz.underlying70 rfl (by rw [kg HST.out.ok]; exact kw))) ?_)
      | (with_reducible refine ko ?_
         refine kj (by rfl) 70 _ _ rfl z4 0 [] (opV jd) [] (opV (1, x1, x2, x3, 0, k7)) 70 (.agg (opV (1, x1, x2, x3, 0, k7)).toArray) rfl rfl rfl rfl (by simpa using HST.out.res) (by first | rfl | (rw [kg HST.out.ok]; exact kg (jI 0))) (by rw [kg HST.out.ok]; exact kw) (zA _) ?_
         intro W9 hb9 hz9 hs9
         have HB9 := hid hb9
         have HZ9 : Hid (W9.heap[z4]? = some (.cells (opV (1, x1, x2, x3, 0, k7)).toArray 70 (0, 0))) := hid (by simpa using hz9)
         clear hb9 hz9 hs9))
    refine bodyPost_ret (jy Tryz.results28 _ _ rfl (run_loadVar_mid _ z4 0 70 (opV (1, x1, x2, x3, 0, k7)) _ (fun j u hj => by rw [Nat.zero_add]; exact (k6 HZ9.out j).trans hj) Tryz.underlying70 rfl (by rw [kg HST.out.ok]; exact kw))) rfl ?_
    exact ⟨(1, x1, x2, x3, 0, k7), _, a3, ok3, rfl, ⟨rfl, HST.out.ok⟩, HST.out.rd.but HB9.out (fun k hk e => by have h9 := HZ.out.low; have h8 := HZ.out.h4; omega), HST.out.but.trans HB9.out (fun k hk e => by have h8 := HZ.out.h4; omega), fun h y r hp => by
      rw [ub HPB.out (show kq 1 = some (true, true, true, false, false) from rfl)] at hp
      simp only [st1, st2, st3, st4, st5, Ze, JJ, JK] at hp
      obtain ⟨y1, s1, h1, hp⟩ := kp hp
      obtain ⟨rfl, rfl, k1⟩ := HP1.out h _ _ h1
      obtain ⟨y2, s2, h2, hp⟩ := kp hp
      obtain ⟨rfl, rfl, k2⟩ := HP2.out k1 _ _ h2
      obtain ⟨y3, s3, h3, hp⟩ := kp hp
      obtain ⟨rfl, rfl, k3⟩ := HP3.out k2 _ _ h3
      unfold Jo at hp
      cases hp
      exact ⟨rfl, rfl, k3⟩⟩
   by_cases h2 : k = 2
   ·
    subst h2
    go_upto_region 9 with (first
      | (go_at_call 61; refine (Je g b off c l (at' + 1) ok _ HST.out.rd hl deps Ad cd hdl HO.out ((HD.out.small HST.out.but (Nat.le_refl _) (by decide) (fun k hk => ⟨[.slice (some ⟨b, off, none⟩) l.length c, .int .i64 (at' : Int), .bool ok], 63, by have e : k = g := hk; subst e; exact HRD.out.box, by show 3 < 32; omega⟩)).more HST.out.but.size)).mono ?_; rintro e U1 ⟨x1, vv1, a1, ok1, rfl, ⟨rfl, hx1⟩, hrd1, hbt1, hp1⟩
         have HST := hid (HST.out.read HZ.out hrd1 hbt1)
         have HP1 := hid hp1; have HX1 := hid hx1
         clear hrd1 hbt1 hp1 hx1)
      | (with_reducible refine ko ?_
         refine kj (by rfl) 68 _ _ rfl z5 1 [.int .u8 2] (kf kc) (kf kc ++ [.string k7, .int .i64 0, .string k7]) (kf x1) 70 (.agg (kf x1).toArray) rfl rfl rfl rfl (by have h9 := HST.out.box; rwa [show opV (2, kc, kc, k7, 0, k7) = [.int .u8 2] ++ ((kf kc) ++ (kf kc ++ [.string k7, .int .i64 0, .string k7])) from rfl] at h9) (by rw [k8 HX1.out]; rfl) (by rw [k8 HX1.out]; exact kn) (jO _) ?_
         intro V1 hb9 hz9 hs9
         have HST : Hid (OrSt w g b off c l z4 z5 (2, x1, kc, k7, 0, k7) a1 ok1 V1) := hid (HST.out.store HZ.out hb9 (by rw [show opV (2, x1, kc, k7, 0, k7) = [.int .u8 2] ++ ((kf x1) ++ (kf kc ++ [.string k7, .int .i64 0, .string k7])) from rfl]; exact hz9) ⟨⟨HX1.out, HST.out.ok.1.2.1, HST.out.ok.1.2.2⟩, HST.out.ok.2.1, HST.out.ok.2.2⟩)
         clear hb9 hz9 hs9))
    have y0 : V1.cell? ⟨z5, 0, none⟩ = some (.int .u8 2) := (k6 HST.out.box 0).trans rfl
    try go_frame
    go_upto_region 15 with (first
      | (go_at_call 61; refine (Je g b off c l a1 ok1 _ HST.out.rd hl deps Ad cd hdl HO.out ((HD.out.small HST.out.but (Nat.le_refl _) (by decide) (fun k hk => ⟨[.slice (some ⟨b, off, none⟩) l.length c, .int .i64 (at' : Int), .bool ok], 63, by have e : k = g := hk; subst e; exact HRD.out.box, by show 3 < 32; omega⟩)).more HST.out.but.size)).mono ?_; rintro e U2 ⟨x2, vv2, a2, ok2, rfl, ⟨rfl, hx2⟩, hrd2, hbt2, hp2⟩
         have HST := hid (HST.out.read HZ.out hrd2 hbt2)
         have HP2 := hid hp2; have HX2 := hid hx2
         clear hrd2 hbt2 hp2 hx2)
      | (with_reducible refine ko ?_
         refine kj (by rfl) 68 _ _ rfl z5 34 (.int .u8 2 :: kf x1) (kf kc) [.string k7, .int .i64 0, .string k7] (kf x2) 70 (.agg (kf x2).toArray) rfl (by rw [List.length_cons, k8 HST.out.ok.1.1]) rfl rfl (by have h9 := HST.out.box; rwa [show opV (2, x1, kc, k7, 0, k7) = (.int .u8 2 :: kf x1) ++ ((kf kc) ++ [.string k7, .int .i64 0, .string k7]) from (ZW 2 x1 kc k7 0 k7)] at h9) (by rw [k8 HX2.out]; rfl) (by rw [k8 HX2.out]; exact kn) (jO _) ?_
         intro V2 hb9 hz9 hs9
         have HST : Hid (OrSt w g b off c l z4 z5 (2, x1, x2, k7, 0, k7) a2 ok2 V2) := hid (HST.out.store HZ.out hb9 (by rw [show opV (2, x1, x2, k7, 0, k7) = (.int .u8 2 :: kf x1) ++ ((kf x2) ++ [.string k7, .int .i64 0, .string k7]) from (ZW 2 x1 x2 k7 0 k7)]; exact hz9) ⟨⟨HST.out.ok.1.1, HX2.out, HST.out.ok.1.2.2⟩, HST.out.ok.2.1, HST.out.ok.2.2⟩)
         clear hb9 hz9 hs9))
    have y0 : V2.cell? ⟨z5, 0, none⟩ = some (.int .u8 2) := (k6 HST.out.box 0).trans rfl
    try go_frame
    go_upto_region 19 with (first
      | (go_at_call 25; refine (Jc g b off c l a2 ok2 _ HST.out.rd hl).mono ?_; rintro e U3 ⟨x3, vv3, a3, ok3, rfl, ⟨rfl, hx3⟩, hrd3, hbt3, hp3⟩
         have HST := hid (HST.out.read HZ.out hrd3 hbt3)
         have HP3 := hid hp3; have HX3 := hid hx3
         clear hrd3 hbt3 hp3 hx3)
      | (with_reducible refine ko ?_
         refine kj (by rfl) 3 _ _ rfl z5 68 (.int .u8 2 :: (kf x1 ++ (kf x2 ++ [.string k7]))) [.int .i64 0] [.string k7] [.int .i64 (x3 : Int)] 70 (.int .i64 (x3 : Int)) rfl (by first | rfl | (rw [List.length_cons, List.length_append, List.length_append, k8 HST.out.ok.1.1, k8 HST.out.ok.1.2.1]; rfl)) rfl rfl (by have h9 := HST.out.box; rwa [show opV (2, x1, x2, k7, 0, k7) = (.int .u8 2 :: (kf x1 ++ (kf x2 ++ [.string k7]))) ++ ([.int .i64 0] ++ [.string k7]) from (uG 2 x1 x2 k7 0 k7)] at h9) rfl (by kernel_rfl) (by intro u hu; rw [List.mem_singleton.1 hu]; rfl) ?_
         intro V3 hb9 hz9 hs9
         have HST : Hid (OrSt w g b off c l z4 z5 (2, x1, x2, k7, (x3 : Int), k7) a3 ok3 V3) := hid (HST.out.store HZ.out hb9 (by rw [show opV (2, x1, x2, k7, (x3 : Int), k7) = (.int .u8 2 :: (kf x1 ++ (kf x2 ++ [.string k7]))) ++ ([.int .i64 (x3 : Int)] ++ [.string k7]) from (uG 2 x1 x2 k7 (x3 : Int) k7)]; exact hz9) ⟨⟨HST.out.ok.1.1, HST.out.ok.1.2.1, qo HX3.out⟩, HST.out.ok.2.1, HST.out.ok.2.2⟩)
         clear hb9 hz9 hs9))
    have y0 : V3.cell? ⟨z5, 0, none⟩ = some (.int .u8 2) := (k6 HST.out.box 0).trans rfl
    try go_frame
    go_wp2_with (first
      | (with_reducible refine ke ?_
         refine k9 (by rfl) (kd 70 _ rfl (p := ⟨z5, 0, none⟩) rfl (run_loadVar_mid _ _ _ _ (opV (2, x1, x2, k7, (x3 : Int), k7)) _ (fun j u hj => by rw [Nat.zero_add]; exact (k6 HST.out.box j).trans hj) Tryz.underlying70 rfl (by rw [kg HST.out.ok]; exact kw))) ?_)
      | (with_reducible refine ko ?_
         refine kj (by rfl) 70 _ _ rfl z4 0 [] (opV jd) [] (opV (2, x1, x2, k7, (x3 : Int), k7)) 70 (.agg (opV (2, x1, x2, k7, (x3 : Int), k7)).toArray) rfl rfl rfl rfl (by simpa using HST.out.res) (by first | rfl | (rw [kg HST.out.ok]; exact kg (jI 0))) (by rw [kg HST.out.ok]; exact kw) (zA _) ?_
         intro W9 hb9 hz9 hs9
         have HB9 := hid hb9
         have HZ9 : Hid (W9.heap[z4]? = some (.cells (opV (2, x1, x2, k7, (x3 : Int), k7)).toArray 70 (0, 0))) := hid (by simpa using hz9)
         clear hb9 hz9 hs9))
    refine bodyPost_ret (jy Tryz.results28 _ _ rfl (run_loadVar_mid _ z4 0 70 (opV (2, x1, x2, k7, (x3 : Int), k7)) _ (fun j u hj => by rw [Nat.zero_add]; exact (k6 HZ9.out j).trans hj) Tryz.underlying70 rfl (by rw [kg HST.out.ok]; exact kw))) rfl ?_
    exact ⟨(2, x1, x2, k7, (x3 : Int), k7), _, a3, ok3, rfl, ⟨rfl, HST.out.ok⟩, HST.out.rd.but HB9.out (fun k hk e => by have h9 := HZ.out.low; have h8 := HZ.out.h4; omega), HST.out.but.trans HB9.out (fun k hk e => by have h8 := HZ.out.h4; omega), fun h y r hp => by
      rw [ub HPB.out (show kq 2 = some (true, true, false, true, false) from rfl)] at hp
      simp only [st1, st2, st3, st4, st5, Ze, JJ, JK] at hp
      obtain ⟨y1, s1, h1, hp⟩ := kp hp
      obtain ⟨rfl, rfl, k1⟩ := HP1.out h _ _ h1
      obtain ⟨y2, s2, h2, hp⟩ := kp hp
      obtain ⟨rfl, rfl, k2⟩ := HP2.out k1 _ _ h2
      obtain ⟨y3, s3, h3, hp⟩ := kp hp
      obtain ⟨m3, q3, h3, g3⟩ := kp h3
      unfold Jo at g3
      cases g3
      obtain ⟨rfl, rfl, k3⟩ := HP3.out k2 _ _ h3
      unfold Jo at hp
      cases hp
      exact ⟨rfl, rfl, k3⟩⟩
   by_cases h3 : k = 3
   ·
    subst h3
    go_upto_region 19 with (first
      | (go_at_call 27; refine (Jd g b off c l (at' + 1) ok _ HST.out.rd hl).mono ?_; rintro e U1 ⟨x1, vv1, a1, ok1, rfl, ⟨rfl, hx1⟩, hrd1, hbt1, hp1⟩
         have HST := hid (HST.out.read HZ.out hrd1 hbt1)
         have HP1 := hid hp1; have HX1 := hid hx1
         clear hrd1 hbt1 hp1 hx1)
      | (with_reducible refine ko ?_
         refine kj (by rfl) 9 _ _ rfl z5 69 (.int .u8 3 :: (kf kc ++ (kf kc ++ [.string k7, .int .i64 0]))) [.string k7] [] [.string x1] 70 (.string x1) rfl (by first | rfl | (rw [List.length_cons, List.length_append, List.length_append, k8 HST.out.ok.1.1, k8 HST.out.ok.1.2.1]; rfl)) rfl rfl (by have h9 := HST.out.box; rwa [show opV (3, kc, kc, k7, 0, k7) = (.int .u8 3 :: (kf kc ++ (kf kc ++ [.string k7, .int .i64 0]))) ++ ([.string k7] ++ []) from (ZX 3 kc kc k7 0 k7)] at h9) rfl (by kernel_rfl) (by intro u hu; rw [List.mem_singleton.1 hu]; rfl) ?_
         intro V1 hb9 hz9 hs9
         have HST : Hid (OrSt w g b off c l z4 z5 (3, kc, kc, k7, 0, x1) a1 ok1 V1) := hid (HST.out.store HZ.out hb9 (by rw [show opV (3, kc, kc, k7, 0, x1) = (.int .u8 3 :: (kf kc ++ (kf kc ++ [.string k7, .int .i64 0]))) ++ ([.string x1] ++ []) from (ZX 3 kc kc k7 0 x1)]; exact hz9) ⟨HST.out.ok.1, HST.out.ok.2.1, (show x1.size ≤ maxLen by have h9 := HX1.out; unfold maxLen; omega)⟩)
         clear hb9 hz9 hs9))
    have y0 : V1.cell? ⟨z5, 0, none⟩ = some (.int .u8 3) := (k6 HST.out.box 0).trans rfl
    try go_frame
    go_wp2_with (first
      | (with_reducible refine ke ?_
         refine k9 (by rfl) (kd 70 _ rfl (p := ⟨z5, 0, none⟩) rfl (run_loadVar_mid _ _ _ _ (opV (3, kc, kc, k7, 0, x1)) _ (fun j u hj => by rw [Nat.zero_add]; exact (k6 HST.out.box j).trans hj) Tryz.underlying70 rfl (by rw [kg HST.out.ok]; exact kw))) ?_)
      | (with_reducible refine ko ?_
         refine kj (by rfl) 70 _ _ rfl z4 0 [] (opV jd) [] (opV (3, kc, kc, k7, 0, x1)) 70 (.agg (opV (3, kc, kc, k7, 0, x1)).toArray) rfl rfl rfl rfl (by simpa using HST.out.res) (by first | rfl | (rw [kg HST.out.ok]; exact kg (jI 0))) (by rw [kg HST.out.ok]; exact kw) (zA _) ?_
         intro W9 hb9 hz9 hs9
         have HB9 := hid hb9
         have HZ9 : Hid (W9.heap[z4]? = some (.cells (opV (3, kc, kc, k7, 0, x1)).toArray 70 (0, 0))) := hid (by simpa using hz9)
         clear hb9 hz9 hs9))
    refine bodyPost_ret (jy Tryz.results28 _ _ rfl (run_loadVar_mid _ z4 0 70 (opV (3, kc, kc, k7, 0, x1)) _ (fun j u hj => by rw [Nat.zero_add]; exact (k6 HZ9.out j).trans hj) Tryz.underlying70 rfl (by rw [kg HST.out.ok]; exact kw))) rfl ?_
    exact ⟨(3, kc, kc, k7, 0, x1), _, a1, ok1, rfl, ⟨rfl, HST.out.ok⟩, HST.out.rd.but HB9.out (fun k hk e => by have h9 := HZ.out.low; have h8 := HZ.out.h4; omega), HST.out.but.trans HB9.out (fun k hk e => by have h8 := HZ.out.h4; omega), fun h y r hp => by
      rw [ub HPB.out (show kq 3 = some (false, false, false, false, true) from rfl)] at hp
      simp only [st1, st2, st3, st4, st5, Ze, JJ, JK] at hp
      obtain ⟨y1, s1, h1, hp⟩ := kp hp
      obtain ⟨rfl, rfl, k1⟩ := HP1.out h _ _ h1
      unfold Jo at hp
      cases hp
      exact ⟨rfl, rfl, k1⟩⟩
   by_cases h4 : k = 4
   ·
    subst h4
    go_upto_region 9 with (first
      | (go_at_call 61; refine (Je g b off c l (at' + 1) ok _ HST.out.rd hl deps Ad cd hdl HO.out ((HD.out.small HST.out.but (Nat.le_refl _) (by decide) (fun k hk => ⟨[.slice (some ⟨b, off, none⟩) l.length c, .int .i64 (at' : Int), .bool ok], 63, by have e : k = g := hk; subst e; exact HRD.out.box, by show 3 < 32; omega⟩)).more HST.out.but.size)).mono ?_; rintro e U1 ⟨x1, vv1, a1, ok1, rfl, ⟨rfl, hx1⟩, hrd1, hbt1, hp1⟩
         have HST := hid (HST.out.read HZ.out hrd1 hbt1)
         have HP1 := hid hp1; have HX1 := hid hx1
         clear hrd1 hbt1 hp1 hx1)
      | (with_reducible refine ko ?_
         refine kj (by rfl) 68 _ _ rfl z5 1 [.int .u8 4] (kf kc) (kf kc ++ [.string k7, .int .i64 0, .string k7]) (kf x1) 70 (.agg (kf x1).toArray) rfl rfl rfl rfl (by have h9 := HST.out.box; rwa [show opV (4, kc, kc, k7, 0, k7) = [.int .u8 4] ++ ((kf kc) ++ (kf kc ++ [.string k7, .int .i64 0, .string k7])) from rfl] at h9) (by rw [k8 HX1.out]; rfl) (by rw [k8 HX1.out]; exact kn) (jO _) ?_
         intro V1 hb9 hz9 hs9
         have HST : Hid (OrSt w g b off c l z4 z5 (4, x1, kc, k7, 0, k7) a1 ok1 V1) := hid (HST.out.store HZ.out hb9 (by rw [show opV (4, x1, kc, k7, 0, k7) = [.int .u8 4] ++ ((kf x1) ++ (kf kc ++ [.string k7, .int .i64 0, .string k7])) from rfl]; exact hz9) ⟨⟨HX1.out, HST.out.ok.1.2.1, HST.out.ok.1.2.2⟩, HST.out.ok.2.1, HST.out.ok.2.2⟩)
         clear hb9 hz9 hs9))
    have y0 : V1.cell? ⟨z5, 0, none⟩ = some (.int .u8 4) := (k6 HST.out.box 0).trans rfl
    try go_frame
    go_upto_region 19 with (first
      | (go_at_call 27; refine (Jd g b off c l a1 ok1 _ HST.out.rd hl).mono ?_; rintro e U2 ⟨x2, vv2, a2, ok2, rfl, ⟨rfl, hx2⟩, hrd2, hbt2, hp2⟩
         have HST := hid (HST.out.read HZ.out hrd2 hbt2)
         have HP2 := hid hp2; have HX2 := hid hx2
         clear hrd2 hbt2 hp2 hx2)
      | (with_reducible refine ko ?_
         refine kj (by rfl) 9 _ _ rfl z5 69 (.int .u8 4 :: (kf x1 ++ (kf kc ++ [.string k7, .int .i64 0]))) [.string k7] [] [.string x2] 70 (.string x2) rfl (by first | rfl | (rw [List.length_cons, List.length_append, List.length_append, k8 HST.out.ok.1.1, k8 HST.out.ok.1.2.1]; rfl)) rfl rfl (by have h9 := HST.out.box; rwa [show opV (4, x1, kc, k7, 0, k7) = (.int .u8 4 :: (kf x1 ++ (kf kc ++ [.string k7, .int .i64 0]))) ++ ([.string k7] ++ []) from (ZX 4 x1 kc k7 0 k7)] at h9) rfl (by kernel_rfl) (by intro u hu; rw [List.mem_singleton.1 hu]; rfl) ?_
         intro V2 hb9 hz9 hs9
         have HST : Hid (OrSt w g b off c l z4 z5 (4, x1, kc, k7, 0, x2) a2 ok2 V2) := hid (HST.out.store HZ.out hb9 (by rw [show opV (4, x1, kc, k7, 0, x2) = (.int .u8 4 :: (kf x1 ++ (kf kc ++ [.string k7, .int .i64 0]))) ++ ([.string x2] ++ []) from (ZX 4 x1 kc k7 0 x2)]; exact hz9) ⟨HST.out.ok.1, HST.out.ok.2.1, (show x2.size ≤ maxLen by have h9 := HX2.out; unfold maxLen; omega)⟩)
         clear hb9 hz9 hs9))
    have y0 : V2.cell? ⟨z5, 0, none⟩ = some (.int .u8 4) := (k6 HST.out.box 0).trans rfl
    try go_frame
    go_wp2_with (first
      | (with_reducible refine ke ?_
         refine k9 (by rfl) (kd 70 _ rfl (p := ⟨z5, 0, none⟩) rfl (run_loadVar_mid _ _ _ _ (opV (4, x1, kc, k7, 0, x2)) _ (fun j u hj => by rw [Nat.zero_add]; exact (k6 HST.out.box j).trans hj) Tryz.underlying70 rfl (by rw [kg HST.out.ok]; exact kw))) ?_)
      | (with_reducible refine ko ?_
         refine kj (by rfl) 70 _ _ rfl z4 0 [] (opV jd) [] (opV (4, x1, kc, k7, 0, x2)) 70 (.agg (opV (4, x1, kc, k7, 0, x2)).toArray) rfl rfl rfl rfl (by simpa using HST.out.res) (by first | rfl | (rw [kg HST.out.ok]; exact kg (jI 0))) (by rw [kg HST.out.ok]; exact kw) (zA _) ?_
         intro W9 hb9 hz9 hs9
         have HB9 := hid hb9
         have HZ9 : Hid (W9.heap[z4]? = some (.cells (opV (4, x1, kc, k7, 0, x2)).toArray 70 (0, 0))) := hid (by simpa using hz9)
         clear hb9 hz9 hs9))
    refine bodyPost_ret (jy Tryz.results28 _ _ rfl (run_loadVar_mid _ z4 0 70 (opV (4, x1, kc, k7, 0, x2)) _ (fun j u hj => by rw [Nat.zero_add]; exact (k6 HZ9.out j).trans hj) Tryz.underlying70 rfl (by rw [kg HST.out.ok]; exact kw))) rfl ?_
    exact ⟨(4, x1, kc, k7, 0, x2), _, a2, ok2, rfl, ⟨rfl, HST.out.ok⟩, HST.out.rd.but HB9.out (fun k hk e => by have h9 := HZ.out.low; have h8 := HZ.out.h4; omega), HST.out.but.trans HB9.out (fun k hk e => by have h8 := HZ.out.h4; omega), fun h y r hp => by
      rw [ub HPB.out (show kq 4 = some (true, false, false, false, true) from rfl)] at hp
      simp only [st1, st2, st3, st4, st5, Ze, JJ, JK] at hp
      obtain ⟨y1, s1, h1, hp⟩ := kp hp
      obtain ⟨rfl, rfl, k1⟩ := HP1.out h _ _ h1
      obtain ⟨y2, s2, h2, hp⟩ := kp hp
      obtain ⟨rfl, rfl, k2⟩ := HP2.out k1 _ _ h2
      unfold Jo at hp
      cases hp
      exact ⟨rfl, rfl, k2⟩⟩
   by_cases h5 : k = 5
   ·
    subst h5
    go_upto_region 9 with (first
      | (go_at_call 61; refine (Je g b off c l (at' + 1) ok _ HST.out.rd hl deps Ad cd hdl HO.out ((HD.out.small HST.out.but (Nat.le_refl _) (by decide) (fun k hk => ⟨[.slice (some ⟨b, off, none⟩) l.length c, .int .i64 (at' : Int), .bool ok], 63, by have e : k = g := hk; subst e; exact HRD.out.box, by show 3 < 32; omega⟩)).more HST.out.but.size)).mono ?_; rintro e U1 ⟨x1, vv1, a1, ok1, rfl, ⟨rfl, hx1⟩, hrd1, hbt1, hp1⟩
         have HST := hid (HST.out.read HZ.out hrd1 hbt1)
         have HP1 := hid hp1; have HX1 := hid hx1
         clear hrd1 hbt1 hp1 hx1)
      | (with_reducible refine ko ?_
         refine kj (by rfl) 68 _ _ rfl z5 1 [.int .u8 5] (kf kc) (kf kc ++ [.string k7, .int .i64 0, .string k7]) (kf x1) 70 (.agg (kf x1).toArray) rfl rfl rfl rfl (by have h9 := HST.out.box; rwa [show opV (5, kc, kc, k7, 0, k7) = [.int .u8 5] ++ ((kf kc) ++ (kf kc ++ [.string k7, .int .i64 0, .string k7])) from rfl] at h9) (by rw [k8 HX1.out]; rfl) (by rw [k8 HX1.out]; exact kn) (jO _) ?_
         intro V1 hb9 hz9 hs9
         have HST : Hid (OrSt w g b off c l z4 z5 (5, x1, kc, k7, 0, k7) a1 ok1 V1) := hid (HST.out.store HZ.out hb9 (by rw [show opV (5, x1, kc, k7, 0, k7) = [.int .u8 5] ++ ((kf x1) ++ (kf kc ++ [.string k7, .int .i64 0, .string k7])) from rfl]; exact hz9) ⟨⟨HX1.out, HST.out.ok.1.2.1, HST.out.ok.1.2.2⟩, HST.out.ok.2.1, HST.out.ok.2.2⟩)
         clear hb9 hz9 hs9))
    have y0 : V1.cell? ⟨z5, 0, none⟩ = some (.int .u8 5) := (k6 HST.out.box 0).trans rfl
    try go_frame
    go_wp2_with (first
      | (with_reducible refine ke ?_
         refine k9 (by rfl) (kd 70 _ rfl (p := ⟨z5, 0, none⟩) rfl (run_loadVar_mid _ _ _ _ (opV (5, x1, kc, k7, 0, k7)) _ (fun j u hj => by rw [Nat.zero_add]; exact (k6 HST.out.box j).trans hj) Tryz.underlying70 rfl (by rw [kg HST.out.ok]; exact kw))) ?_)
      | (with_reducible refine ko ?_
         refine kj (by rfl) 70 _ _ rfl z4 0 [] (opV jd) [] (opV (5, x1, kc, k7, 0, k7)) 70 (.agg (opV (5, x1, kc, k7, 0, k7)).toArray) rfl rfl rfl rfl (by simpa using HST.out.res) (by first | rfl | (rw [kg HST.out.ok]; exact kg (jI 0))) (by rw [kg HST.out.ok]; exact kw) (zA _) ?_
         intro W9 hb9 hz9 hs9
         have HB9 := hid hb9
         have HZ9 : Hid (W9.heap[z4]? = some (.cells (opV (5, x1, kc, k7, 0, k7)).toArray 70 (0, 0))) := hid (by simpa using hz9)
         clear hb9 hz9 hs9))
    refine bodyPost_ret (jy Tryz.results28 _ _ rfl (run_loadVar_mid _ z4 0 70 (opV (5, x1, kc, k7, 0, k7)) _ (fun j u hj => by rw [Nat.zero_add]; exact (k6 HZ9.out j).trans hj) Tryz.underlying70 rfl (by rw [kg HST.out.ok]; exact kw))) rfl ?_
    exact ⟨(5, x1, kc, k7, 0, k7), _, a1, ok1, rfl, ⟨rfl, HST.out.ok⟩, HST.out.rd.but HB9.out (fun k hk e => by have h9 := HZ.out.low; have h8 := HZ.out.h4; omega), HST.out.but.trans HB9.out (fun k hk e => by have h8 := HZ.out.h4; omega), fun h y r hp => by
      rw [ub HPB.out (show kq 5 = some (true, false, false, false, false) from rfl)] at hp
      simp only [st1, st2, st3, st4, st5, Ze, JJ, JK] at hp
      obtain ⟨y1, s1, h1, hp⟩ := kp hp
      obtain ⟨rfl, rfl, k1⟩ := HP1.out h _ _ h1
      unfold Jo at hp
      cases hp
      exact ⟨rfl, rfl, k1⟩⟩
   have HPK := hid (show kq k = none by unfold kq; simp [h1, h2, h3, h4, h5])
   have ek1 : ((k.toNat : Int) == 1) = false := by rw [beq_eq_false_iff_ne]; intro h; exact h1 (by apply UInt8.toNat_inj.1; show k.toNat = 1; omega)
   have en1 : ((k.toNat : Int) != 1) = true := by simp only [bne, ek1, Bool.not_false]
   have ek2 : ((k.toNat : Int) == 2) = false := by rw [beq_eq_false_iff_ne]; intro h; exact h2 (by apply UInt8.toNat_inj.1; show k.toNat = 2; omega)
   have en2 : ((k.toNat : Int) != 2) = true := by simp only [bne, ek2, Bool.not_false]
   have ek3 : ((k.toNat : Int) == 3) = false := by rw [beq_eq_false_iff_ne]; intro h; exact h3 (by apply UInt8.toNat_inj.1; show k.toNat = 3; omega)
   have en3 : ((k.toNat : Int) != 3) = true := by simp only [bne, ek3, Bool.not_false]
   have ek4 : ((k.toNat : Int) == 4) = false := by rw [beq_eq_false_iff_ne]; intro h; exact h4 (by apply UInt8.toNat_inj.1; show k.toNat = 4; omega)
   have en4 : ((k.toNat : Int) != 4) = true := by simp only [bne, ek4, Bool.not_false]
   have ek5 : ((k.toNat : Int) == 5) = false := by rw [beq_eq_false_iff_ne]; intro h; exact h5 (by apply UInt8.toNat_inj.1; show k.toNat = 5; omega)
   have en5 : ((k.toNat : Int) != 5) = true := by simp only [bne, ek5, Bool.not_false]
   clear h1 h2 h3 h4 h5
   go_upto_region 9 with (first
     | (go_at_call 61; refine (Je g b off c l (at' + 1) ok _ HST.out.rd hl deps Ad cd hdl HO.out ((HD.out.small HST.out.but (Nat.le_refl _) (by decide) (fun k hk => ⟨[.slice (some ⟨b, off, none⟩) l.length c, .int .i64 (at' : Int), .bool ok], 63, by have e : k = g := hk; subst e; exact HRD.out.box, by show 3 < 32; omega⟩)).more HST.out.but.size)).mono ?_; rintro e U1 ⟨x1, vv1, a1, ok1, rfl, ⟨rfl, hx1⟩, hrd1, hbt1, hp1⟩
        have HST := hid (HST.out.read HZ.out hrd1 hbt1)
        have HP1 := hid hp1; have HX1 := hid hx1
        clear hrd1 hbt1 hp1 hx1)
     | (with_reducible refine ko ?_
        refine kj (by rfl) 68 _ _ rfl z5 1 [.int .u8 (k.toNat : Int)] (kf kc) (kf kc ++ [.string k7, .int .i64 0, .string k7]) (kf x1) 70 (.agg (kf x1).toArray) rfl rfl rfl rfl (by have h9 := HST.out.box; rwa [show opV (k, kc, kc, k7, 0, k7) = [.int .u8 (k.toNat : Int)] ++ ((kf kc) ++ (kf kc ++ [.string k7, .int .i64 0, .string k7])) from rfl] at h9) (by rw [k8 HX1.out]; rfl) (by rw [k8 HX1.out]; exact kn) (jO _) ?_
        intro V1 hb9 hz9 hs9
        have HST : Hid (OrSt w g b off c l z4 z5 (k, x1, kc, k7, 0, k7) a1 ok1 V1) := hid (HST.out.store HZ.out hb9 (by rw [show opV (k, x1, kc, k7, 0, k7) = [.int .u8 (k.toNat : Int)] ++ ((kf x1) ++ (kf kc ++ [.string k7, .int .i64 0, .string k7])) from rfl]; exact hz9) ⟨⟨HX1.out, HST.out.ok.1.2.1, HST.out.ok.1.2.2⟩, HST.out.ok.2.1, HST.out.ok.2.2⟩)
        clear hb9 hz9 hs9))
   have y0 : V1.cell? ⟨z5, 0, none⟩ = some (.int .u8 (k.toNat : Int)) := (k6 HST.out.box 0).trans rfl
   try go_frame
   go_wp2_with (first
     | (with_reducible refine ke ?_
        refine k9 (by rfl) (kd 70 _ rfl (p := ⟨z5, 0, none⟩) rfl (run_loadVar_mid _ _ _ _ (opV (k, x1, kc, k7, 0, k7)) _ (fun j u hj => by rw [Nat.zero_add]; exact (k6 HST.out.box j).trans hj) Tryz.underlying70 rfl (by rw [kg HST.out.ok]; exact kw))) ?_)
     | (with_reducible refine ko ?_
        refine kj (by rfl) 70 _ _ rfl z4 0 [] (opV jd) [] (opV (k, x1, kc, k7, 0, k7)) 70 (.agg (opV (k, x1, kc, k7, 0, k7)).toArray) rfl rfl rfl rfl (by simpa using HST.out.res) (by first | rfl | (rw [kg HST.out.ok]; exact kg (jI 0))) (by rw [kg HST.out.ok]; exact kw) (zA _) ?_
        intro W9 hb9 hz9 hs9
        have HB9 := hid hb9
        have HZ9 : Hid (W9.heap[z4]? = some (.cells (opV (k, x1, kc, k7, 0, k7)).toArray 70 (0, 0))) := hid (by simpa using hz9)
        clear hb9 hz9 hs9))
   refine bodyPost_ret (jy Tryz.results28 _ _ rfl (run_loadVar_mid _ z4 0 70 (opV (k, x1, kc, k7, 0, k7)) _ (fun j u hj => by rw [Nat.zero_add]; exact (k6 HZ9.out j).trans hj) Tryz.underlying70 rfl (by rw [kg HST.out.ok]; exact kw))) rfl ?_
   exact ⟨(k, x1, kc, k7, 0, k7), _, a1, ok1, rfl, ⟨rfl, HST.out.ok⟩, HST.out.rd.but HB9.out (fun k hk e => by have h9 := HZ.out.low; have h8 := HZ.out.h4; omega), HST.out.but.trans HB9.out (fun k hk e => by have h8 := HZ.out.h4; omega), fun h y r hp => by rw [pOp_kind HPB.out HPK.out] at hp; cases hp⟩
  ·
   have dl : decide ((l.length : Int) ≤ (at' : Int)) = true := decide_eq_true (by omega)
   have HPB := hid (show zX (l.drop at') = none by rw [List.drop_eq_nil_of_le (by omega)]; rfl)
   refine jv (by kernel_rfl) (by kernel_rfl) ?_
   repeat (first
     | go_big_quiet_skip
     | (go_big_quiet_want
        first
          | (go_big_quiet_op
             first
               | go_big_quiet_on
               | go_big_quiet_call (first | (fail)))))
   refine wpQuiet_nil ?_
   rintro w' ⟨kk, rfl⟩
   have hk2 := kk.2
   generalize kk.val = w2 at *
   clear kk
   have HST := hid (HST.out.keep hk2.below)
   clear hk2 c0 c1
   have c2 : w2.cell? ⟨g, 2, none⟩ = some (.bool ok) := k6 HST.out.rd.box 2
   have f2 := HST.out.rd.frozen 2
   obtain ⟨hm1, hm2⟩ := HST.out.rd.say false
   have HM1 := hid hm1; have HM2 := hid hm2
   clear hm1 hm2
   go_upto_region 4 with fail
   obtain ⟨W8, hW8⟩ : ∃ u, w2.setCell ⟨g, 2, none⟩ (.bool false) = u := ⟨_, rfl⟩
   rw [hW8] at HM1 HM2 ⊢
   clear hW8 c2 f2
   have HST := hid (HST.out.read HZ.out HM1.out HM2.out)
   clear HM1 HM2
   go_wp2_with (first
     | (with_reducible refine ke ?_
        refine k9 (by rfl) (kd 70 _ rfl (p := ⟨z5, 0, none⟩) rfl (run_loadVar_mid _ _ _ _ (opV jd) _ (fun j u hj => by rw [Nat.zero_add]; exact (k6 HST.out.box j).trans hj) Tryz.underlying70 rfl (by rw [kg HST.out.ok]; exact kw))) ?_)
     | (with_reducible refine ko ?_
        refine kj (by rfl) 70 _ _ rfl z4 0 [] (opV jd) [] (opV jd) 70 (.agg (opV jd).toArray) rfl rfl rfl rfl (by simpa using HST.out.res) (by first | rfl | (rw [kg HST.out.ok]; exact kg (jI 0))) (by rw [kg HST.out.ok]; exact kw) (zA _) ?_
        intro W9 hb9 hz9 hs9
        have HB9 := hid hb9
        have HZ9 : Hid (W9.heap[z4]? = some (.cells (opV jd).toArray 70 (0, 0))) := hid (by simpa using hz9)
        clear hb9 hz9 hs9))
   refine bodyPost_ret (jy Tryz.results28 _ _ rfl (run_loadVar_mid _ z4 0 70 (opV jd) _ (fun j u hj => by rw [Nat.zero_add]; exact (k6 HZ9.out j).trans hj) Tryz.underlying70 rfl (by rw [kg HST.out.ok]; exact kw))) rfl ?_
   exact ⟨jd, _, at', false, rfl, ⟨rfl, HST.out.ok⟩, HST.out.rd.but HB9.out (fun k hk e => by have h9 := HZ.out.low; have h8 := HZ.out.h4; omega), HST.out.but.trans HB9.out (fun k hk e => by have h8 := HZ.out.h4; omega), fun h y r hp => by rw [pOp_byte HPB.out] at hp; cases hp⟩
end Go.Proofs.YthjaepmfkgejkaaGreatDoor
