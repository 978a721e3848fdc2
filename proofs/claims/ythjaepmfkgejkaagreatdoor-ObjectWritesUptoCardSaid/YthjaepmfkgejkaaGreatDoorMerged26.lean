/-
  Slices inside a value have their length within their capacity. No conditions; no program.
  The document's copy of ids, its Encode. Conditions: lists of at most 2^40.
  The document's copy of an object. Conditions: lists of at most 10^9.
  The document's padding. Conditions: bytes that lie in memory.
-/
import Derived.Test.YthjaepmfkgejkaaGreatDoorMerged1
import Derived.Test.YthjaepmfkgejkaaGreatDoorMerged19
import Derived.Test.YthjaepmfkgejkaaGreatDoorMerged21
import Derived.Test.YthjaepmfkgejkaaGreatDoorOrdMerge
import Derived.Test.YthjaepmfkgejkaaGreatDoorRefBytes8c
import Derived.Test.YthjaepmfkgejkaaGreatDoorMerged20
import Derived.Test.YthjaepmfkgejkaaGreatDoorShaSum
set_option linter.unusedVariables false
set_option linter.unusedSimpArgs false
set_option maxHeartbeats 4000000
set_option maxRecDepth 100000
namespace Go.Proofs.YthjaepmfkgejkaaGreatDoor
def CapOk (v : Value) : Prop := ∀ cs : List Value, v = .agg cs.toArray → ∀ A n c, Value.slice A n c ∈ cs → n ≤ c
end Go.Proofs.YthjaepmfkgejkaaGreatDoor
namespace Go.Proofs.YthjaepmfkgejkaaGreatDoor
open Lib (hid)
open Go.RowKit Go.Maps
def CopyIds (l : List (List UInt8)) (w : World) (e : Ending) (w' : World) : Prop := ∃ A c, e = .returned (.slice A l.length c) ∧ Sl w' w'.heap.size A l.length 32 (kr l) ∧ l.length ≤ c ∧ Below w.heap.size w w'
theorem u7 (l : List (List UInt8)) (A : Option Addr) (c : Nat) (w : World) (hs : Sl w w.heap.size A l.length 32 (kr l)) (hl : l.length ≤ 1099511627776) :
    Calls Tryz.prog 33 #[.slice A l.length c] w (CopyIds l w) := by
  have HS := hid hs
  clear hs
  go_enter Tryz.func33, Tryz.ntmps33
  go_wp2_with (at_builtin; refine wp_appSc (by rfl) _ _ 23 rfl 47 (.agg (idV zero32).toArray) 32 32 Tryz.underlying23 zg rfl (by decide) rfl A l.length c (kr l) rfl HS.out (Ky _) (by unfold maxLen; omega) (by omega) ?_; intro A' c' w' h1 h2 h3; have H1 := hid h1; have H2 := hid h2; have H3 := hid h3; clear h1 h2 h3)
  go_ret
  exact ⟨_, _, rfl, H1.out, H2.out, H3.out⟩
def Um (o : zR) : Int := if kD o = true then (if 262144 < (zA o).length then 2 else 0) else 1
def idD (o : zR) : List UInt8 := if Um o = 0 then ZN (zA o) else List.replicate 32 0
theorem vN (o : zR) (v : Value) (w : World) (h : ObjIn w w.heap.size v o) (hl1 : o.2.1.2.1.length ≤ 1099511627776) (hl2 : o.2.1.2.2.2.length ≤ 1099511627776) (hl3 : o.2.2.1.length ≤ 1099511627776) (hl4 : o.2.2.2.1.length ≤ 1099511627776) :
    Calls Tryz.prog 13 #[v] w fun e w' => Below w.heap.size w w' ∧ Ka o e w' := by
  obtain ⟨c0, rfl, hl0, h10⟩ := h.ten
  have HIN := hid h; have HL0 := hid hl0; have H10 := hid h10
  clear h hl0 h10
  go_enter Tryz.func13, Tryz.ntmps13
  go_upto_region 1 with (first
    | (with_reducible refine kz ?_
       refine ko (by rfl) 30 _ rfl c0 (.agg (c0).toArray) rfl rfl (by rw [HL0.out]; kernel_rfl) ?_
       intro W0 hb0 hz0 hs0
       have HB0 := hid hb0; have HZ0 := hid hz0; have HS0 := hid hs0
       clear hb0 hz0 hs0))
  have HI0 := hid ((HIN.out.keep HB0.out).more HB0.out.size)
  obtain ⟨z, hz⟩ : ∃ z, w.heap.size = z := ⟨_, rfl⟩
  have HZL := hid (show z < W0.heap.size by have := HS0.out; omega)
  rw [hz] at HZ0 ⊢
  try go_frame
  clear hz HS0
  rcases Bool.eq_false_or_eq_true (kD o) with hr | hr
  rotate_left
  ·
   have HR := hid hr
   clear hr
   go_wp2_with (first
     | (with_reducible refine k7 ?_
        refine k6 (by rfl) (k9 30 _ rfl (p := ⟨z, 0, none⟩) rfl (jP HZ0.out HL0.out)) ?_)
     | (go_at_call 16; refine (JE o _ W0 HI0.out hl1 hl2 hl3 hl4).mono ?_; rintro e W1 ⟨hb1, rfl⟩
        rw [HR.out]
        have HB1 := hid (HB0.out.trans (hb1.mono HB0.out.size))
        clear hb1))
   go_ret2
   exact ⟨HB1.out, by unfold Ka; rw [HR.out]; rfl⟩
  ·
   have HR := hid hr
   clear hr
   go_upto_region 3 with (first
     | (with_reducible refine k7 ?_
        refine k6 (by rfl) (k9 30 _ rfl (p := ⟨z, 0, none⟩) rfl (jP HZ0.out HL0.out)) ?_)
     | (go_at_call 16; refine (JE o _ W0 HI0.out hl1 hl2 hl3 hl4).mono ?_; rintro e W1 ⟨hb1, rfl⟩
        rw [HR.out]
        have HB1 := hid (HB0.out.trans (hb1.mono HB0.out.size))
        have HZ1 := hid ((hb1.block z HZL.out).trans HZ0.out)
        have HI1 := hid ((HI0.out.keep hb1).more hb1.size)
        clear hb1))
   go_upto_region 4 with (first
     | (with_reducible refine k7 ?_
        refine k6 (by rfl) (k9 30 _ rfl (p := ⟨z, 0, none⟩) rfl (jP HZ1.out HL0.out)) ?_)
     | (go_at_call 29; refine (qy o _ W1 HI1.out HR.out).mono ?_
        rintro e W2 ⟨hb2, Ay, cy, rfl, hoy⟩
        have HB2 := hid (HB1.out.trans (hb2.mono HB1.out.size)); have HOY := hid hoy
        clear hb2 hoy))
   by_cases hlong : 262144 < (zA o).length
   ·
    have i2 : (262144 : Int) < ((zA o).length : Int) := by omega
    go_wp2_with fail
    go_ret2
    exact ⟨HB2.out, by unfold Ka; rw [if_pos HR.out, if_pos hlong]; rfl⟩
   ·
    have i2 : ¬ (262144 : Int) < ((zA o).length : Int) := by omega
    go_wp2_with fail
    go_ret2
    exact ⟨HB2.out, by unfold Ka; rw [if_pos HR.out, if_neg hlong]; exact ⟨Ay, cy, rfl, Sl.of_own HOY.out, Jt HOY.out⟩⟩
end Go.Proofs.YthjaepmfkgejkaaGreatDoor
namespace Go.Proofs.YthjaepmfkgejkaaGreatDoor
open Lib (hid)
open Go.RowKit Go.Maps
def CopyObj (o : zR) (w : World) (e : Ending) (w' : World) : Prop := ∃ v, e = .returned v ∧ ObjIn w' w'.heap.size v o ∧ CapOk v ∧ Below w.heap.size w w'
theorem cap_four {k : Int} {n st : Int} {au a2 ms : ByteArray} {A1 A2 A3 A4 : Option Addr} {n1 n2 n3 n4 c1 c2 c3 c4 : Nat} (h1 : n1 ≤ c1) (h2 : n2 ≤ c2) (h3 : n3 ≤ c3) (h4 : n4 ≤ c4) : CapOk (.agg ([.int .u8 k, .int .i64 n, .slice A1 n1 c1, .string au, .slice A2 n2 c2, .slice A3 n3 c3, .slice A4 n4 c4, .string a2, .string ms, .int .i64 st] : List Value).toArray) := by
  intro cs hv A m c hm
  injection hv with hv
  have hv2 := congrArg Array.toList hv
  simp only [List.toList_toArray] at hv2
  subst hv2
  simp only [List.mem_cons, List.not_mem_nil, or_false, reduceCtorEq, false_or, Value.slice.injEq] at hm
  rcases hm with ⟨_, rfl, rfl⟩ | ⟨_, rfl, rfl⟩ | ⟨_, rfl, rfl⟩ | ⟨_, rfl, rfl⟩ <;> assumption
theorem zT (o : zR) (v : Value) (w : World) (h : ObjIn w w.heap.size v o) (hl1 : o.2.1.2.1.length ≤ 1099511627776) (hl2 : o.2.1.2.2.2.length ≤ 1000000000) (hl3 : o.2.2.1.length ≤ 1099511627776) (hl4 : o.2.2.2.1.length ≤ 1099511627776) :
    Calls Tryz.prog 12 #[v] w (CopyObj o w) := by
  obtain ⟨ok, hop, ha, ha2, hm, Ad, cd, Ao, co, Ap, cp, Ac, cc, rfl, sd, so, sp, sc⟩ := h
  obtain ⟨k, ⟨n, ds, au, os⟩, ⟨ps, cs, a2, ms, st⟩⟩ := o
  dsimp only at *
  have HOK := hid ok; have HOP := hid hop; have HA := hid ha; have HA2 := hid ha2; have HM := hid hm
  have SD := hid sd; have SO := hid so; have SP := hid sp; have SC := hid sc
  have HL0 : Hid (([.int .u8 (k.toNat : Int), .int .i64 n, .slice Ad ds.length cd, .string au, .slice Ao os.length co, .slice Ap ps.length cp, .slice Ac cs.length cc, .string a2, .string ms, .int .i64 st] : List Value).length = 10) := hid rfl
  clear ok hop ha ha2 hm sd so sp sc
  go_enter Tryz.func12, Tryz.ntmps12
  go_upto_region 1 with (first
    | (with_reducible refine kz ?_
       refine ko (by rfl) 30 _ rfl [.int .u8 (k.toNat : Int), .int .i64 n, .slice Ad ds.length cd, .string au, .slice Ao os.length co, .slice Ap ps.length cp, .slice Ac cs.length cc, .string a2, .string ms, .int .i64 st] (.agg ([.int .u8 (k.toNat : Int), .int .i64 n, .slice Ad ds.length cd, .string au, .slice Ao os.length co, .slice Ap ps.length cp, .slice Ac cs.length cc, .string a2, .string ms, .int .i64 st]).toArray) rfl rfl (by rw [HL0.out]; kernel_rfl) ?_
       intro W0 hb0 hz0 hs0
       have HB0 := hid hb0; have HZ0 := hid hz0; have HS0 := hid hs0
       clear hb0 hz0 hs0)
    | (with_reducible refine kw ?_
       refine ku (by rfl) 30 rfl objZ (Kn _) ?_
       intro W1 hb1 hz1 hs1
       have HB1 := hid hb1; have HZ1 := hid hz1; have HS1 := hid hs1
       clear hb1 hz1 hs1))
  obtain ⟨zb, hzb⟩ : ∃ x, w.heap.size = x := ⟨_, rfl⟩
  obtain ⟨zr, hzr⟩ : ∃ x, W0.heap.size = x := ⟨_, rfl⟩
  have HZB := hid (show w.heap.size = zb ∧ zb < zr ∧ zr < W1.heap.size by have := HS0.out; have := HS1.out; omega)
  have HBW1 := hid (HB0.out.trans (HB1.out.mono HB0.out.size))
  have HRW1 : Hid (W1.heap[zb]? = some (.cells [.int .u8 (k.toNat : Int), .int .i64 n, .slice Ad ds.length cd, .string au, .slice Ao os.length co, .slice Ap ps.length cp, .slice Ac cs.length cc, .string a2, .string ms, .int .i64 st].toArray 30 (0, 0))) := hid (by rw [← hzb]; exact (HB1.out.block _ (by have := HS0.out; omega)).trans HZ0.out)
  have HZW1r : Hid (W1.heap[zr]? = some (.cells objZ.toArray 30 (0, 0))) := hid (by rw [← hzr]; exact HZ1.out)
  have SDW1 := hid ((SD.out.keep HBW1.out).more HBW1.out.size)
  have SOW1 := hid ((SO.out.keep HBW1.out).more HBW1.out.size)
  have SPW1 := hid ((SP.out.keep HBW1.out).more HBW1.out.size)
  have SCW1 := hid ((SC.out.keep HBW1.out).more HBW1.out.size)
  rw [hzr, hzb]
  try go_frame
  clear hzb hzr HZ0 HZ1 HB0 HB1 HS0 HS1
  have x1 : W1.cell? ⟨zb, 2, none⟩ = some (.slice Ad ds.length cd) := k5 HRW1.out 2
  go_upto_region 2 with (first
    | (go_at_call 33; refine (u7 ds Ad cd W1 SDW1.out (by omega)).mono ?_
       rintro e u1 ⟨A1, c1, rfl, hs1, hcp1, hb1⟩
       have HC1 := hid hcp1
       clear hcp1
       have HRu := hid ((hb1.block zb (qX HRW1.out)).trans HRW1.out)
       have HBu := hid (HBW1.out.trans (hb1.mono HBW1.out.size))
       have HZu := hid ((hb1.block zr (qX HZW1r.out)).trans HZW1r.out)
       have SOu := hid ((SOW1.out.keep hb1).more hb1.size)
       have SPu := hid ((SPW1.out.keep hb1).more hb1.size)
       have SCu := hid ((SCW1.out.keep hb1).more hb1.size)
       have SDu := hid hs1
       clear hb1 hs1
       have y1 : u1.cell? ⟨zb, 2, none⟩ = some (.slice Ad ds.length cd) := k5 HRu.out 2
       have g1 : u1.frozen? ⟨zb, 2, none⟩ = false := frozen_of_row _ _ _ _ _ HRu.out))
  obtain ⟨V1, hV1⟩ : ∃ u, u1.setCell ⟨zb, 2, none⟩ (.slice A1 ds.length c1) = u := ⟨_, rfl⟩
  rw [hV1]
  have hb1 : But (fun k => k = zb) u1 V1 := by rw [← hV1]; exact (But.refl (fun k => k = zb) _).setCell (fun _ => rfl) _
  have SDV1 := hid ((SDu.out.small hb1 (qR _) (by decide) (fun kk hk => ⟨[.int .u8 (k.toNat : Int), .int .i64 n, .slice Ad ds.length cd, .string au, .slice Ao os.length co, .slice Ap ps.length cp, .slice Ac cs.length cc, .string a2, .string ms, .int .i64 st], 30, by rw [hk]; exact HRu.out, (show (10 : Nat) < 32 by decide)⟩)).more hb1.size)
  have SOV1 := hid ((SOu.out.small hb1 (qR _) (by decide) (fun kk hk => ⟨[.int .u8 (k.toNat : Int), .int .i64 n, .slice Ad ds.length cd, .string au, .slice Ao os.length co, .slice Ap ps.length cp, .slice Ac cs.length cc, .string a2, .string ms, .int .i64 st], 30, by rw [hk]; exact HRu.out, (show (10 : Nat) < 32 by decide)⟩)).more hb1.size)
  have SPV1 := hid ((SPu.out.small hb1 (qR _) (by decide) (fun kk hk => ⟨[.int .u8 (k.toNat : Int), .int .i64 n, .slice Ad ds.length cd, .string au, .slice Ao os.length co, .slice Ap ps.length cp, .slice Ac cs.length cc, .string a2, .string ms, .int .i64 st], 30, by rw [hk]; exact HRu.out, (show (10 : Nat) < 32 by decide)⟩)).more hb1.size)
  have SCV1 := hid ((SCu.out.small hb1 (qR _) (by decide) (fun kk hk => ⟨[.int .u8 (k.toNat : Int), .int .i64 n, .slice Ad ds.length cd, .string au, .slice Ao os.length co, .slice Ap ps.length cp, .slice Ac cs.length cc, .string a2, .string ms, .int .i64 st], 30, by rw [hk]; exact HRu.out, (show (10 : Nat) < 32 by decide)⟩)).more hb1.size)
  have HRV1 : Hid (V1.heap[zb]? = some (.cells [.int .u8 (k.toNat : Int), .int .i64 n, .slice A1 ds.length c1, .string au, .slice Ao os.length co, .slice Ap ps.length cp, .slice Ac cs.length cc, .string a2, .string ms, .int .i64 st].toArray 30 (0, 0))) := hid (by rw [← hV1]; exact jV HRu.out _)
  have HZV1r := hid ((hb1.block zr (qX HZu.out) (by have := HZB.out; omega)).trans HZu.out)
  have HBV1 := hid (HBu.out.trans (hb1.below HBu.out.size fun k hk e => by have := HZB.out; omega))
  clear hb1 hV1 x1 y1 g1
  have x2 : V1.cell? ⟨zb, 4, none⟩ = some (.slice Ao os.length co) := k5 HRV1.out 4
  have x2' : (V1.alloc (.cells #[] 70)).cell? ⟨zb, 4, none⟩ = some (.slice Ao os.length co) := ((((qB _ _).alloc (qR _) _ : Below V1.heap.size V1 (V1.alloc (.cells #[] 70)))).cell (p := ⟨zb, 4, none⟩) (qX HRV1.out)).trans x2
  go_upto_region 3 with (first
    | (at_builtin; refine wp_appSc (by rfl) _ _ 24 rfl 70 (.agg (opV zm).toArray) 70 128 Tryz.underlying24 infoOp rfl (by decide) rfl Ao os.length co (jb opV os) rfl SOV1.out (rowsV_one Jo _) (by unfold maxLen; omega) (by omega) ?_
       intro A2 c2 u2 hs2 hc2 hb2
       have HC2 := hid hc2
       clear hc2
       have HRu := hid ((hb2.block zb (qX HRV1.out)).trans HRV1.out)
       have HBu := hid (HBV1.out.trans (hb2.mono HBV1.out.size))
       have HZu := hid ((hb2.block zr (qX HZV1r.out)).trans HZV1r.out)
       have SDu := hid ((SDV1.out.keep hb2).more hb2.size)
       have SPu := hid ((SPV1.out.keep hb2).more hb2.size)
       have SCu := hid ((SCV1.out.keep hb2).more hb2.size)
       have SOu := hid hs2
       clear hb2 hs2
       have y2 : u2.cell? ⟨zb, 4, none⟩ = some (.slice Ao os.length co) := k5 HRu.out 4
       have g2 : u2.frozen? ⟨zb, 4, none⟩ = false := frozen_of_row _ _ _ _ _ HRu.out))
  obtain ⟨V2, hV2⟩ : ∃ u, u2.setCell ⟨zb, 4, none⟩ (.slice A2 os.length c2) = u := ⟨_, rfl⟩
  rw [hV2]
  have hb2 : But (fun k => k = zb) u2 V2 := by rw [← hV2]; exact (But.refl (fun k => k = zb) _).setCell (fun _ => rfl) _
  have SDV2 := hid ((SDu.out.small hb2 (qR _) (by decide) (fun kk hk => ⟨[.int .u8 (k.toNat : Int), .int .i64 n, .slice A1 ds.length c1, .string au, .slice Ao os.length co, .slice Ap ps.length cp, .slice Ac cs.length cc, .string a2, .string ms, .int .i64 st], 30, by rw [hk]; exact HRu.out, (show (10 : Nat) < 32 by decide)⟩)).more hb2.size)
  have SOV2 := hid ((SOu.out.small hb2 (qR _) (by decide) (fun kk hk => ⟨[.int .u8 (k.toNat : Int), .int .i64 n, .slice A1 ds.length c1, .string au, .slice Ao os.length co, .slice Ap ps.length cp, .slice Ac cs.length cc, .string a2, .string ms, .int .i64 st], 30, by rw [hk]; exact HRu.out, (show (10 : Nat) < 32 by decide)⟩)).more hb2.size)
  have SPV2 := hid ((SPu.out.small hb2 (qR _) (by decide) (fun kk hk => ⟨[.int .u8 (k.toNat : Int), .int .i64 n, .slice A1 ds.length c1, .string au, .slice Ao os.length co, .slice Ap ps.length cp, .slice Ac cs.length cc, .string a2, .string ms, .int .i64 st], 30, by rw [hk]; exact HRu.out, (show (10 : Nat) < 32 by decide)⟩)).more hb2.size)
  have SCV2 := hid ((SCu.out.small hb2 (qR _) (by decide) (fun kk hk => ⟨[.int .u8 (k.toNat : Int), .int .i64 n, .slice A1 ds.length c1, .string au, .slice Ao os.length co, .slice Ap ps.length cp, .slice Ac cs.length cc, .string a2, .string ms, .int .i64 st], 30, by rw [hk]; exact HRu.out, (show (10 : Nat) < 32 by decide)⟩)).more hb2.size)
  have HRV2 : Hid (V2.heap[zb]? = some (.cells [.int .u8 (k.toNat : Int), .int .i64 n, .slice A1 ds.length c1, .string au, .slice A2 os.length c2, .slice Ap ps.length cp, .slice Ac cs.length cc, .string a2, .string ms, .int .i64 st].toArray 30 (0, 0))) := hid (by rw [← hV2]; exact jV HRu.out _)
  have HZV2r := hid ((hb2.block zr (qX HZu.out) (by have := HZB.out; omega)).trans HZu.out)
  have HBV2 := hid (HBu.out.trans (hb2.below HBu.out.size fun k hk e => by have := HZB.out; omega))
  clear hb2 hV2 x2 y2 g2
  have x3 : V2.cell? ⟨zb, 5, none⟩ = some (.slice Ap ps.length cp) := k5 HRV2.out 5
  go_upto_region 4 with (first
    | (go_at_call 33; refine (u7 ps Ap cp V2 SPV2.out (by omega)).mono ?_
       rintro e u3 ⟨A3, c3, rfl, hs3, hcp3, hb3⟩
       have HC3 := hid hcp3
       clear hcp3
       have HRu := hid ((hb3.block zb (qX HRV2.out)).trans HRV2.out)
       have HBu := hid (HBV2.out.trans (hb3.mono HBV2.out.size))
       have HZu := hid ((hb3.block zr (qX HZV2r.out)).trans HZV2r.out)
       have SDu := hid ((SDV2.out.keep hb3).more hb3.size)
       have SOu := hid ((SOV2.out.keep hb3).more hb3.size)
       have SCu := hid ((SCV2.out.keep hb3).more hb3.size)
       have SPu := hid hs3
       clear hb3 hs3
       have y3 : u3.cell? ⟨zb, 5, none⟩ = some (.slice Ap ps.length cp) := k5 HRu.out 5
       have g3 : u3.frozen? ⟨zb, 5, none⟩ = false := frozen_of_row _ _ _ _ _ HRu.out))
  obtain ⟨V3, hV3⟩ : ∃ u, u3.setCell ⟨zb, 5, none⟩ (.slice A3 ps.length c3) = u := ⟨_, rfl⟩
  rw [hV3]
  have hb3 : But (fun k => k = zb) u3 V3 := by rw [← hV3]; exact (But.refl (fun k => k = zb) _).setCell (fun _ => rfl) _
  have SDV3 := hid ((SDu.out.small hb3 (qR _) (by decide) (fun kk hk => ⟨[.int .u8 (k.toNat : Int), .int .i64 n, .slice A1 ds.length c1, .string au, .slice A2 os.length c2, .slice Ap ps.length cp, .slice Ac cs.length cc, .string a2, .string ms, .int .i64 st], 30, by rw [hk]; exact HRu.out, (show (10 : Nat) < 32 by decide)⟩)).more hb3.size)
  have SOV3 := hid ((SOu.out.small hb3 (qR _) (by decide) (fun kk hk => ⟨[.int .u8 (k.toNat : Int), .int .i64 n, .slice A1 ds.length c1, .string au, .slice A2 os.length c2, .slice Ap ps.length cp, .slice Ac cs.length cc, .string a2, .string ms, .int .i64 st], 30, by rw [hk]; exact HRu.out, (show (10 : Nat) < 32 by decide)⟩)).more hb3.size)
  have SPV3 := hid ((SPu.out.small hb3 (qR _) (by decide) (fun kk hk => ⟨[.int .u8 (k.toNat : Int), .int .i64 n, .slice A1 ds.length c1, .string au, .slice A2 os.length c2, .slice Ap ps.length cp, .slice Ac cs.length cc, .string a2, .string ms, .int .i64 st], 30, by rw [hk]; exact HRu.out, (show (10 : Nat) < 32 by decide)⟩)).more hb3.size)
  have SCV3 := hid ((SCu.out.small hb3 (qR _) (by decide) (fun kk hk => ⟨[.int .u8 (k.toNat : Int), .int .i64 n, .slice A1 ds.length c1, .string au, .slice A2 os.length c2, .slice Ap ps.length cp, .slice Ac cs.length cc, .string a2, .string ms, .int .i64 st], 30, by rw [hk]; exact HRu.out, (show (10 : Nat) < 32 by decide)⟩)).more hb3.size)
  have HRV3 : Hid (V3.heap[zb]? = some (.cells [.int .u8 (k.toNat : Int), .int .i64 n, .slice A1 ds.length c1, .string au, .slice A2 os.length c2, .slice A3 ps.length c3, .slice Ac cs.length cc, .string a2, .string ms, .int .i64 st].toArray 30 (0, 0))) := hid (by rw [← hV3]; exact jV HRu.out _)
  have HZV3r := hid ((hb3.block zr (qX HZu.out) (by have := HZB.out; omega)).trans HZu.out)
  have HBV3 := hid (HBu.out.trans (hb3.below HBu.out.size fun k hk e => by have := HZB.out; omega))
  clear hb3 hV3 x3 y3 g3
  have x4 : V3.cell? ⟨zb, 6, none⟩ = some (.slice Ac cs.length cc) := k5 HRV3.out 6
  go_upto_region 5 with (first
    | (go_at_call 33; refine (u7 cs Ac cc V3 SCV3.out (by omega)).mono ?_
       rintro e u4 ⟨A4, c4, rfl, hs4, hcp4, hb4⟩
       have HC4 := hid hcp4
       clear hcp4
       have HRu := hid ((hb4.block zb (qX HRV3.out)).trans HRV3.out)
       have HBu := hid (HBV3.out.trans (hb4.mono HBV3.out.size))
       have HZu := hid ((hb4.block zr (qX HZV3r.out)).trans HZV3r.out)
       have SDu := hid ((SDV3.out.keep hb4).more hb4.size)
       have SOu := hid ((SOV3.out.keep hb4).more hb4.size)
       have SPu := hid ((SPV3.out.keep hb4).more hb4.size)
       have SCu := hid hs4
       clear hb4 hs4
       have y4 : u4.cell? ⟨zb, 6, none⟩ = some (.slice Ac cs.length cc) := k5 HRu.out 6
       have g4 : u4.frozen? ⟨zb, 6, none⟩ = false := frozen_of_row _ _ _ _ _ HRu.out))
  obtain ⟨V4, hV4⟩ : ∃ u, u4.setCell ⟨zb, 6, none⟩ (.slice A4 cs.length c4) = u := ⟨_, rfl⟩
  rw [hV4]
  have hb4 : But (fun k => k = zb) u4 V4 := by rw [← hV4]; exact (But.refl (fun k => k = zb) _).setCell (fun _ => rfl) _
  have SDV4 := hid ((SDu.out.small hb4 (qR _) (by decide) (fun kk hk => ⟨[.int .u8 (k.toNat : Int), .int .i64 n, .slice A1 ds.length c1, .string au, .slice A2 os.length c2, .slice A3 ps.length c3, .slice Ac cs.length cc, .string a2, .string ms, .int .i64 st], 30, by rw [hk]; exact HRu.out, (show (10 : Nat) < 32 by decide)⟩)).more hb4.size)
  have SOV4 := hid ((SOu.out.small hb4 (qR _) (by decide) (fun kk hk => ⟨[.int .u8 (k.toNat : Int), .int .i64 n, .slice A1 ds.length c1, .string au, .slice A2 os.length c2, .slice A3 ps.length c3, .slice Ac cs.length cc, .string a2, .string ms, .int .i64 st], 30, by rw [hk]; exact HRu.out, (show (10 : Nat) < 32 by decide)⟩)).more hb4.size)
  have SPV4 := hid ((SPu.out.small hb4 (qR _) (by decide) (fun kk hk => ⟨[.int .u8 (k.toNat : Int), .int .i64 n, .slice A1 ds.length c1, .string au, .slice A2 os.length c2, .slice A3 ps.length c3, .slice Ac cs.length cc, .string a2, .string ms, .int .i64 st], 30, by rw [hk]; exact HRu.out, (show (10 : Nat) < 32 by decide)⟩)).more hb4.size)
  have SCV4 := hid ((SCu.out.small hb4 (qR _) (by decide) (fun kk hk => ⟨[.int .u8 (k.toNat : Int), .int .i64 n, .slice A1 ds.length c1, .string au, .slice A2 os.length c2, .slice A3 ps.length c3, .slice Ac cs.length cc, .string a2, .string ms, .int .i64 st], 30, by rw [hk]; exact HRu.out, (show (10 : Nat) < 32 by decide)⟩)).more hb4.size)
  have HRV4 : Hid (V4.heap[zb]? = some (.cells [.int .u8 (k.toNat : Int), .int .i64 n, .slice A1 ds.length c1, .string au, .slice A2 os.length c2, .slice A3 ps.length c3, .slice A4 cs.length c4, .string a2, .string ms, .int .i64 st].toArray 30 (0, 0))) := hid (by rw [← hV4]; exact jV HRu.out _)
  have HZV4r := hid ((hb4.block zr (qX HZu.out) (by have := HZB.out; omega)).trans HZu.out)
  have HBV4 := hid (HBu.out.trans (hb4.below HBu.out.size fun k hk e => by have := HZB.out; omega))
  clear hb4 hV4 x4 y4 g4
  have HRR := HZV4r
  go_wp2_with (first
    | (with_reducible refine k7 ?_
       refine k6 (by rfl) (k9 30 _ rfl (p := ⟨zb, 0, none⟩) rfl (jP HRV4.out rfl)) ?_)
    | (with_reducible refine ks ?_
       refine km (by rfl) 30 _ _ rfl zr 0 [] objZ [] [.int .u8 (k.toNat : Int), .int .i64 n, .slice A1 ds.length c1, .string au, .slice A2 os.length c2, .slice A3 ps.length c3, .slice A4 cs.length c4, .string a2, .string ms, .int .i64 st] 30 (.agg [.int .u8 (k.toNat : Int), .int .i64 n, .slice A1 ds.length c1, .string au, .slice A2 os.length c2, .slice A3 ps.length c3, .slice A4 cs.length c4, .string a2, .string ms, .int .i64 st].toArray) rfl rfl rfl rfl HRR.out rfl (by kernel_rfl) (by intro u hu; simp only [List.mem_cons, List.not_mem_nil, or_false] at hu; rcases hu with rfl | rfl | rfl | rfl | rfl | rfl | rfl | rfl | rfl | rfl <;> rfl) ?_
       intro V5 hb5 hy5 hs5
       have SDV5 := hid ((SDV4.out.small hb5 (qR _) (by decide) (fun kk hk => ⟨objZ, 30, by rw [hk]; exact HRR.out, (show (10 : Nat) < 32 by decide)⟩)).more hb5.size)
       have SOV5 := hid ((SOV4.out.small hb5 (qR _) (by decide) (fun kk hk => ⟨objZ, 30, by rw [hk]; exact HRR.out, (show (10 : Nat) < 32 by decide)⟩)).more hb5.size)
       have SPV5 := hid ((SPV4.out.small hb5 (qR _) (by decide) (fun kk hk => ⟨objZ, 30, by rw [hk]; exact HRR.out, (show (10 : Nat) < 32 by decide)⟩)).more hb5.size)
       have SCV5 := hid ((SCV4.out.small hb5 (qR _) (by decide) (fun kk hk => ⟨objZ, 30, by rw [hk]; exact HRR.out, (show (10 : Nat) < 32 by decide)⟩)).more hb5.size)
       have HRV5 : Hid (V5.heap[zr]? = some (.cells [.int .u8 (k.toNat : Int), .int .i64 n, .slice A1 ds.length c1, .string au, .slice A2 os.length c2, .slice A3 ps.length c3, .slice A4 cs.length c4, .string a2, .string ms, .int .i64 st].toArray 30 (0, 0))) := hid (by simpa using hy5)
       have HBV5 := hid (HBV4.out.trans (hb5.below HBV4.out.size fun k hk e => by have := HZB.out; omega))
       clear hb5 hy5 hs5))
  refine bodyPost_ret (jL Tryz.results12 _ _ rfl (jP HRV5.out rfl)) rfl ?_
  exact ⟨_, rfl, ⟨HOK.out, HOP.out, HA.out, HA2.out, HM.out, A1, c1, A2, c2, A3, c3, A4, c4, rfl, SDV5.out, SOV5.out, SPV5.out, SCV5.out⟩, cap_four HC1.out HC2.out HC3.out HC4.out, HBV5.out⟩
end Go.Proofs.YthjaepmfkgejkaaGreatDoor
namespace Go.Proofs.YthjaepmfkgejkaaGreatDoor
open Lib (hid)
open Go.RowKit Go.Maps
def PadGives (l : List UInt8) (w : World) (e : Ending) (w' : World) : Prop := ∃ A' c', e = .returned (.slice A' (uJ l).length c') ∧ w'.ownsRow w.heap.size 5 1 (.slice A' (uJ l).length c') (uJ l).length (idV (uJ l)) ∧ Below w.heap.size w w'
theorem padded_any (l : List UInt8) (A : Option Addr) (c : Nat) (w : World) (hs : Sl w w.heap.size A l.length 1 (idV l)) (hl : l.length ≤ 1099511627776) :
    Calls Tryz.prog 41 #[.slice A l.length c] w (PadGives l w) := by
  have HS := hid hs
  have HB0 := hid (show Below w.heap.size w (w.alloc (.cells #[] 5)) from (qB _ _).alloc (qR _) _)
  have hzn : jG l.length ≤ 63 := by unfold jG; omega
  clear hs
  go_enter Tryz.func41, Tryz.ntmps41
  go_upto_region 2 with (first
    | (at_builtin; refine kT (by rfl) _ _ 22 rfl w.heap.size 5 (.int .u8 0) 1 1 Tryz.underlying22 kH rfl (by decide) (.slice (some ⟨w.heap.size, 0, none⟩) 0 0) 0 [] rfl (qG w w.heap.size 5 1 (qR _)) A l.length c w.heap.size (idV l) rfl (HS.out.keep HB0.out) (ky _) (by unfold maxLen; omega) (by omega) HB0.out.size ?_
       intro v6 w6 ho6 hg6
       obtain ⟨A6, c6, rfl⟩ := kg ho6
       have HO := hid (show w6.ownsRow w.heap.size 5 1 (.slice A6 l.length c6) l.length (idV l) by rw [qZ, List.nil_append] at ho6; exact ho6)
       have HB := hid (HB0.out.grown hg6 HB0.out.size (fun k e => by have h : w.heap.size = k := by simpa [Value.ownBlock] using e
                                                                     omega))
       clear ho6 hg6
       rw [qZ]))
  have hb3 := HB.out.size
  go_upto_region 3 with (at_builtin; refine Ko rfl _ _ 22 rfl w.heap.size 5 (.int .u8 0) 1 Tryz.underlying22 kH rfl _ _ _ rfl HO.out _ _ rfl rfl ?c1 ?c2 ?c3 ?_)
  case c1 => unfold maxLen; omega
  case c2 => omega
  case c3 => omega
  intro v9 w9 ho9 hg9
  obtain ⟨A9, c9, rfl⟩ := kg ho9
  have HO9 := hid ho9
  have HB9 := hid (hg9 w.heap.size w (qR _) HB.out)
  clear ho9 hg9
  go_upto_region 3 with fail
  go_loopw [3] (fun t3 wr => ∃ (k : Nat) (A : Option Addr) (c : Nat), k ≤ jG l.length ∧ t3 = .slice A (l.length + 1 + k) c ∧ Hid (wr.ownsRow w.heap.size 5 1 (.slice A (l.length + 1 + k) c) (l.length + 1 + k) (idV (l ++ (128 :: List.replicate k 0)))) ∧ Hid (Below w.heap.size w wr)) (fun t3 _ => l.length + 100 - u6 t3)
  case atStart => exact ⟨0, _, _, Nat.zero_le _, rfl, hid (by have h := HO9.out; rw [show (128 :: List.replicate 0 0 : List UInt8) = [128] from rfl, qm]; exact h), HB9⟩
  case round =>
    clear HO HB HO9 HB9 hb3
    obtain ⟨k, A, c, hk, rfl, HO, HB⟩ := hrel
    have hgo := zeros_go hk
    have hb3 := HB.out.size
    by_cases hlt : k < jG l.length
    ·
     have h56 := hgo.1 hlt
     have e56 : ((((l.length : Int) + 1 + (k : Int)) % 64) != 56) = true := by rw [bne_iff_ne]; omega
     clear hgo h56
     go_wp2_with (at_builtin; refine Ko rfl _ _ 22 rfl w.heap.size 5 (.int .u8 0) 1 Tryz.underlying22 kH rfl _ _ _ rfl HO.out _ _ rfl rfl ?c1 ?c2 ?c3 ?_)
     case c1 => unfold maxLen; omega
     case c2 => omega
     case c3 => omega
     intro v9 w9 ho9 hg9
     obtain ⟨A9, c9, rfl⟩ := kg ho9
     have HO9 := hid ho9
     have HB9 := hid (hg9 w.heap.size w (qR _) HB.out)
     clear ho9 hg9
     go_wp2_with fail
     go_roundw
     case rel =>
       refine ⟨k + 1, A9, c9, by omega, rfl, hid ?_, HB9⟩
       rw [List.replicate_succ', ← List.cons_append, ← List.append_assoc, ZC]
       exact HO9.out
     case measure => simp only [u6]; omega
    ·
     obtain rfl : k = jG l.length := by omega
     have h56 : ((((l.length : Int) + 1 + (jG l.length : Int)) % 64) != 56) = false := by
       rw [bne_eq_false_iff_eq]
       have h := (not_congr hgo).1 (by omega)
       omega
     clear hgo
     go_upto_region 7 with fail
     clear h56
     go_loopw [5, 3] (fun t5 t3 wr => ∃ (i : Nat) (A : Option Addr) (c : Nat), i ≤ 8 ∧ t5 = .int .i64 (i : Int) ∧ t3 = .slice A (l.length + 1 + jG l.length + i) c ∧ Hid (wr.ownsRow w.heap.size 5 1 (.slice A (l.length + 1 + jG l.length + i) c) (l.length + 1 + jG l.length + i) (idV (l ++ (128 :: List.replicate (jG l.length) 0 ++ (QG l.length).take i)))) ∧ Hid (Below w.heap.size w wr)) (fun t5 _ _ => 8 - (intOf t5).toNat)
     case atStart => exact ⟨0, A, c, Nat.zero_le _, rfl, rfl, by rw [List.take_zero, List.append_nil]; exact HO, HB⟩
     case round =>
       clear HO HB hb3
       obtain ⟨i, A, c, hi, rfl, rfl, HO, HB⟩ := hrel
       have hb3 := HB.out.size
       by_cases hlt : i < 8
       ·
        have i8 : (i : Int) < 8 := by omega
        obtain ⟨s, hs⟩ : ∃ s, 56 - 8 * i = s := ⟨_, rfl⟩
        have es : 56 - 8 * (i : Int) = (s : Int) := by omega
        have hs56 : s ≤ 56 := by omega
        have HSE := hid hs
        clear hs
        go_wp2_with (at_builtin; refine Ko rfl _ _ 22 rfl w.heap.size 5 (.int .u8 0) 1 Tryz.underlying22 kH rfl _ _ _ rfl HO.out _ _ rfl rfl ?c1 ?c2 ?c3 ?_)
        case c1 => unfold maxLen; omega
        case c2 => omega
        case c3 => omega
        intro v9 w9 ho9 hg9
        obtain ⟨A9, c9, rfl⟩ := kg ho9
        have HO9 := hid ho9
        have HB9 := hid (hg9 w.heap.size w (qR _) HB.out)
        clear ho9 hg9
        go_wp2_with fail
        go_roundw
        case rel =>
          refine ⟨i + 1, A9, c9, by omega, by go_num, rfl, hid ?_, HB9⟩
          have h := HO9.out
          rw [← u8_mod, ← qm] at h
          rw [Qf hlt, HSE.out, ← List.append_assoc, ← List.append_assoc]
          rw [List.append_assoc l]
          exact h
        case measure => (simp [intOf]) <;> omega
       ·
        obtain rfl : i = 8 := by omega
        have i8 : ¬ ((8 : Nat) : Int) < 8 := by omega
        go_wp2_with fail
        go_ret
        have hp : (uJ l).length = l.length + 1 + jG l.length + 8 := vr l
        refine ⟨A, c, by rw [hp]; rfl, ?_, HB.out⟩
        rw [hp]
        exact HO.out
end Go.Proofs.YthjaepmfkgejkaaGreatDoor
