/-
  The document's copy of an object. Conditions: lists of at most 10^9.
-/
import Derived.Test.YtdgbjhfkmembdaaGreatDoorShort0
import Derived.Test.YtdgbjhfkmembdaaGreatDoorObjWrites1
namespace Go.Proofs.YtdgbjhfkmembdaaGreatDoor
open Go.RowKit Go.Maps
set_option linter.unusedVariables false
set_option linter.unusedSimpArgs false

def CopyObj (o : ObjD) (w : World) (e : Ending) (w' : World) : Prop := ∃ v, e = .returned v ∧ ObjIn w' w'.heap.size v o ∧ CapOk v ∧ Below w.heap.size w w'
theorem cap_four {k : Int} {n st : Int} {au a2 ms : ByteArray} {A1 A2 A3 A4 : Option Addr} {n1 n2 n3 n4 c1 c2 c3 c4 : Nat} (h1 : n1 ≤ c1) (h2 : n2 ≤ c2) (h3 : n3 ≤ c3) (h4 : n4 ≤ c4) : CapOk (.agg ([.int .u8 k, .int .i64 n, .slice A1 n1 c1, .string au, .slice A2 n2 c2, .slice A3 n3 c3, .slice A4 n4 c4, .string a2, .string ms, .int .i64 st] : List Value).toArray) := by
  intro cs hv A m c hm
  injection hv with hv
  have hv2 := congrArg Array.toList hv
  simp only [List.toList_toArray] at hv2
  subst hv2
  simp only [List.mem_cons, List.not_mem_nil, or_false, reduceCtorEq, false_or, Value.slice.injEq] at hm
  rcases hm with ⟨_, rfl, rfl⟩ | ⟨_, rfl, rfl⟩ | ⟨_, rfl, rfl⟩ | ⟨_, rfl, rfl⟩ <;> assumption
set_option maxHeartbeats 4000000 in
set_option maxRecDepth 100000 in
theorem objCopy_any (o : ObjD) (v : Value) (w : World) (h : ObjIn w w.heap.size v o) (hl1 : o.2.1.2.1.length ≤ 1099511627776) (hl2 : o.2.1.2.2.2.length ≤ 1000000000) (hl3 : o.2.2.1.length ≤ 1099511627776) (hl4 : o.2.2.2.1.length ≤ 1099511627776) :
    Calls Tryz.prog 28 #[v] w (CopyObj o w) := by
  obtain ⟨ok, hop, ha, ha2, hm, Ad, cd, Ao, co, Ap, cp, Ac, cc, rfl, sd, so, sp, sc⟩ := h
  obtain ⟨k, ⟨n, ds, au, os⟩, ⟨ps, cs, a2, ms, st⟩⟩ := o
  dsimp only at *
  have HOK := Lib.hid ok; have HOP := Lib.hid hop; have HA := Lib.hid ha; have HA2 := Lib.hid ha2; have HM := Lib.hid hm
  have SD := Lib.hid sd; have SO := Lib.hid so; have SP := Lib.hid sp; have SC := Lib.hid sc
  have HL0 : Hid (([.int .u8 (k.toNat : Int), .int .i64 n, .slice Ad ds.length cd, .string au, .slice Ao os.length co, .slice Ap ps.length cp, .slice Ac cs.length cc, .string a2, .string ms, .int .i64 st] : List Value).length = 10) := Lib.hid rfl
  clear ok hop ha ha2 hm sd so sp sc
  go_enter Tryz.func28, Tryz.ntmps28
  go_upto_region 1 with (first
    | (with_reducible refine at_box ?_
       refine wp_boxM (by rfl) 70 _ rfl [.int .u8 (k.toNat : Int), .int .i64 n, .slice Ad ds.length cd, .string au, .slice Ao os.length co, .slice Ap ps.length cp, .slice Ac cs.length cc, .string a2, .string ms, .int .i64 st] (.agg ([.int .u8 (k.toNat : Int), .int .i64 n, .slice Ad ds.length cd, .string au, .slice Ao os.length co, .slice Ap ps.length cp, .slice Ac cs.length cc, .string a2, .string ms, .int .i64 st]).toArray) rfl rfl (by rw [HL0.out]; kernel_rfl) ?_
       intro W0 hb0 hz0 hs0
       have HB0 := Lib.hid hb0; have HZ0 := Lib.hid hz0; have HS0 := Lib.hid hs0
       clear hb0 hz0 hs0)
    | (with_reducible refine at_alloc ?_
       refine wp_allocM (by rfl) 70 rfl objZ (zeroObj_run _) ?_
       intro W1 hb1 hz1 hs1
       have HB1 := Lib.hid hb1; have HZ1 := Lib.hid hz1; have HS1 := Lib.hid hs1
       clear hb1 hz1 hs1))
  obtain ⟨zb, hzb⟩ : ∃ x, w.heap.size = x := ⟨_, rfl⟩
  obtain ⟨zr, hzr⟩ : ∃ x, W0.heap.size = x := ⟨_, rfl⟩
  have HZB := Lib.hid (show w.heap.size = zb ∧ zb < zr ∧ zr < W1.heap.size by have := HS0.out; have := HS1.out; omega)
  have HBW1 := Lib.hid (HB0.out.trans (HB1.out.mono HB0.out.size))
  have HRW1 : Hid (W1.heap[zb]? = some (.cells [.int .u8 (k.toNat : Int), .int .i64 n, .slice Ad ds.length cd, .string au, .slice Ao os.length co, .slice Ap ps.length cp, .slice Ac cs.length cc, .string a2, .string ms, .int .i64 st].toArray 70 (0, 0))) := Lib.hid (by rw [← hzb]; exact (HB1.out.block _ (by have := HS0.out; omega)).trans HZ0.out)
  have HZW1r : Hid (W1.heap[zr]? = some (.cells objZ.toArray 70 (0, 0))) := Lib.hid (by rw [← hzr]; exact HZ1.out)
  have SDW1 := Lib.hid ((SD.out.keep HBW1.out).more HBW1.out.size)
  have SOW1 := Lib.hid ((SO.out.keep HBW1.out).more HBW1.out.size)
  have SPW1 := Lib.hid ((SP.out.keep HBW1.out).more HBW1.out.size)
  have SCW1 := Lib.hid ((SC.out.keep HBW1.out).more HBW1.out.size)
  rw [hzr, hzb]
  try simp only [Act.put, List.setIfInBounds_toArray, List.set_cons_zero, List.set_cons_succ]
  clear hzb hzr HZ0 HZ1 HB0 HB1 HS0 HS1
  have x1 : W1.cell? ⟨zb, 2, none⟩ = some (.slice Ad ds.length cd) := cells_at0 HRW1.out 2
  go_upto_region 2 with (first
    | (go_at_call 58; refine (copy04_any ds Ad cd W1 SDW1.out (by omega)).mono ?_
       rintro e u1 ⟨A1, c1, rfl, hs1, hcp1, hb1⟩
       have HC1 := Lib.hid hcp1
       clear hcp1
       have HRu := Lib.hid ((hb1.block zb (qX HRW1.out)).trans HRW1.out)
       have HBu := Lib.hid (HBW1.out.trans (hb1.mono HBW1.out.size))
       have HZu := Lib.hid ((hb1.block zr (qX HZW1r.out)).trans HZW1r.out)
       have SOu := Lib.hid ((SOW1.out.keep hb1).more hb1.size)
       have SPu := Lib.hid ((SPW1.out.keep hb1).more hb1.size)
       have SCu := Lib.hid ((SCW1.out.keep hb1).more hb1.size)
       have SDu := Lib.hid hs1
       clear hb1 hs1
       have y1 : u1.cell? ⟨zb, 2, none⟩ = some (.slice Ad ds.length cd) := cells_at0 HRu.out 2
       have g1 : u1.frozen? ⟨zb, 2, none⟩ = false := frozen_of_row _ _ _ _ _ HRu.out))
  obtain ⟨V1, hV1⟩ : ∃ u, u1.setCell ⟨zb, 2, none⟩ (.slice A1 ds.length c1) = u := ⟨_, rfl⟩
  rw [hV1]
  have hb1 : But (fun k => k = zb) u1 V1 := by rw [← hV1]; exact (But.refl (fun k => k = zb) _).setCell (fun _ => rfl) _
  have SDV1 := Lib.hid ((SDu.out.small hb1 (qR _) (by decide) (fun kk hk => ⟨[.int .u8 (k.toNat : Int), .int .i64 n, .slice Ad ds.length cd, .string au, .slice Ao os.length co, .slice Ap ps.length cp, .slice Ac cs.length cc, .string a2, .string ms, .int .i64 st], 70, by rw [hk]; exact HRu.out, (show (10 : Nat) < 32 by decide)⟩)).more hb1.size)
  have SOV1 := Lib.hid ((SOu.out.small hb1 (qR _) (by decide) (fun kk hk => ⟨[.int .u8 (k.toNat : Int), .int .i64 n, .slice Ad ds.length cd, .string au, .slice Ao os.length co, .slice Ap ps.length cp, .slice Ac cs.length cc, .string a2, .string ms, .int .i64 st], 70, by rw [hk]; exact HRu.out, (show (10 : Nat) < 32 by decide)⟩)).more hb1.size)
  have SPV1 := Lib.hid ((SPu.out.small hb1 (qR _) (by decide) (fun kk hk => ⟨[.int .u8 (k.toNat : Int), .int .i64 n, .slice Ad ds.length cd, .string au, .slice Ao os.length co, .slice Ap ps.length cp, .slice Ac cs.length cc, .string a2, .string ms, .int .i64 st], 70, by rw [hk]; exact HRu.out, (show (10 : Nat) < 32 by decide)⟩)).more hb1.size)
  have SCV1 := Lib.hid ((SCu.out.small hb1 (qR _) (by decide) (fun kk hk => ⟨[.int .u8 (k.toNat : Int), .int .i64 n, .slice Ad ds.length cd, .string au, .slice Ao os.length co, .slice Ap ps.length cp, .slice Ac cs.length cc, .string a2, .string ms, .int .i64 st], 70, by rw [hk]; exact HRu.out, (show (10 : Nat) < 32 by decide)⟩)).more hb1.size)
  have HRV1 : Hid (V1.heap[zb]? = some (.cells [.int .u8 (k.toNat : Int), .int .i64 n, .slice A1 ds.length c1, .string au, .slice Ao os.length co, .slice Ap ps.length cp, .slice Ac cs.length cc, .string a2, .string ms, .int .i64 st].toArray 70 (0, 0))) := Lib.hid (by rw [← hV1]; exact set_blk HRu.out _)
  have HZV1r := Lib.hid ((hb1.block zr (qX HZu.out) (by have := HZB.out; omega)).trans HZu.out)
  have HBV1 := Lib.hid (HBu.out.trans (hb1.below HBu.out.size fun k hk e => by have := HZB.out; omega))
  clear hb1 hV1 x1 y1 g1
  have x2 : V1.cell? ⟨zb, 4, none⟩ = some (.slice Ao os.length co) := cells_at0 HRV1.out 4
  have x2' : (V1.alloc (.cells #[] 112)).cell? ⟨zb, 4, none⟩ = some (.slice Ao os.length co) := ((((qB _ _).alloc (qR _) _ : Below V1.heap.size V1 (V1.alloc (.cells #[] 112)))).cell (p := ⟨zb, 4, none⟩) (qX HRV1.out)).trans x2
  go_upto_region 3 with (first
    | (at_builtin; refine wp_appSc (by rfl) _ _ 35 rfl 112 (.agg (opV zeroOp).toArray) 70 128 Tryz.underlying35 infoOp rfl (by decide) rfl Ao os.length co (rowsV opV os) rfl SOV1.out (rowsV_one opV_one _) (by unfold maxLen; omega) (by omega) ?_
       intro A2 c2 u2 hs2 hc2 hb2
       have HC2 := Lib.hid hc2
       clear hc2
       have HRu := Lib.hid ((hb2.block zb (qX HRV1.out)).trans HRV1.out)
       have HBu := Lib.hid (HBV1.out.trans (hb2.mono HBV1.out.size))
       have HZu := Lib.hid ((hb2.block zr (qX HZV1r.out)).trans HZV1r.out)
       have SDu := Lib.hid ((SDV1.out.keep hb2).more hb2.size)
       have SPu := Lib.hid ((SPV1.out.keep hb2).more hb2.size)
       have SCu := Lib.hid ((SCV1.out.keep hb2).more hb2.size)
       have SOu := Lib.hid hs2
       clear hb2 hs2
       have y2 : u2.cell? ⟨zb, 4, none⟩ = some (.slice Ao os.length co) := cells_at0 HRu.out 4
       have g2 : u2.frozen? ⟨zb, 4, none⟩ = false := frozen_of_row _ _ _ _ _ HRu.out))
  obtain ⟨V2, hV2⟩ : ∃ u, u2.setCell ⟨zb, 4, none⟩ (.slice A2 os.length c2) = u := ⟨_, rfl⟩
  rw [hV2]
  have hb2 : But (fun k => k = zb) u2 V2 := by rw [← hV2]; exact (But.refl (fun k => k = zb) _).setCell (fun _ => rfl) _
  have SDV2 := Lib.hid ((SDu.out.small hb2 (qR _) (by decide) (fun kk hk => ⟨[.int .u8 (k.toNat : Int), .int .i64 n, .slice A1 ds.length c1, .string au, .slice Ao os.length co, .slice Ap ps.length cp, .slice Ac cs.length cc, .string a2, .string ms, .int .i64 st], 70, by rw [hk]; exact HRu.out, (show (10 : Nat) < 32 by decide)⟩)).more hb2.size)
  have SOV2 := Lib.hid ((SOu.out.small hb2 (qR _) (by decide) (fun kk hk => ⟨[.int .u8 (k.toNat : Int), .int .i64 n, .slice A1 ds.length c1, .string au, .slice Ao os.length co, .slice Ap ps.length cp, .slice Ac cs.length cc, .string a2, .string ms, .int .i64 st], 70, by rw [hk]; exact HRu.out, (show (10 : Nat) < 32 by decide)⟩)).more hb2.size)
  have SPV2 := Lib.hid ((SPu.out.small hb2 (qR _) (by decide) (fun kk hk => ⟨[.int .u8 (k.toNat : Int), .int .i64 n, .slice A1 ds.length c1, .string au, .slice Ao os.length co, .slice Ap ps.length cp, .slice Ac cs.length cc, .string a2, .string ms, .int .i64 st], 70, by rw [hk]; exact HRu.out, (show (10 : Nat) < 32 by decide)⟩)).more hb2.size)
  have SCV2 := Lib.hid ((SCu.out.small hb2 (qR _) (by decide) (fun kk hk => ⟨[.int .u8 (k.toNat : Int), .int .i64 n, .slice A1 ds.length c1, .string au, .slice Ao os.length co, .slice Ap ps.length cp, .slice Ac cs.length cc, .string a2, .string ms, .int .i64 st], 70, by rw [hk]; exact HRu.out, (show (10 : Nat) < 32 by decide)⟩)).more hb2.size)
  have HRV2 : Hid (V2.heap[zb]? = some (.cells [.int .u8 (k.toNat : Int), .int .i64 n, .slice A1 ds.length c1, .string au, .slice A2 os.length c2, .slice Ap ps.length cp, .slice Ac cs.length cc, .string a2, .string ms, .int .i64 st].toArray 70 (0, 0))) := Lib.hid (by rw [← hV2]; exact set_blk HRu.out _)
  have HZV2r := Lib.hid ((hb2.block zr (qX HZu.out) (by have := HZB.out; omega)).trans HZu.out)
  have HBV2 := Lib.hid (HBu.out.trans (hb2.below HBu.out.size fun k hk e => by have := HZB.out; omega))
  clear hb2 hV2 x2 y2 g2
  have x3 : V2.cell? ⟨zb, 5, none⟩ = some (.slice Ap ps.length cp) := cells_at0 HRV2.out 5
  go_upto_region 4 with (first
    | (go_at_call 58; refine (copy04_any ps Ap cp V2 SPV2.out (by omega)).mono ?_
       rintro e u3 ⟨A3, c3, rfl, hs3, hcp3, hb3⟩
       have HC3 := Lib.hid hcp3
       clear hcp3
       have HRu := Lib.hid ((hb3.block zb (qX HRV2.out)).trans HRV2.out)
       have HBu := Lib.hid (HBV2.out.trans (hb3.mono HBV2.out.size))
       have HZu := Lib.hid ((hb3.block zr (qX HZV2r.out)).trans HZV2r.out)
       have SDu := Lib.hid ((SDV2.out.keep hb3).more hb3.size)
       have SOu := Lib.hid ((SOV2.out.keep hb3).more hb3.size)
       have SCu := Lib.hid ((SCV2.out.keep hb3).more hb3.size)
       have SPu := Lib.hid hs3
       clear hb3 hs3
       have y3 : u3.cell? ⟨zb, 5, none⟩ = some (.slice Ap ps.length cp) := cells_at0 HRu.out 5
       have g3 : u3.frozen? ⟨zb, 5, none⟩ = false := frozen_of_row _ _ _ _ _ HRu.out))
  obtain ⟨V3, hV3⟩ : ∃ u, u3.setCell ⟨zb, 5, none⟩ (.slice A3 ps.length c3) = u := ⟨_, rfl⟩
  rw [hV3]
  have hb3 : But (fun k => k = zb) u3 V3 := by rw [← hV3]; exact (But.refl (fun k => k = zb) _).setCell (fun _ => rfl) _
  have SDV3 := Lib.hid ((SDu.out.small hb3 (qR _) (by decide) (fun kk hk => ⟨[.int .u8 (k.toNat : Int), .int .i64 n, .slice A1 ds.length c1, .string au, .slice A2 os.length c2, .slice Ap ps.length cp, .slice Ac cs.length cc, .string a2, .string ms, .int .i64 st], 70, by rw [hk]; exact HRu.out, (show (10 : Nat) < 32 by decide)⟩)).more hb3.size)
  have SOV3 := Lib.hid ((SOu.out.small hb3 (qR _) (by decide) (fun kk hk => ⟨[.int .u8 (k.toNat : Int), .int .i64 n, .slice A1 ds.length c1, .string au, .slice A2 os.length c2, .slice Ap ps.length cp, .slice Ac cs.length cc, .string a2, .string ms, .int .i64 st], 70, by rw [hk]; exact HRu.out, (show (10 : Nat) < 32 by decide)⟩)).more hb3.size)
  have SPV3 := Lib.hid ((SPu.out.small hb3 (qR _) (by decide) (fun kk hk => ⟨[.int .u8 (k.toNat : Int), .int .i64 n, .slice A1 ds.length c1, .string au, .slice A2 os.length c2, .slice Ap ps.length cp, .slice Ac cs.length cc, .string a2, .string ms, .int .i64 st], 70, by rw [hk]; exact HRu.out, (show (10 : Nat) < 32 by decide)⟩)).more hb3.size)
  have SCV3 := Lib.hid ((SCu.out.small hb3 (qR _) (by decide) (fun kk hk => ⟨[.int .u8 (k.toNat : Int), .int .i64 n, .slice A1 ds.length c1, .string au, .slice A2 os.length c2, .slice Ap ps.length cp, .slice Ac cs.length cc, .string a2, .string ms, .int .i64 st], 70, by rw [hk]; exact HRu.out, (show (10 : Nat) < 32 by decide)⟩)).more hb3.size)
  have HRV3 : Hid (V3.heap[zb]? = some (.cells [.int .u8 (k.toNat : Int), .int .i64 n, .slice A1 ds.length c1, .string au, .slice A2 os.length c2, .slice A3 ps.length c3, .slice Ac cs.length cc, .string a2, .string ms, .int .i64 st].toArray 70 (0, 0))) := Lib.hid (by rw [← hV3]; exact set_blk HRu.out _)
  have HZV3r := Lib.hid ((hb3.block zr (qX HZu.out) (by have := HZB.out; omega)).trans HZu.out)
  have HBV3 := Lib.hid (HBu.out.trans (hb3.below HBu.out.size fun k hk e => by have := HZB.out; omega))
  clear hb3 hV3 x3 y3 g3
  have x4 : V3.cell? ⟨zb, 6, none⟩ = some (.slice Ac cs.length cc) := cells_at0 HRV3.out 6
  go_upto_region 5 with (first
    | (go_at_call 58; refine (copy04_any cs Ac cc V3 SCV3.out (by omega)).mono ?_
       rintro e u4 ⟨A4, c4, rfl, hs4, hcp4, hb4⟩
       have HC4 := Lib.hid hcp4
       clear hcp4
       have HRu := Lib.hid ((hb4.block zb (qX HRV3.out)).trans HRV3.out)
       have HBu := Lib.hid (HBV3.out.trans (hb4.mono HBV3.out.size))
       have HZu := Lib.hid ((hb4.block zr (qX HZV3r.out)).trans HZV3r.out)
       have SDu := Lib.hid ((SDV3.out.keep hb4).more hb4.size)
       have SOu := Lib.hid ((SOV3.out.keep hb4).more hb4.size)
       have SPu := Lib.hid ((SPV3.out.keep hb4).more hb4.size)
       have SCu := Lib.hid hs4
       clear hb4 hs4
       have y4 : u4.cell? ⟨zb, 6, none⟩ = some (.slice Ac cs.length cc) := cells_at0 HRu.out 6
       have g4 : u4.frozen? ⟨zb, 6, none⟩ = false := frozen_of_row _ _ _ _ _ HRu.out))
  obtain ⟨V4, hV4⟩ : ∃ u, u4.setCell ⟨zb, 6, none⟩ (.slice A4 cs.length c4) = u := ⟨_, rfl⟩
  rw [hV4]
  have hb4 : But (fun k => k = zb) u4 V4 := by rw [← hV4]; exact (But.refl (fun k => k = zb) _).setCell (fun _ => rfl) _
  have SDV4 := Lib.hid ((SDu.out.small hb4 (qR _) (by decide) (fun kk hk => ⟨[.int .u8 (k.toNat : Int), .int .i64 n, .slice A1 ds.length c1, .string au, .slice A2 os.length c2, .slice A3 ps.length c3, .slice Ac cs.length cc, .string a2, .string ms, .int .i64 st], 70, by rw [hk]; exact HRu.out, (show (10 : Nat) < 32 by decide)⟩)).more hb4.size)
  have SOV4 := Lib.hid ((SOu.out.small hb4 (qR _) (by decide) (fun kk hk => ⟨[.int .u8 (k.toNat : Int), .int .i64 n, .slice A1 ds.length c1, .string au, .slice A2 os.length c2, .slice A3 ps.length c3, .slice Ac cs.length cc, .string a2, .string ms, .int .i64 st], 70, by rw [hk]; exact HRu.out, (show (10 : Nat) < 32 by decide)⟩)).more hb4.size)
  have SPV4 := Lib.hid ((SPu.out.small hb4 (qR _) (by decide) (fun kk hk => ⟨[.int .u8 (k.toNat : Int), .int .i64 n, .slice A1 ds.length c1, .string au, .slice A2 os.length c2, .slice A3 ps.length c3, .slice Ac cs.length cc, .string a2, .string ms, .int .i64 st], 70, by rw [hk]; exact HRu.out, (show (10 : Nat) < 32 by decide)⟩)).more hb4.size)
  have SCV4 := Lib.hid ((SCu.out.small hb4 (qR _) (by decide) (fun kk hk => ⟨[.int .u8 (k.toNat : Int), .int .i64 n, .slice A1 ds.length c1, .string au, .slice A2 os.length c2, .slice A3 ps.length c3, .slice Ac cs.length cc, .string a2, .string ms, .int .i64 st], 70, by rw [hk]; exact HRu.out, (show (10 : Nat) < 32 by decide)⟩)).more hb4.size)
  have HRV4 : Hid (V4.heap[zb]? = some (.cells [.int .u8 (k.toNat : Int), .int .i64 n, .slice A1 ds.length c1, .string au, .slice A2 os.length c2, .slice A3 ps.length c3, .slice A4 cs.length c4, .string a2, .string ms, .int .i64 st].toArray 70 (0, 0))) := Lib.hid (by rw [← hV4]; exact set_blk HRu.out _)
  have HZV4r := Lib.hid ((hb4.block zr (qX HZu.out) (by have := HZB.out; omega)).trans HZu.out)
  have HBV4 := Lib.hid (HBu.out.trans (hb4.below HBu.out.size fun k hk e => by have := HZB.out; omega))
  clear hb4 hV4 x4 y4 g4
  have HRR := HZV4r
  go_wp2_with (first
    | (with_reducible refine at_load ?_
       refine wp_val (by rfl) (ex_load 70 _ rfl (p := ⟨zb, 0, none⟩) rfl (load_obj HRV4.out rfl)) ?_)
    | (with_reducible refine at_store ?_
       refine wp_storeM (by rfl) 70 _ _ rfl zr 0 [] objZ [] [.int .u8 (k.toNat : Int), .int .i64 n, .slice A1 ds.length c1, .string au, .slice A2 os.length c2, .slice A3 ps.length c3, .slice A4 cs.length c4, .string a2, .string ms, .int .i64 st] 70 (.agg [.int .u8 (k.toNat : Int), .int .i64 n, .slice A1 ds.length c1, .string au, .slice A2 os.length c2, .slice A3 ps.length c3, .slice A4 cs.length c4, .string a2, .string ms, .int .i64 st].toArray) rfl rfl rfl rfl HRR.out rfl (by kernel_rfl) (by intro u hu; simp only [List.mem_cons, List.not_mem_nil, or_false] at hu; rcases hu with rfl | rfl | rfl | rfl | rfl | rfl | rfl | rfl | rfl | rfl <;> rfl) ?_
       intro V5 hb5 hy5 hs5
       have SDV5 := Lib.hid ((SDV4.out.small hb5 (qR _) (by decide) (fun kk hk => ⟨objZ, 70, by rw [hk]; exact HRR.out, (show (10 : Nat) < 32 by decide)⟩)).more hb5.size)
       have SOV5 := Lib.hid ((SOV4.out.small hb5 (qR _) (by decide) (fun kk hk => ⟨objZ, 70, by rw [hk]; exact HRR.out, (show (10 : Nat) < 32 by decide)⟩)).more hb5.size)
       have SPV5 := Lib.hid ((SPV4.out.small hb5 (qR _) (by decide) (fun kk hk => ⟨objZ, 70, by rw [hk]; exact HRR.out, (show (10 : Nat) < 32 by decide)⟩)).more hb5.size)
       have SCV5 := Lib.hid ((SCV4.out.small hb5 (qR _) (by decide) (fun kk hk => ⟨objZ, 70, by rw [hk]; exact HRR.out, (show (10 : Nat) < 32 by decide)⟩)).more hb5.size)
       have HRV5 : Hid (V5.heap[zr]? = some (.cells [.int .u8 (k.toNat : Int), .int .i64 n, .slice A1 ds.length c1, .string au, .slice A2 os.length c2, .slice A3 ps.length c3, .slice A4 cs.length c4, .string a2, .string ms, .int .i64 st].toArray 70 (0, 0))) := Lib.hid (by simpa using hy5)
       have HBV5 := Lib.hid (HBV4.out.trans (hb5.below HBV4.out.size fun k hk e => by have := HZB.out; omega))
       clear hb5 hy5 hs5))
  refine bodyPost_ret (results_one Tryz.results28 _ _ rfl (load_obj HRV5.out rfl)) rfl ?_
  exact ⟨_, rfl, ⟨HOK.out, HOP.out, HA.out, HA2.out, HM.out, A1, c1, A2, c2, A3, c3, A4, c4, rfl, SDV5.out, SOV5.out, SPV5.out, SCV5.out⟩, cap_four HC1.out HC2.out HC3.out HC4.out, HBV5.out⟩
end Go.Proofs.YtdgbjhfkmembdaaGreatDoor
