/-
  What the chapter's examples say, walked. Conditions: the tables hold what the program's text lays.
-/
import Derived.Test.YtdgbjhfkmembdaaGreatDoorAwake15S
namespace Go.Proofs.YtdgbjhfkmembdaaGreatDoor
open Go.RowKit Go.Maps
set_option linter.unusedVariables false
set_option linter.unusedSimpArgs false

theorem add15_first (B s : Nat) (q : StateL) (A : Option Addr) (w : World) (h : StateAt w B s newState q) (hnd : q.nd = 0) (h2 : Sl w w.heap.size A 2 70 (rowsV opV c15.2.2.2)) (hg : Glob w) (hsg : ShaG w) :
    Calls Tryz.prog 17 #[.pointer (some ⟨s, 0, none⟩), .agg (idV i15).toArray, .agg (chC 1 none 0 0 annS A 2 2).toArray] w fun e w' => e = .returned (.int .i64 0) ∧ ∃ q', StateAt w' B s s15 q' ∧ But (StX s newState q) w w' ∧ q'.nd ≤ 2 := by
  refine (add_any B s newState q i15 c15 none 0 A 2 w h i15_ok Sl.nil h2 (addFine15 q hnd) hg hsg).mono fun e w' hx => ?_
  rcases hx with ⟨h1, _⟩ | ⟨_, h1⟩
  · exact absurd encC15 h1
  · rw [idC15, add15] at h1
    obtain ⟨h3, q', h4, h5, _, h6⟩ := h1
    refine ⟨h3, q', h4, h5, ?_⟩
    rw [hnd] at h6
    exact h6
theorem add15_second (B s : Nat) (q : StateL) (Ad Ao : Option Addr) (w : World) (h : StateAt w B s s15 q) (hnd : q.nd ≤ 2) (h1 : Sl w w.heap.size Ad 1 32 (idsV [i15])) (h2 : Sl w w.heap.size Ao 1 70 (rowsV opV d15.2.2.2)) (hg : Glob w) (hsg : ShaG w) :
    Calls Tryz.prog 17 #[.pointer (some ⟨s, 0, none⟩), .agg (idV j15).toArray, .agg (chC 2 Ad 1 1 bobS Ao 1 1).toArray] w fun e w' => e = .returned (.int .i64 0) ∧ ∃ q', StateAt w' B s t15 q' ∧ But (StX s s15 q) w w' := by
  refine (add_any B s s15 q j15 d15 Ad 1 Ao 1 w h j15_ok h1 h2 (addFine15d q hnd) hg hsg).mono fun e w' hx => ?_
  rcases hx with ⟨h1, _⟩ | ⟨_, h1⟩
  · exact absurd encC15d h1
  · rw [idC15d, add15d] at h1
    obtain ⟨h3, q', h4, h5, _, h6⟩ := h1
    exact ⟨h3, q', h4, h5⟩
theorem ref15a_built (w : World) : (Instr.build 110 #[(0, .agg (idV i15).toArray)]).run Tryz.prog w = .ok (.agg (refV (i15, 0)).toArray) w := by kernel_rfl
theorem ref15b_built (w : World) : (Instr.build 110 #[(0, .agg (idV i15).toArray), (1, .int .i64 2)]).run Tryz.prog w = .ok (.agg (refV (i15, 2)).toArray) w := by kernel_rfl
theorem o15d_built (w : World) : (Instr.build 112 #[(0, .int .u8 1), (1, .agg (refV (i15, 0)).toArray), (2, .agg (refV (i15, 2)).toArray), (3, .string ⟨#[33]⟩)]).run Tryz.prog w = .ok (.agg (opV o15d).toArray) w := by kernel_rfl
theorem d15_built (a b : Addr) (w : World) : (Instr.build 37 #[(0, .int .i64 2), (1, .slice (some a) 1 1), (2, .string ⟨#[66, 111, 98]⟩), (3, .slice (some b) 1 1)]).run Tryz.prog w = .ok (.agg (chC 2 (some a) 1 1 bobS (some b) 1 1).toArray) w := by kernel_rfl
theorem rows15d : rowsV opV d15.2.2.2 = opV o15d := by
  show rowsV opV [o15d] = _
  simp [rowsV]
theorem ids15d : idsV [i15] = idV i15 := by simp [idsV]
theorem blame15_at {w : World} {B : Nat} {v : Value} (h : w.ownsRow B 43 34 v [(i15, annS, ([104, 105] : List UInt8)), (j15, bobS, [33])].length (rowsV blameV [(i15, annS, [104, 105]), (j15, bobS, [33])])) :
    ∃ g c, v = .slice (some ⟨g, 0, none⟩) 2 c ∧ B ≤ g ∧ g < w.heap.size ∧ w.cell? ⟨g, 66, none⟩ = some (.string ⟨#[66, 111, 98]⟩) ∧ w.cell? ⟨g, 33, none⟩ = some (.string ⟨#[104, 105]⟩) := by
  obtain ⟨g, c, tail, hv, hB, hh, _⟩ := blame_last (l := [(i15, annS, [104, 105])]) (q := (j15, bobS, [33])) h fun x hx => by
    rcases List.mem_cons.1 hx with rfl | hx
    · exact i15_ok
    · rw [List.mem_singleton.1 hx]
      exact j15_ok
  exact ⟨g, c, hv, hB, qX hh, (cells_at0 hh 66).trans rfl, (cells_at0 hh 33).trans rfl⟩
set_option maxHeartbeats 4000000 in
set_option maxRecDepth 100000 in
theorem awake15_any (w : World) (hg : Glob w) (hsg : ShaG w) : Calls Tryz.prog 15 #[] w fun e w' => e = .returned (.bool true) ∧ Below w.heap.size w w' := by
  have HG := Lib.hid hg; have HSG := Lib.hid hsg; have HG0 := HG
  clear hg hsg
  have hidl : (idV i15).length = 32 := rfl
  have HIDL := Lib.hid hidl
  have hjdl : (idV j15).length = 32 := rfl
  have HJDL := Lib.hid hjdl
  clear hidl hjdl
  go_enter Tryz.func15, Tryz.ntmps15
  go_upto_region 3 with (first
    | (go_at_call 27; refine (stateNew_any w.heap.size w (qR _)).mono ?_
       rintro e W1 ⟨hb1, s, q, rfl, hst, hnd⟩
       have HB1 := Lib.hid hb1; have HST1 := Lib.hid hst; have HND := Lib.hid hnd
       clear hb1 hst hnd)
    | (go_at_call 45; refine (hello15_any W1 (HG.out.next HB1.out) (HSG.out.next HB1.out)).mono ?_
       rintro e W2 ⟨hb2, A, rfl, hsl⟩
       have HB2 := Lib.hid hb2; have HSL := Lib.hid hsl
       clear hb2 hsl)
    | (with_reducible refine at_alloc ?_
       first
       | (refine wp_allocM (by rfl) 41 rfl (idV zero32) (by kernel_rfl) ?_
          intro W3 hb3 hy3 hs3
          have HB3 := Lib.hid hb3; have HY3 := Lib.hid hy3; have HS3 := Lib.hid hs3
          clear hb3 hy3 hs3)
       | (refine wp_allocM (by rfl) 37 rfl (chC 0 none 0 0 noneS none 0 0) (chZ_run15 _) ?_
          intro W4 hb4 hy4 hs4
          have HB4 := Lib.hid hb4; have HY4 := Lib.hid hy4; have HS4 := Lib.hid hs4
          have HY34 := Lib.hid ((hb4.block W2.heap.size (qX HY3.out)).trans HY3.out)
          clear hb4 hy4 hs4))
    | (with_reducible refine at_store ?_
       first
       | (refine wp_storeM (by rfl) 41 _ _ rfl W2.heap.size 0 [] (idV zero32) [] (idV i15) 41 (.agg (idV i15).toArray) rfl rfl rfl rfl (by simpa using HY34.out) (by rw [HIDL.out]; rfl) (by rw [HIDL.out]; kernel_rfl) (idV_one _) ?_
          intro W5 hb5 hy5 hs5
          have HB5 := Lib.hid hb5
          have HY5 : Hid (W5.heap[W2.heap.size]? = some (.cells (idV i15).toArray 41 (0, 0))) := Lib.hid (by simpa using hy5)
          have HY45 := Lib.hid ((hb5.block W3.heap.size (qX HY4.out) (by have := HS3.out; omega)).trans HY4.out)
          clear hb5 hy5 hs5)
       | (refine wp_storeM (by rfl) 37 _ _ rfl W3.heap.size 0 [] (chC 0 none 0 0 noneS none 0 0) [] (chC 1 none 0 0 annS A 2 2) 37 (.agg (chC 1 none 0 0 annS A 2 2).toArray) rfl rfl rfl rfl (by simpa using HY45.out) rfl (by kernel_rfl) (chC_one _ _ _ _ _ _ _ _) ?_
          intro W6 hb6 hy6 hs6
          have HB6 := Lib.hid hb6
          have HY6 : Hid (W6.heap[W3.heap.size]? = some (.cells (chC 1 none 0 0 annS A 2 2).toArray 37 (0, 0))) := Lib.hid (by simpa using hy6)
          have HY56 := Lib.hid ((hb6.block W2.heap.size (qX HY5.out) (by have := HS3.out; omega)).trans HY5.out)
          clear hb6 hy6 hs6)))
  obtain ⟨b2, hb2⟩ : ∃ z, W2.heap.size = z := ⟨_, rfl⟩
  obtain ⟨b3, hb3⟩ : ∃ z, W3.heap.size = z := ⟨_, rfl⟩
  have h26 : Below W2.heap.size W2 W6 := (HB3.out.trans (HB4.out.mono HB3.out.size)).trans (((HB5.out.below (B := W2.heap.size) (by have := HS3.out; have := HS4.out; omega) fun k hk e => by have e2 : k = W2.heap.size := e; omega)).trans (HB6.out.below (B := W2.heap.size) (by have := qX HY45.out; have := HS3.out; omega) fun k hk e => by have e2 : k = W3.heap.size := e; have := HS3.out; omega))
  have HBW6 : Hid (Below w.heap.size w W6) := Lib.hid ((HB1.out.trans (HB2.out.mono HB1.out.size)).trans (h26.mono (HB1.out.trans (HB2.out.mono HB1.out.size)).size))
  have HST6 := Lib.hid ((HST1.out.keep HB2.out).keep h26)
  have HSL6 := Lib.hid ((HSL.out.keep h26).more h26.size)
  rw [hb2] at HY56 ⊢
  rw [hb3] at HY6 ⊢
  clear h26 hb2 hb3 HY5 HY45 HY3 HY34 HY4 HB3 HB4 HB5 HB6 HS3 HS4 HST1 HSL HB1 HB2
  have HA1 := Lib.hid (add15_first w.heap.size s q A W6 HST6.out HND.out HSL6.out (HG.out.next HBW6.out) (HSG.out.next HBW6.out))
  have HR2 := Lib.hid (show W6.rangeAt b2 0 (idV i15) from fun j u hj => by rw [qZ]; exact (cells_at0 HY56.out j).trans hj)
  have HR3 := Lib.hid (show W6.rangeAt b3 0 (chC 1 none 0 0 annS A 2 2) from fun j u hj => by rw [qZ]; exact (cells_at0 HY6.out j).trans hj)
  go_upto_region 5 with (first
    | (with_reducible refine at_load ?_
       first
       | refine wp_val (by rfl) (ldD i15_ok HR2.out) ?_
       | refine wp_val (by rfl) (ex_load 37 _ rfl (p := ⟨b3, 0, none⟩) rfl (qV _ b3 0 _ _ _ HR3.out Tryz.underlying37 rfl (by kernel_rfl))) ?_)
    | (go_at_call 17; refine HA1.out.mono ?_
       rintro e W7 ⟨rfl, q1, hst, hbt, hnd⟩
       have HST7 := Lib.hid hst; have HND7 := Lib.hid hnd
       have HBW7 : Hid (Below w.heap.size w W7) := Lib.hid (HBW6.out.trans (hbt.below HBW6.out.size fun k hk hx => by have := (HST6.out.lowX hx).1; omega))
       have HY7 : Hid (W7.heap[b2]? = some (.cells (idV i15).toArray 41 (0, 0))) := Lib.hid (HST6.out.keepCells hbt HY56.out (by decide))
       clear hst hbt hnd))
  have HG7 := Lib.hid (HG.out.next HBW7.out); have HSG7 := Lib.hid (HSG.out.next HBW7.out)
  have HR7 := Lib.hid (show W7.rangeAt b2 0 (idV i15) from fun j u hj => by rw [qZ]; exact (cells_at0 HY7.out j).trans hj)
  clear HA1 HR2 HR3 HY56 HY6 HST6 HSL6 HBW6 HG HSG HND
  obtain ⟨x, hx⟩ : ∃ z, i15 = z := ⟨_, rfl⟩
  obtain ⟨y, hy⟩ : ∃ z, j15 = z := ⟨_, rfl⟩
  have HX := Lib.hid hx; have HY := Lib.hid hy
  have HXK : Hid (IdOk x) := Lib.hid (by rw [← hx]; exact i15_ok)
  have HYK : Hid (IdOk y) := Lib.hid (by rw [← hy]; exact j15_ok)
  rw [hx] at HR7 HY7 HIDL
  rw [hy] at HJDL
  try rw [hx]
  clear hx hy
  have HBR := Lib.hid (fun u : World => show (Instr.build 110 #[(0, .agg (idV x).toArray)]).run Tryz.prog u = .ok (.agg (refV (x, 0)).toArray) u from by rw [← HX.out]; exact ref15a_built u)
  have HBT := Lib.hid (fun u : World => show (Instr.build 110 #[(0, .agg (idV x).toArray), (1, .int .i64 2)]).run Tryz.prog u = .ok (.agg (refV (x, 2)).toArray) u from by rw [← HX.out]; exact ref15b_built u)
  obtain ⟨oV, hoV⟩ : ∃ z, opV o15d = z := ⟨_, rfl⟩
  have HOV := Lib.hid hoV
  have HBO := Lib.hid (fun u : World => show (Instr.build 112 #[(0, .int .u8 1), (1, .agg (refV (x, 0)).toArray), (2, .agg (refV (x, 2)).toArray), (3, .string ⟨#[33]⟩)]).run Tryz.prog u = .ok (.agg oV.toArray) u from by rw [← HX.out, ← HOV.out]; exact o15d_built u)
  have HOL : Hid (oV.length = 70) := Lib.hid (by rw [← hoV]; exact opV_length o15d_in)
  clear hoV
  go_upto_region 6 with (first
    | (with_reducible refine at_load ?_
       first
       | (refine wp_val (by rfl) (ldD HXK.out HR8.out) ?_; go_frame)
       | (refine wp_val (by rfl) (ldD HXK.out HR7.out) ?_; go_frame))
    | (with_reducible refine at_build ?_
       first
       | (refine wp_val (o := ⟨some 28, _, _, _, _, _⟩) (by rfl) (ex_build 112 _ rfl (by simp only [List.map_toArray, List.map_cons, List.map_nil]; exact HBO.out _)) ?_; go_frame)
       | (refine wp_val (o := ⟨some 30, _, _, _, _, _⟩) (by rfl) (ex_build 37 _ rfl (by simp only [List.map_toArray, List.map_cons, List.map_nil]; exact d15_built _ _ _)) ?_; go_frame)
       | (refine wp_val (o := ⟨some 25, _, _, _, _, _⟩) (by rfl) (ex_build 110 _ rfl (by simp only [List.map_toArray, List.map_cons, List.map_nil]; exact HBR.out _)) ?_; go_frame)
       | (refine wp_val (o := ⟨some 27, _, _, _, _, _⟩) (by rfl) (ex_build 110 _ rfl (by simp only [List.map_toArray, List.map_cons, List.map_nil]; exact HBT.out _)) ?_; go_frame))
    | (with_reducible refine at_alloc ?_
       refine wp_allocM (by rfl) 37 rfl (chC 0 none 0 0 noneS none 0 0) (chZ_run15 _) ?_
       intro W10 hb10 hy10 hs10
       have HB10 := Lib.hid hb10; have HY10 := Lib.hid hy10; have HS10 := Lib.hid hs10
       clear hb10 hy10 hs10)
    | (with_reducible refine at_store ?_
       refine wp_storeM (by rfl) 37 _ _ rfl W9.heap.size 0 [] (chC 0 none 0 0 noneS none 0 0) [] (chC 2 (some ⟨W7.heap.size, 0, none⟩) 1 1 bobS (some ⟨W8.heap.size, 0, none⟩) 1 1) 37 (.agg (chC 2 (some ⟨W7.heap.size, 0, none⟩) 1 1 bobS (some ⟨W8.heap.size, 0, none⟩) 1 1).toArray) rfl rfl rfl rfl (by simpa using HY10.out) rfl (by kernel_rfl) (chC_one _ _ _ _ _ _ _ _) ?_
       intro W11 hb11 hy11 hs11
       have HB11 := Lib.hid hb11
       have HY11 : Hid (W11.heap[W9.heap.size]? = some (.cells (chC 2 (some ⟨W7.heap.size, 0, none⟩) 1 1 bobS (some ⟨W8.heap.size, 0, none⟩) 1 1).toArray 37 (0, 0))) := Lib.hid (by simpa using hy11)
       clear hb11 hy11 hs11)
    | (refine wp_buildSlice1 (by rfl) 34 _ rfl 41 Tryz.underlying34 (.agg (idV zero32).toArray) 32 32 infoId rfl (by decide) (by decide) (idV x) HIDL.out rfl ?_
       obtain ⟨W8, hW8⟩ : ∃ z, W7.alloc (.cells (idV x).toArray 41) = z := ⟨_, rfl⟩
       rw [hW8]
       have HB8 : Hid (Below W7.heap.size W7 W8) := Lib.hid (by rw [← hW8]; exact (qB _ _).alloc (qR _) _)
       have HYD : Hid (W8.heap[W7.heap.size]? = some (.cells (idV x).toArray 41 (0, 0))) := Lib.hid (by rw [← hW8]; exact heap_alloc_new _ _)
       have HR8 : Hid (W8.rangeAt b2 0 (idV x)) := Lib.hid fun j u hj => by rw [qZ]; exact (cells_at0 ((HB8.out.block b2 (qX HY7.out)).trans HY7.out) j).trans hj
       clear hW8
       go_frame)
    | (refine wp_buildSlice1 (by rfl) 35 _ rfl 112 Tryz.underlying35 (.agg (opV (0, zeroRef, zeroRef, noneS, 0, noneS)).toArray) 70 128 infoOp15 rfl (by decide) (by decide) oV HOL.out rfl ?_
       obtain ⟨W9, hW9⟩ : ∃ z, W8.alloc (.cells oV.toArray 112) = z := ⟨_, rfl⟩
       rw [hW9]
       have HB9 : Hid (Below W8.heap.size W8 W9) := Lib.hid (by rw [← hW9]; exact (qB _ _).alloc (qR _) _)
       have HYO : Hid (W9.heap[W8.heap.size]? = some (.cells oV.toArray 112 (0, 0))) := Lib.hid (by rw [← hW9]; exact heap_alloc_new _ _)
       clear hW9
       go_frame))
  have h911 : Below W9.heap.size W9 W11 := HB10.out.trans (HB11.out.below (by have := HS10.out; omega) fun k hk e => by have e2 : k = W9.heap.size := e; omega)
  have h811 : Below W8.heap.size W8 W11 := HB9.out.trans (h911.mono HB9.out.size)
  have h711 : Below W7.heap.size W7 W11 := HB8.out.trans (h811.mono HB8.out.size)
  have HBW11 : Hid (Below w.heap.size w W11) := Lib.hid (HBW7.out.trans (h711.mono HBW7.out.size))
  have HST11 := Lib.hid (HST7.out.keep h711)
  have HYD11 := Lib.hid ((h811.block W7.heap.size (qX HYD.out)).trans HYD.out)
  have HYO11 := Lib.hid ((h911.block W8.heap.size (qX HYO.out)).trans HYO.out)
  have HG11 := Lib.hid (HG7.out.next (h711.mono (qR _))); have HSG11 := Lib.hid (HSG7.out.next (h711.mono (qR _)))
  obtain ⟨gd, hgd⟩ : ∃ z, W7.heap.size = z := ⟨_, rfl⟩
  obtain ⟨go, hgo⟩ : ∃ z, W8.heap.size = z := ⟨_, rfl⟩
  obtain ⟨b4, hb4⟩ : ∃ z, W9.heap.size = z := ⟨_, rfl⟩
  have HL11 := Lib.hid (show gd < go ∧ go < b4 ∧ b4 < W11.heap.size from by have := qX HYD.out; have := qX HYO.out; have := qX HY11.out; omega)
  rw [hgd] at HYD11 HY11 ⊢
  rw [hgo] at HYO11 HY11 ⊢
  rw [hb4] at HY11 ⊢
  clear h911 h811 h711 hgd hgo hb4 HB8 HB9 HB10 HB11 HYD HYO HR7 HR8 HY10 HS10 HY7 HST7 HBW7 HG7 HSG7
  have HDD : Hid (idsV d15.2.1 = idV x) := Lib.hid (by rw [← HX.out]; exact ids15d)
  have HDO : Hid (rowsV opV d15.2.2.2 = oV) := Lib.hid (by rw [← HOV.out]; exact rows15d)
  have HSD : Hid (Sl W11 W11.heap.size (some ⟨gd, 0, none⟩) d15.2.1.length 32 (idsV d15.2.1)) := Lib.hid (by
    rw [HDD.out]
    exact ⟨HIDL.out, fun _ => ⟨gd, 0, rfl, qX HYD11.out, fun j u hj => by rw [qZ]; exact (cells_at0 HYD11.out j).trans hj⟩⟩)
  have HSO : Hid (Sl W11 W11.heap.size (some ⟨go, 0, none⟩) d15.2.2.2.length 70 (rowsV opV d15.2.2.2)) := Lib.hid (by
    rw [HDO.out]
    exact ⟨HOL.out, fun _ => ⟨go, 0, rfl, qX HYO11.out, fun j u hj => by rw [qZ]; exact (cells_at0 HYO11.out j).trans hj⟩⟩)
  have HOI := Lib.hid (objId_any (1, d15, noCommitD) _ W11 (change_obj (cd := 1) (co := 1) d15_ok d15_ops (by decide) HSD.out HSO.out) (by decide) (by decide) (by decide) (by decide) HG11.out HSG11.out)
  have HR4 := Lib.hid (show W11.rangeAt b4 0 (chC 2 (some ⟨gd, 0, none⟩) 1 1 bobS (some ⟨go, 0, none⟩) 1 1) from fun j u hj => by rw [qZ]; exact (cells_at0 HY11.out j).trans hj)
  go_upto_region 7 with (first
    | (with_reducible refine at_load ?_
       refine wp_val (by rfl) (ex_load 37 _ rfl (p := ⟨b4, 0, none⟩) rfl (qV _ b4 0 _ _ _ HR4.out Tryz.underlying37 rfl (by kernel_rfl))) ?_)
    | (with_reducible refine at_build ?_
       refine wp_val (by rfl) (ex_build 70 _ rfl (by simp only [List.map_toArray, List.map_cons, List.map_nil]; exact obj_built15 _ _ _ _ _ _ _ _ _)) ?_)
    | (go_at_call 46; refine HOI.out.mono ?_
       rintro e W12 ⟨rfl, hb12⟩
       rw [id15d, HY.out, enc15d]
       have HB12 := Lib.hid hb12
       clear hb12)
    | (with_reducible refine at_alloc ?_
       refine wp_allocM (by rfl) 41 rfl (idV zero32) (by kernel_rfl) ?_
       intro W13 hb13 hy13 hs13
       have HB13 := Lib.hid hb13; have HY13 := Lib.hid hy13; have HS13 := Lib.hid hs13
       clear hb13 hy13 hs13)
    | (with_reducible refine at_store ?_
       refine wp_storeM (by rfl) 41 _ _ rfl W12.heap.size 0 [] (idV zero32) [] (idV y) 41 (.agg (idV y).toArray) rfl rfl rfl rfl (by simpa using HY13.out) (by rw [HJDL.out]; rfl) (by rw [HJDL.out]; kernel_rfl) (idV_one _) ?_
       intro W14 hb14 hy14 hs14
       have HB14 := Lib.hid hb14
       have HY14 : Hid (W14.heap[W12.heap.size]? = some (.cells (idV y).toArray 41 (0, 0))) := Lib.hid (by simpa using hy14)
       clear hb14 hy14 hs14))
  have h14 : Below W11.heap.size W11 W14 := HB12.out.trans ((HB13.out.trans (HB14.out.below (B := W12.heap.size) (by have := HS13.out; omega) fun k hk e => by have e2 : k = W12.heap.size := e; omega)).mono HB12.out.size)
  obtain ⟨b5, hb5⟩ : ∃ z, W12.heap.size = z := ⟨_, rfl⟩
  rw [hb5] at HY14 ⊢
  have HBW14 : Hid (Below w.heap.size w W14) := Lib.hid (HBW11.out.trans (h14.mono HBW11.out.size))
  have HST14 := Lib.hid (HST11.out.keep h14)
  have HR5 := Lib.hid (show W14.rangeAt b5 0 (idV y) from fun j u hj => by rw [qZ]; exact (cells_at0 HY14.out j).trans hj)
  have HR4 := Lib.hid (show W14.rangeAt b4 0 (chC 2 (some ⟨gd, 0, none⟩) 1 1 bobS (some ⟨go, 0, none⟩) 1 1) from fun j u hj => by rw [qZ]; exact (cells_at0 ((h14.block b4 (qX HY11.out)).trans HY11.out) j).trans hj)
  have HA2 : Hid (Calls Tryz.prog 17 #[.pointer (some ⟨s, 0, none⟩), .agg (idV y).toArray, .agg (chC 2 (some ⟨gd, 0, none⟩) 1 1 bobS (some ⟨go, 0, none⟩) 1 1).toArray] W14 fun e w' => e = .returned (.int .i64 0) ∧ ∃ q', StateAt w' w.heap.size s t15 q' ∧ But (StX s s15 q1) W14 w') := Lib.hid (by
    rw [← HY.out]
    exact add15_second w.heap.size s q1 (some ⟨gd, 0, none⟩) (some ⟨go, 0, none⟩) W14 HST14.out HND7.out ((HSD.out.keep h14).more h14.size) ((HSO.out.keep h14).more h14.size) (HG11.out.next (h14.mono (qR _))) (HSG11.out.next (h14.mono (qR _))))
  have HG14 := Lib.hid (HG11.out.next (h14.mono (qR _)))
  clear h14 hb5 HB12 HB13 HB14 HY13 HS13 HOI HST11 HSD HSO HSG11 HG11
  go_upto_region 8 with (first
    | (with_reducible refine at_load ?_
       first
       | refine wp_val (by rfl) (ldD HYK.out HR5.out) ?_
       | refine wp_val (by rfl) (ex_load 37 _ rfl (p := ⟨b4, 0, none⟩) rfl (qV _ b4 0 _ _ _ HR4.out Tryz.underlying37 rfl (by kernel_rfl))) ?_)
    | (go_at_call 17; refine HA2.out.mono ?_
       rintro e W15 ⟨rfl, q2, hst, hbt⟩
       have HST15 := Lib.hid hst
       have HBW15 : Hid (Below w.heap.size w W15) := Lib.hid (HBW14.out.trans (hbt.below HBW14.out.size fun k hk hx => by have := (HST14.out.lowX hx).1; omega))
       have HG15 : Hid (Glob W15) := Lib.hid (HG0.out.next HBW15.out)
       clear hst hbt))
  clear HA2 HR4 HR5 HST14 HBW14 HG14
  go_upto_region 9 with (first
    | (go_at_call 12; refine (sblame_any w.heap.size s t15 q2 aS W15 HST15.out claims15 csize15 HG15.out key15 docs15).mono ?_
       rintro e W16 ⟨hb16, v, rfl, hv⟩
       rw [err15]
       rw [blame15] at hv
       obtain ⟨g, c, rfl, hgB, hgl, hc1, hc2⟩ := blame15_at hv
       have HB16 := Lib.hid hb16; have HGL := Lib.hid hgl; have HC1 := Lib.hid hc1; have HC2 := Lib.hid hc2; have HGB := Lib.hid hgB
       clear hb16 hgl hc1 hc2 hgB hv))
  have HST16 := Lib.hid (HST15.out.keep HB16.out)
  have HBW16 := Lib.hid (HBW15.out.trans (HB16.out.mono HBW15.out.size))
  have HG16 := Lib.hid (HG0.out.next HBW16.out)
  go_upto_region 10 with (first
    | (go_at_call 25; refine (stext_any w.heap.size s t15 q2 aS W16 HST16.out claims15 csize15 HG16.out key15 fun k d h1 h2 => (docs15 k d h1 h2).1).mono ?_
       rintro e W17 ⟨hb17, rfl⟩
       rw [err15, text15]
       have hc1 := (hb17.cell (p := ⟨g, 66, none⟩) HGL.out).trans HC1.out
       have hc2 := (hb17.cell (p := ⟨g, 33, none⟩) HGL.out).trans HC2.out
       have HB17 := Lib.hid hb17
       clear hb17))
  have HBW17 := Lib.hid (HBW16.out.trans (HB17.out.mono HBW16.out.size))
  go_wp2_with fail
  go_ret
  exact ⟨rfl, HBW17.out⟩
end Go.Proofs.YtdgbjhfkmembdaaGreatDoor
