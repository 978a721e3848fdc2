/-
  What the document's reader reads: a ref. Conditions: as RrAt says.
-/
import Derived.Test.YthjaepmfkgejkaaGreatDoorRefRd8
import Derived.Test.YthjaepmfkgejkaaGreatDoorObjReader3
import Derived.Test.YthjaepmfkgejkaaGreatDoorBuild
import Derived.Test.YthjaepmfkgejkaaGreatDoorObjDecode2
namespace Go.Proofs.YthjaepmfkgejkaaGreatDoor
open Go.RowKit Go.Maps
set_option linter.unusedVariables false
set_option linter.unusedSimpArgs false

theorem wf_nat8 {n : Nat} (h : n < 9223372036854775808) : (Lit.int .i64 (n : Int)).wf = true := by
  simp only [Lit.wf, IntKind.min, IntKind.max, IntKind.signed, IntKind.bits, Bool.and_eq_true]
  simp
  omega
theorem refB_info : (Tryz.prog.info? 68).map (fun i => (i.zero, i.size, i.bytes)) = some (some (.agg (refV zeroRef).toArray), 33, 40) := by kernel_rfl
theorem refB_built {x : List UInt8} (hx : IdOk x) (i : Nat) (w : World) : (Instr.build 68 #[(0, .agg (idV x).toArray), (1, .int .i64 ((i : Nat) : Int))]).run Tryz.prog w = .ok (.agg (refV (x, ((i : Nat) : Int))).toArray) w := by
  obtain ⟨i0, hi, hz, _, _⟩ := info_parts refB_info
  have h := built_struct (P := Tryz.prog) hi Tryz.underlying68 hz [idV zero32, [.int .i64 0]] rfl (places := [(0, 32), (32, 1)]) (by kernel_rfl) (by kernel_rfl) [(0, .agg (idV x).toArray), (1, .int .i64 ((i : Nat) : Int))] (by
    intro q hq
    simp only [List.mem_cons, List.not_mem_nil, or_false] at hq
    rcases hq with rfl | rfl
    · exact ⟨by show 0 < 2; omega, by show (idV x).toArray.size = 32; rw [List.size_toArray, idV_length]; exact hx⟩
    · exact ⟨by show 1 < 2; omega, rfl⟩)
  have h2 := run_build (P := Tryz.prog) w 68 #[(0, .agg (idV x).toArray), (1, .int .i64 ((i : Nat) : Int))] _ h
  refine h2.trans ?_
  simp [refV, Value.cells]
set_option maxHeartbeats 4000000 in
set_option maxRecDepth 100000 in
theorem rrRef_any (g b off c : Nat) (l : List UInt8) (at' : Nat) (ok : Bool) (w : World) (hr : RrAt w g b off c l at' ok) (hl : l.length ≤ 1099511627776) (deps : List (List UInt8)) (Ad : Option Addr) (cd : Nat) (hdl : deps.length ≤ 1099511627776) (ho : IdsOk deps) (hd : Sl w w.heap.size Ad deps.length 32 (idsV deps)) :
    Calls Tryz.prog 61 #[.pointer (some ⟨g, 0, none⟩), .slice Ad deps.length cd] w (RrGives g b off c l at' ok w (pRef deps) (fun r v _ => v = .agg (refV r).toArray ∧ RefOk r)) := by
  have HO := Lib.hid ho; have HD := Lib.hid hd; have HRD := Lib.hid hr
  clear ho hd hr
  go_enter Tryz.func61, Tryz.ntmps61
  go_upto_region 1 with (first
    | (with_reducible refine at_alloc ?_
       refine wp_allocM (by rfl) 68 rfl (refV zeroRef) (by kernel_rfl) ?_
       intro W0 hb0 hz0 hs0
       have HB0 := Lib.hid hb0; have HZ0 := Lib.hid hz0
       clear hb0 hz0 hs0))
  have HRD0 := Lib.hid (HRD.out.keep HB0.out)
  obtain ⟨z4, hz4⟩ : ∃ z, w.heap.size = z := ⟨_, rfl⟩
  have HWZ := Lib.hid (show w.heap.size ≤ z4 by omega)
  have HGZ := Lib.hid (show g < z4 by rw [← hz4]; exact HRD.out.lt)
  have HL0 := Lib.hid (show z4 < W0.heap.size by rw [← hz4]; exact (Array.getElem?_eq_some_iff.1 HZ0.out).1)
  rw [hz4] at HZ0 ⊢
  try simp only [Act.put, List.setIfInBounds_toArray, List.set_cons_zero, List.set_cons_succ]
  clear hz4
  go_upto_region 2 with (first
    | (go_at_call 25; refine (rrNum_any g b off c l at' ok W0 HRD0.out hl).mono ?_; rintro e W1 ⟨n, v1, a1, ok1, rfl, ⟨rfl, hn1⟩, hrd1, hbt1, hp1⟩
       have HRD1 := Lib.hid hrd1; have HBT1 := Lib.hid hbt1; have HP1 := Lib.hid hp1
       clear hrd1 hbt1 hp1))
  go_upto_region 3 with (first
    | (go_at_call 25; refine (rrNum_any g b off c l a1 ok1 W1 HRD1.out hl).mono ?_; rintro e W2 ⟨k, v2, a2, ok2, rfl, ⟨rfl, hn2⟩, hrd2, hbt2, hp2⟩
       have HRD2 := Lib.hid hrd2; have HBT2 := Lib.hid hbt2; have HP2 := Lib.hid hp2
       clear hrd2 hbt2 hp2))
  have HBT12 := Lib.hid (HBT1.out.trans HBT2.out fun _ _ q => q)
  have HBT := Lib.hid (show But (fun k => k = g) w W2 from (But.of_below (X := fun k => k = g) HB0.out).trans HBT12.out fun _ _ q => q)
  have HZ2 := Lib.hid ((HBT12.out.block z4 HL0.out (by have h9 := HGZ.out; omega)).trans HZ0.out)
  have HL2 := Lib.hid (Nat.lt_of_lt_of_le HL0.out HBT12.out.size)
  have HSL := Lib.hid (HD.out.small HBT.out (Nat.le_refl _) (by decide) (fun k hk => ⟨[.slice (some ⟨b, off, none⟩) l.length c, .int .i64 (at' : Int), .bool ok], 63, by have e : k = g := hk; subst e; exact HRD.out.box, by show 3 < 32; omega⟩))
  have HLST := Lib.hid (fun (h : ok = true) (y : RefD) (r : List UInt8) (hp : pRef deps (l.drop at') = some (y, r)) => (show n ≤ deps.length ∧ y = (if n = 0 then zero32 else deps.getD (n - 1) zero32, (k : Int)) ∧ r = l.drop a2 ∧ ok2 = true from by
    unfold pRef at hp
    obtain ⟨m, s, h1, h2⟩ := pBind_some hp
    obtain ⟨rfl, rfl, ho1⟩ := HP1.out h m s h1
    unfold pNeed at h2
    split at h2
    · rename_i hd
      obtain ⟨m2, s2, h3, h4⟩ := pBind_some h2
      obtain ⟨rfl, rfl, ho2⟩ := HP2.out ho1 m2 s2 h3
      unfold pRet at h4
      cases h4
      exact ⟨by simpa using hd, rfl, rfl, ho2⟩
    · cases h2))
  by_cases hbig : deps.length < n
  · have d1 : decide ((deps.length : Int) < (n : Int)) = true := decide_eq_true (by omega)
    have c2 : W2.cell? ⟨g, 2, none⟩ = some (.bool ok2) := cells_at0 HRD2.out.box 2
    have f2 := HRD2.out.frozen 2
    obtain ⟨hm1, hm2⟩ := HRD2.out.say false
    have HM1 := Lib.hid hm1; have HM2 := Lib.hid hm2
    clear hm1 hm2
    go_upto_region 5 with fail
    obtain ⟨W3, hW3⟩ : ∃ u, W2.setCell ⟨g, 2, none⟩ (.bool false) = u := ⟨_, rfl⟩
    rw [hW3] at HM1 HM2 ⊢
    clear hW3
    have HZ3 := Lib.hid ((HM2.out.block z4 HL2.out (by have h9 := HGZ.out; omega)).trans HZ2.out)
    go_wp2_with (first
      | (with_reducible refine at_build ?_
         refine wp_val (by rfl) (ex_build 68 #[] rfl (zeroRef_built _)) ?_)
      | (with_reducible refine at_store ?_
         refine wp_storeM (by rfl) 68 _ _ rfl z4 0 [] (refV zeroRef) [] (refV zeroRef) 68 _ rfl rfl rfl rfl (by simpa using HZ3.out) (by rw [refV_length zeroRef_ok]; try rfl) (by rw [refV_length zeroRef_ok]; exact sizeRef33) (refV_one _) ?_
         intro W9 hb9 hz9 hs9
         have HB9 := Lib.hid hb9
         have HZ9 : Hid (W9.heap[z4]? = some (.cells (refV zeroRef).toArray 68 (0, 0))) := Lib.hid (by simpa using hz9)
         clear hb9 hz9 hs9))
    refine bodyPost_ret (results_one Tryz.results61 _ _ rfl (run_loadVar_mid _ z4 0 68 (refV zeroRef) _ (fun j u hj => by rw [Nat.zero_add]; exact (cells_at0 HZ9.out j).trans hj) Tryz.underlying68 rfl (by rw [refV_length zeroRef_ok]; exact sizeRef33))) rfl ?_
    refine ⟨zeroRef, _, a2, false, rfl, ⟨rfl, zeroRef_ok⟩, HM1.out.but HB9.out (fun k hk e => by have h9 := HGZ.out; omega), (HBT.out.trans HM2.out fun _ _ q => q).trans HB9.out (fun k hk e => by have h9 := HWZ.out; omega), fun h y r hp => ?_⟩
    have h1 := (HLST.out h y r hp).1
    omega
  · have d1 : decide ((deps.length : Int) < (n : Int)) = false := decide_eq_false (by omega)
    by_cases h0 : n = 0
    · have d2 : ((n : Int) == 0) = true := by rw [h0]; rfl
      have HRO := Lib.hid (show RefOk (zero32, ((k : Nat) : Int)) from ⟨zero32_ok, wf_nat8 hn2⟩)
      have HVAL := Lib.hid (show (zero32, ((k : Nat) : Int)) = ((if n = 0 then zero32 else deps.getD (n - 1) zero32, (k : Int)) : RefD) by rw [if_pos h0])
      clear h0
      go_wp2_with (first
        | (with_reducible refine at_build ?_
           refine wp_val (by rfl) (ex_build 68 _ rfl (refI_built k _)) ?_)
        | (with_reducible refine at_store ?_
           refine wp_storeM (by rfl) 68 _ _ rfl z4 0 [] (refV zeroRef) [] (refV (zero32, ((k : Nat) : Int))) 68 _ rfl rfl rfl rfl (by simpa using HZ2.out) (by rw [refV_length HRO.out]; try rfl) (by rw [refV_length HRO.out]; exact sizeRef33) (refV_one _) ?_
           intro W9 hb9 hz9 hs9
           have HB9 := Lib.hid hb9
           have HZ9 : Hid (W9.heap[z4]? = some (.cells (refV (zero32, ((k : Nat) : Int))).toArray 68 (0, 0))) := Lib.hid (by simpa using hz9)
           clear hb9 hz9 hs9))
      refine bodyPost_ret (results_one Tryz.results61 _ _ rfl (run_loadVar_mid _ z4 0 68 (refV (zero32, ((k : Nat) : Int))) _ (fun j u hj => by rw [Nat.zero_add]; exact (cells_at0 HZ9.out j).trans hj) Tryz.underlying68 rfl (by rw [refV_length HRO.out]; exact sizeRef33))) rfl ?_
      exact ⟨(zero32, ((k : Nat) : Int)), _, a2, ok2, rfl, ⟨rfl, HRO.out⟩, HRD2.out.but HB9.out (fun k hk e => by have h9 := HGZ.out; omega), HBT.out.trans HB9.out (fun k hk e => by have h9 := HWZ.out; omega), fun h y r hp => by
        obtain ⟨h1, h2, h3, h4⟩ := HLST.out h y r hp
        exact ⟨by rw [h2, HVAL.out], h3, h4⟩⟩
    · have d2 : ((n : Int) == 0) = false := by rw [beq_eq_false_iff_ne]; omega
      have hn1 : n - 1 < deps.length := by omega
      obtain ⟨bd, od, rfl, hbl, hcl⟩ := HSL.out.2 (by omega)
      have hrow := Sl.id (B := 0) HO.out hcl (i := n - 1) hn1
      obtain ⟨x, hx⟩ : ∃ x, deps[n - 1] = x := ⟨_, rfl⟩
      have HX := Lib.hid (show IdOk x by rw [← hx]; exact HO.out _ (List.getElem_mem hn1))
      rw [hx] at hrow
      have HROW := Lib.hid hrow
      have HRO := Lib.hid (show RefOk (x, ((k : Nat) : Int)) from ⟨HX.out, wf_nat8 hn2⟩)
      have HVAL := Lib.hid (show (x, ((k : Nat) : Int)) = ((if n = 0 then zero32 else deps.getD (n - 1) zero32, (k : Int)) : RefD) by rw [if_neg h0, ← hx, List.getD_eq_getElem?_getD, List.getElem?_eq_getElem hn1]; rfl)
      have e1 : IntKind.i64.wrap ((n : Int) - 1) = ((n - 1 : Nat) : Int) := by rw [IntWalk.i64_in _ ⟨by omega, by omega⟩]; omega
      have e2 : ((n - 1 : Nat) : Int) < (deps.length : Int) := by omega
      have e3 : (0 : Int) ≤ ((n - 1 : Nat) : Int) := by omega
      clear hx hrow hcl
      go_wp2_with (first
        | (with_reducible refine at_load ?_
           refine wp_loadN rfl 47 _ rfl bd _ rfl (idV x) _ HROW.out Tryz.underlying47 rfl (by rw [idV_length, show x.length = 32 from HX.out]; exact sizeId2) ?_)
        | (with_reducible refine at_build ?_
           refine wp_val (by rfl) (ex_build 68 #[(0, .tmp 27), (1, .tmp 28)] rfl (by simp only [List.map_toArray, List.map_cons, List.map_nil]; exact refB_built HX.out k _)) ?_)
        | (with_reducible refine at_store ?_
           refine wp_storeM (by rfl) 68 _ _ rfl z4 0 [] (refV zeroRef) [] (refV (x, ((k : Nat) : Int))) 68 _ rfl rfl rfl rfl (by simpa using HZ2.out) (by rw [refV_length HRO.out]; try rfl) (by rw [refV_length HRO.out]; exact sizeRef33) (refV_one _) ?_
           intro W9 hb9 hz9 hs9
           have HB9 := Lib.hid hb9
           have HZ9 : Hid (W9.heap[z4]? = some (.cells (refV (x, ((k : Nat) : Int))).toArray 68 (0, 0))) := Lib.hid (by simpa using hz9)
           clear hb9 hz9 hs9))
      refine bodyPost_ret (results_one Tryz.results61 _ _ rfl (run_loadVar_mid _ z4 0 68 (refV (x, ((k : Nat) : Int))) _ (fun j u hj => by rw [Nat.zero_add]; exact (cells_at0 HZ9.out j).trans hj) Tryz.underlying68 rfl (by rw [refV_length HRO.out]; exact sizeRef33))) rfl ?_
      exact ⟨(x, ((k : Nat) : Int)), _, a2, ok2, rfl, ⟨rfl, HRO.out⟩, HRD2.out.but HB9.out (fun k hk e => by have h9 := HGZ.out; omega), HBT.out.trans HB9.out (fun k hk e => by have h9 := HWZ.out; omega), fun h y r hp => by
        obtain ⟨h1, h2, h3, h4⟩ := HLST.out h y r hp
        exact ⟨by rw [h2, HVAL.out], h3, h4⟩⟩
end Go.Proofs.YthjaepmfkgejkaaGreatDoor
