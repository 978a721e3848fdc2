/-
  What utf.Count and object.Size give. Conditions: texts that lie in memory.
-/
import Derived.Test.YthjaepmfkgejkaaGreatDoorObjReadOp
import Derived.Test.YthjaepmfkgejkaaGreatDoorRight08S
import Derived.Test.YthjaepmfkgejkaaGreatDoorPathWalks
namespace Go.Proofs.YthjaepmfkgejkaaGreatDoor
open Go.RowKit Go.Maps
set_option linter.unusedVariables false
set_option linter.unusedSimpArgs false

/-- How many runes utf.Count tells. -/
def cntN (s : ByteArray) : Nat := if isText s = true then runesN s else 0
def szOp (x : OpD) : Nat := if x.1 = 3 then 1 else if x.1 = 1 then cntN x.2.2.2.1 else 0
def szL (l : List OpD) : Nat := (l.map szOp).sum
theorem szL_next {l : List OpD} {i : Nat} (h : i < l.length) : szL (l.take (i + 1)) = szL (l.take i) + szOp l[i] := by
  unfold szL
  rw [List.take_succ_eq_append_getElem h, List.map_append, List.sum_append]
  simp
set_option maxHeartbeats 4000000 in
set_option maxRecDepth 100000 in
theorem count_any (s : ByteArray) (w : World) (hs : s.size ≤ maxLen) :
    Calls Tryz.prog 44 #[.string s] w fun e w' => Below w.heap.size w w' ∧ ∃ er : Int, e = .returned (.tuple #[.int .i64 ((cntN s : Nat) : Int), .int .i64 er]) := by
  rcases Bool.eq_false_or_eq_true (isText s) with ht | ht
  · have HCK : Hid (∀ u : World, Calls Tryz.prog 82 #[.string s] u fun e w' => u = w' ∧ e = .returned (.tuple #[.int .i64 0, .int .i64 0])) := Lib.hid (fun u => (check_any s u hs).mono fun e w' ⟨h1, h2⟩ => by
      rcases h2 with ⟨_, h⟩ | ⟨h, _⟩
      · exact ⟨h1, h⟩
      · rw [ht] at h; cases h)
    have HCN : Hid (cntN s = runesN s) := Lib.hid (by unfold cntN; rw [if_pos ht])
    have HOK0 := Lib.hid (show okFrom s 0 from ht)
    have hrn := runesN_le s
    have hmx : s.size ≤ 9223372036854775807 := by unfold maxLen at hs; omega
    obtain ⟨zi, hzi⟩ : ∃ zi, w.heap.size = zi := ⟨_, rfl⟩
    have HZI := Lib.hid hzi
    clear ht hzi
    go_enter Tryz.func44, Tryz.ntmps44
    go_upto_region 6 with (first
      | (go_at_call 82; refine (HCK.out _).mono ?_; rintro e u ⟨rfl, rfl⟩))
    go_loopw [6] (fun t6 wr => ∃ pos i : Nat, pos ≤ s.size ∧ t6 = .int .i64 (i : Int) ∧ Hid (wr.heap[zi]? = some (.stringIter s pos)) ∧ Hid (okFrom s pos) ∧ i + runesFrom s pos = runesN s ∧ Hid (Below w.heap.size w wr)) (fun _ wr => s.size - wr.iterPos zi)
    case atStart =>
      exact ⟨0, 0, by omega, rfl, Lib.hid (by rw [← HZI.out]; simpa using World.iter_heap w s 0), HOK0, by rw [runesFrom_zero]; omega, Lib.hid ((Below.refl _ _).alloc (Nat.le_refl _) _)⟩
    case round =>
      obtain ⟨pos, i, hpos, rfl, HIT, HOK, hcnt, HBR⟩ := hrel
      by_cases hlt : pos < s.size
      · have hnx : ∀ ty, (Instr.next (.pointer (some ⟨w.heap.size, 0, none⟩)) true ty).run Tryz.prog wr = _ := fun ty => (congrArg (fun z => (Instr.next (.pointer (some ⟨z, 0, none⟩)) true ty).run Tryz.prog wr) HZI.out).trans (Lib.run_next_any_at wr zi s pos ty HIT.out hlt)
        have hin := dec_in hlt
        obtain ⟨ho, hnk⟩ := HOK.out.at_ hlt
        have hcn := runesFrom_next hlt ho hnk
        have HOK2 := Lib.hid hnk
        have HIT2 := Lib.hid (Lib.iterAt_heap wr zi s pos (pos + (Utf8.decode s pos).2) HIT.out)
        have HBR2 := Lib.hid (Lib.below_iterAt HBR.out (by rw [HZI.out]; exact Nat.le_refl _) s (pos + (Utf8.decode s pos).2))
        clear ho hnk
        generalize hW2 : wr.iterAt zi s (pos + (Utf8.decode s pos).2) = W2 at *
        clear hW2
        go_wp2_with fail
        go_roundw
        case rel => exact ⟨pos + (Utf8.decode s pos).2, i + 1, by omega, by go_num, HIT2, HOK2, by omega, HBR2⟩
        case measure =>
          simp only [World.iterPos, HIT2.out, HIT.out]
          omega
      · have hnx : ∀ ty, (Instr.next (.pointer (some ⟨w.heap.size, 0, none⟩)) true ty).run Tryz.prog wr = _ := fun ty => (congrArg (fun z => (Instr.next (.pointer (some ⟨z, 0, none⟩)) true ty).run Tryz.prog wr) HZI.out).trans (Lib.run_next_end_at wr zi s pos ty HIT.out hlt)
        have hi : i = runesN s := by rw [runesFrom_end (by omega)] at hcnt; omega
        have HI := Lib.hid hi
        clear hi hcnt
        go_wp2_with fail
        go_ret2
        exact ⟨HBR.out, 0, by rw [HCN.out, ← HI.out]; rfl⟩
  · have HCK : Hid (∀ u : World, Calls Tryz.prog 82 #[.string s] u fun e w' => u = w' ∧ ∃ n : Int, e = .returned (.tuple #[.int .i64 n, .int .i64 5])) := Lib.hid (fun u => (check_any s u hs).mono fun e w' ⟨h1, h2⟩ => by
      rcases h2 with ⟨h, _⟩ | ⟨_, h⟩
      · rw [ht] at h; cases h
      · exact ⟨h1, h⟩)
    have HCN : Hid (cntN s = 0) := Lib.hid (by unfold cntN; rw [if_neg (by rw [ht]; decide)])
    clear ht
    go_enter Tryz.func44, Tryz.ntmps44
    go_wp2_with (first
      | (go_at_call 82; refine (HCK.out _).mono ?_; rintro e u ⟨rfl, n, rfl⟩))
    go_ret2
    exact ⟨Below.refl _ _, 5, by rw [HCN.out]; rfl⟩
theorem szL_le (l : List OpD) (i : Nat) : szL (l.take i) ≤ szL l := by
  have h : szL l = szL (l.take i) + szL (l.drop i) := by
    unfold szL
    rw [← List.sum_append, ← List.map_append, List.take_append_drop]
  omega
set_option maxHeartbeats 4000000 in
set_option maxRecDepth 100000 in
theorem size_any (c : ChangeD) (v : Value) (w : World) (h : ChIn w w.heap.size v c) (hl : c.2.2.2.length ≤ 1099511627776) (hz : szL c.2.2.2 ≤ 4611686018427387904) :
    Calls Tryz.prog 18 #[v] w fun e w' => Below w.heap.size w w' ∧ e = .returned (.int .i64 ((szL c.2.2.2 : Nat) : Int)) := by
  obtain ⟨ok, hop, ha, Ad, cd, Ao, co, rfl, sd, so⟩ := h
  obtain ⟨n, ds, au, os⟩ := c
  dsimp only at *
  have HSO := Lib.hid so; have HOP := Lib.hid hop
  clear ok hop ha sd so
  go_enter Tryz.func18, Tryz.ntmps18
  go_upto_region 1 with (first
    | (with_reducible refine at_box ?_
       refine wp_boxM (by rfl) 26 _ rfl [.int .i64 n, .slice Ad ds.length cd, .string au, .slice Ao os.length co] _ rfl rfl (by kernel_rfl) ?_
       intro W0 hb0 hy0 hs0
       have HB0 := Lib.hid hb0; have HY0 := Lib.hid hy0
       clear hb0 hy0 hs0))
  have hx0 := (Array.getElem?_eq_some_iff.1 HY0.out).1
  have c3 : W0.cell? ⟨w.heap.size, 3, none⟩ = some (.slice Ao os.length co) := cells_at0 HY0.out 3
  try simp only [Act.put, List.setIfInBounds_toArray, List.set_cons_zero, List.set_cons_succ]
  clear hx0 HY0
  go_wp2_with fail
  go_loopw [3, 11] (fun t3 t11 wr => ∃ i : Nat, i ≤ os.length ∧ t11 = .int .i64 (i : Int) ∧ t3 = .int .i64 ((szL (os.take i) : Nat) : Int) ∧ Hid (Below w.heap.size w wr)) (fun _ t _ => os.length - (intOf t).toNat)
  case atStart => exact ⟨0, Nat.zero_le _, rfl, rfl, HB0⟩
  case round =>
    obtain ⟨i, hi, rfl, rfl, HBR⟩ := hrel
    by_cases hlt : i < os.length
    · obtain ⟨b, off, rfl, hbl, hcl⟩ := (HSO.out.keep HBR.out).2 (by omega)
      have i0 : (0 : Int) ≤ (i : Int) := by omega
      have i1 : (i : Int) < (os.length : Int) := by omega
      have HROW := Lib.hid (Sl.row (fun x hx => opV_length (HOP.out x hx)) hcl hlt)
      have HX := Lib.hid (HOP.out _ (List.getElem_mem hlt))
      have HNX := Lib.hid (szL_next hlt)
      have hle := szL_le os i
      have hle2 := szL_le os (i + 1)
      clear hcl hbl
      generalize os[i] = x at *
      generalize szL (os.take i) = q at *
      have HOC := Lib.hid (op_cells HX.out)
      by_cases hk : x.1 = 3
      · have e3 : ((x.1.toNat : Int) == 3) = true := by rw [hk]; rfl
        have HZN : Hid (szOp x = 1) := Lib.hid (by unfold szOp; rw [if_pos hk])
        have hzn := HZN.out
        have hnx := HNX.out
        clear hk
        go_upto_region 5 with (first
          | (with_reducible refine at_load ?_
             refine wp_loadN rfl 70 _ rfl b _ rfl (opV x) _ HROW.out Tryz.underlying70 rfl (by rw [opV_length HX.out]; exact sizeOp70) ?_)
          | (with_reducible refine at_alloc ?_
             refine wp_allocM (by rfl) 70 rfl (opV zeroOp) (zeroOp_run _) ?_
             intro Wa hba hya hsa
             have HBa := Lib.hid hba; have HYa := Lib.hid hya; have HSa := Lib.hid hsa
             clear hba hya hsa)
          | (with_reducible refine at_store ?_
             refine wp_storeM (by rfl) 70 _ _ rfl wr.heap.size 0 [] (opV zeroOp) [] (opV x) 70 _ rfl rfl rfl rfl (by simpa using HYa.out) (by rw [opV_length HX.out]; exact opV_length (zeroOp_in 0)) (by rw [opV_length HX.out]; exact sizeOp70) (opV_one _) ?_
             intro Wb hbb hyb hsb
             have HBb := Lib.hid (HBa.out.trans (hbb.below (by have := HSa.out; omega) (fun k hk e => by omega)))
             have HYb : Hid (Wb.heap[wr.heap.size]? = some (.cells (opV x).toArray 70 (0, 0))) := Lib.hid (by simpa using hyb)
             clear hbb hyb hsb))
        have ck : Wb.cell? ⟨wr.heap.size, 0, none⟩ = some (.int .u8 (x.1.toNat : Int)) := (cells_at0 HYb.out 0).trans rfl
        have ct : Wb.cell? ⟨wr.heap.size, 3 + 64, none⟩ = some (.string x.2.2.2.1) := (cells_at0 HYb.out 67).trans HOC.out.2.2.2.1
        rw [hzn] at hnx
        clear hzn
        go_wp2_with fail
        go_roundw
        case rel => exact ⟨i + 1, by omega, by go_num, by rw [hnx]; go_num, Lib.hid (HBR.out.trans (HBb.out.mono HBR.out.size))⟩
        case measure => (simp [intOf]) <;> omega
      · have hk3 := hk
        clear hk
        by_cases hk : x.1 = 1
        · clear hk3
          have e3 : ((x.1.toNat : Int) == 3) = false := by rw [hk]; rfl
          have e1 : ((x.1.toNat : Int) == 1) = true := by rw [hk]; rfl
          have HZN : Hid (szOp x = cntN x.2.2.2.1) := Lib.hid (by unfold szOp; rw [if_neg (by rw [hk]; decide), if_pos hk])
          have hzn := HZN.out
          have hnx := HNX.out
          clear hk
          go_upto_region 5 with (first
            | (with_reducible refine at_load ?_
               refine wp_loadN rfl 70 _ rfl b _ rfl (opV x) _ HROW.out Tryz.underlying70 rfl (by rw [opV_length HX.out]; exact sizeOp70) ?_)
            | (with_reducible refine at_alloc ?_
               refine wp_allocM (by rfl) 70 rfl (opV zeroOp) (zeroOp_run _) ?_
               intro Wa hba hya hsa
               have HBa := Lib.hid hba; have HYa := Lib.hid hya; have HSa := Lib.hid hsa
               clear hba hya hsa)
            | (with_reducible refine at_store ?_
               refine wp_storeM (by rfl) 70 _ _ rfl wr.heap.size 0 [] (opV zeroOp) [] (opV x) 70 _ rfl rfl rfl rfl (by simpa using HYa.out) (by rw [opV_length HX.out]; exact opV_length (zeroOp_in 0)) (by rw [opV_length HX.out]; exact sizeOp70) (opV_one _) ?_
               intro Wb hbb hyb hsb
               have HBb := Lib.hid (HBa.out.trans (hbb.below (by have := HSa.out; omega) (fun k hk e => by omega)))
               have HYb : Hid (Wb.heap[wr.heap.size]? = some (.cells (opV x).toArray 70 (0, 0))) := Lib.hid (by simpa using hyb)
               clear hbb hyb hsb))
          have ck : Wb.cell? ⟨wr.heap.size, 0, none⟩ = some (.int .u8 (x.1.toNat : Int)) := (cells_at0 HYb.out 0).trans rfl
          have ct : Wb.cell? ⟨wr.heap.size, 3 + 64, none⟩ = some (.string x.2.2.2.1) := (cells_at0 HYb.out 67).trans HOC.out.2.2.2.1
          rw [hzn] at hnx
          clear hzn
          go_wp2_with (first
            | (go_at_call 44; refine (count_any x.2.2.2.1 Wb HX.out.2.1).mono ?_; rintro e W9 ⟨hb9, er, rfl⟩
               have HB9 := Lib.hid hb9
               clear hb9))
          go_roundw
          case rel => exact ⟨i + 1, by omega, by go_num, by rw [hnx]; go_num, Lib.hid (HBR.out.trans ((HBb.out.trans (HB9.out.mono HBb.out.size)).mono HBR.out.size))⟩
          case measure => (simp [intOf]) <;> omega
        · have hk1 := hk
          clear hk
          have e3 : ((x.1.toNat : Int) == 3) = false := by rw [beq_eq_false_iff_ne]; intro h; exact hk3 (by apply UInt8.toNat_inj.1; show x.1.toNat = 3; omega)
          have e1 : ((x.1.toNat : Int) == 1) = false := by rw [beq_eq_false_iff_ne]; intro h; exact hk1 (by apply UInt8.toNat_inj.1; show x.1.toNat = 1; omega)
          have HZN : Hid (szOp x = 0) := Lib.hid (by unfold szOp; rw [if_neg hk3, if_neg hk1])
          have hzn := HZN.out
          have hnx := HNX.out
          clear hk3 hk1
          go_upto_region 5 with (first
            | (with_reducible refine at_load ?_
               refine wp_loadN rfl 70 _ rfl b _ rfl (opV x) _ HROW.out Tryz.underlying70 rfl (by rw [opV_length HX.out]; exact sizeOp70) ?_)
            | (with_reducible refine at_alloc ?_
               refine wp_allocM (by rfl) 70 rfl (opV zeroOp) (zeroOp_run _) ?_
               intro Wa hba hya hsa
               have HBa := Lib.hid hba; have HYa := Lib.hid hya; have HSa := Lib.hid hsa
               clear hba hya hsa)
            | (with_reducible refine at_store ?_
               refine wp_storeM (by rfl) 70 _ _ rfl wr.heap.size 0 [] (opV zeroOp) [] (opV x) 70 _ rfl rfl rfl rfl (by simpa using HYa.out) (by rw [opV_length HX.out]; exact opV_length (zeroOp_in 0)) (by rw [opV_length HX.out]; exact sizeOp70) (opV_one _) ?_
               intro Wb hbb hyb hsb
               have HBb := Lib.hid (HBa.out.trans (hbb.below (by have := HSa.out; omega) (fun k hk e => by omega)))
               have HYb : Hid (Wb.heap[wr.heap.size]? = some (.cells (opV x).toArray 70 (0, 0))) := Lib.hid (by simpa using hyb)
               clear hbb hyb hsb))
          have ck : Wb.cell? ⟨wr.heap.size, 0, none⟩ = some (.int .u8 (x.1.toNat : Int)) := (cells_at0 HYb.out 0).trans rfl
          have ct : Wb.cell? ⟨wr.heap.size, 3 + 64, none⟩ = some (.string x.2.2.2.1) := (cells_at0 HYb.out 67).trans HOC.out.2.2.2.1
          rw [hzn] at hnx
          clear hzn
          go_wp2_with fail
          go_roundw
          case rel => exact ⟨i + 1, by omega, by go_num, by rw [hnx]; go_num, Lib.hid (HBR.out.trans (HBb.out.mono HBR.out.size))⟩
          case measure => (simp [intOf]) <;> omega
    · have i1 : ¬ (i : Int) < (os.length : Int) := by omega
      have hie : os.take i = os := List.take_of_length_le (by omega)
      rw [hie]
      go_wp2_with fail
      go_ret
      exact ⟨HBR.out, rfl⟩
end Go.Proofs.YthjaepmfkgejkaaGreatDoor
