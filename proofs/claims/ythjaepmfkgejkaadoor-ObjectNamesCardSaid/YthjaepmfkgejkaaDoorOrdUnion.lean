/-
  What order.Sort, Set and Union give for ids. Conditions: ids of 32 bytes; at most 2^40 of them.
-/
import Derived.Test.YthjaepmfkgejkaaDoorOrdMerge
import Derived.Test.YthjaepmfkgejkaaDoorObjSame
import Derived.Test.YthjaepmfkgejkaaDoorObjCap
namespace Go.Proofs.YthjaepmfkgejkaaDoor
open Go.RowKit Go.Maps
set_option linter.unusedVariables false
set_option linter.unusedSimpArgs false

set_option maxHeartbeats 4000000 in
set_option maxRecDepth 100000 in
theorem sort_any (l : List (List UInt8)) (A : Option Addr) (c : Nat) (w : World) (hn : l.length ≤ 1099511627776) (hc : l.length ≤ c) (ho : IdsOk l) (hs : Sl w w.heap.size A l.length 32 (idsV l)) :
    Calls Tryd.prog 63 #[.slice A l.length c] w (MergeGives l w) := by
  have HO := Lib.hid ho; have HS := Lib.hid hs
  clear ho hs
  go_enter Tryd.func63, Tryd.ntmps63
  go_wp2_with (first
    | (go_at_call 94; refine (merge_any l.length l A c w (Nat.le_refl _) hn hc HO.out HS.out).mono ?_; rintro e w1 ⟨hb1, l', A', c', rfl, hs1, hc1, hso1, hp1⟩
       have HB1 := Lib.hid hb1; have HS1 := Lib.hid hs1; have HC1 := Lib.hid hc1; have HSO := Lib.hid hso1; have HP := Lib.hid hp1
       clear hb1 hs1 hc1 hso1 hp1))
  go_ret
  exact ⟨HB1.out, l', A', c', rfl, HS1.out, HC1.out, HSO.out, HP.out⟩
/-- What a list as a set is: a set of the same ids. -/
def SetGives (l : List (List UInt8)) (w : World) (e : Ending) (w' : World) : Prop :=
  Below w.heap.size w w' ∧ ∃ (l' : List (List UInt8)) (A : Option Addr) (c : Nat), e = .returned (.slice A l'.length c) ∧ Sl w' w'.heap.size A l'.length 32 (idsV l') ∧ l'.length ≤ c ∧ isSetB l' = true ∧ ∀ x, x ∈ l' ↔ x ∈ l
/-- Where striking out stands. -/
structure DdAt (w1 : World) (s out : List (List UInt8)) (k : Nat) (Ao : Option Addr) (no co : Nat) (w : World) : Prop where
  dd : Dd s out k
  bel : Below w1.heap.size w1 w
  eno : out.length = no
  own : w.ownsRow w1.heap.size 45 32 (.slice Ao no co) no (idsV out)
  oko : IdsOk out
  len : no ≤ k
theorem DdAt.on {w1 w w2 : World} {s out : List (List UInt8)} {k : Nat} {Ao : Option Addr} {no co : Nat} (h : DdAt w1 s out k Ao no co w) (hb : Below w.heap.size w w2) : DdAt w1 s out k Ao no co w2 :=
  ⟨h.dd, h.bel.trans (hb.mono h.bel.size), h.eno, (But.of_below (X := NoB) hb).own h.own (fun _ _ q => q), h.oko, h.len⟩
set_option maxHeartbeats 4000000 in
set_option maxRecDepth 100000 in
theorem set_any (l : List (List UInt8)) (A : Option Addr) (c : Nat) (w : World) (hn : l.length ≤ 1099511627776) (hc : l.length ≤ c) (ho : IdsOk l) (hs : Sl w w.heap.size A l.length 32 (idsV l)) :
    Calls Tryd.prog 31 #[.slice A l.length c] w (SetGives l w) := by
  have HO := Lib.hid ho; have HS := Lib.hid hs
  clear ho hs
  go_enter Tryd.func31, Tryd.ntmps31
  go_wp2_with (first
    | (go_at_call 63; refine (sort_any l A c w hn hc HO.out HS.out).mono ?_; rintro e w1 ⟨hb1, s, A', c', rfl, hs1, hc1, hso1, hp1⟩
       have HB1 := Lib.hid hb1; have HSS := Lib.hid hs1; have HSO := Lib.hid hso1; have HP := Lib.hid hp1
       clear hb1 hs1 hc1 hso1 hp1))
  have hsn : s.length ≤ 1099511627776 := by rw [HP.out.length_eq]; exact hn
  have HOS := Lib.hid (HO.out.sub (a := s) fun i hi => HP.out.mem_iff.1 hi)
  go_loopw [3, 9] (fun t3 t9 wr => ∃ (k : Nat) (out : List (List UInt8)) (Ao : Option Addr) (no co : Nat), k ≤ s.length ∧ t9 = .int .i64 (k : Int) ∧ t3 = .slice Ao no co ∧ Hid (DdAt w1 s out k Ao no co wr)) (fun _ t9 _ => s.length - (intOf t9).toNat)
  case atStart => exact ⟨0, [], none, 0, 0, Nat.zero_le _, rfl, rfl, Lib.hid ⟨Dd.start _, Below.refl _ _, rfl, World.ownsRow_nil _ _ _ _, fun i hi => absurd hi (by simp), Nat.le_refl _⟩⟩
  case round =>
    obtain ⟨k, out, Ao, no, co, hk, rfl, rfl, HAT⟩ := hrel
    by_cases hlt : k < s.length
    · have hlen0 := HAT.out.len
      obtain ⟨b, off, rfl, hbl, hcl⟩ := (HSS.out.keep HAT.out.bel).2 (by omega)
      have i0 : (0 : Int) ≤ (k : Int) := by omega
      have i1 : (k : Int) < (s.length : Int) := by omega
      have HROW := Lib.hid (Sl.id (B := 0) HOS.out hcl (i := k) hlt)
      have HX := Lib.hid (show IdOk s[k] from HOS.out _ (List.getElem_mem hlt))
      have HXE := Lib.hid (show ∃ y, y = s[k] from ⟨_, rfl⟩)
      clear hcl hbl
      obtain ⟨x, hx⟩ : ∃ y, s[k] = y := ⟨_, rfl⟩
      rw [hx] at HROW HX
      have HXK := Lib.hid hx
      clear hx HXE
      go_upto_region 5 with (first
        | (with_reducible refine at_load ?_
           refine wp_loadN rfl 45 _ rfl b _ rfl (idV x) _ HROW.out Tryd.underlying45 rfl (by rw [idV_length, show x.length = 32 from HX.out]; exact sizeId2) ?_)
        | (with_reducible refine at_alloc ?_
           refine wp_allocM (by rfl) 45 rfl (idV zero32) (zeroId_run _) ?_
           intro Wa hba hya hsa
           have HBa := Lib.hid hba; have HYa := Lib.hid hya; have HSa := Lib.hid hsa
           clear hba hya hsa)
        | (with_reducible refine at_store ?_
           refine wp_storeM (by rfl) 45 _ _ rfl wr.heap.size 0 [] (idV zero32) [] (idV x) 45 _ rfl rfl rfl rfl (by simpa using HYa.out) (by rw [idV_length, idV_length, show x.length = 32 from HX.out]; rfl) (by rw [idV_length, show x.length = 32 from HX.out]; exact sizeId2) (idV_one _) ?_
           intro Wb hbb hyb hsb
           have HBb := Lib.hid (HBa.out.trans (hbb.below (by have := HSa.out; omega) (fun k hk e => by omega)))
           have HYb : Hid (Wb.heap[wr.heap.size]? = some (.cells (idV x).toArray 45 (0, 0))) := Lib.hid (by simpa using hyb)
           have HLb := Lib.hid (show wr.heap.size < Wb.heap.size by have := HSa.out; omega)
           clear hbb hyb hsb))
      obtain ⟨zb, hzb⟩ : ∃ z, wr.heap.size = z := ⟨_, rfl⟩
      have HAT2 := Lib.hid (HAT.out.on (HBb.out.mono (Nat.le_refl _)))
      have HZB0 := Lib.hid (show ∀ u : World, Below Wb.heap.size Wb u → u.rangeAt wr.heap.size 0 (idV x) from fun u hu j v hj => by rw [Nat.zero_add]; exact ((hu.cell (p := ⟨wr.heap.size, j, none⟩) HLb.out).trans (cells_at0 HYb.out j)).trans hj)
      rw [hzb] at HZB0 ⊢
      try simp only [Act.put, List.setIfInBounds_toArray, List.set_cons_zero, List.set_cons_succ]
      clear HAT HBa HYa HSa HBb HYb HLb hzb HROW
      by_cases h0 : no = 0
      · have HE : Hid (out = []) := Lib.hid (List.length_eq_zero_iff.1 (by rw [HAT2.out.eno]; exact h0))
        have HADD : Hid (Dd s (out ++ [x]) (k + 1)) := Lib.hid (by
          rw [← HXK.out]
          exact HAT2.out.dd.add HSO.out hlt fun hp => by rw [HE.out] at hp; exact absurd hp (by simp))
        have e0 : ((no : Int) == 0) = true := by simp [h0]
        clear h0
        go_wp2_with fail
        refine wp_region_wd (base := Wb.heap.size) Wb (Below.refl _ _) (by kernel_rfl) (by kernel_rfl) ?_
        repeat (first
          | go_big_quiet_skip
          | (go_big_quiet_want
             (go_big_quiet_op
              go_big_quiet_on)))
        refine wpQuiet_nil ?_
        rintro w' ⟨kk, rfl⟩
        have hk9 := kk.2
        generalize kk.val = w9 at *
        clear kk
        have HAT3 := Lib.hid (HAT2.out.on hk9)
        have HZB := Lib.hid (fun (u : World) (hu : Below w9.heap.size w9 u) => HZB0.out u (hk9.trans (hu.mono hk9.size)))
        clear hk9 HAT2 HZB0
        go_upto_region 6 with fail
        obtain ⟨w8, hw8⟩ : ∃ u : World, u = w9 := ⟨_, rfl⟩
        subst hw8
        obtain ⟨w3, hw3⟩ : ∃ u : World, u = w8 := ⟨_, rfl⟩
        subst hw3
        have HGW := Lib.hid (show w1.heap.size ≤ w3.heap.size from HAT3.out.bel.size)
        have HRF := Lib.hid (Below.refl w1.heap.size w3)
        have HZC := Lib.hid (HZB.out w3 (Below.refl _ _))
        have hlen := HAT3.out.len
        go_wp2_with (first
          | (with_reducible refine at_load ?_
             refine wp_loadN rfl 45 _ rfl zb 0 rfl (idV x) _ HZC.out Tryd.underlying45 rfl (by rw [idV_length, show x.length = 32 from HX.out]; exact sizeId2) ?_)
          | (refine wp_buildSlice1 (by rfl) 22 _ rfl 45 Tryd.underlying22 (.agg (idV zero32).toArray) 32 32 infoId rfl (by decide) (by decide) (idV x) (by rw [idV_length]; exact HX.out) rfl ?_)
          | (at_builtin; refine wp_appN rfl _ _ 22 rfl w1.heap.size 45 (.agg (idV zero32).toArray) 32 32 Tryd.underlying22 infoId rfl (by decide) (.slice Ao no co) no (idsV out) rfl HAT3.out.own (idV x) 45 (by rw [idV_length]; exact HX.out) rfl (idV_one _) (by unfold maxLen; omega) (by omega) HGW.out ?_
             intro v9 w9 ho9 hgr9
             obtain ⟨A9, c9, rfl⟩ := own_form' ho9
             have HB9 := Lib.hid (hgr9 _ _ (Nat.le_refl _) HRF.out)
             have HO9 := Lib.hid ho9
             clear ho9 hgr9))
        have hnext : DdAt w1 s (out ++ [x]) (k + 1) A9 (no + 1) c9 w9 := ⟨HADD.out, HAT3.out.bel.trans HB9.out, by rw [List.length_append, HAT3.out.eno]; rfl, by rw [idsV_snoc]; exact HO9.out, HAT3.out.oko.app (fun i hi => by rw [List.mem_singleton.1 hi]; exact HX.out), by omega⟩
        go_roundw
        case rel => exact ⟨k + 1, out ++ [x], A9, no + 1, c9, by omega, by go_num, rfl, Lib.hid hnext⟩
        case measure => (simp [intOf]) <;> omega
      · have hp : 0 < no := by omega
        have e0 : ((no : Int) == 0) = false := by rw [beq_eq_false_iff_ne]; omega
        have hpo : 0 < out.length := by rw [HAT2.out.eno]; exact hp
        have hlo : out.length - 1 < out.length := by omega
        obtain ⟨y, hy⟩ : ∃ y, out[out.length - 1] = y := ⟨_, rfl⟩
        have HYY := Lib.hid (show IdOk y by rw [← hy]; exact HAT2.out.oko _ (List.getElem_mem hlo))
        obtain ⟨gb, go, rfl, hgl, hgc⟩ := (Sl.of_own HAT2.out.own).2 hp
        have hrow := Sl.id (B := 0) HAT2.out.oko hgc (i := out.length - 1) hlo
        rw [hy, HAT2.out.eno] at hrow
        have e1 : IntKind.i64.wrap ((no : Int) - 1) = ((no - 1 : Nat) : Int) := by rw [IntWalk.i64_in _ ⟨by omega, by omega⟩]; omega
        have e2 : ((no - 1 : Nat) : Int) < (no : Int) := by omega
        have e3 : (0 : Int) ≤ ((no - 1 : Nat) : Int) := by omega
        have R1 := Lib.hid (Wd.row (base := Wb.heap.size) hrow hgl)
        have R2 : Hid (∀ u : World, (∃ n : Wd Wb.heap.size Wb, u = n.val) → u.rangeAt zb 0 (idV x)) := Lib.hid (fun u ⟨n, hu⟩ => by rw [hu]; exact HZB0.out n.val n.2)
        by_cases hyx : y = x
        · have HSK : Hid (Dd s out (k + 1)) := Lib.hid (HAT2.out.dd.skip hlt hpo (by rw [hy, HXK.out]; exact hyx))
          have HEQ : Hid (∀ u : World, (Op.equalIn 10000 45 (.agg (idV y).toArray) (.agg (idV x).toArray)).run Tryd.prog u = .ok true u) := Lib.hid (fun u => (run_eqId HYY.out HX.out u).trans (by rw [decide_eq_true hyx]))
          clear hyx hy hpo hlo hrow hgl hgc h0
          go_wp2_with fail
          refine wp_region_wd (base := Wb.heap.size) Wb (Below.refl _ _) (by kernel_rfl) (by kernel_rfl) ?_
          repeat (first
            | go_big_quiet_skip
            | (go_big_quiet_want
               first
                 | (refine quiet_val (fun w' hw' => ex_load 45 _ rfl (p := ⟨gb, go + (no - 1) * 32, none⟩) rfl (run_loadVar_mid w' _ _ _ (idV y) _ (R1.out w' hw') Tryd.underlying45 rfl (by rw [idV_length, show y.length = 32 from HYY.out]; exact sizeId2))) ?_
                    go_big_quiet_on
                    simp only [Act.put, List.setIfInBounds_toArray, List.set_cons_zero, List.set_cons_succ])
                 | (refine quiet_val (fun w' hw' => ex_load 45 _ rfl (p := ⟨zb, 0, none⟩) rfl (run_loadVar_mid w' _ _ _ (idV x) _ (R2.out w' hw') Tryd.underlying45 rfl (by rw [idV_length, show x.length = 32 from HX.out]; exact sizeId2))) ?_
                    go_big_quiet_on
                    simp only [Act.put, List.setIfInBounds_toArray, List.set_cons_zero, List.set_cons_succ])
                 | (refine quiet_val (fun w' hw' => ex_neq 45 _ _ _ rfl (xs := (idV y).toArray) (ys := ((idV x)).toArray) rfl rfl (r := true) eqId.noGuard (HEQ.out w')) ?_
                    go_big_quiet_on
                    simp only [Act.put, List.setIfInBounds_toArray, List.set_cons_zero, List.set_cons_succ, Bool.not_true, Bool.not_false])
                 | (go_big_quiet_op
                    go_big_quiet_on)))
          refine wpQuiet_nil ?_
          rintro w' ⟨kk, rfl⟩
          have hk9 := kk.2
          generalize kk.val = w9 at *
          clear kk
          have HBN := Lib.hid (HAT2.out.on hk9)
          clear hk9
          go_wp2_with fail
          go_roundw
          case rel => exact ⟨k + 1, out, _, no, co, by omega, by go_num, rfl, Lib.hid ⟨HSK.out, HBN.out.bel, HBN.out.eno, HBN.out.own, HBN.out.oko, by have := HBN.out.len; omega⟩⟩
          case measure => (simp [intOf]) <;> omega
        · have HADD : Hid (Dd s (out ++ [x]) (k + 1)) := Lib.hid (by
            rw [← HXK.out]
            exact HAT2.out.dd.add HSO.out hlt fun _ e => hyx (by rw [← hy, e, HXK.out]))
          have HEQ : Hid (∀ u : World, (Op.equalIn 10000 45 (.agg (idV y).toArray) (.agg (idV x).toArray)).run Tryd.prog u = .ok false u) := Lib.hid (fun u => (run_eqId HYY.out HX.out u).trans (by rw [decide_eq_false hyx]))
          clear hyx hy hpo hlo hrow hgl hgc h0
          go_wp2_with fail
          refine wp_region_wd (base := Wb.heap.size) Wb (Below.refl _ _) (by kernel_rfl) (by kernel_rfl) ?_
          repeat (first
            | go_big_quiet_skip
            | (go_big_quiet_want
               first
                 | (refine quiet_val (fun w' hw' => ex_load 45 _ rfl (p := ⟨gb, go + (no - 1) * 32, none⟩) rfl (run_loadVar_mid w' _ _ _ (idV y) _ (R1.out w' hw') Tryd.underlying45 rfl (by rw [idV_length, show y.length = 32 from HYY.out]; exact sizeId2))) ?_
                    go_big_quiet_on
                    simp only [Act.put, List.setIfInBounds_toArray, List.set_cons_zero, List.set_cons_succ])
                 | (refine quiet_val (fun w' hw' => ex_load 45 _ rfl (p := ⟨zb, 0, none⟩) rfl (run_loadVar_mid w' _ _ _ (idV x) _ (R2.out w' hw') Tryd.underlying45 rfl (by rw [idV_length, show x.length = 32 from HX.out]; exact sizeId2))) ?_
                    go_big_quiet_on
                    simp only [Act.put, List.setIfInBounds_toArray, List.set_cons_zero, List.set_cons_succ])
                 | (refine quiet_val (fun w' hw' => ex_neq 45 _ _ _ rfl (xs := (idV y).toArray) (ys := ((idV x)).toArray) rfl rfl (r := false) eqId.noGuard (HEQ.out w')) ?_
                    go_big_quiet_on
                    simp only [Act.put, List.setIfInBounds_toArray, List.set_cons_zero, List.set_cons_succ, Bool.not_true, Bool.not_false])
                 | (go_big_quiet_op
                    go_big_quiet_on)))
          refine wpQuiet_nil ?_
          rintro w' ⟨kk, rfl⟩
          have hk9 := kk.2
          generalize kk.val = w9 at *
          clear kk
          have HAT3 := Lib.hid (HAT2.out.on hk9)
          have HZB := Lib.hid (fun (u : World) (hu : Below w9.heap.size w9 u) => HZB0.out u (hk9.trans (hu.mono hk9.size)))
          clear hk9 HAT2 HZB0 R1 R2
          go_upto_region 6 with fail
          obtain ⟨w8, hw8⟩ : ∃ u : World, u = w9 := ⟨_, rfl⟩
          subst hw8
          obtain ⟨w3, hw3⟩ : ∃ u : World, u = w8 := ⟨_, rfl⟩
          subst hw3
          have HGW := Lib.hid (show w1.heap.size ≤ w3.heap.size from HAT3.out.bel.size)
          have HRF := Lib.hid (Below.refl w1.heap.size w3)
          have HZC := Lib.hid (HZB.out w3 (Below.refl _ _))
          have hlen := HAT3.out.len
          go_wp2_with (first
            | (with_reducible refine at_load ?_
               refine wp_loadN rfl 45 _ rfl zb 0 rfl (idV x) _ HZC.out Tryd.underlying45 rfl (by rw [idV_length, show x.length = 32 from HX.out]; exact sizeId2) ?_)
            | (refine wp_buildSlice1 (by rfl) 22 _ rfl 45 Tryd.underlying22 (.agg (idV zero32).toArray) 32 32 infoId rfl (by decide) (by decide) (idV x) (by rw [idV_length]; exact HX.out) rfl ?_)
            | (at_builtin; refine wp_appN rfl _ _ 22 rfl w1.heap.size 45 (.agg (idV zero32).toArray) 32 32 Tryd.underlying22 infoId rfl (by decide) (.slice (some ⟨gb, go, none⟩) no co) no (idsV out) rfl HAT3.out.own (idV x) 45 (by rw [idV_length]; exact HX.out) rfl (idV_one _) (by unfold maxLen; omega) (by omega) HGW.out ?_
               intro v9 w9 ho9 hgr9
               obtain ⟨A9, c9, rfl⟩ := own_form' ho9
               have HB9 := Lib.hid (hgr9 _ _ (Nat.le_refl _) HRF.out)
               have HO9 := Lib.hid ho9
               clear ho9 hgr9))
          have hnext : DdAt w1 s (out ++ [x]) (k + 1) A9 (no + 1) c9 w9 := ⟨HADD.out, HAT3.out.bel.trans HB9.out, by rw [List.length_append, HAT3.out.eno]; rfl, by rw [idsV_snoc]; exact HO9.out, HAT3.out.oko.app (fun i hi => by rw [List.mem_singleton.1 hi]; exact HX.out), by omega⟩
          go_roundw
          case rel => exact ⟨k + 1, out ++ [x], A9, no + 1, c9, by omega, by go_num, rfl, Lib.hid hnext⟩
          case measure => (simp [intOf]) <;> omega
    · have i1 : ¬ (k : Int) < (s.length : Int) := by omega
      have HD := Lib.hid (HAT.out.dd.done (by omega))
      go_wp2_with fail
      go_ret
      exact ⟨HB1.out.trans (HAT.out.bel.mono HB1.out.size), out, Ao, co, by rw [HAT.out.eno]; rfl, by rw [HAT.out.eno]; exact Sl.of_own HAT.out.own, by rw [HAT.out.eno]; exact own_cap8 HAT.out.own, HD.out.1, fun x => (HD.out.2 x).trans HP.out.mem_iff⟩
set_option maxHeartbeats 4000000 in
set_option maxRecDepth 100000 in
theorem union_any (a b : List (List UInt8)) (A B : Option Addr) (ca cb : Nat) (w : World) (hn : a.length + b.length ≤ 1099511627776) (hoa : IdsOk a) (hob : IdsOk b) (hsa : Sl w w.heap.size A a.length 32 (idsV a)) (hsb : Sl w w.heap.size B b.length 32 (idsV b)) :
    Calls Tryd.prog 32 #[.slice A a.length ca, .slice B b.length cb] w (SetGives (a ++ b) w) := by
  have HA := Lib.hid hsa; have HBB := Lib.hid hsb
  have HSET := Lib.hid (fun (W : World) (X : Option Addr) (c : Nat) (h1 : a.length + b.length ≤ c) (h2 : Sl W W.heap.size X (a.length + b.length) 32 (idsV a ++ idsV b)) => (show Calls Tryd.prog 31 #[.slice X (a.length + b.length) c] W (SetGives (a ++ b) W) from by
    have h := set_any (a ++ b) X c W (by rw [List.length_append]; exact hn) (by rw [List.length_append]; exact h1) (hoa.app hob) (by rw [List.length_append, idsV_app]; exact h2)
    rw [List.length_append] at h
    exact h))
  clear hoa hob hsa hsb
  go_enter Tryd.func32, Tryd.ntmps32
  go_wp2_with (first
    | (at_builtin; refine wp_appL8 (by rfl) _ _ 22 rfl w.heap.size 45 (.agg (idV zero32).toArray) 32 32 Tryd.underlying22 infoId rfl (by decide) (.slice none 0 0) 0 [] rfl (World.ownsRow_nil _ _ _ _) A a.length ca w.heap.size (idsV a) rfl HA.out (idsV_one _) (by unfold maxLen; omega) (by omega) (Nat.le_refl _) ?_
       intro v1 w1 ho1 hg1
       rw [Nat.zero_add, List.nil_append] at ho1
       obtain ⟨A1, c1, rfl⟩ := own_form' ho1
       have HO1 := Lib.hid ho1
       have HB1 := Lib.hid ((Below.refl w.heap.size w).grown hg1 (Nat.le_refl _) (fun k e => by simp [Value.ownBlock] at e))
       clear ho1 hg1)
    | (at_builtin; refine wp_appL8 (by rfl) _ _ 22 rfl w.heap.size 45 (.agg (idV zero32).toArray) 32 32 Tryd.underlying22 infoId rfl (by decide) (.slice A1 a.length c1) a.length (idsV a) rfl HO1.out B b.length cb w.heap.size (idsV b) rfl (HBB.out.keep HB1.out) (idsV_one _) (by unfold maxLen; omega) (by omega) HB1.out.size ?_
       intro v2 w2 ho2 hg2
       obtain ⟨A2, c2, rfl⟩ := own_form' ho2
       have HO2 := Lib.hid ho2
       have HB2 := Lib.hid (HB1.out.grown hg2 HB1.out.size (fun k e => (HO1.out.lt k e).1))
       clear ho2 hg2)
    | (go_at_call 31; refine (HSET.out w2 A2 c2 (own_cap8 HO2.out) (Sl.of_own HO2.out)).mono ?_; rintro e w3 ⟨hb3, l', A3, c3, rfl, r1, r2, r3, r4⟩
       have HB3 := Lib.hid (HB2.out.trans (hb3.mono HB2.out.size)); have H1 := Lib.hid r1; have H2 := Lib.hid r2; have H3 := Lib.hid r3; have H4 := Lib.hid r4
       clear hb3 r1 r2 r3 r4))
  go_ret
  exact ⟨HB3.out, l', A3, c3, rfl, H1.out, H2.out, H3.out, H4.out⟩
/-- The ids in an object. -/
def linksL (o : ObjD) : List (List UInt8) := if o.1 = 1 then o.2.1.2.1 else if o.1 = 2 then o.2.2.1 ++ o.2.2.2.1 else []
set_option maxHeartbeats 4000000 in
set_option maxRecDepth 100000 in
theorem links_any (o : ObjD) (v : Value) (w : World) (h : ObjIn w w.heap.size v o) (hcap : CapOk v) (hl1 : o.2.1.2.1.length ≤ 1099511627776) (hl2 : o.2.2.1.length + o.2.2.2.1.length ≤ 1099511627776) :
    Calls Tryd.prog 13 #[v] w (SetGives (linksL o) w) := by
  obtain ⟨⟨⟨_, oi, _⟩, op1, op2, _⟩, _, _, _, _, Ad, cd, Ao, co, Ap, cp, Ac, cc, rfl, sd, so, sp, sc⟩ := h
  obtain ⟨k, ⟨n, ds, au, os⟩, ⟨ps, cs, a2, ms, st⟩⟩ := o
  dsimp only at *
  have HCD := Lib.hid (hcap _ rfl Ad ds.length cd (by simp))
  have HID := Lib.hid oi; have HIP := Lib.hid op1; have HIC := Lib.hid op2; have HSD := Lib.hid sd; have HSP := Lib.hid sp; have HSC := Lib.hid sc
  clear hcap oi op1 op2 sd so sp sc
  by_cases h1 : k = 1
  · have HLK : Hid (linksL (k, (n, ds, au, os), (ps, cs, a2, ms, st)) = ds) := Lib.hid (by unfold linksL; rw [if_pos h1])
    have e1 : ((k.toNat : Int) == 1) = true := by rw [h1]; rfl
    clear h1
    go_enter Tryd.func13, Tryd.ntmps13
    go_upto_region 1 with (first
      | (with_reducible refine at_box ?_
         refine wp_boxM (by rfl) 29 _ rfl [.int .u8 (k.toNat : Int), .int .i64 n, .slice Ad ds.length cd, .string au, .slice Ao os.length co, .slice Ap ps.length cp, .slice Ac cs.length cc, .string a2, .string ms, .int .i64 st] _ rfl rfl (by kernel_rfl) ?_
         intro W0 hb0 hz0 hs0
         have HB0 := Lib.hid hb0; have HZ0 := Lib.hid hz0
         clear hb0 hz0 hs0))
    have hx0 := (Array.getElem?_eq_some_iff.1 HZ0.out).1
    have c0 : W0.cell? ⟨w.heap.size, 0, none⟩ = some (.int .u8 (k.toNat : Int)) := cells_at0 HZ0.out 0
    have c2 : W0.cell? ⟨w.heap.size, 2, none⟩ = some (.slice Ad ds.length cd) := cells_at0 HZ0.out 2
    have c2' : W0.cell? ⟨w.heap.size, 1 + 1, none⟩ = some (.slice Ad ds.length cd) := cells_at0 HZ0.out 2
    have c5 : W0.cell? ⟨w.heap.size, 5, none⟩ = some (.slice Ap ps.length cp) := cells_at0 HZ0.out 5
    have c6 : W0.cell? ⟨w.heap.size, 6, none⟩ = some (.slice Ac cs.length cc) := cells_at0 HZ0.out 6
    have c6' : W0.cell? ⟨w.heap.size, 5 + 1, none⟩ = some (.slice Ac cs.length cc) := cells_at0 HZ0.out 6
    try simp only [Act.put, List.setIfInBounds_toArray, List.set_cons_zero, List.set_cons_succ]
    clear hx0 HZ0
    go_wp2_with (first
      | (go_at_call 31; refine (set_any ds Ad cd W0 hl1 HCD.out HID.out ((HSD.out.keep HB0.out).more HB0.out.size)).mono ?_; rintro e w3 ⟨hb3, l', A3, c3, rfl, r1, r2, r3, r4⟩
         have HB1 := Lib.hid (HB0.out.trans (hb3.mono HB0.out.size)); have H1 := Lib.hid r1; have H2 := Lib.hid r2; have H3 := Lib.hid r3; have H4 := Lib.hid r4
         clear hb3 r1 r2 r3 r4))
    go_ret
    exact ⟨HB1.out, l', A3, c3, rfl, H1.out, H2.out, H3.out, fun x => (H4.out x).trans (by rw [HLK.out])⟩
  · have e1 : ((k.toNat : Int) == 1) = false := by rw [beq_eq_false_iff_ne]; intro h; exact h1 (by apply UInt8.toNat_inj.1; show k.toNat = 1; omega)
    by_cases h2 : k = 2
    · have HLK : Hid (linksL (k, (n, ds, au, os), (ps, cs, a2, ms, st)) = ps ++ cs) := Lib.hid (by unfold linksL; rw [if_neg h1, if_pos h2])
      have e2 : ((k.toNat : Int) == 2) = true := by rw [h2]; rfl
      clear h1 h2
      go_enter Tryd.func13, Tryd.ntmps13
      go_upto_region 1 with (first
        | (with_reducible refine at_box ?_
           refine wp_boxM (by rfl) 29 _ rfl [.int .u8 (k.toNat : Int), .int .i64 n, .slice Ad ds.length cd, .string au, .slice Ao os.length co, .slice Ap ps.length cp, .slice Ac cs.length cc, .string a2, .string ms, .int .i64 st] _ rfl rfl (by kernel_rfl) ?_
           intro W0 hb0 hz0 hs0
           have HB0 := Lib.hid hb0; have HZ0 := Lib.hid hz0
           clear hb0 hz0 hs0))
      have hx0 := (Array.getElem?_eq_some_iff.1 HZ0.out).1
      have c0 : W0.cell? ⟨w.heap.size, 0, none⟩ = some (.int .u8 (k.toNat : Int)) := cells_at0 HZ0.out 0
      have c2 : W0.cell? ⟨w.heap.size, 2, none⟩ = some (.slice Ad ds.length cd) := cells_at0 HZ0.out 2
      have c2' : W0.cell? ⟨w.heap.size, 1 + 1, none⟩ = some (.slice Ad ds.length cd) := cells_at0 HZ0.out 2
      have c5 : W0.cell? ⟨w.heap.size, 5, none⟩ = some (.slice Ap ps.length cp) := cells_at0 HZ0.out 5
      have c6 : W0.cell? ⟨w.heap.size, 6, none⟩ = some (.slice Ac cs.length cc) := cells_at0 HZ0.out 6
      have c6' : W0.cell? ⟨w.heap.size, 5 + 1, none⟩ = some (.slice Ac cs.length cc) := cells_at0 HZ0.out 6
      try simp only [Act.put, List.setIfInBounds_toArray, List.set_cons_zero, List.set_cons_succ]
      clear hx0 HZ0
      go_wp2_with (first
        | (go_at_call 32; refine (union_any ps cs Ap Ac cp cc W0 hl2 HIP.out HIC.out ((HSP.out.keep HB0.out).more HB0.out.size) ((HSC.out.keep HB0.out).more HB0.out.size)).mono ?_; rintro e w3 ⟨hb3, l', A3, c3, rfl, r1, r2, r3, r4⟩
           have HB1 := Lib.hid (HB0.out.trans (hb3.mono HB0.out.size)); have H1 := Lib.hid r1; have H2 := Lib.hid r2; have H3 := Lib.hid r3; have H4 := Lib.hid r4
           clear hb3 r1 r2 r3 r4))
      go_ret
      exact ⟨HB1.out, l', A3, c3, rfl, H1.out, H2.out, H3.out, fun x => (H4.out x).trans (by rw [HLK.out])⟩
    · have e2 : ((k.toNat : Int) == 2) = false := by rw [beq_eq_false_iff_ne]; intro h; exact h2 (by apply UInt8.toNat_inj.1; show k.toNat = 2; omega)
      have HLK : Hid (linksL (k, (n, ds, au, os), (ps, cs, a2, ms, st)) = []) := Lib.hid (by unfold linksL; rw [if_neg h1, if_neg h2])
      clear h1 h2
      go_enter Tryd.func13, Tryd.ntmps13
      go_upto_region 1 with (first
        | (with_reducible refine at_box ?_
           refine wp_boxM (by rfl) 29 _ rfl [.int .u8 (k.toNat : Int), .int .i64 n, .slice Ad ds.length cd, .string au, .slice Ao os.length co, .slice Ap ps.length cp, .slice Ac cs.length cc, .string a2, .string ms, .int .i64 st] _ rfl rfl (by kernel_rfl) ?_
           intro W0 hb0 hz0 hs0
           have HB0 := Lib.hid hb0; have HZ0 := Lib.hid hz0
           clear hb0 hz0 hs0))
      have hx0 := (Array.getElem?_eq_some_iff.1 HZ0.out).1
      have c0 : W0.cell? ⟨w.heap.size, 0, none⟩ = some (.int .u8 (k.toNat : Int)) := cells_at0 HZ0.out 0
      have c2 : W0.cell? ⟨w.heap.size, 2, none⟩ = some (.slice Ad ds.length cd) := cells_at0 HZ0.out 2
      have c2' : W0.cell? ⟨w.heap.size, 1 + 1, none⟩ = some (.slice Ad ds.length cd) := cells_at0 HZ0.out 2
      have c5 : W0.cell? ⟨w.heap.size, 5, none⟩ = some (.slice Ap ps.length cp) := cells_at0 HZ0.out 5
      have c6 : W0.cell? ⟨w.heap.size, 6, none⟩ = some (.slice Ac cs.length cc) := cells_at0 HZ0.out 6
      have c6' : W0.cell? ⟨w.heap.size, 5 + 1, none⟩ = some (.slice Ac cs.length cc) := cells_at0 HZ0.out 6
      try simp only [Act.put, List.setIfInBounds_toArray, List.set_cons_zero, List.set_cons_succ]
      clear hx0 HZ0
      go_wp2_with fail
      go_ret
      exact ⟨HB0.out, [], none, 0, rfl, Sl.nil, Nat.le_refl _, rfl, fun x => by rw [HLK.out]⟩
end Go.Proofs.YthjaepmfkgejkaaDoor
