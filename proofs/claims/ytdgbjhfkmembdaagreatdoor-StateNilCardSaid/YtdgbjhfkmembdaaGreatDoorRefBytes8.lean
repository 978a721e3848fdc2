/-
  The document's list and ref give a list's bytes, a ref's. Conditions: as each says.
-/
import Derived.Test.YtdgbjhfkmembdaaGreatDoorShort0
import Derived.Test.YtdgbjhfkmembdaaGreatDoorShort9
import Derived.Test.YtdgbjhfkmembdaaGreatDoorRefNum8
import Derived.Test.YtdgbjhfkmembdaaGreatDoorRefIn8
import Derived.Test.YtdgbjhfkmembdaaGreatDoorObjBackS
import Derived.Test.YtdgbjhfkmembdaaGreatDoorObjOps1
import Derived.Test.YtdgbjhfkmembdaaGreatDoorHandN
import Derived.Test.YtdgbjhfkmembdaaGreatDoorBut
import Derived.Test.YtdgbjhfkmembdaaGreatDoorObjReader3
namespace Go.Proofs.YtdgbjhfkmembdaaGreatDoor
open Go.RowKit Go.Maps
set_option linter.unusedVariables false
set_option linter.unusedSimpArgs false

theorem idsE_take {l : List (List UInt8)} {i : Nat} (h : i < l.length) : (l.take (i + 1)).flatten = (l.take i).flatten ++ l[i] := by
  rw [List.take_succ_eq_append_getElem h, List.flatten_append]
  simp
theorem flat_len8 {l : List (List UInt8)} (h : IdsOk l) : l.flatten.length = l.length * 32 := by
  induction l with
  | nil => rfl
  | cons a t ih =>
    have h1 : a.length = 32 := h a (by simp)
    have h2 := ih h.tail
    simp only [List.flatten_cons, List.length_append, List.length_cons, h1, h2]
    omega
set_option maxHeartbeats 4000000 in
set_option maxRecDepth 100000 in
theorem refList_any (l : List (List UInt8)) (A : Option Addr) (c : Nat) (w : World) (hn : l.length ≤ 1099511627776) (ho : IdsOk l) (hs : Sl w w.heap.size A l.length 32 (idsV l)) :
    Calls Tryz.prog 202 #[.slice A l.length c] w (NumGives (idsE l) w) := by
  have HO := Lib.hid ho; have HS := Lib.hid hs
  have HNL := Lib.hid (numB_len10 (n := l.length) (by omega))
  have HE := Lib.hid (show idsE l = numB l.length ++ l.flatten by unfold idsE; rw [numE_nat])
  clear ho hs
  go_enter Tryz.func202, Tryz.ntmps202
  go_upto_region 2 with (first
    | (go_at_call 204; refine (refNumber_any l.length (by omega) w).mono ?_; rintro e w1 ⟨hb1, A1, c1, rfl, ho1⟩
       have HB1 := Lib.hid hb1; have HO1 := Lib.hid ho1
       clear hb1 ho1))
  go_wp2_with fail
  go_loopw [3, 4] (fun t3 t4 wr => ∃ (i : Nat) (Ao : Option Addr) (co no : Nat), i ≤ l.length ∧ t4 = .int .i64 (i : Int) ∧ t3 = .slice Ao no co ∧ Hid ((numB l.length ++ (l.take i).flatten).length = no) ∧ Hid (Below w.heap.size w wr) ∧ Hid (wr.ownsRow w.heap.size 5 1 (.slice Ao no co) no (idV (numB l.length ++ (l.take i).flatten)))) (fun _ t4 _ => l.length - (intOf t4).toNat)
  case atStart => exact ⟨0, A1, c1, _, Nat.zero_le _, rfl, rfl, Lib.hid (by simp), HB1, Lib.hid (by rw [List.take_zero, List.flatten_nil, List.append_nil]; exact HO1.out)⟩
  case round =>
    obtain ⟨i, Ao, co, no, hi, rfl, rfl, HNO, HBR, HOW⟩ := hrel
    by_cases hlt : i < l.length
    · have i0 : (0 : Int) ≤ (i : Int) := by omega
      have i1 : (i : Int) < (l.length : Int) := by omega
      obtain ⟨b, off, rfl, hbl, hcl⟩ := (HS.out.keep HBR.out).2 (by omega)
      have hrow := Sl.id (B := 0) HO.out hcl (i := i) hlt
      obtain ⟨x, hx⟩ : ∃ x, l[i] = x := ⟨_, rfl⟩
      have HX := Lib.hid (show x.length = 32 by rw [← hx]; exact HO.out _ (List.getElem_mem hlt))
      rw [hx] at hrow
      have HTK := Lib.hid (show (l.take (i + 1)).flatten = (l.take i).flatten ++ x by rw [idsE_take hlt, hx])
      have hnb : no ≤ 10 + i * 32 := by
        rw [← HNO.out, List.length_append, flat_len8 (HO.out.sub fun y hy => List.mem_of_mem_take hy), List.length_take]
        have := HNL.out
        have : min i l.length ≤ i := Nat.min_le_left _ _
        omega
      have HNW := Lib.hid (show ∀ j u, (idV x)[j]? = some u → wr.cell? ((⟨b, off + i * 32, none⟩ : Addr).add j) = some u from fun j u hj => by
        have e1 : (⟨b, off + i * 32, none⟩ : Addr).add j = ⟨b, off + i * 32 + j, none⟩ := by unfold Addr.add; split <;> simp_all
        rw [e1]
        exact hrow j u hj)
      clear hx hrow hcl
      go_wp2_with (first
        | (at_builtin; refine wp_appS_w (by rfl) _ _ 169 rfl w.heap.size 5 (.int .u8 0) 1 1 Tryz.underlying169 info_u8 rfl (by decide) (.slice Ao no co) no (idV (numB l.length ++ (l.take i).flatten)) rfl HOW.out ⟨b, off + i * 32, none⟩ 32 32 (idV x) rfl (by rw [idV_length, HX.out]) HNW.out (idV_one _) (by unfold maxLen; omega) (by omega) HBR.out.size ?_
           intro v9 w9 ho9 hg9 hw9
           obtain ⟨A9, c9, rfl⟩ := own_form' ho9
           have HO9 := Lib.hid ho9
           have HB9 := Lib.hid (HBR.out.grown hg9 HBR.out.size (fun k e => (HOW.out.lt k e).1))
           clear ho9 hg9 hw9))
      go_roundw
      case rel => exact ⟨i + 1, A9, c9, no + 32, by omega, by go_num, rfl, Lib.hid (by rw [HTK.out, ← List.append_assoc, List.length_append, HNO.out, HX.out]), HB9, Lib.hid (by rw [HTK.out, ← List.append_assoc, idV_app]; exact HO9.out)⟩
      case measure => (simp [intOf]) <;> omega
    · have i1 : ¬ (i : Int) < (l.length : Int) := by omega
      have HFE := Lib.hid (show numB l.length ++ (l.take i).flatten = idsE l by rw [HE.out, List.take_of_length_le (by omega)])
      go_wp2_with fail
      go_ret
      exact ⟨HBR.out, Ao, co, by rw [← HFE.out, HNO.out]; rfl, by rw [← HFE.out, HNO.out]; exact HOW.out⟩
set_option maxHeartbeats 4000000 in
set_option maxRecDepth 100000 in
theorem refRef_any (deps : List (List UInt8)) (rc : List UInt8) (ri : Nat) (A : Option Addr) (c : Nat) (w : World) (hn : deps.length ≤ 1099511627776) (ho : IdsOk deps) (hset : isSetB deps = true) (hz : zero32 ∉ deps) (hr : RefOk (rc, ((ri : Nat) : Int))) (hin : rc = zero32 ∨ rc ∈ deps) (hri : ri < 9223372036854775808) (hs : Sl w w.heap.size A deps.length 32 (idsV deps)) :
    Calls Tryz.prog 205 #[.slice A deps.length c, .agg (refV (rc, ((ri : Nat) : Int))).toArray] w (NumGives (refE deps (rc, ((ri : Nat) : Int))) w) := by
  have HO := Lib.hid ho; have HS := Lib.hid hs; have HR := Lib.hid hr
  have HZR := Lib.hid hz; have HSET := Lib.hid hset; have HIN := Lib.hid hin
  clear ho hs hr hz hset hin
  have hE1 := enE Tryz.func204 rfl
  go_enter Tryz.func205, Tryz.ntmps205
  go_upto_region 1 with (first
    | (with_reducible refine at_box ?_
       refine wp_boxM (by rfl) 110 _ rfl (refV (rc, ((ri : Nat) : Int))) _ rfl rfl (by rw [refV_length HR.out]; exact sizeRef33) ?_
       intro W0 hb0 hz0 hs0
       have HB0 := Lib.hid hb0; have HZ0 := Lib.hid hz0
       clear hb0 hz0 hs0))
  obtain ⟨z3, hz3⟩ : ∃ z, w.heap.size = z := ⟨_, rfl⟩
  have HZL := Lib.hid (show z3 < W0.heap.size by rw [← hz3]; exact (qX HZ0.out))
  rw [hz3] at HZ0 ⊢
  try simp only [Act.put, List.setIfInBounds_toArray, List.set_cons_zero, List.set_cons_succ]
  clear hz3
  have HC32 := Lib.hid (fun (u : World) (hu : Below W0.heap.size W0 u) => (show u.cell? ⟨z3, 32, none⟩ = some (.int .i64 ((ri : Nat) : Int)) from (hu.cell (p := ⟨z3, 32, none⟩) HZL.out).trans ((cells_at0 HZ0.out 32).trans (ref_cells HR.out).2)))
  go_wp2_with fail
  go_loopw [5, 6] (fun t5 t6 wr => ∃ (i n : Nat), i ≤ deps.length ∧ t6 = .int .i64 (i : Int) ∧ t5 = .int .i64 (n : Int) ∧ n ≤ i ∧ Hid (Below W0.heap.size W0 wr) ∧ Hid ((n = 0 ∧ rc ∉ deps.take i) ∨ (0 < n ∧ deps[n - 1]? = some rc))) (fun _ t6 _ => deps.length - (intOf t6).toNat)
  case atStart => exact ⟨0, 0, Nat.zero_le _, rfl, rfl, qR _, Lib.hid (qB _ _), Lib.hid (.inl ⟨rfl, by simp⟩)⟩
  case round =>
    obtain ⟨i, n, hi, rfl, rfl, hni, HBR, HN⟩ := hrel
    by_cases hlt : i < deps.length
    · have i0 : (0 : Int) ≤ (i : Int) := by omega
      have i1 : (i : Int) < (deps.length : Int) := by omega
      have hbw := HB0.out.trans (HBR.out.mono HB0.out.size)
      obtain ⟨b, off, rfl, hbl, hcl⟩ := (HS.out.keep hbw).2 (by omega)
      have R1 := Lib.hid (Wd.row (base := wr.heap.size) (Sl.id (B := 0) HO.out hcl (i := i) hlt) (qL hbl hbw.size))
      have R2 := Lib.hid (Wd.row (base := wr.heap.size) (o := 0) (cs := idV rc) (b := z3) (fun j u hj => by rw [qZ]; exact ((HBR.out.cell (p := ⟨z3, j, none⟩) HZL.out).trans (cells_at0 HZ0.out j)).trans ((ref_cells HR.out).1 j u hj)) (qL HZL.out HBR.out.size))
      have HY := Lib.hid (show IdOk deps[i] from HO.out _ (List.getElem_mem hlt))
      obtain ⟨y, hy⟩ : ∃ y, deps[i] = y := ⟨_, rfl⟩
      rw [hy] at R1 HY
      have HTK := Lib.hid (show deps.take (i + 1) = deps.take i ++ [y] by rw [List.take_succ_eq_append_getElem hlt, hy])
      have HGE := Lib.hid (show deps[i]? = some y by rw [List.getElem?_eq_getElem hlt, hy])
      clear hcl hbl hbw hy
      by_cases he : y = rc
      · have HN2 := Lib.hid (show (i + 1 = 0 ∧ rc ∉ deps.take (i + 1)) ∨ (0 < i + 1 ∧ deps[i + 1 - 1]? = some rc) from .inr ⟨by omega, by rw [Nat.add_sub_cancel, HGE.out, he]⟩)
        have HEQ : Hid (∀ u : World, (Op.equalIn 10000 41 (.agg (idV y).toArray) (.agg (idV rc).toArray)).run Tryz.prog u = .ok true u) := Lib.hid (fun u => (run_eqId HY.out HR.out.1 u).trans (by rw [dT he]))
        clear he
        go_wp2_with fail
        refine wp_region_wd (base := wr.heap.size) wr (qB _ _) (by kernel_rfl) (by kernel_rfl) ?_
        repeat (first
          | go_big_quiet_skip
          | (go_big_quiet_want
             first
               | (refine quiet_val (fun w' hw' => ex_load 41 _ rfl (p := ⟨b, off + i * 32, none⟩) rfl (qV w' _ _ _ (idV y) _ (R1.out w' hw') Tryz.underlying41 rfl (by rw [idV_length, show y.length = 32 from HY.out]; exact sizeId2))) ?_
                  go_big_quiet_on
                  go_frame; try simp only [nTF])
               | (refine quiet_val (fun w' hw' => ex_load 41 _ rfl (p := ⟨z3, 0, none⟩) rfl (qV w' _ _ _ (idV rc) _ (R2.out w' hw') Tryz.underlying41 rfl (by rw [idV_length, show rc.length = 32 from HR.out.1]; exact sizeId2))) ?_
                  go_big_quiet_on
                  go_frame; try simp only [nTF])
               | (refine quiet_val (fun w' hw' => ex_eql 41 _ _ _ rfl (xs := (idV y).toArray) (ys := (idV rc).toArray) rfl rfl (r := true) eqId.noGuard (HEQ.out w')) ?_
                  go_big_quiet_on
                  go_frame; try simp only [nTF])
               | (go_big_quiet_op
                  go_big_quiet_on)))
        refine wpQuiet_nil ?_
        rintro w' ⟨kk, rfl⟩
        have hk9 := kk.2
        generalize kk.val = w9 at *
        clear kk
        have HBN := Lib.hid (HBR.out.trans (hk9.mono HBR.out.size))
        clear hk9
        go_wp2_with fail
        go_roundw
        case rel => exact ⟨i + 1, i + 1, by omega, by go_num, by go_num, qR _, HBN, HN2⟩
        case measure => (simp [intOf]) <;> omega
      · have HN2 := Lib.hid (show (n = 0 ∧ rc ∉ deps.take (i + 1)) ∨ (0 < n ∧ deps[n - 1]? = some rc) from by
          rcases HN.out with ⟨q1, q2⟩ | q
          · exact .inl ⟨q1, by rw [HTK.out]; simp only [List.mem_append, List.mem_singleton, not_or]; exact ⟨q2, fun h => he h.symm⟩⟩
          · exact .inr q)
        have HEQ : Hid (∀ u : World, (Op.equalIn 10000 41 (.agg (idV y).toArray) (.agg (idV rc).toArray)).run Tryz.prog u = .ok false u) := Lib.hid (fun u => (run_eqId HY.out HR.out.1 u).trans (by rw [dF he]))
        clear he
        go_wp2_with fail
        refine wp_region_wd (base := wr.heap.size) wr (qB _ _) (by kernel_rfl) (by kernel_rfl) ?_
        repeat (first
          | go_big_quiet_skip
          | (go_big_quiet_want
             first
               | (refine quiet_val (fun w' hw' => ex_load 41 _ rfl (p := ⟨b, off + i * 32, none⟩) rfl (qV w' _ _ _ (idV y) _ (R1.out w' hw') Tryz.underlying41 rfl (by rw [idV_length, show y.length = 32 from HY.out]; exact sizeId2))) ?_
                  go_big_quiet_on
                  go_frame; try simp only [nTF])
               | (refine quiet_val (fun w' hw' => ex_load 41 _ rfl (p := ⟨z3, 0, none⟩) rfl (qV w' _ _ _ (idV rc) _ (R2.out w' hw') Tryz.underlying41 rfl (by rw [idV_length, show rc.length = 32 from HR.out.1]; exact sizeId2))) ?_
                  go_big_quiet_on
                  go_frame; try simp only [nTF])
               | (refine quiet_val (fun w' hw' => ex_eql 41 _ _ _ rfl (xs := (idV y).toArray) (ys := (idV rc).toArray) rfl rfl (r := false) eqId.noGuard (HEQ.out w')) ?_
                  go_big_quiet_on
                  go_frame; try simp only [nTF])
               | (go_big_quiet_op
                  go_big_quiet_on)))
        refine wpQuiet_nil ?_
        rintro w' ⟨kk, rfl⟩
        have hk9 := kk.2
        generalize kk.val = w9 at *
        clear kk
        have HBN := Lib.hid (HBR.out.trans (hk9.mono HBR.out.size))
        clear hk9
        go_wp2_with fail
        go_roundw
        case rel => exact ⟨i + 1, n, by omega, by go_num, rfl, by omega, HBN, HN2⟩
        case measure => (simp [intOf]) <;> omega
    · have i1 : ¬ (i : Int) < (deps.length : Int) := by omega
      have HRE := Lib.hid (show refE deps (rc, ((ri : Nat) : Int)) = numB n ++ numB ri from by
        unfold refE
        simp only
        rcases HN.out with ⟨q1, q2⟩ | ⟨q1, q2⟩
        · rw [List.take_of_length_le (by omega)] at q2
          have hz := HIN.out.resolve_right q2
          rw [if_neg (by simp [hz]), q1]
          exact (congrArg (· ++ numE (ri : Int)) (numE_nat 0)).trans (by rw [numE_nat])
        · obtain ⟨g1, g2⟩ := List.getElem?_eq_some_iff.1 q2
          have hne : rc ≠ zero32 := fun e => HZR.out (by rw [← e, ← g2]; exact List.getElem_mem g1)
          have hix := idxOf_at HSET.out (n - 1) g1
          rw [g2] at hix
          rw [if_pos hne, hix, show (((n - 1 : Nat) : Int) + 1) = ((n : Nat) : Int) by omega, numE_nat, numE_nat])
      have hnb : n < 9223372036854775808 := by omega
      have hl1 := numB_len10 (n := n) (by omega)
      have hl2 := numB_len10 (n := ri) (by omega)
      go_upto_region 7 with fail
      obtain ⟨w1, hw1⟩ : ∃ u, wr.drew = u := ⟨_, rfl⟩
      have HB1W := Lib.hid (show Below W0.heap.size W0 w1 by rw [← hw1]; exact HBR.out.drew)
      have HF7 := Lib.hid (HC32.out w1 HB1W.out)
      refine rN 4 (fun u => u.cell? ⟨z3, 32, none⟩ = some (.int .i64 ((ri : Nat) : Int))) (by rw [hw1]; exact HF7.out) fun hF0 => ?_
      rw [hw1] at hF0 ⊢
      refine tw 0 (.int .i64 (n : Int)) ?_
      go_frame
      refine tw 2 (.pointer (some ⟨z3, 32, none⟩)) ?_
      go_frame
      refine tl 3 (.int .i64 ((ri : Nat) : Int)) rfl hF0 (fun w' hw' => l1 Tryz.underlying3 hw') ?_
      go_frame
      refine ta 1 ?_
      refine tc #[.int .i64 (n : Int)] hE1 rfl ?_
      refine (refNumber_any n hnb w1).mono ?_
      rintro e w2 ⟨hb2, A2, c2, rfl, ho2⟩
      have HB2 := Lib.hid hb2; have HO2 := Lib.hid ho2
      have hF2 := HC32.out w2 (HB1W.out.trans (hb2.mono HB1W.out.size))
      clear hb2 ho2
      refine ⟨_, rfl, fun _ _ => hF2, ?_⟩
      go_frame
      refine ta 4 ?_
      refine tc #[.int .i64 ((ri : Nat) : Int)] hE1 rfl ?_
      refine (refNumber_any ri hri w2).mono ?_
      rintro e w3 ⟨hb3, A3, c3, rfl, ho3⟩
      have HB3 := Lib.hid hb3; have HO3 := Lib.hid ho3
      clear hb3 ho3
      refine ⟨_, rfl, fun h => absurd h (by decide), ?_⟩
      go_frame
      refine ta 5 ?_
      refine wpOp_wp _ rfl (by kernel_rfl) ?_
      obtain ⟨im, hmi, hm0, hm1, hm2⟩ := info_parts info_u8
      refine wp_append_sl _ _ 169 rfl w1.heap.size 5 im (.int .u8 0) 1 1 Tryz.underlying169 hmi hm0 hm1 hm2 rfl (by decide) (.slice A2 (numB n).length c2) (numB n).length (idV (numB n)) rfl ((But.of_below (X := NoB) HB3.out).own HO2.out fun _ _ q => q) A3 (numB ri).length c3 w3.heap.size (idV (numB ri)) rfl (Sl.of_own HO3.out) (idV_one _) (by unfold maxLen; omega) (by omega) (qT HB2.out.size HB3.out.size) ?_
      intro v9 w9 ho9 hg9
      obtain ⟨A9, c9, rfl⟩ := own_form' ho9
      have HO9 := Lib.hid ho9
      have HB9 := Lib.hid (show Below w1.heap.size w1 w9 from (HB2.out.trans (HB3.out.mono HB2.out.size)).grown hg9 (qT HB2.out.size HB3.out.size) (fun k e => (HO2.out.lt k e).1))
      clear ho9 hg9
      refine ⟨fun h => absurd h (by decide), ?_⟩
      go_frame
      refine tw 6 (.slice A9 ((numB n).length + (numB ri).length) c9) ?_
      go_frame
      refine wpAnyN_done (by kernel_rfl) ?_ _
      go_wp2_with fail
      go_ret
      have e1 : (refE deps (rc, ((ri : Nat) : Int))).length = (numB n).length + (numB ri).length := by rw [HRE.out, List.length_append]
      have hww : w.heap.size ≤ w1.heap.size := qT HB0.out.size HB1W.out.size
      exact ⟨(HB0.out.trans (HB1W.out.mono HB0.out.size)).trans (HB9.out.mono hww), A9, c9, by rw [e1]; rfl, by rw [e1, HRE.out, idV_app]; exact own_base8 HO9.out hww⟩
end Go.Proofs.YtdgbjhfkmembdaaGreatDoor
