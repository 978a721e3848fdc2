/-
  The document's In, IsSet, ids. Conditions: ids of 32 bytes; at most 2^40 of them.
  The document's list and ref give a list's bytes, a ref's. Conditions: as each says.
-/
import Derived.Test.YthjaepmfkgejkaaGreatDoorMerged10
import Derived.Test.YthjaepmfkgejkaaGreatDoorObjBackS
import Derived.Test.YthjaepmfkgejkaaGreatDoorMerged21
import Derived.Test.YthjaepmfkgejkaaGreatDoorMerged13
import Derived.Test.YthjaepmfkgejkaaGreatDoorMerged12
import Derived.Test.YthjaepmfkgejkaaGreatDoorMerged3
import Derived.Test.YthjaepmfkgejkaaGreatDoorMerged7
import Derived.Test.YthjaepmfkgejkaaGreatDoorMerged11
import Derived.Test.YthjaepmfkgejkaaGreatDoorMerged17
import Derived.Test.YthjaepmfkgejkaaGreatDoorMerged9
import Derived.Test.YthjaepmfkgejkaaGreatDoorObjReader3
set_option linter.unusedVariables false
set_option linter.unusedSimpArgs false
set_option maxHeartbeats 4000000
set_option maxRecDepth 100000
namespace Go.Proofs.YthjaepmfkgejkaaGreatDoor
open Lib (hid)
open Go.RowKit Go.Maps
theorem US (l : List (List UInt8)) (x : List UInt8) (A : Option Addr) (c : Nat) (w : World) (hn : l.length ≤ 1099511627776) (ho : IdsOk l) (hx : Kw x) (hs : Sl w w.heap.size A l.length 32 (jf l)) :
    Calls Tryz.prog 85 #[.slice A l.length c, .agg (idV x).toArray] w fun e w' => Below w.heap.size w w' ∧ e = .returned (.bool (decide (x ∈ l))) := by
  have HO := hid ho; have HS := hid hs
  clear ho hs
  go_enter Tryz.func85, Tryz.ntmps85
  go_upto_region 1 with (first
    | (with_reducible refine kH ?_
       refine kA (by rfl) 47 _ rfl (idV x) _ rfl rfl (by rw [km, show x.length = 32 from hx]; exact kR) ?_
       intro W0 hb0 hz0 hs0
       have HB0 := hid hb0; have HZ0 := hid hz0
       clear hb0 hz0 hs0))
  have hz := (Array.getElem?_eq_some_iff.1 HZ0.out).1
  try go_frame
  go_wp2_with fail
  go_loopw [5] (fun t wr => ∃ i : Nat, i ≤ l.length ∧ t = .int .i64 (i : Int) ∧ Hid (Below W0.heap.size W0 wr) ∧ Hid (x ∉ l.take i)) (fun t _ => l.length - (intOf t).toNat)
  case atStart => exact ⟨0, Nat.zero_le _, rfl, hid (Below.refl _ _), hid (by simp)⟩
  case round =>
    obtain ⟨i, hi, rfl, HBR, HN⟩ := hrel
    by_cases hlt : i < l.length
    ·
     have i0 : (0 : Int) ≤ (i : Int) := by omega
     have i1 : (i : Int) < (l.length : Int) := by omega
     have hbw := HB0.out.trans (HBR.out.mono HB0.out.size)
     obtain ⟨b, off, rfl, hbl, hcl⟩ := (HS.out.keep hbw).2 (by omega)
     have R1 := hid (Wd.row (base := wr.heap.size) (Sl.id (B := 0) HO.out hcl (i := i) hlt) (Nat.lt_of_lt_of_le hbl hbw.size))
     have R2 := hid (Wd.row (base := wr.heap.size) (o := 0) (cs := idV x) (b := w.heap.size) (fun j u hj => by rw [Nat.zero_add]; exact ((HBR.out.cell (p := ⟨w.heap.size, j, none⟩) hz).trans (k6 HZ0.out j)).trans hj) (Nat.lt_of_lt_of_le hz HBR.out.size))
     have HY := hid (show Kw l[i] from HO.out _ (List.getElem_mem hlt))
     obtain ⟨y, hy⟩ : ∃ y, l[i] = y := ⟨_, rfl⟩
     rw [hy] at R1 HY
     have HTK := hid (show l.take (i + 1) = l.take i ++ [y] by rw [List.take_succ_eq_append_getElem hlt, hy])
     have HMEM := hid (show y ∈ l by rw [← hy]; exact List.getElem_mem hlt)
     clear hcl hbl hbw hy
     by_cases he : y = x
     ·
      have HM := hid (show x ∈ l by rw [← he]; exact HMEM.out)
      have HEQ : Hid (∀ u : World, (Op.equalIn 10000 47 (.agg (idV y).toArray) (.agg (idV x).toArray)).run Tryz.prog u = .ok true u) := hid (fun u => (zV HY.out hx u).trans (by rw [decide_eq_true he]))
      clear he
      go_wp2_with fail
      refine jW (base := wr.heap.size) wr (Below.refl _ _) (by kernel_rfl) (by kernel_rfl) ?_
      repeat (first
        | go_big_quiet_skip
        | (go_big_quiet_want
           first
             | (refine jg (fun w' hw' => kd 47 _ rfl (p := ⟨b, off + i * 32, none⟩) rfl (run_loadVar_mid w' _ _ _ (idV y) _ (R1.out w' hw') Tryz.underlying47 rfl (by rw [km, show y.length = 32 from HY.out]; exact kR))) ?_
                go_big_quiet_on
                simp only [Act.put, List.setIfInBounds_toArray, List.set_cons_zero, List.set_cons_succ, Bool.not_true, Bool.not_false])
             | (refine jg (fun w' hw' => kd 47 _ rfl (p := ⟨w.heap.size, 0, none⟩) rfl (run_loadVar_mid w' _ _ _ (idV x) _ (R2.out w' hw') Tryz.underlying47 rfl (by rw [km, show x.length = 32 from hx]; exact kR))) ?_
                go_big_quiet_on
                simp only [Act.put, List.setIfInBounds_toArray, List.set_cons_zero, List.set_cons_succ, Bool.not_true, Bool.not_false])
             | (refine jg (fun w' hw' => Kc 47 _ _ _ rfl (xs := (idV y).toArray) (ys := (idV x).toArray) rfl rfl (r := true) eqId.noGuard (HEQ.out w')) ?_
                go_big_quiet_on
                simp only [Act.put, List.setIfInBounds_toArray, List.set_cons_zero, List.set_cons_succ, Bool.not_true, Bool.not_false])
             | (go_big_quiet_op
                go_big_quiet_on)))
      refine wpQuiet_nil ?_
      rintro w' ⟨kk, rfl⟩
      have hk9 := kk.2
      generalize kk.val = w9 at *
      clear kk
      have HBN := hid (HBR.out.trans (hk9.mono HBR.out.size))
      clear hk9
      go_wp2_with fail
      go_ret
      exact ⟨HB0.out.trans (HBN.out.mono HB0.out.size), by rw [decide_eq_true HM.out]; rfl⟩
     ·
      have HN2 := hid (show x ∉ l.take (i + 1) by rw [HTK.out]; simp only [List.mem_append, List.mem_singleton, not_or]; exact ⟨HN.out, fun h => he h.symm⟩)
      have HEQ : Hid (∀ u : World, (Op.equalIn 10000 47 (.agg (idV y).toArray) (.agg (idV x).toArray)).run Tryz.prog u = .ok false u) := hid (fun u => (zV HY.out hx u).trans (by rw [decide_eq_false he]))
      clear he
      go_wp2_with fail
      refine jW (base := wr.heap.size) wr (Below.refl _ _) (by kernel_rfl) (by kernel_rfl) ?_
      repeat (first
        | go_big_quiet_skip
        | (go_big_quiet_want
           first
             | (refine jg (fun w' hw' => kd 47 _ rfl (p := ⟨b, off + i * 32, none⟩) rfl (run_loadVar_mid w' _ _ _ (idV y) _ (R1.out w' hw') Tryz.underlying47 rfl (by rw [km, show y.length = 32 from HY.out]; exact kR))) ?_
                go_big_quiet_on
                simp only [Act.put, List.setIfInBounds_toArray, List.set_cons_zero, List.set_cons_succ, Bool.not_true, Bool.not_false])
             | (refine jg (fun w' hw' => kd 47 _ rfl (p := ⟨w.heap.size, 0, none⟩) rfl (run_loadVar_mid w' _ _ _ (idV x) _ (R2.out w' hw') Tryz.underlying47 rfl (by rw [km, show x.length = 32 from hx]; exact kR))) ?_
                go_big_quiet_on
                simp only [Act.put, List.setIfInBounds_toArray, List.set_cons_zero, List.set_cons_succ, Bool.not_true, Bool.not_false])
             | (refine jg (fun w' hw' => Kc 47 _ _ _ rfl (xs := (idV y).toArray) (ys := (idV x).toArray) rfl rfl (r := false) eqId.noGuard (HEQ.out w')) ?_
                go_big_quiet_on
                simp only [Act.put, List.setIfInBounds_toArray, List.set_cons_zero, List.set_cons_succ, Bool.not_true, Bool.not_false])
             | (go_big_quiet_op
                go_big_quiet_on)))
      refine wpQuiet_nil ?_
      rintro w' ⟨kk, rfl⟩
      have hk9 := kk.2
      generalize kk.val = w9 at *
      clear kk
      have HBN := hid (HBR.out.trans (hk9.mono HBR.out.size))
      clear hk9
      go_wp2_with fail
      go_roundw
      case rel => exact ⟨i + 1, by omega, by go_num, HBN, HN2⟩
      case measure => (simp [intOf]) <;> omega
    ·
     have i1 : ¬ (i : Int) < (l.length : Int) := by omega
     have HM := hid (show x ∉ l by have h := HN.out; rwa [List.take_of_length_le (by omega)] at h)
     go_wp2_with fail
     go_ret
     exact ⟨HB0.out.trans (HBR.out.mono HB0.out.size), by rw [decide_eq_false HM.out]; rfl⟩
theorem vU (l : List (List UInt8)) (A : Option Addr) (c : Nat) (w : World) (hn : l.length ≤ 1099511627776) (ho : IdsOk l) (hsl : Sl w w.heap.size A l.length 32 (jf l)) :
    Calls Tryz.prog 105 #[.slice A l.length c] w fun e w' => Below w.heap.size w w' ∧ e = .returned (.bool (kY l)) := by
  have HSL := hid hsl; clear hsl
  have HO := hid ho; clear ho
  go_enter Tryz.func105, Tryz.ntmps105
  go_wp2_with fail
  go_loopw [3] (fun t wr => ∃ i : Nat, i ≤ l.length ∧ t = .int .i64 ((i : Int) + 1) ∧ Hid (Below w.heap.size w wr) ∧ Hid (∀ j (h : j + 1 < l.length), j < i → jJ (l[j]'(by omega)) l[j + 1] < 0)) (fun t _ => l.length + 1 - (intOf t).toNat)
  case atStart => exact ⟨0, by omega, rfl, hid (Below.refl _ _), hid fun j _ hj => absurd hj (by omega)⟩
  case round =>
    obtain ⟨i, hi, rfl, HBR, hI⟩ := hrel
    by_cases hlt : i + 1 < l.length
    ·
     have i1 : (0 : Int) ≤ (i : Int) := by omega
     have i3 : ((i : Int) + 1) < (l.length : Int) := by omega
     have i4 : (i : Int) < (l.length : Int) := by omega
     have i5 : (0 : Int) ≤ (i : Int) + 1 := by omega
     have ei : ((i : Int) + 1) - 1 = (i : Int) := by omega
     have ei2 : ((i : Int) + 1) = ((i + 1 : Nat) : Int) := by omega
     have ei3 : ((i : Int) + 1).toNat = i + 1 := by omega
     have ew : IntKind.i64.wrap (i : Int) = (i : Int) := IntWalk.i64_in _ ⟨by omega, by omega⟩
     obtain ⟨b, off, rfl, hbl, hcl⟩ := (HSL.out.keep HBR.out).2 (by omega)
     have C1 := hid (Sl.id (B := 0) HO.out hcl (i := i) (by omega))
     have C2 := hid (Sl.id (B := 0) HO.out hcl (i := i + 1) hlt)
     have HX := hid (show Kw (l[i]'(by omega)) from HO.out _ (List.getElem_mem _))
     have HY := hid (show Kw l[i + 1] from HO.out _ (List.getElem_mem _))
     clear hcl ei2
     go_wp2_with fail
     refine wp_region_still_tail 9 (by kernel_rfl) (by kernel_rfl) ?_
     simp only [List.take_succ_cons, List.take_zero, List.drop_succ_cons, List.drop_zero]
     repeat still_step
     refine K7 (by rfl) 47 _ rfl b _ rfl (idV (l[i]'(by omega))) _ C1.out Tryz.underlying47 rfl (by rw [km, HX.out]; exact kR) ?_
     repeat still_step
     refine K7 (by rfl) 47 _ rfl b _ rfl (idV l[i + 1]) _ C2.out Tryz.underlying47 rfl (by rw [km, HY.out]; exact kR) ?_
     refine wpStill_nil ?_
     change wpList _ _ _ _ _ wr.drew
     generalize hwd : wr.drew = w2
     have hbr2 : Below w.heap.size w w2 := by rw [← hwd]; exact HBR.out.drew
     clear hwd
     have hstop : 0 ≤ jJ (l[i]'(by omega)) l[i + 1] → kY l = false := by
       intro h
       rw [Bool.eq_false_iff]
       intro h2
       have := KY.1 h2 i hlt
       omega
     have hgo : jJ (l[i]'(by omega)) l[i + 1] < 0 → ∀ j (h : j + 1 < l.length), j < i + 1 → jJ (l[j]'(by omega)) l[j + 1] < 0 := by
       intro h j hj hji
       rcases (by omega : j < i ∨ j = i) with q | q
       · exact hI.out j hj q
       · subst q; exact h
     have HST := hid hstop; clear hstop
     have HGO := hid hgo; clear hgo
     go_wp2_with fail
     refine (Uv (l[i]'(by omega)) l[i + 1] _ HX.out HY.out).mono ?_
     generalize jJ (l[i]'(by omega)) l[i + 1] = q at *
     rintro e w3 ⟨hg3, rfl⟩
     have hb3 := hg3.below
     have HBN := hid (hbr2.trans (hb3.mono hbr2.size))
     clear hb3 hbr2
     by_cases hq : 0 ≤ q
     ·
      have HNO := hid (HST.out hq)
      have dq : decide (0 ≤ q) = true := decide_eq_true hq
      go_wp2_with fail
      go_ret
      exact ⟨HBN.out, by rw [HNO.out]; rfl⟩
     ·
      have hq2 : q < 0 := by omega
      have dq : decide (0 ≤ q) = false := decide_eq_false hq
      go_wp2_with fail
      go_roundw
      case rel => exact ⟨i + 1, by omega, by go_num, HBN, hid (HGO.out hq2)⟩
      case measure => (simp [intOf]) <;> omega
    ·
     have i3 : ¬ ((i : Int) + 1) < (l.length : Int) := by omega
     have HYES := hid (show kY l = true from KY.2 fun j hj => hI.out j hj (by omega))
     go_wp2_with fail
     go_ret
     exact ⟨HBR.out, by rw [HYES.out]; rfl⟩
theorem ids_same {l : List (List UInt8)} {most : Nat} (ho : IdsOk l) : Kk l most = (decide (l.length ≤ most) && kY l && !decide (zero32 ∈ l)) := by
  rcases hb : Kk l most with _ | _
  ·
   rcases h1 : (decide (l.length ≤ most) && kY l && !decide (zero32 ∈ l)) with _ | _
   · rfl
   ·
    exfalso
    simp only [Bool.and_eq_true, Bool.not_eq_true', decide_eq_true_eq, decide_eq_false_iff_not] at h1
    unfold Kk at hb
    simp only [h1.1.1, h1.1.2, decide_true, Bool.true_and, Bool.or_eq_false_iff, decide_eq_false_iff_not, Bool.not_eq_false', decide_eq_true_eq] at hb
    rcases l with _ | ⟨a, t⟩
    · exact hb.1 rfl
    · exact h1.2 (by have h := hb.2; simp only [List.headD_cons] at h; rw [← h]; exact List.mem_cons_self)
  · obtain ⟨h1, h2, h3⟩ := KI hb ho
    simp [h1, h2, h3]
theorem vr (l : List (List UInt8)) (A : Option Addr) (c : Nat) (most : Nat) (w : World) (hmost : most ≤ 1099511627776) (hn : l.length ≤ 1099511627776) (ho : IdsOk l) (hs : Sl w w.heap.size A l.length 32 (jf l)) :
    Calls Tryz.prog 78 #[.slice A l.length c, .int .i64 (most : Int)] w fun e w' => Below w.heap.size w w' ∧ e = .returned (.bool (Kk l most)) := by
  have HE := hid (ids_same (most := most) ho)
  have HO := hid ho; have HS := hid hs
  clear ho hs
  by_cases h1 : l.length ≤ most
  ·
   have d1 : decide ((l.length : Int) ≤ (most : Int)) = true := decide_eq_true (by omega)
   have i1 : (l.length : Int) ≤ (most : Int) := by omega
   have HE1 : Hid (Kk l most = (kY l && !decide (zero32 ∈ l))) := hid (by rw [HE.out, decide_eq_true h1, Bool.true_and])
   clear HE h1
   obtain ⟨sb, hsb⟩ : ∃ b, kY l = b := ⟨_, rfl⟩
   have HSB := hid hsb
   clear hsb
   cases sb
   ·
    go_enter Tryz.func78, Tryz.ntmps78
    go_wp2_with (first
      | (go_at_call 105; refine (vU l A c w hn HO.out HS.out).mono ?_; rintro e w1 ⟨hb1, rfl⟩
         rw [HSB.out]
         have HB1 := hid hb1
         clear hb1))
    go_ret
    exact ⟨HB1.out, by rw [HE1.out, HSB.out]; rfl⟩
   ·
    go_enter Tryz.func78, Tryz.ntmps78
    go_wp2_with (first
      | (refine k9 (by rfl) (kF 47 #[] rfl (jX _)) ?_)
      | (go_at_call 105; refine (vU l A c w hn HO.out HS.out).mono ?_; rintro e w1 ⟨hb1, rfl⟩
         rw [HSB.out]
         have HB1 := hid hb1
         clear hb1)
      | (go_at_call 85; refine (US l zero32 A c w1 hn HO.out zM ((HS.out.keep HB1.out).more HB1.out.size)).mono ?_; rintro e w2 ⟨hb2, rfl⟩
         have HB2 := hid (HB1.out.trans (hb2.mono HB1.out.size))
         clear hb2))
    go_ret
    exact ⟨HB2.out, by rw [HE1.out, HSB.out]; rfl⟩
  ·
   have d1 : decide ((l.length : Int) ≤ (most : Int)) = false := decide_eq_false (by omega)
   have i1 : ¬ (l.length : Int) ≤ (most : Int) := by omega
   have HE1 : Hid (Kk l most = false) := hid (by rw [HE.out, decide_eq_false h1]; rfl)
   clear HE h1
   go_enter Tryz.func78, Tryz.ntmps78
   go_wp2_with fail
   go_ret
   exact ⟨Below.refl _ _, by rw [HE1.out]; rfl⟩
end Go.Proofs.YthjaepmfkgejkaaGreatDoor
namespace Go.Proofs.YthjaepmfkgejkaaGreatDoor
open Lib (hid)
open Go.RowKit Go.Maps
theorem idsE_take {l : List (List UInt8)} {i : Nat} (h : i < l.length) : (l.take (i + 1)).flatten = (l.take i).flatten ++ l[i] := by
  rw [List.take_succ_eq_append_getElem h, List.flatten_append]
  simp
theorem UT {l : List (List UInt8)} (h : IdsOk l) : l.flatten.length = l.length * 32 := by
  induction l with
  | nil => rfl
  | cons a t ih =>
    have h1 : a.length = 32 := h a (by simp)
    have h2 := ih h.tail
    simp only [List.flatten_cons, List.length_append, List.length_cons, h1, h2]
    omega
theorem ZN (l : List (List UInt8)) (A : Option Addr) (c : Nat) (w : World) (hn : l.length ≤ 1099511627776) (ho : IdsOk l) (hs : Sl w w.heap.size A l.length 32 (jf l)) :
    Calls Tryz.prog 62 #[.slice A l.length c] w (JI (jP l) w) := by
  have HO := hid ho; have HS := hid hs
  have HNL := hid (je (n := l.length) (by omega))
  have HE := hid (show jP l = kZ l.length ++ l.flatten by unfold jP; rw [jw])
  clear ho hs
  go_enter Tryz.func62, Tryz.ntmps62
  go_upto_region 2 with (first
    | (go_at_call 64; refine (zD l.length (by omega) w).mono ?_; rintro e w1 ⟨hb1, A1, c1, rfl, ho1⟩
       have HB1 := hid hb1; have HO1 := hid ho1
       clear hb1 ho1))
  go_wp2_with fail
  go_loopw [3, 4] (fun t3 t4 wr => ∃ (i : Nat) (Ao : Option Addr) (co no : Nat), i ≤ l.length ∧ t4 = .int .i64 (i : Int) ∧ t3 = .slice Ao no co ∧ Hid ((kZ l.length ++ (l.take i).flatten).length = no) ∧ Hid (Below w.heap.size w wr) ∧ Hid (wr.ownsRow w.heap.size 5 1 (.slice Ao no co) no (idV (kZ l.length ++ (l.take i).flatten)))) (fun _ t4 _ => l.length - (intOf t4).toNat)
  case atStart => exact ⟨0, A1, c1, _, Nat.zero_le _, rfl, rfl, hid (by simp), HB1, hid (by rw [List.take_zero, List.flatten_nil, List.append_nil]; exact HO1.out)⟩
  case round =>
    obtain ⟨i, Ao, co, no, hi, rfl, rfl, HNO, HBR, HOW⟩ := hrel
    by_cases hlt : i < l.length
    ·
     have i0 : (0 : Int) ≤ (i : Int) := by omega
     have i1 : (i : Int) < (l.length : Int) := by omega
     obtain ⟨b, off, rfl, hbl, hcl⟩ := (HS.out.keep HBR.out).2 (by omega)
     have hrow := Sl.id (B := 0) HO.out hcl (i := i) hlt
     obtain ⟨x, hx⟩ : ∃ x, l[i] = x := ⟨_, rfl⟩
     have HX := hid (show x.length = 32 by rw [← hx]; exact HO.out _ (List.getElem_mem hlt))
     rw [hx] at hrow
     have HTK := hid (show (l.take (i + 1)).flatten = (l.take i).flatten ++ x by rw [idsE_take hlt, hx])
     have hnb : no ≤ 10 + i * 32 := by
       rw [← HNO.out, List.length_append, UT (HO.out.sub fun y hy => List.mem_of_mem_take hy), List.length_take]
       have := HNL.out
       have : min i l.length ≤ i := Nat.min_le_left _ _
       omega
     have HNW := hid (show ∀ j u, (idV x)[j]? = some u → wr.cell? ((⟨b, off + i * 32, none⟩ : Addr).add j) = some u from fun j u hj => by
       have e1 : (⟨b, off + i * 32, none⟩ : Addr).add j = ⟨b, off + i * 32 + j, none⟩ := by unfold Addr.add; split <;> simp_all
       rw [e1]
       exact hrow j u hj)
     clear hx hrow hcl
     go_wp2_with (first
       | (at_builtin; refine Kn (by rfl) _ _ 22 rfl w.heap.size 5 (.int .u8 0) 1 1 Tryz.underlying22 ja rfl (by decide) (.slice Ao no co) no (idV (kZ l.length ++ (l.take i).flatten)) rfl HOW.out ⟨b, off + i * 32, none⟩ 32 32 (idV x) rfl (by rw [km, HX.out]) HNW.out (kT _) (by unfold maxLen; omega) (by omega) HBR.out.size ?_
          intro v9 w9 ho9 hg9 hw9
          obtain ⟨A9, c9, rfl⟩ := kB ho9
          have HO9 := hid ho9
          have HB9 := hid (HBR.out.grown hg9 HBR.out.size (fun k e => (HOW.out.lt k e).1))
          clear ho9 hg9 hw9))
     go_roundw
     case rel => exact ⟨i + 1, A9, c9, no + 32, by omega, by go_num, rfl, hid (by rw [HTK.out, ← List.append_assoc, List.length_append, HNO.out, HX.out]), HB9, hid (by rw [HTK.out, ← List.append_assoc, vJ]; exact HO9.out)⟩
     case measure => (simp [intOf]) <;> omega
    ·
     have i1 : ¬ (i : Int) < (l.length : Int) := by omega
     have HFE := hid (show kZ l.length ++ (l.take i).flatten = jP l by rw [HE.out, List.take_of_length_le (by omega)])
     go_wp2_with fail
     go_ret
     exact ⟨HBR.out, Ao, co, by rw [← HFE.out, HNO.out]; rfl, by rw [← HFE.out, HNO.out]; exact HOW.out⟩
theorem J6 (deps : List (List UInt8)) (rc : List UInt8) (ri : Nat) (A : Option Addr) (c : Nat) (w : World) (hn : deps.length ≤ 1099511627776) (ho : IdsOk deps) (hset : kY deps = true) (hz : zero32 ∉ deps) (hr : zb (rc, ((ri : Nat) : Int))) (hin : rc = zero32 ∨ rc ∈ deps) (hri : ri < 9223372036854775808) (hs : Sl w w.heap.size A deps.length 32 (jf deps)) :
    Calls Tryz.prog 65 #[.slice A deps.length c, .agg (kf (rc, ((ri : Nat) : Int))).toArray] w (JI (jH deps (rc, ((ri : Nat) : Int))) w) := by
  have HO := hid ho; have HS := hid hs; have HR := hid hr
  have HZR := hid hz; have HSET := hid hset; have HIN := hid hin
  clear ho hs hr hz hset hin
  have hE1 : ∀ (u : World) (args : Array Value), (callFunc 64 args).run Tryz.prog u = .ok (.enter 64 args) u := fun u args => enters_of Tryz.func64 (by kernel_rfl) rfl args u
  go_enter Tryz.func65, Tryz.ntmps65
  go_upto_region 1 with (first
    | (with_reducible refine kH ?_
       refine kA (by rfl) 68 _ rfl (kf (rc, ((ri : Nat) : Int))) _ rfl rfl (by rw [k8 HR.out]; exact kn) ?_
       intro W0 hb0 hz0 hs0
       have HB0 := hid hb0; have HZ0 := hid hz0
       clear hb0 hz0 hs0))
  obtain ⟨z3, hz3⟩ : ∃ z, w.heap.size = z := ⟨_, rfl⟩
  have HZL := hid (show z3 < W0.heap.size by rw [← hz3]; exact (Array.getElem?_eq_some_iff.1 HZ0.out).1)
  rw [hz3] at HZ0 ⊢
  try go_frame
  clear hz3
  have HC32 := hid (fun (u : World) (hu : Below W0.heap.size W0 u) => (show u.cell? ⟨z3, 32, none⟩ = some (.int .i64 ((ri : Nat) : Int)) from (hu.cell (p := ⟨z3, 32, none⟩) HZL.out).trans ((k6 HZ0.out 32).trans (kI HR.out).2)))
  go_wp2_with fail
  go_loopw [5, 6] (fun t5 t6 wr => ∃ (i n : Nat), i ≤ deps.length ∧ t6 = .int .i64 (i : Int) ∧ t5 = .int .i64 (n : Int) ∧ n ≤ i ∧ Hid (Below W0.heap.size W0 wr) ∧ Hid ((n = 0 ∧ rc ∉ deps.take i) ∨ (0 < n ∧ deps[n - 1]? = some rc))) (fun _ t6 _ => deps.length - (intOf t6).toNat)
  case atStart => exact ⟨0, 0, Nat.zero_le _, rfl, rfl, Nat.le_refl _, hid (Below.refl _ _), hid (.inl ⟨rfl, by simp⟩)⟩
  case round =>
    obtain ⟨i, n, hi, rfl, rfl, hni, HBR, HN⟩ := hrel
    by_cases hlt : i < deps.length
    ·
     have i0 : (0 : Int) ≤ (i : Int) := by omega
     have i1 : (i : Int) < (deps.length : Int) := by omega
     have hbw := HB0.out.trans (HBR.out.mono HB0.out.size)
     obtain ⟨b, off, rfl, hbl, hcl⟩ := (HS.out.keep hbw).2 (by omega)
     have R1 := hid (Wd.row (base := wr.heap.size) (Sl.id (B := 0) HO.out hcl (i := i) hlt) (Nat.lt_of_lt_of_le hbl hbw.size))
     have R2 := hid (Wd.row (base := wr.heap.size) (o := 0) (cs := idV rc) (b := z3) (fun j u hj => by rw [Nat.zero_add]; exact ((HBR.out.cell (p := ⟨z3, j, none⟩) HZL.out).trans (k6 HZ0.out j)).trans ((kI HR.out).1 j u hj)) (Nat.lt_of_lt_of_le HZL.out HBR.out.size))
     have HY := hid (show Kw deps[i] from HO.out _ (List.getElem_mem hlt))
     obtain ⟨y, hy⟩ : ∃ y, deps[i] = y := ⟨_, rfl⟩
     rw [hy] at R1 HY
     have HTK := hid (show deps.take (i + 1) = deps.take i ++ [y] by rw [List.take_succ_eq_append_getElem hlt, hy])
     have HGE := hid (show deps[i]? = some y by rw [List.getElem?_eq_getElem hlt, hy])
     clear hcl hbl hbw hy
     by_cases he : y = rc
     ·
      have HN2 := hid (show (i + 1 = 0 ∧ rc ∉ deps.take (i + 1)) ∨ (0 < i + 1 ∧ deps[i + 1 - 1]? = some rc) from .inr ⟨by omega, by rw [Nat.add_sub_cancel, HGE.out, he]⟩)
      have HEQ : Hid (∀ u : World, (Op.equalIn 10000 47 (.agg (idV y).toArray) (.agg (idV rc).toArray)).run Tryz.prog u = .ok true u) := hid (fun u => (zV HY.out HR.out.1 u).trans (by rw [decide_eq_true he]))
      clear he
      go_wp2_with fail
      refine jW (base := wr.heap.size) wr (Below.refl _ _) (by kernel_rfl) (by kernel_rfl) ?_
      repeat (first
        | go_big_quiet_skip
        | (go_big_quiet_want
           first
             | (refine jg (fun w' hw' => kd 47 _ rfl (p := ⟨b, off + i * 32, none⟩) rfl (run_loadVar_mid w' _ _ _ (idV y) _ (R1.out w' hw') Tryz.underlying47 rfl (by rw [km, show y.length = 32 from HY.out]; exact kR))) ?_
                go_big_quiet_on
                simp only [Act.put, List.setIfInBounds_toArray, List.set_cons_zero, List.set_cons_succ, Bool.not_true, Bool.not_false])
             | (refine jg (fun w' hw' => kd 47 _ rfl (p := ⟨z3, 0, none⟩) rfl (run_loadVar_mid w' _ _ _ (idV rc) _ (R2.out w' hw') Tryz.underlying47 rfl (by rw [km, show rc.length = 32 from HR.out.1]; exact kR))) ?_
                go_big_quiet_on
                simp only [Act.put, List.setIfInBounds_toArray, List.set_cons_zero, List.set_cons_succ, Bool.not_true, Bool.not_false])
             | (refine jg (fun w' hw' => Kc 47 _ _ _ rfl (xs := (idV y).toArray) (ys := (idV rc).toArray) rfl rfl (r := true) eqId.noGuard (HEQ.out w')) ?_
                go_big_quiet_on
                simp only [Act.put, List.setIfInBounds_toArray, List.set_cons_zero, List.set_cons_succ, Bool.not_true, Bool.not_false])
             | (go_big_quiet_op
                go_big_quiet_on)))
      refine wpQuiet_nil ?_
      rintro w' ⟨kk, rfl⟩
      have hk9 := kk.2
      generalize kk.val = w9 at *
      clear kk
      have HBN := hid (HBR.out.trans (hk9.mono HBR.out.size))
      clear hk9
      go_wp2_with fail
      go_roundw
      case rel => exact ⟨i + 1, i + 1, by omega, by go_num, by go_num, Nat.le_refl _, HBN, HN2⟩
      case measure => (simp [intOf]) <;> omega
     ·
      have HN2 := hid (show (n = 0 ∧ rc ∉ deps.take (i + 1)) ∨ (0 < n ∧ deps[n - 1]? = some rc) from by
        rcases HN.out with ⟨q1, q2⟩ | q
        · exact .inl ⟨q1, by rw [HTK.out]; simp only [List.mem_append, List.mem_singleton, not_or]; exact ⟨q2, fun h => he h.symm⟩⟩
        · exact .inr q)
      have HEQ : Hid (∀ u : World, (Op.equalIn 10000 47 (.agg (idV y).toArray) (.agg (idV rc).toArray)).run Tryz.prog u = .ok false u) := hid (fun u => (zV HY.out HR.out.1 u).trans (by rw [decide_eq_false he]))
      clear he
      go_wp2_with fail
      refine jW (base := wr.heap.size) wr (Below.refl _ _) (by kernel_rfl) (by kernel_rfl) ?_
      repeat (first
        | go_big_quiet_skip
        | (go_big_quiet_want
           first
             | (refine jg (fun w' hw' => kd 47 _ rfl (p := ⟨b, off + i * 32, none⟩) rfl (run_loadVar_mid w' _ _ _ (idV y) _ (R1.out w' hw') Tryz.underlying47 rfl (by rw [km, show y.length = 32 from HY.out]; exact kR))) ?_
                go_big_quiet_on
                simp only [Act.put, List.setIfInBounds_toArray, List.set_cons_zero, List.set_cons_succ, Bool.not_true, Bool.not_false])
             | (refine jg (fun w' hw' => kd 47 _ rfl (p := ⟨z3, 0, none⟩) rfl (run_loadVar_mid w' _ _ _ (idV rc) _ (R2.out w' hw') Tryz.underlying47 rfl (by rw [km, show rc.length = 32 from HR.out.1]; exact kR))) ?_
                go_big_quiet_on
                simp only [Act.put, List.setIfInBounds_toArray, List.set_cons_zero, List.set_cons_succ, Bool.not_true, Bool.not_false])
             | (refine jg (fun w' hw' => Kc 47 _ _ _ rfl (xs := (idV y).toArray) (ys := (idV rc).toArray) rfl rfl (r := false) eqId.noGuard (HEQ.out w')) ?_
                go_big_quiet_on
                simp only [Act.put, List.setIfInBounds_toArray, List.set_cons_zero, List.set_cons_succ, Bool.not_true, Bool.not_false])
             | (go_big_quiet_op
                go_big_quiet_on)))
      refine wpQuiet_nil ?_
      rintro w' ⟨kk, rfl⟩
      have hk9 := kk.2
      generalize kk.val = w9 at *
      clear kk
      have HBN := hid (HBR.out.trans (hk9.mono HBR.out.size))
      clear hk9
      go_wp2_with fail
      go_roundw
      case rel => exact ⟨i + 1, n, by omega, by go_num, rfl, by omega, HBN, HN2⟩
      case measure => (simp [intOf]) <;> omega
    ·
     have i1 : ¬ (i : Int) < (deps.length : Int) := by omega
     have HRE := hid (show jH deps (rc, ((ri : Nat) : Int)) = kZ n ++ kZ ri from by
       unfold jH
       simp only
       rcases HN.out with ⟨q1, q2⟩ | ⟨q1, q2⟩
       ·
        rw [List.take_of_length_le (by omega)] at q2
        have hz := HIN.out.resolve_right q2
        rw [if_neg (by simp [hz]), q1]
        exact (congrArg (· ++ Jn (ri : Int)) (jw 0)).trans (by rw [jw])
       ·
        obtain ⟨g1, g2⟩ := List.getElem?_eq_some_iff.1 q2
        have hne : rc ≠ zero32 := fun e => HZR.out (by rw [← e, ← g2]; exact List.getElem_mem g1)
        have hix := uU HSET.out (n - 1) g1
        rw [g2] at hix
        rw [if_pos hne, hix, show (((n - 1 : Nat) : Int) + 1) = ((n : Nat) : Int) by omega, jw, jw])
     have hnb : n < 9223372036854775808 := by omega
     have hl1 := je (n := n) (by omega)
     have hl2 := je (n := ri) (by omega)
     go_upto_region 7 with fail
     obtain ⟨w1, hw1⟩ : ∃ u, wr.drew = u := ⟨_, rfl⟩
     have HB1W := hid (show Below W0.heap.size W0 w1 by rw [← hw1]; exact HBR.out.drew)
     have HF7 := hid (HC32.out w1 HB1W.out)
     refine kr 4 (fun u => u.cell? ⟨z3, 32, none⟩ = some (.int .i64 ((ri : Nat) : Int))) (by kernel_rfl) ?_
     have hF0 : (fun u => u.cell? ⟨z3, 32, none⟩ = some (.int .i64 ((ri : Nat) : Int))) wr.drew := by rw [hw1]; exact HF7.out
     rw [hw1] at hF0 ⊢
     refine tw 0 (.int .i64 (n : Int)) ?_
     go_frame
     refine tw 2 (.pointer (some ⟨z3, 32, none⟩)) ?_
     go_frame
     refine tkF 3 (.int .i64 ((ri : Nat) : Int)) (by kernel_rfl) rfl (fun _ _ _ h => h) (by rfl) hF0 (fun w' hw' => ki 3 _ rfl (p := ⟨z3, 32, none⟩) rfl Tryz.underlying3 rfl hw') ?_
     go_frame
     refine ta 1 ?_
     refine kC _ rfl (by kernel_rfl) (kv (f := 64) (args := #[.int .i64 (n : Int)]) rfl rfl (fun args w => hE1 w args) (by simp only [List.map_toArray, List.map_cons, List.map_nil]; rfl)) ?_
     refine (zD n hnb w1).mono ?_
     rintro e w2 ⟨hb2, A2, c2, rfl, ho2⟩
     have HB2 := hid hb2; have HO2 := hid ho2
     have hF2 := HC32.out w2 (HB1W.out.trans (hb2.mono HB1W.out.size))
     clear hb2 ho2
     refine ⟨_, rfl, fun _ _ => hF2, ?_⟩
     go_frame
     refine ta 4 ?_
     refine kC _ rfl (by kernel_rfl) (kv (f := 64) (args := #[.int .i64 ((ri : Nat) : Int)]) rfl rfl (fun args w => hE1 w args) (by simp only [List.map_toArray, List.map_cons, List.map_nil]; rfl)) ?_
     refine (zD ri hri w2).mono ?_
     rintro e w3 ⟨hb3, A3, c3, rfl, ho3⟩
     have HB3 := hid hb3; have HO3 := hid ho3
     clear hb3 ho3
     refine ⟨_, rfl, fun h => absurd h (by decide), ?_⟩
     go_frame
     refine ta 5 ?_
     refine Zi _ rfl (by kernel_rfl) ?_
     obtain ⟨im, hmi, hm0, hm1, hm2⟩ := info_parts ja
     refine vK _ _ 22 rfl w1.heap.size 5 im (.int .u8 0) 1 1 Tryz.underlying22 hmi hm0 hm1 hm2 rfl (by decide) (.slice A2 (kZ n).length c2) (kZ n).length (idV (kZ n)) rfl ((But.of_below (X := NoB) HB3.out).own HO2.out fun _ _ q => q) A3 (kZ ri).length c3 w3.heap.size (idV (kZ ri)) rfl (Sl.of_own HO3.out) (kT _) (by unfold maxLen; omega) (by omega) (Nat.le_trans HB2.out.size HB3.out.size) ?_
     intro v9 w9 ho9 hg9
     obtain ⟨A9, c9, rfl⟩ := kB ho9
     have HO9 := hid ho9
     have HB9 := hid (show Below w1.heap.size w1 w9 from (HB2.out.trans (HB3.out.mono HB2.out.size)).grown hg9 (Nat.le_trans HB2.out.size HB3.out.size) (fun k e => (HO2.out.lt k e).1))
     clear ho9 hg9
     refine ⟨fun h => absurd h (by decide), ?_⟩
     go_frame
     refine tw 6 (.slice A9 ((kZ n).length + (kZ ri).length) c9) ?_
     go_frame
     refine kx (by kernel_rfl) ?_ _
     go_wp2_with fail
     go_ret
     have e1 : (jH deps (rc, ((ri : Nat) : Int))).length = (kZ n).length + (kZ ri).length := by rw [HRE.out, List.length_append]
     have hww : w.heap.size ≤ w1.heap.size := Nat.le_trans HB0.out.size HB1W.out.size
     exact ⟨(HB0.out.trans (HB1W.out.mono HB0.out.size)).trans (HB9.out.mono hww), A9, c9, by rw [e1]; rfl, by rw [e1, HRE.out, vJ]; exact KM HO9.out hww⟩
end Go.Proofs.YthjaepmfkgejkaaGreatDoor
