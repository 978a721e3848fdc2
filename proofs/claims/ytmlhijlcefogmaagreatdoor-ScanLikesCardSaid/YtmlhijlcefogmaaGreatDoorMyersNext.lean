/-
  What the search's next gives: the next list. Conditions: rows of at most 100000 numbers, kept where the search's box says; the list ahead.
-/
import Derived.Test.YtmlhijlcefogmaaGreatDoorMerged9
import Derived.Laws.OwnMore
set_option linter.unusedVariables false
set_option linter.unusedSimpArgs false
set_option maxHeartbeats 4000000
set_option maxRecDepth 100000
namespace Go.Proofs.YtmlhijlcefogmaaGreatDoor
open Go.RowKit Go.Maps Go.Shelf

theorem i32Info : (Tryz.prog.info? 21).map (fun i => (i.zero, i.size, i.bytes)) = some (some (.int .i32 0), 1, 4) := by kernel_rfl
theorem slideS_le (a b : List Int) : ∀ (i : Nat) (k : Int), slideS a b i k ≤ i
  | 0, _ => Nat.le_refl _
  | i + 1, k => by
    unfold slideS
    split
    · have := slideS_le a b i k; omega
    · exact Nat.le_refl _
theorem best2_never (a b : List Int) (d : Nat) (l : List Nat) (t : Nat) : best2 a b d l t ≤ never := by
  refine Nat.le_trans (best2_le1 _ _) ?_
  unfold best1
  split
  · exact try_le _ _ _
  · exact Nat.le_refl _
theorem lst_never {a b : List Int} (hn : a.length < never) : ∀ d, ∀ x ∈ lst a b d, x ≤ never
  | 0, x, h => by
    rw [List.mem_singleton.1 h]
    have := slideS_le a b a.length ((a.length : Int) - b.length)
    omega
  | d + 1, x, h => by
    obtain ⟨t, _, rfl⟩ := List.mem_map.1 h
    unfold nextAt
    split
    · have := slideS_le a b (best2 a b (d + 1) (lst a b d) t) (dg a b (d + 1) t)
      have := best2_never a b (d + 1) (lst a b d) t
      omega
    · exact Nat.le_refl _
theorem lst_next {a b : List Int} {e d : Nat} {l : List Nat} (hd : d = e + 1) (hl : lst a b e = l) : lst a b d = (List.range (d + 1)).map (nextAt a b d l) := by
  subst hd hl
  rfl
theorem own_kept {w w' : World} {base : Nat} {e : TypeId} {sz : Nat} {v : Value} {n : Nat} {xs : List Value} (h : w.ownsRow base e sz v n xs) (hb : Below w.heap.size w w') : w'.ownsRow base e sz v n xs := by
  refine ⟨h.1, ?_⟩
  rcases h.2 with h0 | ⟨g, cap, cur, hv, hbg, hg, hle, hm, hcs, ht⟩
  · exact .inl h0
  · exact .inr ⟨g, cap, cur, hv, hbg, by rw [hb.block g (Array.getElem?_eq_some_iff.1 hg).1]; exact hg, hle, hm, hcs, ht⟩
theorem own_only {B : Nat} {w w' : World} {base n size c g : Nat} {e : TypeId} {xs : List Value} (h : OnlyAt B w w') (ho : w.ownsRow base e size (.slice (some ⟨g, 0, none⟩) n c) n xs) (hne : g ≠ B) : w'.ownsRow base e size (.slice (some ⟨g, 0, none⟩) n c) n xs := by
  obtain ⟨h1, h2⟩ := ho
  refine ⟨h1, ?_⟩
  rcases h2 with h2 | ⟨g', cap, cur, hv, hg, hh, r⟩
  · exact .inl h2
  · injection hv with e1 _ e3
    injection e1 with e1
    injection e1 with e1
    subst e1
    exact .inr ⟨g, cap, cur, by rw [e3], hg, by rw [h.2.2 g hne]; exact hh, r⟩
theorem XS_get {l : List Value} {i : Nat} (h : i < l.length) {v : Value} : (l.set i v)[i]? = some v := by simp [h]
theorem fill_next (f : Nat → Nat) (i n : Nat) (h : i < n) (v : Value) (hv : v = .int .i32 (f i : Int)) (z : Value) : (natV ((List.range i).map f) ++ List.replicate (n - i) z).set i v = natV ((List.range (i + 1)).map f) ++ List.replicate (n - (i + 1)) z := by
  have hl : (natV ((List.range i).map f)).length = i := by simp [natV]
  rw [List.set_append_right _ _ (by omega), hl, Nat.sub_self, show n - i = (n - (i + 1)) + 1 by omega, List.replicate_succ, List.set_cons_zero, List.range_succ, List.map_append, hv]
  simp [natV]
theorem next_any (a b : List Int) (B : Nat) (A A' Al : Option Addr) (ca cb cl : Nat) (e : Nat) (w : World) (hB : B < w.heap.size) (cA : w.cell? ⟨B, 0, none⟩ = some (.slice A a.length ca)) (cB : w.cell? ⟨B, 1, none⟩ = some (.slice A' b.length cb))
    (hsa : Sl w w.heap.size A a.length 1 (i32V a)) (hsb : Sl w w.heap.size A' b.length 1 (i32V b)) (hsl : Sl w w.heap.size Al (e + 1) 1 (natV (lst a b e))) (hn : a.length ≤ 100000) (hm : b.length ≤ 100000) (he : e ≤ 300000) :
    Calls Tryz.prog 131 #[.pointer (some ⟨B, 0, none⟩), .int .i64 ((e + 1 : Nat) : Int), .slice Al (e + 1) cl] w fun r w' => Below w.heap.size w w' ∧ ∃ g c, r = .returned (.slice (some ⟨g, 0, none⟩) (e + 2) c) ∧
      w'.ownsRow w.heap.size 21 1 (.slice (some ⟨g, 0, none⟩) (e + 2) c) (e + 2) (natV (lst a b (e + 1))) := by
  have HSA := Lib.hid hsa; have HSB := Lib.hid hsb; have HSL := Lib.hid hsl; have HCA := Lib.hid cA; have HCB := Lib.hid cB
  have hld : (lst a b e).length = e + 1 := lst_length a b e
  have HLN := Lib.hid (lst_never (a := a) (b := b) (by unfold never; omega) e)
  clear hsa hsb hsl cA cB
  obtain ⟨l, hl⟩ : ∃ l, lst a b e = l := ⟨_, rfl⟩
  rw [hl] at hld
  have HL := Lib.hid hl
  obtain ⟨d, hd⟩ : ∃ d, d = e + 1 := ⟨_, rfl⟩
  have hd1 : 1 ≤ d := by omega
  have hdz : ((d : Int) == 0) = false := by rw [beq_eq_false_iff_ne]; omega
  have HD := Lib.hid hd
  rw [← hd] at hld HSL ⊢
  rw [hl] at HSL HLN
  rw [show e + 2 = d + 1 by omega]
  have hdb : d ≤ 300001 := by omega
  obtain ⟨bl, ol, rfl, hbl, hcl⟩ := HSL.out.2 (by omega)
  have HCL := Lib.hid hcl
  clear hl hd hcl
  go_enter Tryz.func131, Tryz.ntmps131
  have ed : IntKind.i64.wrap ((d : Int) + 1) = ((d + 1 : Nat) : Int) := by rw [IntWalk.i64_in _ (by omega)]; omega
  obtain ⟨im, hmi, hm0, hm1, hm2⟩ := info_parts i32Info
  go_wp2_with (refine wpList_make_full w rfl _ _ 75 rfl w.heap.size 21 im (.int .i32 0) 1 Tryz.underlying75 hmi hm0 hm1 .i64 .i64 _ _ (d + 1) rfl rfl (by omega) (by omega) (by rw [hm2]; omega) (by unfold maxLen; omega) (Nat.le_refl _) ?_; intro w1 hown1 hg1)
  have hb1 : Below w.heap.size w w1 := (Below.refl _ _).grown hg1 (Nat.le_refl _) (fun k e => by cases e)
  have hini : (madeCells (Value.int IntKind.i32 0).cells ((d + 1) * 1)).toList = natV ((List.range 0).map (nextAt a b d l)) ++ List.replicate (d + 1 - 0) (.int .i32 0) := by
    rw [Nat.mul_one]
    exact toList_madeCells_one _ _
  rw [hini] at hown1
  have hgz : w.heap.size < w1.heap.size := (hown1.lt _ rfl).2
  have HO1 := Lib.hid hown1; have HB1 := Lib.hid hb1
  clear hini hown1 hg1 hb1
  go_loopw [38] (fun t wr => ∃ i : Nat, i ≤ d + 1 ∧ t = .int .i64 i ∧ Below w.heap.size w wr ∧ Hid (wr.ownsRow w.heap.size 21 1 (.slice (some ⟨w.heap.size, 0, none⟩) (d + 1) (d + 1)) (d + 1) (natV ((List.range i).map (nextAt a b d l)) ++ List.replicate (d + 1 - i) (.int .i32 0)))) (fun t _ => d + 1 - (intOf t).toNat)
  case atStart => exact ⟨0, by omega, rfl, HB1.out, HO1⟩
  case round =>
    obtain ⟨i, hi, rfl, hbr, hO⟩ := hrel
    by_cases hlt : i < d + 1
    · have hbs := hbr.size
      have hdg := diag_any B A A' a.length b.length ca cb d i wr (Nat.lt_of_lt_of_le hB hbs) ((hbr.cell (p := ⟨B, 0, none⟩) hB).trans HCA.out) ((hbr.cell (p := ⟨B, 1, none⟩) hB).trans HCB.out) hn hm (by omega) (by omega)
      obtain ⟨k, hk⟩ : ∃ k : Int, (a.length : Int) - b.length - d + 2 * (i : Int) = k := ⟨_, rfl⟩
      rw [hk] at hdg
      have HK : Hid (dg a b d i = k) := hk
      have i1 : (i : Int) < (d : Int) + 1 := by omega
      clear hk
      go_upto_region 8 with (go_at_call 132; refine hdg.mono ?_; rintro r w2 ⟨rfl, hg2⟩)
      obtain ⟨z, hz⟩ : ∃ z, w2.heap.size = z := ⟨_, rfl⟩
      obtain ⟨W3, hW3⟩ : ∃ W3, (w2.alloc (.cells #[.int .i64 k] 3)).alloc (.cells #[.int .i64 2147483647] 3) = W3 := ⟨_, rfl⟩
      have K3 : Hid (IBox W3 z k) := by rw [← hW3, ← hz]; exact heap_alloc2_old _ _ _
      have B3 : Hid (IBox W3 (z + 1) ((never : Nat) : Int)) := by rw [← hW3, ← hz]; exact heap_alloc2_new _ _ _
      have hb23 : Below w2.heap.size w2 W3 := by rw [← hW3]; exact ((Below.refl _ _).alloc (Nat.le_refl _) _).alloc (by simp) _
      have hb2 : Below w.heap.size w w2 := hbr.trans (hg2.below.mono hbs)
      have E3 : Hid (Below w.heap.size w W3) := hb2.trans (hb23.mono hb2.size)
      have HZ : Hid (w.heap.size < z) := by
        have h1 := (hO.out.lt _ rfl).2
        have h2 := hg2.below.size
        rw [← hz]
        exact Nat.lt_of_lt_of_le h1 h2
      obtain ⟨XS, hXS⟩ : ∃ XS, natV ((List.range i).map (nextAt a b d l)) ++ List.replicate (d + 1 - i) (Value.int .i32 0) = XS := ⟨_, rfl⟩
      have O3 : Hid (W3.ownsRow w.heap.size 21 1 (.slice (some ⟨w.heap.size, 0, none⟩) (d + 1) (d + 1)) (d + 1) XS) := by
        rw [← hXS]
        exact own_kept (own_kept hO.out hg2.below) hb23
      have hxsl : XS.length = d + 1 := by rw [← hXS]; simp [natV]; omega
      have HXL : Hid (i < XS.length) := by rw [hxsl]; exact hlt
      have hxi : XS[i]? = some (.int .i32 0) := by
        have hl0 : (natV ((List.range i).map (nextAt a b d l))).length = i := by simp [natV]
        rw [← hXS, List.getElem?_append_right (by omega), hl0, Nat.sub_self, List.getElem?_replicate, if_pos (by omega)]
      have HXI := Lib.hid hxi
      have HFILL : Hid (∀ v : Value, v = .int .i32 (nextAt a b d l i : Int) → XS.set i v = natV ((List.range (i + 1)).map (nextAt a b d l)) ++ List.replicate (d + 1 - (i + 1)) (Value.int .i32 0)) := fun v hv => by
        rw [← hXS]
        exact fill_next (nextAt a b d l) i (d + 1) hlt v hv _
      have HBR : Hid (best2 a b d l i ≠ never → R a b d (dg a b d i) (best2 a b d l i)) := by
        have h := best2_R (a := a) (b := b) (d := e) (t := i) (by have := HD.out; omega) (lst_sound e)
        rw [HL.out, ← HD.out] at h
        exact h
      have HAH : Hid (∀ j, j < d → ∃ x : Nat, Hid (l.getD j never = x) ∧ x ≤ never ∧ ∀ u : World, Below w.heap.size w u → u.cell? ⟨bl, ol + j, none⟩ = some (.int .i32 (x : Int))) := fun j hj => by
        have hjl : j < l.length := by omega
        refine ⟨l[j], Lib.hid (by rw [List.getD_eq_getElem?_getD, List.getElem?_eq_getElem hjl]; rfl), HLN.out _ (List.getElem_mem hjl), fun u hu => ?_⟩
        exact (hu.cell (p := ⟨bl, ol + j, none⟩) hbl).trans (HCL.out j _ (by simp [natV, hjl]))
      have HXB : Hid (∀ j, j < d → ∀ x : Nat, x ≠ never → Hid (l.getD j never = x) → x ≤ 100000) := fun j hj x hx hl => by
        have h := lst_sound (a := a) (b := b) e j (by have := HD.out; omega) (by rw [HL.out, hl.out]; exact hx)
        have := h.1.2.1
        rw [HL.out, hl.out] at this
        omega
      have hkr : -1000000 ≤ k ∧ k ≤ 1000000 := by
        have h1 : dg a b d i = (a.length : Int) - b.length - d + 2 * i := rfl
        rw [HK.out] at h1
        omega
      rw [hW3, hz]
      clear hxi hW3 hXS hxsl hb23 hb2 hbr hdg hO hz
      by_cases hid : i < d
      · have i2 : (i : Int) < (d : Int) := by omega
        have i3 : decide ((i : Int) < (d : Int)) = true := by rw [decide_eq_true_iff]; exact i2
        have i4 : (0 : Int) ≤ (i : Int) := by omega
        obtain ⟨x, HX, hx, cx0⟩ := HAH.out i hid
        have cx := cx0 W3 E3.out
        by_cases hxn : x = never
        · have hxb : ((x : Int) != 2147483647) = false := by rw [hxn]; rfl
          have HB1 : Hid (best1 a b d l i = never) := Lib.hid (by unfold best1; rw [if_neg (by rw [HX.out]; exact fun h => h.2 hxn)])
          have HB1L : Hid (never ≤ never) := Nat.le_refl _
          clear hxn
          go_upto_region 11 with fail
          clear cx0
          have HB1LE : Hid (never ≤ never) := HB1L.out
          by_cases hi0 : 0 < i
          · have j1 : decide ((0 : Int) < (i : Int)) = true := by rw [decide_eq_true_iff]; omega
            have j2 : (0 : Int) < (i : Int) := by omega
            obtain ⟨y, HY, hy, ct0⟩ := HAH.out (i - 1) (by omega)
            obtain ⟨q, hq⟩ : ∃ q, q = i - 1 := ⟨_, rfl⟩
            have e9 : IntKind.i64.wrap ((i : Int) - 1) = (q : Int) := by rw [IntWalk.i64_in _ (by omega)]; omega
            have q0 : (0 : Int) ≤ (q : Int) := by omega
            have q1 : (q : Int) < (d : Int) := by omega
            have ey : IntKind.i64.wrap (y : Int) = (y : Int) := IntWalk.i64_in _ (by unfold never at hy; omega)
            rw [← hq] at ct0
            have HIQ := Lib.hid hq
            clear hq
            by_cases hyn : y = never
            · have hyb : ((y : Int) != 2147483647) = false := by rw [hyn]; rfl
              have ct := ct0 W3 E3.out
              clear ct0
              go_upto_region 13 with fail
              have cO := (O3.out.cellAt i (by omega)).trans HXI.out
              have fO := O3.out.frozenAt i
              go_upto_region 14 with fail
              obtain ⟨hO6, _⟩ := O3.out.stored i (.int .i32 2147483647)
              have hb6 : Below w.heap.size w (W3.setCell ⟨w.heap.size, i, none⟩ (.int .i32 2147483647)) := E3.out.setCell (Nat.le_refl _) _
              have hB6 : IBox (W3.setCell ⟨w.heap.size, i, none⟩ (.int .i32 2147483647)) (z + 1) (never : Int) := (Below.heap_setCell _ _ _ _ (by have := HZ.out; show z + 1 ≠ w.heap.size; omega)).trans B3.out
              have hK6 : IBox (W3.setCell ⟨w.heap.size, i, none⟩ (.int .i32 2147483647)) z k := (Below.heap_setCell _ _ _ _ (by have := HZ.out; show z ≠ w.heap.size; omega)).trans K3.out
              generalize W3.setCell ⟨w.heap.size, i, none⟩ (.int .i32 2147483647) = W6 at *
              have cb6 := hB6.cell
              have ck6 := hK6.cell
              have HO6 := Lib.hid hO6; have HB6 := Lib.hid hb6
              clear cO fO hO6 hb6 hB6 hK6
              have hbe : best2 a b d l i = never := by unfold best2; rw [if_neg (by rw [HY.out]; exact fun h => h.2 hyn)]; exact HB1.out
              have hbn : never = never := rfl
              have hna : nextAt a b d l i = never := by unfold nextAt; rw [hbe, if_neg (fun h => h hbn)]
              have hbb : (((never : Nat) : Int) != 2147483647) = false := by rw [hbn]; rfl
              have hfill := HFILL.out (.int .i32 2147483647) (by rw [hna]; rfl)
              rw [hfill] at HO6
              clear hna hbe hbn hfill
              go_wp2_with fail
              go_roundw
              case rel => exact ⟨i + 1, by omega, by go_num, HB6.out, HO6⟩
              case measure => simp [intOf]; omega

            · have hyb : ((y : Int) != 2147483647) = true := bne_iff_ne.2 (by unfold never at hyn; omega)
              have hyle : y ≤ 100000 := HXB.out (i - 1) (by omega) y hyn HY
              have ct := ct0 W3 E3.out
              have t2 := try_any (y : Int) k never z (z + 1) W3 K3.out B3.out (by omega) (by omega) hkr
              clear ct0
              go_upto_region 13 with (go_at_call 177; refine t2.mono ?_; rintro r W5 ⟨rfl, hO5, hb5⟩)
              have K5 : Hid (IBox W5 z k) := (hO5.2.2 z (by omega)).trans K3.out
              have B5 : Hid (IBox W5 (z + 1) (tryS never (y : Int) k : Int)) := hb5
              have E5 : Hid (Below w.heap.size w W5) := E3.out.trans (hO5.1.mono (by have := HZ.out; omega))
              have O5 : Hid (W5.ownsRow w.heap.size 21 1 (.slice (some ⟨w.heap.size, 0, none⟩) (d + 1) (d + 1)) (d + 1) XS) := own_only hO5 O3.out (by have := HZ.out; omega)
              obtain ⟨bs, hbs⟩ : ∃ bs, tryS never (y : Int) k = bs := ⟨_, rfl⟩
              rw [hbs] at B5
              have hbsle : bs ≤ never := by rw [← hbs]; exact Nat.le_trans (try_le _ _ _) HB1LE.out
              have cO := (O5.out.cellAt i (by omega)).trans HXI.out
              have fO := O5.out.frozenAt i
              go_upto_region 14 with fail
              obtain ⟨hO6, _⟩ := O5.out.stored i (.int .i32 2147483647)
              have hb6 : Below w.heap.size w (W5.setCell ⟨w.heap.size, i, none⟩ (.int .i32 2147483647)) := E5.out.setCell (Nat.le_refl _) _
              have hB6 : IBox (W5.setCell ⟨w.heap.size, i, none⟩ (.int .i32 2147483647)) (z + 1) (bs : Int) := (Below.heap_setCell _ _ _ _ (by have := HZ.out; show z + 1 ≠ w.heap.size; omega)).trans B5.out
              have hK6 : IBox (W5.setCell ⟨w.heap.size, i, none⟩ (.int .i32 2147483647)) z k := (Below.heap_setCell _ _ _ _ (by have := HZ.out; show z ≠ w.heap.size; omega)).trans K5.out
              generalize W5.setCell ⟨w.heap.size, i, none⟩ (.int .i32 2147483647) = W6 at *
              have cb6 := hB6.cell
              have ck6 := hK6.cell
              have HO6 := Lib.hid hO6; have HB6 := Lib.hid hb6
              clear cO fO hO6 hb6 hB6 hK6
              have hbe : best2 a b d l i = bs := by unfold best2; rw [if_pos ⟨hi0, by rw [HY.out]; exact hyn⟩, HY.out, HK.out, HB1.out]; exact hbs
              by_cases hbn : bs = never
              · have hna : nextAt a b d l i = never := by unfold nextAt; rw [hbe, if_neg (fun h => h hbn)]
                have hbb : (((bs : Nat) : Int) != 2147483647) = false := by rw [hbn]; rfl
                have hfill := HFILL.out (.int .i32 2147483647) (by rw [hna]; rfl)
                rw [hfill] at HO6
                clear hna hbe hbn hfill
                go_wp2_with fail
                go_roundw
                case rel => exact ⟨i + 1, by omega, by go_num, HB6.out, HO6⟩
                case measure => simp [intOf]; omega
              · have hR := HBR.out (by rw [hbe]; exact hbn)
                rw [hbe, HK.out] at hR
                obtain ⟨⟨o1, o2, o3⟩, _⟩ := hR
                have hna : nextAt a b d l i = slideS a b bs k := by unfold nextAt; rw [hbe, if_pos hbn, HK.out]
                have hbb : (((bs : Nat) : Int) != 2147483647) = true := bne_iff_ne.2 (by unfold never at hbn; omega)
                have hs6 := HB6.out.size
                have hsl := slide_any a b B A A' ca cb bs k W6 (Nat.lt_of_lt_of_le hB hs6) ((HB6.out.cell (p := ⟨B, 0, none⟩) hB).trans HCA.out) ((HB6.out.cell (p := ⟨B, 1, none⟩) hB).trans HCB.out) ((HSA.out.keep HB6.out).more hs6) ((HSB.out.keep HB6.out).more hs6) hn hm o2 o3 hkr
                have HFI := Lib.hid (HFILL.out (.int .i32 (slideS a b bs k : Int)) (by rw [hna]))
                clear hna hbe hbn o1 o2 o3
                go_upto_region 15 with fail
                go_upto_region 16 with (go_at_call 176; refine hsl.mono ?_; rintro r w7 ⟨rfl, hg7⟩
                                        have O7 := own_kept HO6.out hg7.below
                                        have cO7 := (O7.cellAt i (by omega)).trans (XS_get HXL.out)
                                        have fO7 := O7.frozenAt i
                                        have HO7 := Lib.hid O7; have HB7 := Lib.hid (HB6.out.trans (hg7.below.mono HB6.out.size)))
                obtain ⟨hO8, _⟩ := HO7.out.stored i (.int .i32 (slideS a b bs k : Int))
                have hb8 : Below w.heap.size w (w7.setCell ⟨w.heap.size, i, none⟩ (.int .i32 (slideS a b bs k : Int))) := HB7.out.setCell (Nat.le_refl _) _
                rw [List.set_set, HFI.out] at hO8
                go_wp2_with fail
                go_roundw
                case rel => exact ⟨i + 1, by omega, by go_num, hb8, Lib.hid hO8⟩
                case measure => simp [intOf]; omega

          · have j1 : decide ((0 : Int) < (i : Int)) = false := by rw [decide_eq_false_iff_not]; omega
            have j2 : ¬ (0 : Int) < (i : Int) := by omega
            go_upto_region 13 with fail
            have cO := (O3.out.cellAt i (by omega)).trans HXI.out
            have fO := O3.out.frozenAt i
            go_upto_region 14 with fail
            obtain ⟨hO6, _⟩ := O3.out.stored i (.int .i32 2147483647)
            have hb6 : Below w.heap.size w (W3.setCell ⟨w.heap.size, i, none⟩ (.int .i32 2147483647)) := E3.out.setCell (Nat.le_refl _) _
            have hB6 : IBox (W3.setCell ⟨w.heap.size, i, none⟩ (.int .i32 2147483647)) (z + 1) (never : Int) := (Below.heap_setCell _ _ _ _ (by have := HZ.out; show z + 1 ≠ w.heap.size; omega)).trans B3.out
            have hK6 : IBox (W3.setCell ⟨w.heap.size, i, none⟩ (.int .i32 2147483647)) z k := (Below.heap_setCell _ _ _ _ (by have := HZ.out; show z ≠ w.heap.size; omega)).trans K3.out
            generalize W3.setCell ⟨w.heap.size, i, none⟩ (.int .i32 2147483647) = W6 at *
            have cb6 := hB6.cell
            have ck6 := hK6.cell
            have HO6 := Lib.hid hO6; have HB6 := Lib.hid hb6
            clear cO fO hO6 hb6 hB6 hK6
            have hbe : best2 a b d l i = never := by unfold best2; rw [if_neg (fun h => hi0 h.1)]; exact HB1.out
            have hbn : never = never := rfl
            have hna : nextAt a b d l i = never := by unfold nextAt; rw [hbe, if_neg (fun h => h hbn)]
            have hbb : (((never : Nat) : Int) != 2147483647) = false := by rw [hbn]; rfl
            have hfill := HFILL.out (.int .i32 2147483647) (by rw [hna]; rfl)
            rw [hfill] at HO6
            clear hna hbe hbn hfill
            go_wp2_with fail
            go_roundw
            case rel => exact ⟨i + 1, by omega, by go_num, HB6.out, HO6⟩
            case measure => simp [intOf]; omega


        · have hxb : ((x : Int) != 2147483647) = true := bne_iff_ne.2 (by unfold never at hxn; omega)
          have ex : IntKind.i64.wrap (x : Int) = (x : Int) := IntWalk.i64_in _ (by unfold never at hx; omega)
          have ex1 : IntKind.i64.wrap ((x : Int) - 1) = (x : Int) - 1 := IntWalk.i64_in _ (by unfold never at hx; omega)
          have hxle : x ≤ 100000 := HXB.out i hid x hxn HX
          have t1 := try_any ((x : Int) - 1) k never z (z + 1) W3 K3.out B3.out (by omega) (by omega) hkr
          obtain ⟨b1, hb1⟩ : ∃ b1, tryS never ((x : Int) - 1) k = b1 := ⟨_, rfl⟩
          rw [hb1] at t1
          have HB1 : Hid (best1 a b d l i = b1) := Lib.hid (by unfold best1; rw [if_pos ⟨hid, by rw [HX.out]; exact hxn⟩, HX.out, HK.out]; exact hb1)
          have HB1L : Hid (b1 ≤ never) := by rw [← hb1]; exact try_le _ _ _
          clear hb1
          go_upto_region 11 with (go_at_call 177; refine t1.mono ?_; rintro r W4 ⟨rfl, hO4, hb4⟩)
          have K4 : Hid (IBox W4 z k) := (hO4.2.2 z (by omega)).trans K3.out
          have B4 : Hid (IBox W4 (z + 1) (b1 : Int)) := hb4
          have E4 : Hid (Below w.heap.size w W4) := E3.out.trans (hO4.1.mono (by have := HZ.out; omega))
          have O4 : Hid (W4.ownsRow w.heap.size 21 1 (.slice (some ⟨w.heap.size, 0, none⟩) (d + 1) (d + 1)) (d + 1) XS) := own_only hO4 O3.out (by have := HZ.out; omega)

          clear cx cx0 t1 hO4 hb4
          have HB1LE : Hid (b1 ≤ never) := HB1L.out
          by_cases hi0 : 0 < i
          · have j1 : decide ((0 : Int) < (i : Int)) = true := by rw [decide_eq_true_iff]; omega
            have j2 : (0 : Int) < (i : Int) := by omega
            obtain ⟨y, HY, hy, ct0⟩ := HAH.out (i - 1) (by omega)
            obtain ⟨q, hq⟩ : ∃ q, q = i - 1 := ⟨_, rfl⟩
            have e9 : IntKind.i64.wrap ((i : Int) - 1) = (q : Int) := by rw [IntWalk.i64_in _ (by omega)]; omega
            have q0 : (0 : Int) ≤ (q : Int) := by omega
            have q1 : (q : Int) < (d : Int) := by omega
            have ey : IntKind.i64.wrap (y : Int) = (y : Int) := IntWalk.i64_in _ (by unfold never at hy; omega)
            rw [← hq] at ct0
            have HIQ := Lib.hid hq
            clear hq
            by_cases hyn : y = never
            · have hyb : ((y : Int) != 2147483647) = false := by rw [hyn]; rfl
              have ct := ct0 W4 E4.out
              clear ct0
              go_upto_region 13 with fail
              have cO := (O4.out.cellAt i (by omega)).trans HXI.out
              have fO := O4.out.frozenAt i
              go_upto_region 14 with fail
              obtain ⟨hO6, _⟩ := O4.out.stored i (.int .i32 2147483647)
              have hb6 : Below w.heap.size w (W4.setCell ⟨w.heap.size, i, none⟩ (.int .i32 2147483647)) := E4.out.setCell (Nat.le_refl _) _
              have hB6 : IBox (W4.setCell ⟨w.heap.size, i, none⟩ (.int .i32 2147483647)) (z + 1) (b1 : Int) := (Below.heap_setCell _ _ _ _ (by have := HZ.out; show z + 1 ≠ w.heap.size; omega)).trans B4.out
              have hK6 : IBox (W4.setCell ⟨w.heap.size, i, none⟩ (.int .i32 2147483647)) z k := (Below.heap_setCell _ _ _ _ (by have := HZ.out; show z ≠ w.heap.size; omega)).trans K4.out
              generalize W4.setCell ⟨w.heap.size, i, none⟩ (.int .i32 2147483647) = W6 at *
              have cb6 := hB6.cell
              have ck6 := hK6.cell
              have HO6 := Lib.hid hO6; have HB6 := Lib.hid hb6
              clear cO fO hO6 hb6 hB6 hK6
              have hbe : best2 a b d l i = b1 := by unfold best2; rw [if_neg (by rw [HY.out]; exact fun h => h.2 hyn)]; exact HB1.out
              by_cases hbn : b1 = never
              · have hna : nextAt a b d l i = never := by unfold nextAt; rw [hbe, if_neg (fun h => h hbn)]
                have hbb : (((b1 : Nat) : Int) != 2147483647) = false := by rw [hbn]; rfl
                have hfill := HFILL.out (.int .i32 2147483647) (by rw [hna]; rfl)
                rw [hfill] at HO6
                clear hna hbe hbn hfill
                go_wp2_with fail
                go_roundw
                case rel => exact ⟨i + 1, by omega, by go_num, HB6.out, HO6⟩
                case measure => simp [intOf]; omega
              · have hR := HBR.out (by rw [hbe]; exact hbn)
                rw [hbe, HK.out] at hR
                obtain ⟨⟨o1, o2, o3⟩, _⟩ := hR
                have hna : nextAt a b d l i = slideS a b b1 k := by unfold nextAt; rw [hbe, if_pos hbn, HK.out]
                have hbb : (((b1 : Nat) : Int) != 2147483647) = true := bne_iff_ne.2 (by unfold never at hbn; omega)
                have hs6 := HB6.out.size
                have hsl := slide_any a b B A A' ca cb b1 k W6 (Nat.lt_of_lt_of_le hB hs6) ((HB6.out.cell (p := ⟨B, 0, none⟩) hB).trans HCA.out) ((HB6.out.cell (p := ⟨B, 1, none⟩) hB).trans HCB.out) ((HSA.out.keep HB6.out).more hs6) ((HSB.out.keep HB6.out).more hs6) hn hm o2 o3 hkr
                have HFI := Lib.hid (HFILL.out (.int .i32 (slideS a b b1 k : Int)) (by rw [hna]))
                clear hna hbe hbn o1 o2 o3
                go_upto_region 15 with fail
                go_upto_region 16 with (go_at_call 176; refine hsl.mono ?_; rintro r w7 ⟨rfl, hg7⟩
                                        have O7 := own_kept HO6.out hg7.below
                                        have cO7 := (O7.cellAt i (by omega)).trans (XS_get HXL.out)
                                        have fO7 := O7.frozenAt i
                                        have HO7 := Lib.hid O7; have HB7 := Lib.hid (HB6.out.trans (hg7.below.mono HB6.out.size)))
                obtain ⟨hO8, _⟩ := HO7.out.stored i (.int .i32 (slideS a b b1 k : Int))
                have hb8 : Below w.heap.size w (w7.setCell ⟨w.heap.size, i, none⟩ (.int .i32 (slideS a b b1 k : Int))) := HB7.out.setCell (Nat.le_refl _) _
                rw [List.set_set, HFI.out] at hO8
                go_wp2_with fail
                go_roundw
                case rel => exact ⟨i + 1, by omega, by go_num, hb8, Lib.hid hO8⟩
                case measure => simp [intOf]; omega

            · have hyb : ((y : Int) != 2147483647) = true := bne_iff_ne.2 (by unfold never at hyn; omega)
              have hyle : y ≤ 100000 := HXB.out (i - 1) (by omega) y hyn HY
              have ct := ct0 W4 E4.out
              have t2 := try_any (y : Int) k b1 z (z + 1) W4 K4.out B4.out (by omega) (by omega) hkr
              clear ct0
              go_upto_region 13 with (go_at_call 177; refine t2.mono ?_; rintro r W5 ⟨rfl, hO5, hb5⟩)
              have K5 : Hid (IBox W5 z k) := (hO5.2.2 z (by omega)).trans K4.out
              have B5 : Hid (IBox W5 (z + 1) (tryS b1 (y : Int) k : Int)) := hb5
              have E5 : Hid (Below w.heap.size w W5) := E4.out.trans (hO5.1.mono (by have := HZ.out; omega))
              have O5 : Hid (W5.ownsRow w.heap.size 21 1 (.slice (some ⟨w.heap.size, 0, none⟩) (d + 1) (d + 1)) (d + 1) XS) := own_only hO5 O4.out (by have := HZ.out; omega)
              obtain ⟨bs, hbs⟩ : ∃ bs, tryS b1 (y : Int) k = bs := ⟨_, rfl⟩
              rw [hbs] at B5
              have hbsle : bs ≤ never := by rw [← hbs]; exact Nat.le_trans (try_le _ _ _) HB1LE.out
              have cO := (O5.out.cellAt i (by omega)).trans HXI.out
              have fO := O5.out.frozenAt i
              go_upto_region 14 with fail
              obtain ⟨hO6, _⟩ := O5.out.stored i (.int .i32 2147483647)
              have hb6 : Below w.heap.size w (W5.setCell ⟨w.heap.size, i, none⟩ (.int .i32 2147483647)) := E5.out.setCell (Nat.le_refl _) _
              have hB6 : IBox (W5.setCell ⟨w.heap.size, i, none⟩ (.int .i32 2147483647)) (z + 1) (bs : Int) := (Below.heap_setCell _ _ _ _ (by have := HZ.out; show z + 1 ≠ w.heap.size; omega)).trans B5.out
              have hK6 : IBox (W5.setCell ⟨w.heap.size, i, none⟩ (.int .i32 2147483647)) z k := (Below.heap_setCell _ _ _ _ (by have := HZ.out; show z ≠ w.heap.size; omega)).trans K5.out
              generalize W5.setCell ⟨w.heap.size, i, none⟩ (.int .i32 2147483647) = W6 at *
              have cb6 := hB6.cell
              have ck6 := hK6.cell
              have HO6 := Lib.hid hO6; have HB6 := Lib.hid hb6
              clear cO fO hO6 hb6 hB6 hK6
              have hbe : best2 a b d l i = bs := by unfold best2; rw [if_pos ⟨hi0, by rw [HY.out]; exact hyn⟩, HY.out, HK.out, HB1.out]; exact hbs
              by_cases hbn : bs = never
              · have hna : nextAt a b d l i = never := by unfold nextAt; rw [hbe, if_neg (fun h => h hbn)]
                have hbb : (((bs : Nat) : Int) != 2147483647) = false := by rw [hbn]; rfl
                have hfill := HFILL.out (.int .i32 2147483647) (by rw [hna]; rfl)
                rw [hfill] at HO6
                clear hna hbe hbn hfill
                go_wp2_with fail
                go_roundw
                case rel => exact ⟨i + 1, by omega, by go_num, HB6.out, HO6⟩
                case measure => simp [intOf]; omega
              · have hR := HBR.out (by rw [hbe]; exact hbn)
                rw [hbe, HK.out] at hR
                obtain ⟨⟨o1, o2, o3⟩, _⟩ := hR
                have hna : nextAt a b d l i = slideS a b bs k := by unfold nextAt; rw [hbe, if_pos hbn, HK.out]
                have hbb : (((bs : Nat) : Int) != 2147483647) = true := bne_iff_ne.2 (by unfold never at hbn; omega)
                have hs6 := HB6.out.size
                have hsl := slide_any a b B A A' ca cb bs k W6 (Nat.lt_of_lt_of_le hB hs6) ((HB6.out.cell (p := ⟨B, 0, none⟩) hB).trans HCA.out) ((HB6.out.cell (p := ⟨B, 1, none⟩) hB).trans HCB.out) ((HSA.out.keep HB6.out).more hs6) ((HSB.out.keep HB6.out).more hs6) hn hm o2 o3 hkr
                have HFI := Lib.hid (HFILL.out (.int .i32 (slideS a b bs k : Int)) (by rw [hna]))
                clear hna hbe hbn o1 o2 o3
                go_upto_region 15 with fail
                go_upto_region 16 with (go_at_call 176; refine hsl.mono ?_; rintro r w7 ⟨rfl, hg7⟩
                                        have O7 := own_kept HO6.out hg7.below
                                        have cO7 := (O7.cellAt i (by omega)).trans (XS_get HXL.out)
                                        have fO7 := O7.frozenAt i
                                        have HO7 := Lib.hid O7; have HB7 := Lib.hid (HB6.out.trans (hg7.below.mono HB6.out.size)))
                obtain ⟨hO8, _⟩ := HO7.out.stored i (.int .i32 (slideS a b bs k : Int))
                have hb8 : Below w.heap.size w (w7.setCell ⟨w.heap.size, i, none⟩ (.int .i32 (slideS a b bs k : Int))) := HB7.out.setCell (Nat.le_refl _) _
                rw [List.set_set, HFI.out] at hO8
                go_wp2_with fail
                go_roundw
                case rel => exact ⟨i + 1, by omega, by go_num, hb8, Lib.hid hO8⟩
                case measure => simp [intOf]; omega

          · have j1 : decide ((0 : Int) < (i : Int)) = false := by rw [decide_eq_false_iff_not]; omega
            have j2 : ¬ (0 : Int) < (i : Int) := by omega
            go_upto_region 13 with fail
            have cO := (O4.out.cellAt i (by omega)).trans HXI.out
            have fO := O4.out.frozenAt i
            go_upto_region 14 with fail
            obtain ⟨hO6, _⟩ := O4.out.stored i (.int .i32 2147483647)
            have hb6 : Below w.heap.size w (W4.setCell ⟨w.heap.size, i, none⟩ (.int .i32 2147483647)) := E4.out.setCell (Nat.le_refl _) _
            have hB6 : IBox (W4.setCell ⟨w.heap.size, i, none⟩ (.int .i32 2147483647)) (z + 1) (b1 : Int) := (Below.heap_setCell _ _ _ _ (by have := HZ.out; show z + 1 ≠ w.heap.size; omega)).trans B4.out
            have hK6 : IBox (W4.setCell ⟨w.heap.size, i, none⟩ (.int .i32 2147483647)) z k := (Below.heap_setCell _ _ _ _ (by have := HZ.out; show z ≠ w.heap.size; omega)).trans K4.out
            generalize W4.setCell ⟨w.heap.size, i, none⟩ (.int .i32 2147483647) = W6 at *
            have cb6 := hB6.cell
            have ck6 := hK6.cell
            have HO6 := Lib.hid hO6; have HB6 := Lib.hid hb6
            clear cO fO hO6 hb6 hB6 hK6
            have hbe : best2 a b d l i = b1 := by unfold best2; rw [if_neg (fun h => hi0 h.1)]; exact HB1.out
            by_cases hbn : b1 = never
            · have hna : nextAt a b d l i = never := by unfold nextAt; rw [hbe, if_neg (fun h => h hbn)]
              have hbb : (((b1 : Nat) : Int) != 2147483647) = false := by rw [hbn]; rfl
              have hfill := HFILL.out (.int .i32 2147483647) (by rw [hna]; rfl)
              rw [hfill] at HO6
              clear hna hbe hbn hfill
              go_wp2_with fail
              go_roundw
              case rel => exact ⟨i + 1, by omega, by go_num, HB6.out, HO6⟩
              case measure => simp [intOf]; omega
            · have hR := HBR.out (by rw [hbe]; exact hbn)
              rw [hbe, HK.out] at hR
              obtain ⟨⟨o1, o2, o3⟩, _⟩ := hR
              have hna : nextAt a b d l i = slideS a b b1 k := by unfold nextAt; rw [hbe, if_pos hbn, HK.out]
              have hbb : (((b1 : Nat) : Int) != 2147483647) = true := bne_iff_ne.2 (by unfold never at hbn; omega)
              have hs6 := HB6.out.size
              have hsl := slide_any a b B A A' ca cb b1 k W6 (Nat.lt_of_lt_of_le hB hs6) ((HB6.out.cell (p := ⟨B, 0, none⟩) hB).trans HCA.out) ((HB6.out.cell (p := ⟨B, 1, none⟩) hB).trans HCB.out) ((HSA.out.keep HB6.out).more hs6) ((HSB.out.keep HB6.out).more hs6) hn hm o2 o3 hkr
              have HFI := Lib.hid (HFILL.out (.int .i32 (slideS a b b1 k : Int)) (by rw [hna]))
              clear hna hbe hbn o1 o2 o3
              go_upto_region 15 with fail
              go_upto_region 16 with (go_at_call 176; refine hsl.mono ?_; rintro r w7 ⟨rfl, hg7⟩
                                      have O7 := own_kept HO6.out hg7.below
                                      have cO7 := (O7.cellAt i (by omega)).trans (XS_get HXL.out)
                                      have fO7 := O7.frozenAt i
                                      have HO7 := Lib.hid O7; have HB7 := Lib.hid (HB6.out.trans (hg7.below.mono HB6.out.size)))
              obtain ⟨hO8, _⟩ := HO7.out.stored i (.int .i32 (slideS a b b1 k : Int))
              have hb8 : Below w.heap.size w (w7.setCell ⟨w.heap.size, i, none⟩ (.int .i32 (slideS a b b1 k : Int))) := HB7.out.setCell (Nat.le_refl _) _
              rw [List.set_set, HFI.out] at hO8
              go_wp2_with fail
              go_roundw
              case rel => exact ⟨i + 1, by omega, by go_num, hb8, Lib.hid hO8⟩
              case measure => simp [intOf]; omega


      · have i2 : ¬ (i : Int) < (d : Int) := by omega
        have i3 : decide ((i : Int) < (d : Int)) = false := by rw [decide_eq_false_iff_not]; exact i2
        have HB1 : Hid (best1 a b d l i = never) := Lib.hid (by unfold best1; rw [if_neg (fun h => hid h.1)])
        have HB1L : Hid (never ≤ never) := Nat.le_refl _
        go_upto_region 11 with fail
        have HB1LE : Hid (never ≤ never) := HB1L.out
        have hi0 : 0 < i := by omega
        have j1 : decide ((0 : Int) < (i : Int)) = true := by rw [decide_eq_true_iff]; omega
        have j2 : (0 : Int) < (i : Int) := by omega
        obtain ⟨y, HY, hy, ct0⟩ := HAH.out (i - 1) (by omega)
        obtain ⟨q, hq⟩ : ∃ q, q = i - 1 := ⟨_, rfl⟩
        have e9 : IntKind.i64.wrap ((i : Int) - 1) = (q : Int) := by rw [IntWalk.i64_in _ (by omega)]; omega
        have q0 : (0 : Int) ≤ (q : Int) := by omega
        have q1 : (q : Int) < (d : Int) := by omega
        have ey : IntKind.i64.wrap (y : Int) = (y : Int) := IntWalk.i64_in _ (by unfold never at hy; omega)
        rw [← hq] at ct0
        have HIQ := Lib.hid hq
        clear hq
        by_cases hyn : y = never
        · have hyb : ((y : Int) != 2147483647) = false := by rw [hyn]; rfl
          have ct := ct0 W3 E3.out
          clear ct0
          go_upto_region 13 with fail
          have cO := (O3.out.cellAt i (by omega)).trans HXI.out
          have fO := O3.out.frozenAt i
          go_upto_region 14 with fail
          obtain ⟨hO6, _⟩ := O3.out.stored i (.int .i32 2147483647)
          have hb6 : Below w.heap.size w (W3.setCell ⟨w.heap.size, i, none⟩ (.int .i32 2147483647)) := E3.out.setCell (Nat.le_refl _) _
          have hB6 : IBox (W3.setCell ⟨w.heap.size, i, none⟩ (.int .i32 2147483647)) (z + 1) (never : Int) := (Below.heap_setCell _ _ _ _ (by have := HZ.out; show z + 1 ≠ w.heap.size; omega)).trans B3.out
          have hK6 : IBox (W3.setCell ⟨w.heap.size, i, none⟩ (.int .i32 2147483647)) z k := (Below.heap_setCell _ _ _ _ (by have := HZ.out; show z ≠ w.heap.size; omega)).trans K3.out
          generalize W3.setCell ⟨w.heap.size, i, none⟩ (.int .i32 2147483647) = W6 at *
          have cb6 := hB6.cell
          have ck6 := hK6.cell
          have HO6 := Lib.hid hO6; have HB6 := Lib.hid hb6
          clear cO fO hO6 hb6 hB6 hK6
          have hbe : best2 a b d l i = never := by unfold best2; rw [if_neg (by rw [HY.out]; exact fun h => h.2 hyn)]; exact HB1.out
          have hbn : never = never := rfl
          have hna : nextAt a b d l i = never := by unfold nextAt; rw [hbe, if_neg (fun h => h hbn)]
          have hbb : (((never : Nat) : Int) != 2147483647) = false := by rw [hbn]; rfl
          have hfill := HFILL.out (.int .i32 2147483647) (by rw [hna]; rfl)
          rw [hfill] at HO6
          clear hna hbe hbn hfill
          go_wp2_with fail
          go_roundw
          case rel => exact ⟨i + 1, by omega, by go_num, HB6.out, HO6⟩
          case measure => simp [intOf]; omega

        · have hyb : ((y : Int) != 2147483647) = true := bne_iff_ne.2 (by unfold never at hyn; omega)
          have hyle : y ≤ 100000 := HXB.out (i - 1) (by omega) y hyn HY
          have ct := ct0 W3 E3.out
          have t2 := try_any (y : Int) k never z (z + 1) W3 K3.out B3.out (by omega) (by omega) hkr
          clear ct0
          go_upto_region 13 with (go_at_call 177; refine t2.mono ?_; rintro r W5 ⟨rfl, hO5, hb5⟩)
          have K5 : Hid (IBox W5 z k) := (hO5.2.2 z (by omega)).trans K3.out
          have B5 : Hid (IBox W5 (z + 1) (tryS never (y : Int) k : Int)) := hb5
          have E5 : Hid (Below w.heap.size w W5) := E3.out.trans (hO5.1.mono (by have := HZ.out; omega))
          have O5 : Hid (W5.ownsRow w.heap.size 21 1 (.slice (some ⟨w.heap.size, 0, none⟩) (d + 1) (d + 1)) (d + 1) XS) := own_only hO5 O3.out (by have := HZ.out; omega)
          obtain ⟨bs, hbs⟩ : ∃ bs, tryS never (y : Int) k = bs := ⟨_, rfl⟩
          rw [hbs] at B5
          have hbsle : bs ≤ never := by rw [← hbs]; exact Nat.le_trans (try_le _ _ _) HB1LE.out
          have cO := (O5.out.cellAt i (by omega)).trans HXI.out
          have fO := O5.out.frozenAt i
          go_upto_region 14 with fail
          obtain ⟨hO6, _⟩ := O5.out.stored i (.int .i32 2147483647)
          have hb6 : Below w.heap.size w (W5.setCell ⟨w.heap.size, i, none⟩ (.int .i32 2147483647)) := E5.out.setCell (Nat.le_refl _) _
          have hB6 : IBox (W5.setCell ⟨w.heap.size, i, none⟩ (.int .i32 2147483647)) (z + 1) (bs : Int) := (Below.heap_setCell _ _ _ _ (by have := HZ.out; show z + 1 ≠ w.heap.size; omega)).trans B5.out
          have hK6 : IBox (W5.setCell ⟨w.heap.size, i, none⟩ (.int .i32 2147483647)) z k := (Below.heap_setCell _ _ _ _ (by have := HZ.out; show z ≠ w.heap.size; omega)).trans K5.out
          generalize W5.setCell ⟨w.heap.size, i, none⟩ (.int .i32 2147483647) = W6 at *
          have cb6 := hB6.cell
          have ck6 := hK6.cell
          have HO6 := Lib.hid hO6; have HB6 := Lib.hid hb6
          clear cO fO hO6 hb6 hB6 hK6
          have hbe : best2 a b d l i = bs := by unfold best2; rw [if_pos ⟨hi0, by rw [HY.out]; exact hyn⟩, HY.out, HK.out, HB1.out]; exact hbs
          by_cases hbn : bs = never
          · have hna : nextAt a b d l i = never := by unfold nextAt; rw [hbe, if_neg (fun h => h hbn)]
            have hbb : (((bs : Nat) : Int) != 2147483647) = false := by rw [hbn]; rfl
            have hfill := HFILL.out (.int .i32 2147483647) (by rw [hna]; rfl)
            rw [hfill] at HO6
            clear hna hbe hbn hfill
            go_wp2_with fail
            go_roundw
            case rel => exact ⟨i + 1, by omega, by go_num, HB6.out, HO6⟩
            case measure => simp [intOf]; omega
          · have hR := HBR.out (by rw [hbe]; exact hbn)
            rw [hbe, HK.out] at hR
            obtain ⟨⟨o1, o2, o3⟩, _⟩ := hR
            have hna : nextAt a b d l i = slideS a b bs k := by unfold nextAt; rw [hbe, if_pos hbn, HK.out]
            have hbb : (((bs : Nat) : Int) != 2147483647) = true := bne_iff_ne.2 (by unfold never at hbn; omega)
            have hs6 := HB6.out.size
            have hsl := slide_any a b B A A' ca cb bs k W6 (Nat.lt_of_lt_of_le hB hs6) ((HB6.out.cell (p := ⟨B, 0, none⟩) hB).trans HCA.out) ((HB6.out.cell (p := ⟨B, 1, none⟩) hB).trans HCB.out) ((HSA.out.keep HB6.out).more hs6) ((HSB.out.keep HB6.out).more hs6) hn hm o2 o3 hkr
            have HFI := Lib.hid (HFILL.out (.int .i32 (slideS a b bs k : Int)) (by rw [hna]))
            clear hna hbe hbn o1 o2 o3
            go_upto_region 15 with fail
            go_upto_region 16 with (go_at_call 176; refine hsl.mono ?_; rintro r w7 ⟨rfl, hg7⟩
                                    have O7 := own_kept HO6.out hg7.below
                                    have cO7 := (O7.cellAt i (by omega)).trans (XS_get HXL.out)
                                    have fO7 := O7.frozenAt i
                                    have HO7 := Lib.hid O7; have HB7 := Lib.hid (HB6.out.trans (hg7.below.mono HB6.out.size)))
            obtain ⟨hO8, _⟩ := HO7.out.stored i (.int .i32 (slideS a b bs k : Int))
            have hb8 : Below w.heap.size w (w7.setCell ⟨w.heap.size, i, none⟩ (.int .i32 (slideS a b bs k : Int))) := HB7.out.setCell (Nat.le_refl _) _
            rw [List.set_set, HFI.out] at hO8
            go_wp2_with fail
            go_roundw
            case rel => exact ⟨i + 1, by omega, by go_num, hb8, Lib.hid hO8⟩
            case measure => simp [intOf]; omega
    · have hie : i = d + 1 := by omega
      rw [hie] at hO
      simp only [Nat.sub_self, List.replicate_zero, List.append_nil] at hO
      have HBQ := Lib.hid hbr
      clear hie hbr
      go_wp2_with fail
      go_ret
      refine ⟨HBQ.out, _, _, rfl, ?_⟩
      have h := hO.out
      have hnx := lst_next (a := a) (b := b) HD.out HL.out
      rw [hnx]
      exact h
end Go.Proofs.YtmlhijlcefogmaaGreatDoor
