/-
  What hunk.Apply gives where the hunks are met as they must be. Conditions: a text of at most 4000 bytes, as long a result; the library's variable MaxLen holds a number.
-/
import Derived.Test.YtfjmbcljohobeaaDoorApplyLib23
import Derived.Test.YtfjmbcljohobeaaDoorHunks23Walk
import Derived.Test.YtfjmbcljohobeaaDoorSliceOp
namespace Go.Proofs.YtfjmbcljohobeaaDoor
open Go.RowKit Go.Maps Go.Shelf
set_option linter.unusedVariables false
set_option linter.unusedSimpArgs false

/-- The state before a hunk: at, the builder's bytes; nothing below the builder has changed. -/
def AppAt (w1 : World) (st : Nat × List UInt8) (wr : World) : Prop := Below w1.heap.size w1 wr ∧ Lib.IsBuilderF 122 5 w1.heap.size w1.heap.size (Lib.byteCells st.2) wr
/-- Some of the lines, joined: the slice's value is named. -/
theorem join_part (ls : List ByteArray) (g a1 f : Nat) (V : World) (h1 : a1 ≤ f) (h2 : f ≤ ls.length) (h4 : ls.length ≤ 4000) (hg : g < V.heap.size) (hcl : ∀ j u, (strs ls)[j]? = some u → V.cell? ⟨g, j, none⟩ = some u) (hlen : (((ls.drop a1).take (f - a1)).map L).flatten.length ≤ 140737488355328)
    {sv : Value} (hsv : sliced (some ⟨g, 0, none⟩) a1 f ls.length 1 = sv) :
    Calls Tryd.prog 67 #[sv, .string ⟨#[]⟩] V fun e w' => ∃ t : ByteArray, e = .returned (.string t) ∧ L t = (((ls.drop a1).take (f - a1)).map L).flatten ∧ Below V.heap.size V w' := by
  subst hsv
  unfold sliced
  by_cases h : ls.length = a1
  · rw [if_pos h, show f - a1 = 0 by omega, show ls.length - a1 = 0 by omega]
    refine (Tryd.strings_Join_none _ _ _ _).mono ?_
    rintro e w' ⟨rfl, rfl⟩
    exact ⟨⟨#[]⟩, rfl, by rw [List.take_zero]; rfl, Below.refl _ _⟩
  · rw [if_neg h]
    have hadd : (Option.map (fun x : Addr => x.add (a1 * 1)) (some ⟨g, 0, none⟩) : Option Addr) = some ⟨g, a1, none⟩ := by
      rw [Option.map_some, Nat.mul_one, Addr.add_mid, Nat.zero_add]
    rw [hadd]
    refine (join_any g a1 (f - a1) (ls.length - a1) ((ls.drop a1).take (f - a1)) V (by rw [List.length_take, List.length_drop]; omega) (fun j s hj => ?_) hg (by omega) (by omega) hlen).mono ?_
    · rw [List.getElem?_take] at hj
      split at hj
      · rw [List.getElem?_drop] at hj
        refine hcl _ _ ?_
        simp [strs, hj]
      · cases hj
    · rintro e w' ⟨t5, rfl, h2, h3⟩
      exact ⟨t5, rfl, h2, h3⟩
set_option maxHeartbeats 8000000 in
set_option maxRecDepth 100000 in
theorem apply_any (a : ByteArray) (A : Option Addr) (c base : Nat) (hs : List HkD) (w : World) (ha : a.size ≤ 4000) (hg : Glob w) (hr : HkR w base (.slice A hs.length c) hs) (hn : hs.length ≤ 20000) (hnl : ∀ h ∈ hs, h.2.2.2.length ≤ 16000) (hok : hksOk (linesS (L a)) (0, []) (hs.map hkOf)) (hlen : ((hksTo (linesS (L a)) (hs.map hkOf)).2 ++ ((linesS (L a)).drop (hksTo (linesS (L a)) (hs.map hkOf)).1).flatten).length ≤ 4000) :
    Calls Tryd.prog 33 #[.string a, .slice A hs.length c] w fun e w' => Below w.heap.size w w' ∧ ∃ t, e = .returned (.tuple #[.string t, .int .i64 0]) ∧ L t = (hksTo (linesS (L a)) (hs.map hkOf)).2 ++ ((linesS (L a)).drop (hksTo (linesS (L a)) (hs.map hkOf)).1).flatten := by
  have hsp := split_row a w (by omega) hg
  obtain ⟨x, hx⟩ : ∃ x, linesS (L a) = x := ⟨_, rfl⟩
  rw [hx] at hsp hok hlen ⊢
  have HX := Lib.hid hx; have HSP := Lib.hid hsp
  have HR0 := Lib.hid hr; have HNL := Lib.hid hnl; have HOK := Lib.hid hok; have HLEN := Lib.hid hlen; have HG := Lib.hid hg
  clear hg hr hnl hok hlen hsp hx
  go_enter Tryd.func33, Tryd.ntmps33
  go_upto_region 3 with (go_at_call 28; refine HSP.out.mono ?_; rintro e w1 ⟨hb1, g, ls, rfl, hls, hgl, hcl⟩)
  have hxl : x.length = ls.length := by rw [← hls, List.length_map]
  have hx4 : ls.length ≤ 4000 := by rw [← hxl, ← HX.out]; have := linesS_count (L a); rw [L_length] at this; omega
  have HLS := Lib.hid hls; have HXL := Lib.hid hxl; have HCL := Lib.hid hcl; have HB1 := Lib.hid hb1
  have hr1 : HkR w1 base (.slice A hs.length c) hs := ⟨own_kept HR0.out.1 hb1, fun h hh => own_kept (HR0.out.2 h hh) hb1⟩
  have HR1 := Lib.hid hr1
  have hal : Below w1.heap.size w1 (w1.alloc (.cells #[.pointer none, .slice none 0 0] 122)) := (Below.refl _ _).alloc (Nat.le_refl _) _
  have hf0 : Lib.IsBuilderF 122 5 w1.heap.size w1.heap.size (Lib.byteCells []) (w1.alloc (.cells #[.pointer none, .slice none 0 0] 122)) := Lib.IsBuilderF.of (Lib.fresh_isBuilder _ _ _)
  have HA0 : Hid (AppAt w1 (0, []) (w1.alloc (.cells #[.pointer none, .slice none 0 0] 122))) := Lib.hid ⟨hal, hf0⟩
  clear hls hxl hcl hb1 hr1 hal hf0
  go_upto_region 5 with fail
  generalize w1.alloc (.cells #[.pointer none, .slice none 0 0] 122) = w2 at *
  go_loopw [7, 17] (fun t7 t17 wr => ∃ (k : Nat) (st : Nat × List UInt8), k ≤ hs.length ∧ t17 = .int .i64 ((k : Nat) : Int) ∧ t7 = .int .i64 ((st.1 : Nat) : Int) ∧ Hid (((hs.map hkOf).take k).foldl (hkStep x) (0, []) = st) ∧ Hid (AppAt w1 st wr)) (fun _ t17 _ => hs.length - (intOf t17).toNat)
  case atStart => exact ⟨0, (0, []), Nat.zero_le _, rfl, rfl, Lib.hid rfl, HA0⟩
  case round =>
    obtain ⟨k, st, hk, rfl, rfl, HST, HAT⟩ := hrel
    obtain ⟨a1, acc⟩ := st
    simp only
    by_cases hlt : k < hs.length
    · have k0 : (0 : Int) ≤ (k : Int) := by omega
      have k1 : (k : Int) < (hs.length : Int) := by omega
      obtain ⟨hkok, hknext⟩ := hks_at HOK.out k (by simpa using hlt)
      have hklen := hks_len (x := x) (H := hs.map hkOf) (k + 1)
      rw [hknext, HST.out, List.getElem_map] at hklen
      rw [HST.out, List.getElem_map] at hkok hknext
      have hro := own_kept HR1.out.1 HAT.out.1
      have hlr := HR1.out.2 _ (List.getElem_mem hlt)
      have hnl := HNL.out _ (List.getElem_mem hlt)
      obtain ⟨X, rfl⟩ : ∃ X, A = some ⟨X, 0, none⟩ := by
        rcases hro.2 with ⟨h, h0⟩ | ⟨g, cap, cur, h, _⟩
        · omega
        · injection h with h; exact ⟨g, h⟩
      have hrw := rowsV_get (hkV_len hs) k hlt
      generalize hs[k] = hh at *
      obtain ⟨f, t, lv, ll⟩ := hh
      simp only at hlr hnl
      obtain ⟨Al, cl, hvl⟩ := own_shape23 hlr
      subst hvl
      have hrow : ∀ j u, ([Value.int .i64 (f : Int), Value.int .i64 (t : Int), Value.slice Al ll.length cl] : List Value)[j]? = some u → wr.cell? ⟨X, k * 3 + j, none⟩ = some u := fun j u hj => by
        have hj3 : j < 3 := by have := (List.getElem?_eq_some_iff.1 hj).1; simpa using this
        rw [hro.cellAt (k * 3 + j) (by omega)]
        exact hrw j u hj
      have hf1 : a1 ≤ f := hkok.1
      have hf2 : f ≤ ls.length := by rw [← HXL.out]; exact hkok.2.1
      have hlns := hkok.2.2
      have HROW := Lib.hid hrow; have HLR := Lib.hid hlr; have HLNS := Lib.hid hlns; have HKN := Lib.hid hknext; have HKL := Lib.hid hklen
      clear hrow hlr hlns hknext hklen hkok hro hrw
      have g7n : a1 ≤ f := hf1
      have g1 : ¬ (f : Int) < (a1 : Int) := by omega
      have g2 : decide ((f : Int) < (a1 : Int)) = false := by rw [decide_eq_false_iff_not]; omega
      have g3 : decide (f < a1) = false := by rw [decide_eq_false_iff_not]; omega
      have g4 : ¬ (ls.length : Int) < (f : Int) := by omega
      have g5 : decide ((ls.length : Int) < (f : Int)) = false := by rw [decide_eq_false_iff_not]; omega
      have g6 : decide (ls.length < f) = false := by rw [decide_eq_false_iff_not]; omega
      have g7 : (a1 : Int) ≤ (f : Int) := by omega
      have g8 : (f : Int) ≤ (ls.length : Int) := by omega
      have g9 : (0 : Int) ≤ (a1 : Int) := by omega
      go_upto_region 9 with (refine wp_loadN rfl 73 _ rfl X _ rfl [Value.int .i64 (f : Int), Value.int .i64 (t : Int), Value.slice Al ll.length cl] _ HROW.out Tryd.underlying73 rfl (by kernel_rfl) ?_)
      obtain ⟨z, hz⟩ : ∃ z, wr.heap.size = z := ⟨_, rfl⟩
      have hal : Below wr.heap.size wr (wr.alloc (.cells #[.int .i64 (f : Int), .int .i64 (t : Int), .slice Al ll.length cl] 73)) := (Below.refl _ _).alloc (Nat.le_refl _) _
      have hxz : (wr.alloc (.cells #[.int .i64 (f : Int), .int .i64 (t : Int), .slice Al ll.length cl] 73)).heap[wr.heap.size]? = some (.cells #[.int .i64 (f : Int), .int .i64 (t : Int), .slice Al ll.length cl] 73 (0, 0)) := heap_alloc_new _ _
      obtain ⟨V, hV⟩ : ∃ V, wr.alloc (.cells #[.int .i64 (f : Int), .int .i64 (t : Int), .slice Al ll.length cl] 73) = V := ⟨_, rfl⟩
      rw [hV] at hal hxz ⊢
      have hbV := bld_kept HAT.out.2 hal
      have hwV : Below w1.heap.size w1 V := HAT.out.1.trans (hal.mono HAT.out.1.size)
      have hblt : w1.heap.size < z := by
        rw [← hz]
        rcases HAT.out.2 with h | h
        · exact h.lt
        · exact h.lt
      rw [hz] at hxz ⊢
      have HXZ := Lib.hid hxz; have HBV := Lib.hid hbV; have HWV := Lib.hid hwV; have HBLT := Lib.hid hblt
      clear hal hxz hV hbV hwV hz hblt
      have hjl : (((ls.drop a1).take (f - a1)).map L).flatten = ((x.take f).drop a1).flatten := by rw [List.map_take, List.map_drop, HLS.out, List.take_drop, show a1 + (f - a1) = f by omega]
      have HJL := Lib.hid hjl
      clear hjl
      go_cut [7] from 32 to 38 (fun s7 wx => s7 = .int .i64 (a1 : Int) ∧ Hid (AppAt w1 (hkStart x (a1, acc) (hkOf (f, t, .slice Al ll.length cl, ll))) wx) ∧ Hid (wx.heap[z]? = some (.cells #[.int .i64 (f : Int), .int .i64 (t : Int), .slice Al ll.length cl] 73 (0, 0))))
      case first =>
        have c10 : V.cell? ⟨z, 0, none⟩ = some (.int .i64 (f : Int)) := cells_box HXZ.out 0
        have hst : (acc ++ ((x.take f).drop a1).flatten).length ≤ 4000 := by
          have h1 := HKL.out
          have h2 := HLEN.out
          rw [List.length_append] at h2
          have h3 : (hkStart x (a1, acc) (hkOf (f, t, .slice Al ll.length cl, ll))).2.length ≤ (hkStep x (a1, acc) (hkOf (f, t, .slice Al ll.length cl, ll))).2.length := lnsStep_len _ _
          exact Nat.le_trans h3 (by omega)
        rw [List.length_append] at hst
        obtain ⟨sv, hsv⟩ : ∃ sv, sliced (some ⟨g, 0, none⟩) a1 f ls.length 1 = sv := ⟨_, rfl⟩
        have hjn := join_part ls g a1 f V g7n hf2 hx4 (Nat.lt_of_lt_of_le hgl HWV.out.size) (fun j u hj => (HWV.out.cell (p := ⟨g, j, none⟩) hgl).trans (HCL.out j u hj)) (by rw [HJL.out]; omega) hsv
        rw [HJL.out] at hjn
        have HSV := Lib.hid hsv; have HJN := Lib.hid hjn
        clear hsv hjn
        have hwr : ∀ (t5 : ByteArray) (w5 : World), L t5 = ((x.take f).drop a1).flatten → Below V.heap.size V w5 → Calls Tryd.prog 66 #[.pointer (some ⟨w1.heap.size, 0, none⟩), .string t5] w5 fun e w' => e = .returned (.tuple #[.int .i64 t5.size, .nilIface]) ∧ Hid (AppAt w1 (hkStart x (a1, acc) (hkOf (f, t, .slice Al ll.length cl, ll))) w') ∧ Hid (w'.heap[z]? = some (.cells #[.int .i64 (f : Int), .int .i64 (t : Int), .slice Al ll.length cl] 73 (0, 0))) := fun t5 w5 ht5 hb5 => by
          have hzV := (Array.getElem?_eq_some_iff.1 HXZ.out).1
          refine (write_any w1.heap.size w1.heap.size acc t5 w5 (bld_kept HBV.out hb5) (by rw [← L_length, ht5]; omega) (Nat.le_trans HWV.out.size hb5.size)).mono ?_
          rintro e w6 ⟨rfl, hB6, hb6, hk6⟩
          rw [ht5] at hB6
          have hbz := HBLT.out
          refine ⟨rfl, Lib.hid ⟨(HWV.out.trans (hb5.mono HWV.out.size)).trans hb6, hB6⟩, Lib.hid (hk6 z _ ((hb5.block z hzV).trans HXZ.out) (fun h => ?_) (fun c fz h => ?_))⟩
          · injection h with h; omega
          · injection h with _ h; cases h
        have HWR := Lib.hid hwr
        clear hwr hst
        go_wp2_with (first
          | (refine wp_val (by rfl) (ex_slice_lh 61 _ _ _ rfl rfl rfl rfl Tryd.underlying61 (by kernel_rfl) g7n hf2 HSV.out) ?_)
          | (go_at_call 67; refine HJN.out.mono ?_; rintro e w5 ⟨t5, rfl, ht5, hb5⟩)
          | (go_at_call 66; refine (HWR.out t5 w5 ht5 hb5).mono ?_; rintro e w6 ⟨rfl, HA6, HX6⟩))
        go_meet
        case rel => exact ⟨rfl, HA6, HX6⟩
      case rest =>
        obtain ⟨rfl, HA6, HX6⟩ := hcut
        have c0 : wc.cell? ⟨z, 0, none⟩ = some (.int .i64 (f : Int)) := cells_box HX6.out 0
        have c2 : wc.cell? ⟨z, 2, none⟩ = some (.slice Al ll.length cl) := cells_box HX6.out 2
        go_upto_region 12 with fail
        obtain ⟨st0, hst0⟩ : ∃ st0, hkStart x (a1, acc) (hkOf (f, t, .slice Al ll.length cl, ll)) = st0 := ⟨_, rfl⟩
        have hf0 : f = st0.1 := by rw [← hst0]; rfl
        have hlns := HLNS.out
        have hkn := HKN.out
        have hkl := HKL.out
        have hen : hkStep x (a1, acc) (hkOf (f, t, .slice Al ll.length cl, ll)) = (ll.map L).foldl lnStep st0 := by rw [← hst0]; rfl
        rw [hst0] at HA6 hlns
        rw [hen] at hkn hkl
        have HLNS2 : Hid (lnsOk x st0 (ll.map L)) := Lib.hid hlns
        have HKN2 := Lib.hid hkn; have HKL2 := Lib.hid hkl
        clear HLNS HKN HKL HX6 c0 c2 hlns hkn hkl hen hst0 HXZ HBV HWV HBLT HJL
        go_loopw [7, 44] (fun t7 t44 wr => ∃ (m : Nat) (st : Nat × List UInt8), m ≤ ll.length ∧ t44 = .int .i64 ((m : Nat) : Int) ∧ t7 = .int .i64 ((st.1 : Nat) : Int) ∧ Hid (((ll.map L).take m).foldl lnStep st0 = st) ∧ Hid (AppAt w1 st wr)) (fun _ t44 _ => ll.length - (intOf t44).toNat)
        case atStart => exact ⟨0, st0, Nat.zero_le _, rfl, by rw [hf0], Lib.hid rfl, HA6⟩
        case round =>
          clear hf0
          obtain ⟨m, st, hm, rfl, rfl, HSTM, HATM⟩ := hrel
          obtain ⟨b1, bcc⟩ := st
          simp only
          by_cases hml : m < ll.length
          · have m0 : (0 : Int) ≤ (m : Int) := by omega
            have m1 : (m : Int) < (ll.length : Int) := by omega
            obtain ⟨Yb, Yo, rfl, _, hcY⟩ := (Sl.of_own (own_kept HLR.out HATM.out.1)).2 (by omega)
            have cY := hcY m (.string ll[m]) (by simp [strs, hml])
            obtain ⟨hlok, hlnext⟩ := lns_at HLNS2.out m (by simpa using hml)
            rw [HSTM.out, List.getElem_map] at hlok hlnext
            have hlen : (lnStep (b1, bcc) (L ll[m])).2.length ≤ 4000 := by
              have h1 := lns_len (ls := ll.map L) (st := st0) (m + 1)
              rw [hlnext] at h1
              have h2 := HKL2.out
              have h3 := HLEN.out
              rw [List.length_append] at h3
              omega
            have hat := lnStep_at hlok
            generalize ll[m] = s at *
            obtain ⟨hs0, hs1⟩ := hlok
            simp only at hs1
            have hsz : 1 ≤ s.size := by rw [← L_length]; exact List.length_pos_iff.2 hs0
            have hh0 : ((L s).headD 0).toNat = B s 0 := by
              have h1 := B_L s 0 hsz
              rw [B_of s 0 hsz]
              cases hL : L s with
              | nil => rw [hL] at h1; cases h1
              | cons c r => rw [hL] at h1; rw [← Option.some.inj h1]; rfl
            have htl : L (s.extract 1 s.size) = (L s).tail := by
              show (s.extract 1 s.size).data.toList = _
              rw [Lib.extract_data, List.drop_one, List.take_of_length_le (by rw [List.length_tail]; have := L_length s; unfold L at this; omega)]
            obtain ⟨u, hu⟩ : ∃ u, s.extract 1 s.size = u := ⟨_, rfl⟩
            rw [hu] at htl
            have hse : s.toList.isEmpty = false := by rw [toList_L]; cases hL : L s with
              | nil => exact absurd hL hs0
              | cons _ _ => rfl
            have hex : (s.extract 0 1).size = 1 := by simp; omega
            have hexh : (L (s.extract 0 1)).headD 0 = (L s).headD 0 := by
              show ((s.extract 0 1).data.toList).headD 0 = _
              rw [Lib.extract_data, List.drop_zero]
              cases hL : L s with
              | nil => exact absurd hL hs0
              | cons c r => show ((s.data.toList).take (1 - 0)).headD 0 = _; rw [show s.data.toList = c :: r from hL]; rfl
            have hs2 : (L s).headD 0 = 32 ∨ (L s).headD 0 = 45 ∨ (L s).headD 0 = 43 := by
              rcases hs1 with h | ⟨h | h, _⟩
              · exact .inr (.inr h)
              · exact .inl h
              · exact .inr (.inl h)
            have hct := fun wq => contains_any (s.extract 0 1) hex wq (by rw [hexh]; exact hs2)
            have HTL := Lib.hid htl; have HLX := Lib.hid hlnext; have HLQ := Lib.hid hlen; have HCT := Lib.hid hct; have HU := Lib.hid hu; have HH0 := Lib.hid hh0; have HS1 := Lib.hid hs1
            have hgb := getB s
            have hwrt : ∀ wq : World, Lib.IsBuilderF 122 5 w1.heap.size w1.heap.size (Lib.byteCells bcc) wq → Below w1.heap.size w1 wq → bcc.length + u.size ≤ 4000 → Calls Tryd.prog 66 #[.pointer (some ⟨w1.heap.size, 0, none⟩), .string u] wq fun e w' => e = .returned (.tuple #[.int .i64 u.size, .nilIface]) ∧ Lib.IsBuilderF 122 5 w1.heap.size w1.heap.size (Lib.byteCells (bcc ++ (L s).tail)) w' ∧ Below w1.heap.size w1 w' := fun wq hb hw hl => by
              refine (write_any w1.heap.size w1.heap.size bcc u wq hb (by omega) hw.size).mono ?_
              rintro e w6 ⟨rfl, hB6, hb6, _⟩
              rw [HTL.out] at hB6
              exact ⟨rfl, hB6, hw.trans hb6⟩
            have HWRT := Lib.hid hwrt
            clear hs0 hs1 hs2 htl hlnext hlen hct hex hexh hu hh0 hwrt hcY
            by_cases c43 : B s 0 = 43
            · have hst : lnStep (b1, bcc) (L s) = (b1, bcc ++ (L s).tail) := by
                have e : (L s).headD 0 = 43 := UInt8.toNat_inj.1 (by rw [HH0.out, c43]; rfl)
                unfold lnStep
                rw [if_pos e, if_neg (by rw [e]; decide)]
              have hbl : bcc.length + u.size ≤ 4000 := by
                have h1 := HLQ.out
                rw [hst] at h1
                simp only [List.length_append] at h1
                rw [← HTL.out, L_length] at h1
                exact h1
              have HST2 := Lib.hid hst
              have k43 : (((B s 0 : Nat) : Int) == 43) = true := by rw [c43]; rfl
              have hwc := HWRT.out wr HATM.out.2 HATM.out.1 hbl
              have HWC := Lib.hid hwc
              clear hst hbl c43 hwc
              have hu := HU.out
              go_wp2_with (first
                | (go_at_call 68; refine (HCT.out _).mono ?_; rintro e w5 ⟨rfl, rfl⟩)
                | (go_at_call 66; refine HWC.out.mono ?_; rintro e w6 ⟨rfl, HB6, hb6⟩))
              go_roundw
              case rel => exact ⟨m + 1, (b1, bcc ++ (L s).tail), by omega, by go_num, rfl, Lib.hid (by rw [HLX.out, HST2.out]), Lib.hid ⟨hb6, HB6⟩⟩
              case measure => simp [intOf]; omega
            · obtain ⟨hhd, hxb⟩ := HS1.out.resolve_left (fun e => c43 (by rw [← HH0.out, e]; rfl))
              have hb1 : b1 < ls.length := by rw [← HXL.out]; exact (List.getElem?_eq_some_iff.1 hxb).1
              have hlu : ls[b1] = u := L_inj (by
                have h1 := hxb
                rw [← HLS.out, List.getElem?_map, List.getElem?_eq_getElem hb1] at h1
                rw [HTL.out]
                exact Option.some.inj h1)
              have cl : wr.cell? ⟨g, b1, none⟩ = some (.string u) := (HATM.out.1.cell (p := ⟨g, b1, none⟩) hgl).trans (HCL.out b1 _ (by simp [strs, hb1, hlu]))
              have k43 : (((B s 0 : Nat) : Int) == 43) = false := by simp; omega
              have n1 : ¬ (ls.length : Int) ≤ (b1 : Int) := by omega
              have n2 : decide ((ls.length : Int) ≤ (b1 : Int)) = false := by rw [decide_eq_false_iff_not]; exact n1
              have n3 : decide (ls.length ≤ b1) = false := by rw [decide_eq_false_iff_not]; omega
              have n4 : (0 : Int) ≤ (b1 : Int) := by omega
              have n5 : (b1 : Int) < (ls.length : Int) := by omega
              have hu := HU.out
              clear hxb hlu c43
              rcases hhd with e32 | e45
              · have c32 : B s 0 = 32 := by rw [← HH0.out, e32]; rfl
                have hst : lnStep (b1, bcc) (L s) = (b1 + 1, bcc ++ (L s).tail) := by
                  unfold lnStep
                  rw [if_neg (by rw [e32]; decide), if_neg (by rw [e32]; decide)]
                have hbl : bcc.length + u.size ≤ 4000 := by
                  have h1 := HLQ.out
                  rw [hst] at h1
                  simp only [List.length_append] at h1
                  rw [← HTL.out, L_length] at h1
                  exact h1
                have HST2 := Lib.hid hst
                have k32 : (((B s 0 : Nat) : Int) == 32) = true := by rw [c32]; rfl
                have hwc : ∀ q, Calls Tryd.prog 66 #[.pointer (some ⟨w1.heap.size, 0, none⟩), .string u] (wr.drewN q) fun e w' => e = .returned (.tuple #[.int .i64 u.size, .nilIface]) ∧ Lib.IsBuilderF 122 5 w1.heap.size w1.heap.size (Lib.byteCells (bcc ++ (L s).tail)) w' ∧ Below w1.heap.size w1 w' := fun q => HWRT.out (wr.drewN q) (bld_kept HATM.out.2 (below_drewN (Below.refl _ _) q)) (below_drewN HATM.out.1 q) hbl
                have HWC := Lib.hid hwc
                clear hst hbl c32 hwc e32
                go_wp2_with (first
                  | (go_at_call 68; refine (HCT.out _).mono ?_; rintro e w5 ⟨rfl, rfl⟩)
                  | (go_at_call 66; refine (HWC.out _).mono ?_; rintro e w6 ⟨rfl, HB6, hb6⟩))
                go_quiet (fail)
                go_wp2_with (first
                  | (go_at_call 66; refine (HWC.out _).mono ?_; rintro e w6 ⟨rfl, HB6, hb6⟩))
                go_roundw
                case rel => exact ⟨m + 1, (b1 + 1, bcc ++ (L s).tail), by omega, by go_num, by go_num, Lib.hid (by rw [HLX.out, HST2.out]), Lib.hid ⟨hb6, HB6⟩⟩
                case measure => simp [intOf]; omega
              · have c45 : B s 0 = 45 := by rw [← HH0.out, e45]; rfl
                have hst : lnStep (b1, bcc) (L s) = (b1 + 1, bcc) := by
                  unfold lnStep
                  rw [if_neg (by rw [e45]; decide), if_pos e45]
                have HST2 := Lib.hid hst
                have k32 : (((B s 0 : Nat) : Int) == 32) = false := by rw [c45]; rfl
                clear hst c45 e45
                go_wp2_with (first
                  | (go_at_call 68; refine (HCT.out _).mono ?_; rintro e w5 ⟨rfl, rfl⟩))
                go_quiet (fail)
                go_wp2_with fail
                go_roundw
                case rel => exact ⟨m + 1, (b1 + 1, bcc), by omega, by go_num, by go_num, Lib.hid (by rw [HLX.out, HST2.out]), Lib.hid ⟨below_drewN HATM.out.1 _, bld_kept HATM.out.2 (below_drewN (Below.refl _ _) _)⟩⟩
                case measure => simp [intOf]; omega
          · have m1 : ¬ (m : Int) < (ll.length : Int) := by omega
            have hme : m = ll.length := by omega
            have hfin : (ll.map L).foldl lnStep st0 = (b1, bcc) := by rw [← HSTM.out, hme, ← List.length_map (f := L), List.take_length]
            have hkn := HKN2.out
            rw [hfin] at hkn
            have HKN3 := Lib.hid hkn
            clear hme hfin hkn
            go_wp2_with fail
            go_round
            case rel => exact ⟨k + 1, (b1, bcc), by omega, by go_num, rfl, HKN3, HATM⟩
            case measure => simp [intOf]; omega
    · have n1 : ¬ (k : Int) < (hs.length : Int) := by omega
      have hke : k = hs.length := by omega
      have hto : hksTo x (hs.map hkOf) = (a1, acc) := by
        unfold hksTo
        rw [← HST.out, hke, ← List.length_map (f := hkOf), List.take_length]
      have ha1 : a1 ≤ ls.length := by
        have h1 := hksStep_at (hs.map hkOf) (0, []) HOK.out (Nat.zero_le _)
        rw [show (hs.map hkOf).foldl (hkStep x) (0, []) = (a1, acc) from hto, HXL.out] at h1
        exact h1
      have hlen := HLEN.out
      rw [hto] at hlen
      simp only at hlen
      have HTO := Lib.hid hto
      have hjl : (((ls.drop a1).take (ls.length - a1)).map L).flatten = (x.drop a1).flatten := by
        rw [List.take_of_length_le (by rw [List.length_drop]; omega), List.map_drop, HLS.out]
      obtain ⟨sv, hsv⟩ : ∃ sv, sliced (some ⟨g, 0, none⟩) a1 ls.length ls.length 1 = sv := ⟨_, rfl⟩
      rw [List.length_append] at hlen
      have hjn := join_part ls g a1 ls.length wr ha1 (Nat.le_refl _) hx4 (Nat.lt_of_lt_of_le hgl HAT.out.1.size) (fun j u hj => (HAT.out.1.cell (p := ⟨g, j, none⟩) hgl).trans (HCL.out j u hj)) (by rw [hjl]; omega) hsv
      rw [hjl] at hjn
      have hwr : ∀ (t5 : ByteArray) (w5 : World), L t5 = (x.drop a1).flatten → Below wr.heap.size wr w5 → Calls Tryd.prog 66 #[.pointer (some ⟨w1.heap.size, 0, none⟩), .string t5] w5 fun e w' => e = .returned (.tuple #[.int .i64 t5.size, .nilIface]) ∧ Lib.IsBuilderF 122 5 w1.heap.size w1.heap.size (Lib.byteCells (acc ++ (x.drop a1).flatten)) w' ∧ Below w1.heap.size w1 w' := fun t5 w5 ht5 hb5 => by
        have hw5 : Below w1.heap.size w1 w5 := HAT.out.1.trans (hb5.mono HAT.out.1.size)
        refine (write_any w1.heap.size w1.heap.size acc t5 w5 (bld_kept HAT.out.2 hb5) (by rw [← L_length, ht5]; omega) hw5.size).mono ?_
        rintro e w6 ⟨rfl, hB6, hb6, _⟩
        rw [ht5] at hB6
        exact ⟨rfl, hB6, hw5.trans hb6⟩
      have HSV := Lib.hid hsv; have HJN := Lib.hid hjn; have HWR := Lib.hid hwr
      clear hsv hjn hwr hke hto hlen hjl
      go_wp2_with (first
        | (refine wp_val (by rfl) (ex_slice_l 61 _ _ rfl rfl rfl Tryd.underlying61 (by kernel_rfl) ha1 HSV.out) ?_)
        | (go_at_call 67; refine HJN.out.mono ?_; rintro e w5 ⟨t5, rfl, ht5, hb5⟩)
        | (go_at_call 66; refine (HWR.out t5 w5 ht5 hb5).mono ?_; rintro e w6 ⟨rfl, hB6, hb6⟩)
        | (go_at_call 69; refine (Tryd.Builder_String_any_f w1.heap.size w1.heap.size _ _ hB6 hb6.size).mono ?_; rintro e w7 ⟨rfl, _, hb7⟩))
      go_ret2
      exact ⟨HB1.out.trans ((hb6.trans hb7).mono HB1.out.size), _, rfl, by rw [HTO.out]⟩
end Go.Proofs.YtfjmbcljohobeaaDoor
