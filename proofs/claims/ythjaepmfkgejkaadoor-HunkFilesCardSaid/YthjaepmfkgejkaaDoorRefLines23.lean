/-
  What the document's Lines gives. Conditions: few files, short ones.
-/
import Derived.Test.YthjaepmfkgejkaaDoorPathsOrd23
import Derived.Test.YthjaepmfkgejkaaDoorRefDig23
import Derived.Test.YthjaepmfkgejkaaDoorRefSame23
import Derived.Test.YthjaepmfkgejkaaDoorLines23Walk
namespace Go.Proofs.YthjaepmfkgejkaaDoor
open Go.RowKit Go.Maps Go.Shelf
set_option linter.unusedVariables false
set_option linter.unusedSimpArgs false

theorem shown_last (s : ByteArray) (m : Nat) (h : s.size = m + 1) : (B s m = 10 → L (s.extract 0 m) = shownS (L s)) ∧ (B s m ≠ 10 → L (s ++ ⟨#[92]⟩) = shownS (L s)) := by
  have hl0 : (L s).getLast? = (L s)[m]? := by
    rw [List.getLast?_eq_getElem?, L_length]
    congr 1
    omega
  have hl : (L s).getLast? = some (s[m]'(by omega)) := hl0.trans (B_L s m (by omega))
  have hb := B_of s m (by omega)
  unfold shownS
  rw [hl]
  constructor
  · intro e
    rw [if_pos (by congr 1; exact UInt8.toNat_inj.1 (by rw [← hb, e]; rfl)), L_cut, List.drop_zero, List.dropLast_eq_take, L_length, h]
    rfl
  · intro e
    rw [if_neg (fun q => e (by rw [hb, Option.some.inj q]; rfl)), L_app]
def digS (k : Nat) : ByteArray := ⟨(Lib.decDigits k).toArray⟩
theorem refDigits_dig (N : Nat) (w : World) (hN : N ≤ 100000) : Calls Tryd.prog 45 #[.int .i64 (N : Int)] w fun e w' => w' = w ∧ e = .returned (.string (digS N)) := refDigits_any N w hN
def sliceLen : Value → Nat
  | .slice _ n _ => n
  | _ => 0
theorem own_apart {w w' : World} {b n sz : Nat} {e : TypeId} {v1 v2 : Value} {xs : List Value} (ho : w.ownsRow b e sz v2 n xs) (hk : ∀ k, k < w.heap.size → v1.ownBlock ≠ some k → w'.heap[k]? = w.heap[k]?) (hne : ∀ g, v2.ownBlock = some g → v1.ownBlock ≠ some g) : w'.ownsRow b e sz v2 n xs := by
  refine ⟨ho.1, ?_⟩
  rcases ho.2 with h | ⟨g, cap, cur, hv, hg, hh, r⟩
  · exact .inl h
  · exact .inr ⟨g, cap, cur, hv, hg, (hk g (Array.getElem?_eq_some_iff.1 hh).1 (hne g (by rw [hv]; rfl))).trans hh, r⟩
/-- The lines told so far, and beside them the paths that are told. -/
def OT (z0 base : Nat) (w8 wr : World) (v : Value) (xs : List ByteArray) (v8 : Value) (ts : List ByteArray) : Prop := OutAt z0 base w8 wr v xs ∧ wr.ownsRow base 9 1 v8 ts.length (strs ts) ∧ ∀ g, v8.ownBlock = some g → v.ownBlock ≠ some g
theorem OT.app {z0 base : Nat} {w8 wr w' : World} {v v' v8 : Value} {xs ts : List ByteArray} (h : OT z0 base w8 wr v xs v8 ts) {s : ByteArray} (ho : w'.ownsRow base 9 1 v' (xs.length + 1) (strs xs ++ [.string s])) (hb : ∀ B a, B ≤ base → Below B a wr → Below B a w') (hk : ∀ k, k < wr.heap.size → v.ownBlock ≠ some k → w'.heap[k]? = wr.heap[k]?) (hw : Where wr.heap.size v v') : OT z0 base w8 w' v' (xs ++ [s]) v8 ts := by
  refine ⟨h.1.app ho hb hk hw, own_apart h.2.1 hk h.2.2, fun g hg => ?_⟩
  have hlt := (h.2.1.lt g hg).2
  rcases hw with q | ⟨g', q, hz⟩
  · rw [q]; exact h.2.2 g hg
  · rw [q]
    intro e
    have := Option.some.inj e
    omega
theorem OT.below {z0 base : Nat} {w8 wr w' : World} {v v8 : Value} {xs ts : List ByteArray} (h : OT z0 base w8 wr v xs v8 ts) (hbs : base ≤ wr.heap.size) (hb : Below wr.heap.size wr w') : OT z0 base w8 w' v xs v8 ts := ⟨h.1.below hbs hb, own_kept h.2.1 hb, h.2.2⟩
/-- What stands ahead of the next path. -/
def RLn (fa fb : List FileD) (P : List (List UInt8)) (w6 : World) (k : Nat) (ys ts : List ByteArray) (v7 v8 : Value) (wr : World) : Prop :=
  ToldTo fa fb P k ys ∧ wr.ownsRow w6.heap.size 9 1 v7 ys.length (strs ys) ∧ wr.ownsRow w6.heap.size 9 1 v8 k (strs ts) ∧ ts.map L = P.take k ∧ (∀ g, v8.ownBlock = some g → v7.ownBlock ≠ some g) ∧ Below w6.heap.size w6 wr
/-- A path more is told. -/
theorem told_more {w w' : World} {b n m : Nat} {v7 v8 v8' : Value} {xs ys : List Value} (h7 : w.ownsRow b 9 1 v7 n xs) (h8 : w.ownsRow b 9 1 v8 m ys) (ha : ∀ g, v8.ownBlock = some g → v7.ownBlock ≠ some g) (hk : ∀ k, k < w.heap.size → v8.ownBlock ≠ some k → w'.heap[k]? = w.heap[k]?) (hw : Where w.heap.size v8 v8') : w'.ownsRow b 9 1 v7 n xs ∧ ∀ g, v8'.ownBlock = some g → v7.ownBlock ≠ some g := by
  have ha' : ∀ g, v7.ownBlock = some g → v8.ownBlock ≠ some g := fun g h e => ha g e h
  refine ⟨own_apart h7 hk ha', fun g hg e => ?_⟩
  have hlt := (h7.lt g e).2
  rcases hw with q | ⟨g', q, hz⟩
  · rw [q] at hg; exact ha g hg e
  · rw [q] at hg
    have := Option.some.inj hg
    omega
theorem refTold_any (a b : ByteArray) (w : World) (ha : a.size ≤ 4000) (hb : b.size ≤ 4000) : Calls Tryd.prog 44 #[.string a, .string b] w fun e w' => Below w.heap.size w w' ∧ (((isText a && isText b) = true ∧ ∃ (A : Option Addr) (c : Nat) (hs : List HkD), e = .returned (.tuple #[.slice A hs.length c, .int .i64 0]) ∧ hs.map hkOf = hunksL (L a) (L b) ∧ HsC w' w.heap.size (.slice A hs.length c) hs) ∨ ((isText a && isText b) = false ∧ e = .returned (.tuple #[.slice none 0 0, .int .i64 5]))) :=
  (refHunks_any a b w ha hb).mono fun e w' ⟨h1, h2⟩ => by
    refine ⟨h1, ?_⟩
    rcases h2 with ⟨ht, v, hs, rfl, hm, hr⟩ | ⟨ht, rfl⟩
    · obtain ⟨A, c, rfl⟩ := own_shape23 hr.1
      exact .inl ⟨ht, A, c, hs, rfl, hm, hr⟩
    · exact .inr ⟨ht, rfl⟩
set_option maxHeartbeats 64000000 in
set_option maxRecDepth 100000 in
theorem refLines_any (fa fb : List FileD) (A A2 : Option Addr) (ca cb : Nat) (w : World) (hna : fa.length ≤ 1000) (hnb : fb.length ≤ 1000) (hok : ∀ f ∈ fa ++ fb, f.1.size ≤ 1000 ∧ f.2.size ≤ 4000)
    (hsa : Sl w w.heap.size A fa.length 2 (cells2 fa)) (hsb : Sl w w.heap.size A2 fb.length 2 (cells2 fb)) :
    Calls Tryd.prog 18 #[.slice A fa.length ca, .slice A2 fb.length cb] w (LinesGive fa fb w) := by
  have HSA := Lib.hid hsa; have HSB := Lib.hid hsb; have HOK := Lib.hid hok
  clear hsa hsb hok
  go_enter Tryd.func18, Tryd.ntmps18
  have hal : Below w.heap.size w (w.alloc (.cells #[] 55)) := (Below.refl _ _).alloc (Nat.le_refl _) _
  have HOE := Lib.hid (own_made0 w w.heap.size 55 2 (Nat.le_refl _))
  have HSA0 := Lib.hid ((HSA.out.keep hal).more hal.size)
  have HAL := Lib.hid hal
  clear hal
  go_upto_region 2 with (first
    | (refine wp_appL (by rfl) _ _ 53 rfl w.heap.size 55 (.agg #[.string ⟨#[]⟩, .string ⟨#[]⟩]) 2 32 Tryd.underlying53 fileInfo rfl (by decide) _ 0 [] rfl HOE.out A fa.length ca (w.alloc (.cells #[] 55)).heap.size (cells2 fa) rfl HSA0.out (cells2_one fa) (by unfold maxLen; omega) (by omega) HAL.out.size ?_; intro v5 w5 ho5 hg5
       rw [Nat.zero_add, List.nil_append] at ho5
       obtain ⟨A5, c5, hv5⟩ := own_shape23 ho5
       subst hv5
       have HB5 := Lib.hid (HAL.out.grown hg5 HAL.out.size (fun k e => (HOE.out.lt k e).1))
       have HO5 := Lib.hid ho5
       have HSB5 := Lib.hid ((HSB.out.keep HB5.out).more HB5.out.size)
       clear ho5 hg5 HOE HSA0)
    | (refine wp_appL (by rfl) _ _ 53 rfl w.heap.size 55 (.agg #[.string ⟨#[]⟩, .string ⟨#[]⟩]) 2 32 Tryd.underlying53 fileInfo rfl (by decide) _ fa.length (cells2 fa) rfl HO5.out A2 fb.length cb w5.heap.size (cells2 fb) rfl HSB5.out (cells2_one fb) (by unfold maxLen; omega) (by omega) HB5.out.size ?_; intro v6 w6 ho6 hg6
       obtain ⟨A6, c6, hv6⟩ := own_shape23 ho6
       subst hv6
       have HB6 := Lib.hid (HB5.out.grown hg6 HB5.out.size (fun k e => (HO5.out.lt k e).1))
       have HO6 := Lib.hid ho6
       clear ho6 hg6 HO5 HSB5))
  have hkl : fa.length + fb.length = (fa ++ fb).length := by rw [List.length_append]
  have hko := HO6.out
  rw [← cells2_append, hkl] at hko
  rw [hkl]
  obtain ⟨fl, hfl⟩ : ∃ fl, fa ++ fb = fl := ⟨_, rfl⟩
  rw [hfl] at hko hkl ⊢
  have HFL := Lib.hid hfl
  have HSF := Lib.hid (Sl.of_own hko)
  have HSA6 := Lib.hid ((HSA.out.keep HB6.out).more HB6.out.size); have HSB6 := Lib.hid ((HSB.out.keep HB6.out).more HB6.out.size)
  obtain ⟨P, hP⟩ : ∃ P, pathsP fa fb = P := ⟨_, rfl⟩
  have HP := Lib.hid hP
  have hPl : P.length ≤ 2000 := by
    have h1 := Lib.compact_length_le (sortS ((fa ++ fb).map fun f => L f.1))
    rw [sortS_length, List.length_map] at h1
    rw [← hP]
    have h2 : (pathsP fa fb).length ≤ (fa ++ fb).length := h1
    rw [HFL.out] at h2
    omega
  clear hko hfl HO6 HSA HSB HAL hP
  go_wp2_with fail
  go_loopw [7, 8] (fun t7 t8 wr => ∃ (k : Nat) (ys ts : List ByteArray), k ≤ P.length ∧ sliceLen t8 = k ∧ Hid (RLn fa fb P w6 k ys ts t7 t8 wr)) (fun _ t8 _ => P.length - sliceLen t8)
  case atStart => exact ⟨0, [], [], Nat.zero_le _, rfl, Lib.hid ⟨⟨rfl, Nat.zero_le _⟩, World.ownsRow_nil _ _ _ _, World.ownsRow_nil _ _ _ _, rfl, fun g hg => (by cases hg), Below.refl _ _⟩⟩
  case round =>
    obtain ⟨k, ys, ts, hk, hkl8, HR⟩ := hrel
    obtain ⟨A7, c7, hv7⟩ := own_shape23 HR.out.2.1
    obtain ⟨A8, c8, hv8⟩ := own_shape23 HR.out.2.2.1
    subst hv7 hv8
    have hbz : w6.heap.size ≤ wr.heap.size := HR.out.2.2.2.2.2.size
    clear hkl8
    obtain ⟨wo, hwo⟩ : ∃ wo : World, wo = wr := ⟨_, rfl⟩
    subst hwo
    go_wp2_with fail
    go_loopw [9, 10] (fun t9 t10 wq => ∃ (i : Nat) (at' : Int), i ≤ fl.length ∧ t10 = .int .i64 (i : Int) ∧ t9 = .int .i64 at' ∧ Hid (BestAt fl P k i at') ∧ Hid (Gr wo wq)) (fun _ t10 _ => fl.length - (intOf t10).toNat)
    case atStart => exact ⟨0, -1, Nat.zero_le _, rfl, rfl, Lib.hid BestAt.start, Lib.hid (Gr.refl _)⟩
    case round =>
      obtain ⟨i, at', hi, rfl, rfl, HBA, HGR⟩ := hrel
      by_cases hlt : i < fl.length
      · obtain ⟨b, off, rfl, hbl, hcl⟩ := ((HSF.out.keep HR.out.2.2.2.2.2)).2 (by omega)
        have i0 : (0 : Int) ≤ (i : Int) := by omega
        have i1 : (i : Int) < (fl.length : Int) := by omega
        have HCL := Lib.hid (fun (j : Nat) (hj : j < fl.length) => (HGR.out.below.cell (p := ⟨b, off + j * 2, none⟩) (Nat.lt_of_lt_of_le hbl hbz)).trans (hcl _ _ (cells2_get fl j hj).1))
        have ci := HCL.out i hlt
        have CI := Wg.cell ci (Nat.lt_of_lt_of_le hbl (Nat.le_trans hbz HGR.out.below.size))
        obtain ⟨fl_i, hfi⟩ : ∃ s, fl[i].1 = s := ⟨_, rfl⟩
        have HFI := Lib.hid hfi
        rw [hfi] at CI
        clear hcl ci
        have hwz := HGR.out.below.size
        by_cases hk0 : k = 0
        · have HC : Hid (candB P k (L fl_i) = true) := Lib.hid (by unfold candB; simp [hk0])
          have b0 : (((k : Nat) : Int) == 0) = true := by rw [hk0]; rfl
          rw [← hfi] at HC
          have HC' := HC
          by_cases hat : at' < 0
          · have a1 : at' = -1 := by
              rcases HBA.out with ⟨h, _⟩ | ⟨a, _, h, _⟩
              · exact h
              · omega
            subst a1
            go_upto_region 7 with fail
            refine wp_region_wr (by kernel_rfl) (by kernel_rfl) ?_
            repeat (first
              | go_big_quiet_skip
              | (go_big_quiet_want
                 first
                   | (go_big_quiet_op
                      first
                        | go_big_quiet_on
                        | go_big_quiet_call (first | (fail)))))
            refine wpQuiet_nil ?_
            rintro w' ⟨kk, rfl⟩
            have hk2 := kk.2
            generalize kk.val = w2 at *
            clear kk
            have HG2 := Lib.hid (HGR.out.trans hk2)
            clear hk2
            go_wp2_with fail
            go_roundw
            case rel => exact ⟨i + 1, (i : Int), by omega, by go_num, rfl, Lib.hid (HBA.out.first hlt HC.out), HG2⟩
            case measure => (simp [intOf]) <;> omega
          · obtain ⟨a, rfl⟩ : ∃ a : Nat, at' = (a : Int) := ⟨at'.toNat, by omega⟩
            obtain ⟨hai, haf⟩ := HBA.out.place
            have d1 : decide ((a : Int) < 0) = false := by rw [decide_eq_false_iff_not]; omega
            have d2 : ¬ (a : Int) < 0 := by omega
            have d3 : (0 : Int) ≤ (a : Int) := by omega
            have d4 : (a : Int) < (fl.length : Int) := by omega
            have ca := HCL.out a haf
            have CA := Wg.cell ca (Nat.lt_of_lt_of_le hbl (Nat.le_trans hbz HGR.out.below.size))
            have HCP := Lib.hid (fun (h : ¬ cmpB (L fl[i].1) (L fl[a].1) < 0) => HBA.out.keep hlt haf h); have HCQ := Lib.hid (fun (h : cmpB (L fl[i].1) (L fl[a].1) < 0) => HBA.out.less hlt haf HC.out h)
            rw [hfi] at HCP HCQ
            generalize fl[a].1 = pa at *
            clear hat ca
            have hls : Op.bytesLess fl_i.toList pa.toList = decide (cmpB (L fl_i) (L pa) < 0) := by rw [toList_L, toList_L]; exact less_cmp _ _
            by_cases hcm : cmpB (L fl_i) (L pa) < 0
            · rw [decide_eq_true hcm] at hls
              have HFIN := Lib.hid (HCQ.out hcm)
              clear hcm
              go_upto_region 7 with fail
              refine wp_region_wr (by kernel_rfl) (by kernel_rfl) ?_
              repeat (first
                | go_big_quiet_skip
                | (go_big_quiet_want
                   first
                     | (go_big_quiet_op
                        first
                          | go_big_quiet_on
                          | go_big_quiet_call (first | (fail)))))
              refine wpQuiet_nil ?_
              rintro w' ⟨kk, rfl⟩
              have hk2 := kk.2
              generalize kk.val = w2 at *
              clear kk
              have HG2 := Lib.hid (HGR.out.trans hk2)
              clear hk2
              go_wp2_with fail
              go_roundw
              case rel => exact ⟨i + 1, (i : Int), by omega, by go_num, rfl, Lib.hid (HFIN.out), HG2⟩
              case measure => (simp [intOf]) <;> omega
            · rw [decide_eq_false hcm] at hls
              have HFIN := Lib.hid (HCP.out hcm)
              clear hcm
              go_upto_region 7 with fail
              refine wp_region_wr (by kernel_rfl) (by kernel_rfl) ?_
              repeat (first
                | go_big_quiet_skip
                | (go_big_quiet_want
                   first
                     | (go_big_quiet_op
                        first
                          | go_big_quiet_on
                          | go_big_quiet_call (first | (fail)))))
              refine wpQuiet_nil ?_
              rintro w' ⟨kk, rfl⟩
              have hk2 := kk.2
              generalize kk.val = w2 at *
              clear kk
              have HG2 := Lib.hid (HGR.out.trans hk2)
              clear hk2
              go_wp2_with fail
              go_roundw
              case rel => exact ⟨i + 1, (a : Int), by omega, by go_num, rfl, Lib.hid (HFIN.out), HG2⟩
              case measure => (simp [intOf]) <;> omega
        · obtain ⟨p, rfl⟩ : ∃ p, k = p + 1 := ⟨k - 1, by omega⟩
          have b0 : ((((p + 1 : Nat)) : Int) == 0) = false := by rw [beq_eq_false_iff_ne]; omega
          have b1 : (((p : Nat) : Int) + 1 == 0) = false := by rw [beq_eq_false_iff_ne]; omega
          have e1 : IntKind.i64.wrap ((((p + 1 : Nat)) : Int) - 1) = (p : Int) := by rw [IntWalk.i64_in _ (by omega)]; omega
          have e2 : IntKind.i64.wrap (((p : Int) + 1) - 1) = (p : Int) := by rw [IntWalk.i64_in _ (by omega)]; omega
          have p0 : (0 : Int) ≤ (p : Int) := by omega
          have p1 : (p : Int) < (p : Int) + 1 := by omega
          obtain ⟨g8, o8, rfl, hg8, hc8⟩ := (Sl.of_own HR.out.2.2.1).2 (by omega)
          have htl : ts.length = p + 1 := by have h := congrArg List.length HR.out.2.2.2.1; rw [List.length_map, List.length_take] at h; omega
          have c8' := hc8 p (.string ts[p]) (by simp [strs, htl])
          have C8 := Wg.cell ((HGR.out.below.cell (p := ⟨g8, o8 + p, none⟩) hg8).trans c8') (Nat.lt_of_lt_of_le hg8 hwz)
          have htp : P.getD (p + 1 - 1) [] = L ts[p] := by
            have h := congrArg (fun l => l[p]?) HR.out.2.2.2.1
            simp only [List.getElem?_map, List.getElem?_take, List.getElem?_eq_getElem (show p < ts.length by omega), Option.map_some] at h
            rw [if_pos (by omega)] at h
            rw [Nat.add_sub_cancel, List.getD_eq_getElem?_getD, ← h]
            rfl
          have HTP := Lib.hid htp
          generalize ts[p] = tl at *
          clear hc8 c8' htp
          have hls8 : Op.bytesLess fl_i.toList tl.toList = decide (cmpB (L fl_i) (L tl) < 0) := by rw [toList_L, toList_L]; exact less_cmp _ _
          have heq8 := str_beq fl_i tl
          by_cases hc : cmpB (L tl) (L fl_i) < 0
          · have HC : Hid (candB P (p + 1) (L fl_i) = true) := Lib.hid (by unfold candB; rw [HTP.out]; simp [hc])
            have hn1 : ¬ cmpB (L fl_i) (L tl) < 0 := by have := cmpB_swap (L fl_i) (L tl); omega
            have hn2 : ¬ L fl_i = L tl := fun e => by rw [e, cmpB_self] at hc; omega
            rw [decide_eq_false hn1] at hls8
            rw [decide_eq_false hn2] at heq8
            rw [← hfi] at HC
            clear hc hn1 hn2
            by_cases hat : at' < 0
            · have a1 : at' = -1 := by
                rcases HBA.out with ⟨h, _⟩ | ⟨a, _, h, _⟩
                · exact h
                · omega
              subst a1
              go_upto_region 7 with fail
              refine wp_region_wr (by kernel_rfl) (by kernel_rfl) ?_
              repeat (first
                | go_big_quiet_skip
                | (go_big_quiet_want
                   first
                     | (go_big_quiet_op
                        first
                          | go_big_quiet_on
                          | go_big_quiet_call (first | (fail)))))
              refine wpQuiet_nil ?_
              rintro w' ⟨kk, rfl⟩
              have hk2 := kk.2
              generalize kk.val = w2 at *
              clear kk
              have HG2 := Lib.hid (HGR.out.trans hk2)
              clear hk2
              go_wp2_with fail
              go_roundw
              case rel => exact ⟨i + 1, (i : Int), by omega, by go_num, rfl, Lib.hid (HBA.out.first hlt HC.out), HG2⟩
              case measure => (simp [intOf]) <;> omega
            · obtain ⟨a, rfl⟩ : ∃ a : Nat, at' = (a : Int) := ⟨at'.toNat, by omega⟩
              obtain ⟨hai, haf⟩ := HBA.out.place
              have d1 : decide ((a : Int) < 0) = false := by rw [decide_eq_false_iff_not]; omega
              have d2 : ¬ (a : Int) < 0 := by omega
              have d3 : (0 : Int) ≤ (a : Int) := by omega
              have d4 : (a : Int) < (fl.length : Int) := by omega
              have ca := HCL.out a haf
              have CA := Wg.cell ca (Nat.lt_of_lt_of_le hbl (Nat.le_trans hbz HGR.out.below.size))
              have HCP := Lib.hid (fun (h : ¬ cmpB (L fl[i].1) (L fl[a].1) < 0) => HBA.out.keep hlt haf h); have HCQ := Lib.hid (fun (h : cmpB (L fl[i].1) (L fl[a].1) < 0) => HBA.out.less hlt haf HC.out h)
              rw [hfi] at HCP HCQ
              generalize fl[a].1 = pa at *
              clear hat ca
              have hls : Op.bytesLess fl_i.toList pa.toList = decide (cmpB (L fl_i) (L pa) < 0) := by rw [toList_L, toList_L]; exact less_cmp _ _
              by_cases hcm : cmpB (L fl_i) (L pa) < 0
              · rw [decide_eq_true hcm] at hls
                have HFIN := Lib.hid (HCQ.out hcm)
                clear hcm
                go_upto_region 7 with fail
                refine wp_region_wr (by kernel_rfl) (by kernel_rfl) ?_
                repeat (first
                  | go_big_quiet_skip
                  | (go_big_quiet_want
                     first
                       | (go_big_quiet_op
                          first
                            | go_big_quiet_on
                            | go_big_quiet_call (first | (fail)))))
                refine wpQuiet_nil ?_
                rintro w' ⟨kk, rfl⟩
                have hk2 := kk.2
                generalize kk.val = w2 at *
                clear kk
                have HG2 := Lib.hid (HGR.out.trans hk2)
                clear hk2
                go_wp2_with fail
                go_roundw
                case rel => exact ⟨i + 1, (i : Int), by omega, by go_num, rfl, Lib.hid (HFIN.out), HG2⟩
                case measure => (simp [intOf]) <;> omega
              · rw [decide_eq_false hcm] at hls
                have HFIN := Lib.hid (HCP.out hcm)
                clear hcm
                go_upto_region 7 with fail
                refine wp_region_wr (by kernel_rfl) (by kernel_rfl) ?_
                repeat (first
                  | go_big_quiet_skip
                  | (go_big_quiet_want
                     first
                       | (go_big_quiet_op
                          first
                            | go_big_quiet_on
                            | go_big_quiet_call (first | (fail)))))
                refine wpQuiet_nil ?_
                rintro w' ⟨kk, rfl⟩
                have hk2 := kk.2
                generalize kk.val = w2 at *
                clear kk
                have HG2 := Lib.hid (HGR.out.trans hk2)
                clear hk2
                go_wp2_with fail
                go_roundw
                case rel => exact ⟨i + 1, (a : Int), by omega, by go_num, rfl, Lib.hid (HFIN.out), HG2⟩
                case measure => (simp [intOf]) <;> omega
          · have HC : Hid (candB P (p + 1) (L fl_i) = false) := Lib.hid (by unfold candB; rw [HTP.out]; simp [hc])
            rw [← hfi] at HC
            by_cases hc2 : L fl_i = L tl
            · rw [decide_eq_true hc2] at heq8
              clear hc hc2
              rcases Bool.eq_false_or_eq_true (Op.bytesLess fl_i.toList tl.toList) with q | q
              · go_upto_region 7 with fail
                refine wp_region_wr (by kernel_rfl) (by kernel_rfl) ?_
                repeat (first
                  | go_big_quiet_skip
                  | (go_big_quiet_want
                     first
                       | (go_big_quiet_op
                          first
                            | go_big_quiet_on
                            | go_big_quiet_call (first | (fail)))))
                refine wpQuiet_nil ?_
                rintro w' ⟨kk, rfl⟩
                have hk2 := kk.2
                generalize kk.val = w2 at *
                clear kk
                have HG2 := Lib.hid (HGR.out.trans hk2)
                clear hk2
                go_wp2_with fail
                go_roundw
                case rel => exact ⟨i + 1, at', by omega, by go_num, rfl, Lib.hid (HBA.out.skip hlt HC.out), HG2⟩
                case measure => (simp [intOf]) <;> omega
              · go_upto_region 7 with fail
                refine wp_region_wr (by kernel_rfl) (by kernel_rfl) ?_
                repeat (first
                  | go_big_quiet_skip
                  | (go_big_quiet_want
                     first
                       | (go_big_quiet_op
                          first
                            | go_big_quiet_on
                            | go_big_quiet_call (first | (fail)))))
                refine wpQuiet_nil ?_
                rintro w' ⟨kk, rfl⟩
                have hk2 := kk.2
                generalize kk.val = w2 at *
                clear kk
                have HG2 := Lib.hid (HGR.out.trans hk2)
                clear hk2
                go_wp2_with fail
                go_roundw
                case rel => exact ⟨i + 1, at', by omega, by go_num, rfl, Lib.hid (HBA.out.skip hlt HC.out), HG2⟩
                case measure => (simp [intOf]) <;> omega
            · have hn1 : cmpB (L fl_i) (L tl) < 0 := by
                have h1 := cmpB_swap (L fl_i) (L tl)
                rcases (by omega : cmpB (L fl_i) (L tl) < 0 ∨ cmpB (L fl_i) (L tl) = 0) with q | q
                · exact q
                · exact absurd (cmpB_zero.1 q) hc2
              rw [decide_eq_true hn1] at hls8
              rw [decide_eq_false hc2] at heq8
              clear hc hc2 hn1
              go_upto_region 7 with fail
              refine wp_region_wr (by kernel_rfl) (by kernel_rfl) ?_
              repeat (first
                | go_big_quiet_skip
                | (go_big_quiet_want
                   first
                     | (go_big_quiet_op
                        first
                          | go_big_quiet_on
                          | go_big_quiet_call (first | (fail)))))
              refine wpQuiet_nil ?_
              rintro w' ⟨kk, rfl⟩
              have hk2 := kk.2
              generalize kk.val = w2 at *
              clear kk
              have HG2 := Lib.hid (HGR.out.trans hk2)
              clear hk2
              go_wp2_with fail
              go_roundw
              case rel => exact ⟨i + 1, at', by omega, by go_num, rfl, Lib.hid (HBA.out.skip hlt HC.out), HG2⟩
              case measure => (simp [intOf]) <;> omega
      · have hie : i = fl.length := by omega
        have i1 : ¬ (i : Int) < (fl.length : Int) := by omega
        have hba := HBA.out
        rw [hie] at hba
        have HBA2 := Lib.hid hba
        have hgb := HGR.out.below
        have H7 := Lib.hid (own_kept HR.out.2.1 hgb); have H8 := Lib.hid (own_kept HR.out.2.2.1 hgb)
        have HB7 := Lib.hid (HR.out.2.2.2.2.2.trans (hgb.mono hbz))
        have hbz7 : w6.heap.size ≤ wr.heap.size := HB7.out.size
        have hyl : ys.length ≤ 40000 * k := HR.out.1.2
        have htl : ts.length = k := by
          have h := congrArg List.length HR.out.2.2.2.1
          rw [List.length_map, List.length_take] at h
          omega
        clear hie hba hgb HBA
        by_cases hneg : at' < 0
        · obtain rfl : at' = -1 := by
            rcases HBA2.out with ⟨h, _⟩ | ⟨a, _, h, _⟩
            · exact h
            · omega
          have hke : k = P.length := by
            have h1 := HP.out; have h2 := HFL.out; have h3 := HBA2.out
            subst h1 h2
            exact best_none hk h3
          have HF : Hid (linesL fa fb (pathsP fa fb) = some (ys.map L)) := Lib.hid (by
            have h := HR.out.1.1
            rw [hke, List.take_length] at h
            rw [HP.out]
            exact h)
          clear hneg hke
          go_wp2_with fail
          go_ret2
          exact ⟨HB6.out.trans (HB7.out.mono HB6.out.size), .inl ⟨_, HF.out, A7, c7, ys, rfl, rfl, Sl.of_own H7.out⟩⟩
        · obtain ⟨a, rfl⟩ : ∃ a : Nat, at' = (a : Int) := ⟨at'.toNat, by omega⟩
          obtain ⟨_, haf⟩ := HBA2.out.place
          obtain ⟨hkP, hpk⟩ : ∃ h : k < P.length, P[k] = L fl[a].1 := by
            have h1 := HP.out; have h2 := HFL.out; have h3 := HBA2.out
            subst h1 h2
            exact best_next hk h3 haf
          obtain ⟨b, off, rfl, hbl, hcl⟩ := (HSF.out.keep HB7.out).2 (by omega)
          have a0 : (0 : Int) ≤ (a : Int) := by omega
          have a1 : (a : Int) < (fl.length : Int) := by omega
          have a2 : ¬ (a : Int) < 0 := by omega
          have a3 : decide ((a : Int) < 0) = false := decide_eq_false a2
          have cpa := hcl _ _ (cells2_get fl a haf).1
          have hps : fl[a].1.size ≤ 1000 := by
            have hm : fl[a] ∈ fa ++ fb := by rw [HFL.out]; exact List.getElem_mem haf
            exact (HOK.out _ hm).1
          generalize fl[a].1 = pb at *
          have HPK := Lib.hid (show (⟨P[k].toArray⟩ : ByteArray) = pb by rw [hpk])
          have HTK := Lib.hid (show P.take (k + 1) = P.take k ++ [L pb] by rw [List.take_succ_eq_append_getElem hkP, hpk])
          have HNO := Lib.hid (fun h : told1 fa fb pb = none => linesL_none (fa := fa) (fb := fb) hkP (by rw [HPK.out]; exact h))
          obtain ⟨f1, f2, o1, HFA⟩ : ∃ f1 f2 o1, Hid ((∀ u, Sl u u.heap.size A fa.length 2 (cells2 fa) → Calls Tryd.prog 43 #[.slice A fa.length ca, .string pb] u fun e w' => Below u.heap.size u w' ∧ e = .returned (.tuple #[.agg #[.string f1, .string f2], .bool o1])) ∧ bytesOf fa pb = f2 ∧ (firstD fa pb).isSome = o1) := ⟨_, _, _, Lib.hid ⟨fun u hu => find_any fa A ca pb u (by omega) hu, rfl, rfl⟩⟩
          obtain ⟨g1, g2, o2, HFB⟩ : ∃ g1 g2 o2, Hid ((∀ u, Sl u u.heap.size A2 fb.length 2 (cells2 fb) → Calls Tryd.prog 43 #[.slice A2 fb.length cb, .string pb] u fun e w' => Below u.heap.size u w' ∧ e = .returned (.tuple #[.agg #[.string g1, .string g2], .bool o2])) ∧ bytesOf fb pb = g2 ∧ (firstD fb pb).isSome = o2) := ⟨_, _, _, Lib.hid ⟨fun u hu => find_any fb A2 cb pb u (by omega) hu, rfl, rfl⟩⟩
          have hfN : f2.size ≤ 4000 := by rw [← HFA.out.2.1]; exact bytesOf_le (fun f hf => (HOK.out f (List.mem_append_left _ hf)).2) pb
          have hgN : g2.size ≤ 4000 := by rw [← HFB.out.2.1]; exact bytesOf_le (fun f hf => (HOK.out f (List.mem_append_right _ hf)).2) pb
          clear hneg hcl hpk
          go_upto_region 15 with (first
            | (refine wp_app1w (by rfl) _ _ 56 rfl w6.heap.size 9 (.string ⟨#[]⟩) 16 Tryd.underlying56 strInfo23 rfl (.slice A8 k c8) k (strs ts) rfl H8.out (.string pb) 9 rfl rfl (by unfold maxLen; omega) (by omega) hbz7 ?_; intro v9 w9 ho9 hb9 hk9 hw9 hz9
               obtain ⟨h79, hap9⟩ := told_more H7.out H8.out HR.out.2.2.2.2.1 hk9 hw9
               rw [← strs_one] at ho9
               obtain ⟨A9, c9, hv9⟩ := own_shape23 ho9
               subst hv9
               have HB9 := Lib.hid (hb9 _ _ (Nat.le_refl _) HB7.out); have H79 := Lib.hid h79; have H89 := Lib.hid ho9; have HAP9 := Lib.hid hap9
               have hfa := HFA.out.1 w9 ((HSA6.out.keep HB9.out).more HB9.out.size)
               have HFA2 := Lib.hid hfa
               clear ho9 hb9 hk9 hw9 hz9 h79 hap9 hfa)
            | (go_at_call 43; refine HFA2.out.mono ?_; rintro e w10 ⟨hb10, rfl⟩
               have hal : Below w10.heap.size w10 (w10.alloc (.cells #[.string f1, .string f2] 55)) := (Below.refl _ _).alloc (Nat.le_refl _) _
               have HB10 := Lib.hid (hb10.trans (hal.mono hb10.size))
               have HX10 := Lib.hid (heap_alloc_new w10 (.cells #[.string f1, .string f2] 55))
               have HZ10 := Lib.hid (show w9.heap.size ≤ w10.heap.size from hb10.size)
               have hfb := HFB.out.1 (w10.alloc (.cells #[.string f1, .string f2] 55)) ((HSB6.out.keep (HB9.out.trans (HB10.out.mono HB9.out.size))).more (Nat.le_trans HB9.out.size HB10.out.size))
               have HFB2 := Lib.hid hfb
               clear hb10 hal hfb HFA2)
            | (go_at_call 43; refine HFB2.out.mono ?_; rintro e w11 ⟨hb11, rfl⟩
               have hal : Below w11.heap.size w11 (w11.alloc (.cells #[.string g1, .string g2] 55)) := (Below.refl _ _).alloc (Nat.le_refl _) _
               have HX11 := Lib.hid (heap_alloc_new w11 (.cells #[.string g1, .string g2] 55))
               have HY11 := Lib.hid ((hal.block _ (Nat.lt_of_lt_of_le (by simp) hb11.size)).trans ((hb11.block _ (by simp)).trans HX10.out))
               have HB11 := Lib.hid ((HB10.out).trans ((hb11.trans (hal.mono hb11.size)).mono HB10.out.size))
               clear hb11 hal HFB2))
          obtain ⟨W, hW⟩ : ∃ W, w11.alloc (.cells #[.string g1, .string g2] 55) = W := ⟨_, rfl⟩
          obtain ⟨z1, hz1⟩ : ∃ z, w10.heap.size = z := ⟨_, rfl⟩
          obtain ⟨z2, hz2⟩ : ∃ z, w11.heap.size = z := ⟨_, rfl⟩
          rw [hW] at HX11 HY11 HB11 ⊢
          rw [hz1] at HY11 ⊢
          rw [hz2] at HX11 ⊢
          have HBW := Lib.hid (HB9.out.trans (HB11.out.mono HB9.out.size))
          have H7W := Lib.hid (own_kept H79.out HB11.out); have H8W := Lib.hid (own_kept H89.out HB11.out)
          have hzW : w6.heap.size ≤ W.heap.size := HBW.out.size
          have cf : W.cell? ⟨z1, 1, none⟩ = some (.string f2) := cells_box HY11.out 1
          have cg : W.cell? ⟨z2, 1, none⟩ = some (.string g2) := cells_box HX11.out 1
          clear hW hz1 hz2 HB10 HX10 HZ10 HX11 HY11 HB11 H79 H89 HB9 cpa hbl
          by_cases hsm : sameF fa fb pb = true
          · have hsm2 := hsm
            unfold sameF at hsm2
            rw [HFA.out.2.1, HFB.out.2.1, HFA.out.2.2, HFB.out.2.2, Bool.and_eq_true, Bool.and_eq_true, decide_eq_true_eq] at hsm2
            obtain ⟨⟨rfl, rfl⟩, hfg⟩ := hsm2
            have tb : (f2.toList == g2.toList) = true := by rw [hfg]; exact beq_self_eq_true _
            have HTN : Hid (ToldTo fa fb P (k + 1) ys) := Lib.hid (by
              refine ⟨?_, by omega⟩
              rw [HTK.out, linesL_snoc, HR.out.1.1]
              show (Option.some _).bind (fun t => (told1 fa fb pb).map (t ++ ·)) = _
              unfold told1
              rw [if_pos hsm]
              simp)
            have HTS : Hid ((ts ++ [pb]).map L = P.take (k + 1)) := Lib.hid (by rw [List.map_append, HR.out.2.2.2.1, HTK.out]; rfl)
            clear hsm hfg
            go_wp2_with fail
            go_roundw
            case rel => exact ⟨k + 1, ys, ts ++ [pb], by omega, rfl, Lib.hid ⟨HTN.out, H7W.out, H8W.out, HTS.out, HAP9.out, HBW.out⟩⟩
            case measure => (simp [sliceLen]) <;> omega
          · have hsm3 : sameF fa fb pb = false := by cases h : sameF fa fb pb with | true => exact absurd h hsm | false => rfl
            have HSM := Lib.hid hsm3
            clear hsm hsm3
            go_cut [102] from 92 to 102 (fun s102 wx => s102 = .bool false ∧ wx = W)
            case first =>
              cases o1 with
              | false =>
                go_wp2_with fail
                go_meet
                case rel => exact ⟨rfl, rfl⟩
              | true =>
                cases o2 with
                | false =>
                  go_wp2_with fail
                  go_meet
                  case rel => exact ⟨rfl, rfl⟩
                | true =>
                  have tb : (f2.toList == g2.toList) = false := by
                    rw [str_beq, decide_eq_false_iff_not]
                    intro e
                    have h := HSM.out
                    unfold sameF at h
                    rw [HFA.out.2.1, HFB.out.2.1, HFA.out.2.2, HFB.out.2.2, decide_eq_true (L_inj e)] at h
                    cases h
                  go_wp2_with fail
                  go_meet
                  case rel => exact ⟨rfl, rfl⟩
            case rest =>
              obtain ⟨rfl, hwc⟩ := hcut
              subst hwc
              have hhu := refTold_any f2 g2 wc hfN hgN
              have HHU := Lib.hid hhu
              clear hhu
              cases hXf : (isText f2 && isText g2) with
              | false =>
                have hno : Calls Tryd.prog 44 #[.string f2, .string g2] wc fun e w' => Below wc.heap.size wc w' ∧ e = .returned (.tuple #[.slice none 0 0, .int .i64 5]) := HHU.out.mono fun e w' ⟨h1, h2⟩ => by
                  rcases h2 with ⟨h, _⟩ | ⟨_, h⟩
                  · rw [hXf] at h; cases h
                  · exact ⟨h1, h⟩
                have HNN : Hid (linesL fa fb (pathsP fa fb) = none) := Lib.hid (by
                  rw [HP.out]
                  refine HNO.out ?_
                  unfold told1
                  rw [if_neg (by rw [HSM.out]; decide), HFA.out.2.1, HFB.out.2.1, if_neg (by rw [hXf]; decide)])
                clear hXf HHU
                go_wp2_with (go_at_call 44; refine hno.mono ?_; rintro e w8 ⟨hb8, rfl⟩)
                go_ret2
                exact ⟨HB6.out.trans ((HBW.out.trans (hb8.mono hzW)).mono HB6.out.size), .inr ⟨HNN.out, rfl⟩⟩
              | true =>
                have hyes : Calls Tryd.prog 44 #[.string f2, .string g2] wc fun e w' => Below wc.heap.size wc w' ∧ ∃ (A : Option Addr) (c : Nat) (hs : List HkD), e = .returned (.tuple #[.slice A hs.length c, .int .i64 0]) ∧ hs.map hkOf = hunksL (L f2) (L g2) ∧ HsC w' wc.heap.size (.slice A hs.length c) hs := HHU.out.mono fun e w' ⟨h1, h2⟩ => by
                  rcases h2 with ⟨_, h⟩ | ⟨h, _⟩
                  · exact ⟨h1, h⟩
                  · rw [hXf] at h; cases h
                have HTX := Lib.hid hXf
                have hcn := cntH_hunks (L f2) (L g2)
                rw [L_length, L_length] at hcn
                have z1 : ¬ 9223372036854775807 < 5 + pb.size := by omega
                have z2 : ¬ 9223372036854775807 < 5 + pb.size + 6 := by omega
                have z3 : ¬ 9223372036854775807 < 5 + pb.size + 5 := by omega
                clear hXf HHU
                go_upto_region 20 with (first
                  | (go_at_call 44; refine hyes.mono ?_; rintro e w8 ⟨hb8, Ah, ch, hs, rfl, hm9, hr9⟩
                     have HM9 := Lib.hid hm9; have HR9 := Lib.hid hr9; have HB8 := Lib.hid hb8
                     have hoa : OutAt wc.heap.size w6.heap.size w8 w8 (.slice A7 ys.length c7) ys := ⟨own_kept H7W.out hb8, fun g hg => .inl (H7W.out.lt g hg).2, fun _ _ _ => rfl, Below.refl _ _⟩
                     have HOA := Lib.hid (show OT wc.heap.size w6.heap.size w8 w8 (.slice A7 ys.length c7) ys (.slice A9 (k + 1) c9) (ts ++ [pb]) from ⟨hoa, by rw [List.length_append, List.length_singleton, htl]; exact own_kept H8W.out hb8, HAP9.out⟩)
                     have hz8 : w6.heap.size ≤ w8.heap.size := Nat.le_trans hzW hb8.size
                     clear hm9 hr9 hb8 hoa hyes))
                have hsl : hs.length ≤ 20000 := by
                  have h1 := congrArg List.length HM9.out
                  have h2 : (hunksL (L f2) (L g2)).length ≤ cntH (hunksL (L f2) (L g2)) := by
                    unfold cntH
                    generalize hunksL (L f2) (L g2) = H
                    induction H with
                    | nil => simp
                    | cons h H ih => simp only [List.flatMap_cons, List.length_append, List.length_cons, hunkLn]; omega
                  rw [List.length_map] at h1
                  omega
                obtain ⟨z0, hz0⟩ : ∃ z0, wc.heap.size = z0 := ⟨_, rfl⟩
                rw [hz0] at HOA HR9
                have HB8W := Lib.hid (HBW.out.trans (HB8.out.mono hzW))
                clear hz0 cf cg
                go_upto_if 117 with fail
                go_cut [18] from 118 to 123 (fun s18 wx => ∃ hd : ByteArray, s18 = .string hd ∧ wx = w8 ∧ Hid (L hd = headS fa fb pb) ∧ hd.size ≤ 2000)
                case first =>
                  cases o1 with
                  | false =>
                    have HH := Lib.hid (show L ((⟨#[102, 105, 108, 101, 32]⟩ : ByteArray) ++ pb ++ ⟨#[32, 97, 100, 100, 101, 100]⟩) = headS fa fb pb by rw [L_app, L_app]; unfold headS; rw [if_pos HFA.out.2.2])
                    go_wp2_with fail
                    go_meet
                    case rel => exact ⟨_, rfl, rfl, HH, by rw [ByteArray.size_append, ByteArray.size_append]; show 5 + pb.size + 6 ≤ 2000; omega⟩
                  | true =>
                    cases o2 with
                    | false =>
                      have HH := Lib.hid (show L ((⟨#[102, 105, 108, 101, 32]⟩ : ByteArray) ++ pb ++ ⟨#[32, 103, 111, 110, 101]⟩) = headS fa fb pb by rw [L_app, L_app]; unfold headS; rw [HFA.out.2.2, HFB.out.2.2, if_neg (by decide), if_pos rfl])
                      go_wp2_with fail
                      go_meet
                      case rel => exact ⟨_, rfl, rfl, HH, by rw [ByteArray.size_append, ByteArray.size_append]; show 5 + pb.size + 5 ≤ 2000; omega⟩
                    | true =>
                      have HH := Lib.hid (show L ((⟨#[102, 105, 108, 101, 32]⟩ : ByteArray) ++ pb) = headS fa fb pb by rw [L_app]; unfold headS; rw [HFA.out.2.2, HFB.out.2.2, if_neg (by decide), if_neg (by decide), List.append_nil])
                      go_wp2_with fail
                      go_meet
                      case rel => exact ⟨_, rfl, rfl, HH, by rw [ByteArray.size_append]; show 5 + pb.size ≤ 2000; omega⟩
                case rest =>
                  obtain ⟨hd, rfl, hwc, HHD, hhd⟩ := hcut
                  subst hwc
                  obtain ⟨w8, hw8⟩ : ∃ w8 : World, w8 = wc := ⟨_, rfl⟩
                  subst hw8
                  have HT1 : Hid (told1 fa fb pb = some (L hd :: (hunksL (L f2) (L g2)).flatMap hunkLn)) := Lib.hid (by
                    unfold told1
                    rw [if_neg (by rw [HSM.out]; decide), HFA.out.2.1, HFB.out.2.1, if_pos HTX.out, ← HHD.out])
                  clear z1 z2 z3
                  go_upto_region 25 with (first
                    | (refine wp_app1w (by rfl) _ _ 56 rfl w6.heap.size 9 (.string ⟨#[]⟩) 16 Tryd.underlying56 strInfo23 rfl (.slice A7 ys.length c7) ys.length (strs ys) rfl HOA.out.1.1 (.string hd) 9 rfl rfl (by unfold maxLen; omega) (by omega) hz8 ?_; intro v10 w10 ho10 hb10 hk10 hw10 hz10
                       have HOA10 := Lib.hid (HOA.out.app ho10 hb10 hk10 hw10)
                       clear ho10 hb10 hk10 hw10 hz10))
                  go_wp2_with fail
                  go_loopw [7, 19] (fun t7 t19 wr => ∃ q zs, q ≤ hs.length ∧ t19 = .int .i64 ((q : Nat) : Int) ∧ Hid (zs.map L = ys.map L ++ [L hd] ++ ((hs.map hkOf).take q).flatMap hunkLn) ∧ Hid (OT z0 w6.heap.size w8 wr t7 zs (.slice A9 (k + 1) c9) (ts ++ [pb]))) (fun _ t19 _ => hs.length - (intOf t19).toNat)
                  case atStart => exact ⟨0, ys ++ [hd], Nat.zero_le _, rfl, Lib.hid (by simp), HOA10⟩
                  case round =>
                    obtain ⟨q, zs, hq, rfl, HYS, HOY⟩ := hrel
                    obtain ⟨Ay, cy, hvy⟩ := own_shape23 HOY.out.1.1
                    subst hvy
                    have hyl2 : zs.length ≤ ys.length + 1 + 16000 := by
                      have h1 := congrArg List.length HYS.out
                      have h2 := cntH_take (hs.map hkOf) q
                      rw [HM9.out] at h1 h2
                      simp only [List.length_map, List.length_append, List.length_cons, List.length_nil] at h1
                      omega
                    by_cases hql : q < hs.length
                    · have j0 : (0 : Int) ≤ (q : Int) := by omega
                      have j1 : (q : Int) < (hs.length : Int) := by omega
                      have hro := own_mid HR9.out.1 HOY.out.1.2.2.1
                      obtain ⟨X9, rfl⟩ : ∃ X9, Ah = some ⟨X9, 0, none⟩ := by
                        rcases hro.2 with ⟨h, h0⟩ | ⟨g, cap, cur, h, _⟩
                        · omega
                        · injection h with h; exact ⟨g, h⟩
                      have hlr := HR9.out.2 _ (List.getElem_mem hql)
                      have hrw := rowsV_get (hkV_len hs) q hql
                      have hmk : hkOf hs[q] ∈ hunksL (L f2) (L g2) := by rw [← HM9.out]; exact List.mem_map_of_mem (List.getElem_mem hql)
                      have htq : (hs.map hkOf).take (q + 1) = (hs.map hkOf).take q ++ [hkOf hs[q]] := by rw [List.take_succ_eq_append_getElem (by simpa using hql), List.getElem_map]
                      have hmx : zs.length + 1 + hs[q].2.2.2.length ≤ ys.length + 1 + 16000 := by
                        have h1 := congrArg List.length HYS.out
                        have h2 := cntH_take (hs.map hkOf) (q + 1)
                        rw [htq, List.flatMap_append, List.length_append] at h2
                        rw [HM9.out] at h1 h2
                        simp only [List.length_map, List.length_append, List.length_cons, List.length_nil] at h1
                        simp only [List.flatMap_cons, List.flatMap_nil, List.append_nil, hunkLn, List.length_cons, List.length_map, hkOf] at h2
                        omega
                      have HTQ := Lib.hid htq
                      clear htq
                      generalize hs[q] = hh at *
                      obtain ⟨f, t, lv, ls⟩ := hh
                      simp only at hlr hmx
                      obtain ⟨Al, cl, hvl⟩ := own_shape23 hlr
                      subst hvl
                      have HPLC := Lib.hid (hunksL_places _ _ _ hmk)
                      have HSZ := Lib.hid (fun s (hs : s ∈ ls) => hunksL_sizes (L f2) (L g2) 4000 (by rw [L_length]; omega) (by rw [L_length]; omega) _ hmk (L s) (List.mem_map_of_mem hs))
                      have HLN := Lib.hid (fun (r : Nat) (hrl : r < ls.length) => (show 1 ≤ ls[r].size by
                        have h := ((hunksL_apart (L f2) (L g2)).2 _ hmk).2.1 (L ls[r]) (List.mem_map_of_mem (List.getElem_mem hrl))
                        rw [← L_length]
                        exact List.length_pos_iff.2 h))
                      have hfN2 : f ≤ 4000 := by have h1 := HPLC.out.1; rw [L_length] at h1; simp only [hkOf] at h1; omega
                      have htN2 : t ≤ 4000 := by have h1 := HPLC.out.2; rw [L_length] at h1; simp only [hkOf] at h1; omega
                      have hlen9 : q * 3 + 2 < hs.length * 3 := by omega
                      have c0 := (hro.cellAt (q * 3 + 0) (by omega)).trans (hrw 0 (.int .i64 (f : Int)) rfl)
                      have c1 := (hro.cellAt (q * 3 + 1) (by omega)).trans (hrw 1 (.int .i64 (t : Int)) rfl)
                      rw [Nat.add_zero] at c0
                      have hX9 : X9 < wr.heap.size := (hro.lt X9 (by simp [Value.ownBlock])).2
                      have C0 := Wg.cell c0 hX9; have C1 := Wg.cell c1 hX9
                      have HLR := Lib.hid hlr; have HRO := Lib.hid hro; have HRW := Lib.hid hrw
                      have hIfs : (digS f).size ≤ 4001 := by rw [← L_length]; have := decDigits_le f; show (Lib.decDigits f).length ≤ _; omega
                      have hIts : (digS t).size ≤ 4001 := by rw [← L_length]; have := decDigits_le t; show (Lib.decDigits t).length ≤ _; omega
                      have HD := Lib.hid (fun (k : Nat) (hk : k ≤ 100000) (u : World) => refDigits_dig k u hk)
                      have SZ1 : (⟨#[64, 32]⟩ : ByteArray).size + (digS f).size ≤ 9223372036854775807 := by show 2 + (digS f).size ≤ _; omega
                      have SZ2 : ((⟨#[64, 32]⟩ : ByteArray) ++ (digS f)).size + (⟨#[32]⟩ : ByteArray).size ≤ 9223372036854775807 := by rw [ByteArray.size_append]; show 2 + (digS f).size + 1 ≤ _; omega
                      have SZ3 : ((⟨#[64, 32]⟩ : ByteArray) ++ (digS f) ++ ⟨#[32]⟩).size + (digS t).size ≤ 9223372036854775807 := by rw [ByteArray.size_append, ByteArray.size_append]; show 2 + (digS f).size + 1 + (digS t).size ≤ _; omega
                      have hbzq : w6.heap.size ≤ wr.heap.size := Nat.le_trans hz8 HOY.out.1.2.2.2.size
                      clear hro hlr hrw hmk c0 c1
                      go_upto_region 28 with fail
                      refine wp_region_tail1_wg 15 (.slice Ay zs.length cy) (by kernel_rfl) (by kernel_rfl) (by kernel_rfl) (by kernel_rfl) (by kernel_rfl) (by kernel_rfl) (fun _ _ _ h => h) (Or.inl ⟨by rfl, fun w' => by rfl⟩) ?_
                      simp only [Act.put, List.setIfInBounds_toArray, List.set_cons_zero, List.set_cons_succ, List.take_succ_cons, List.take_zero, List.drop_succ_cons, List.drop_zero]
                      repeat (first
                        | go_big_quiet_skip
                        | (go_big_quiet_want
                           first
                             | (refine quiet_val (fun w' hw' => ex_addS _ _ _ _ rfl (a := ⟨#[64, 32]⟩) (b := (digS f)) rfl rfl SZ1) ?_
                                go_big_quiet_on
                                simp only [Act.put, List.setIfInBounds_toArray, List.set_cons_zero, List.set_cons_succ])
                             | (refine quiet_val (fun w' hw' => ex_addS _ _ _ _ rfl (a := ⟨#[64, 32]⟩ ++ (digS f)) (b := ⟨#[32]⟩) rfl rfl SZ2) ?_
                                go_big_quiet_on
                                simp only [Act.put, List.setIfInBounds_toArray, List.set_cons_zero, List.set_cons_succ])
                             | (refine quiet_val (fun w' hw' => ex_addS _ _ _ _ rfl (a := ⟨#[64, 32]⟩ ++ (digS f) ++ ⟨#[32]⟩) (b := (digS t)) rfl rfl SZ3) ?_
                                go_big_quiet_on
                                simp only [Act.put, List.setIfInBounds_toArray, List.set_cons_zero, List.set_cons_succ])
                             | (go_big_quiet_op
                                first
                                  | go_big_quiet_on
                                  | go_big_quiet_call (first
                                      | (go_at_call 45; exact (HD.out _ (by omega) _).mono fun e w'' ⟨hw, he⟩ => ⟨he, ⟨_, hw⟩⟩)))))
                      refine wpQuiet_nil ?_
                      rintro w' ⟨kk, rfl⟩
                      have hk12 := kk.2
                      generalize kk.val = w12 at *
                      clear kk C0 C1 SZ1 SZ2 SZ3
                      have HOY2 := Lib.hid (HOY.out.below hbzq hk12.below)
                      have hbz12 : w6.heap.size ≤ w12.heap.size := Nat.le_trans hbzq hk12.below.size
                      obtain ⟨first, hfirst⟩ : ∃ s : ByteArray, (⟨#[64, 32]⟩ ++ (digS f) ++ ⟨#[32]⟩ ++ (digS t) : ByteArray) = s := ⟨_, rfl⟩
                      have HFI2 : Hid (L first = [64, 32] ++ Lib.decDigits f ++ [32] ++ Lib.decDigits t) := by
                        rw [← hfirst, L_app, L_app, L_app]
                        exact Lib.hid rfl
                      rw [hfirst]
                      clear hfirst hk12
                      go_upto_region 30 with (first
                        | (refine wp_app1w (by rfl) _ _ 56 rfl w6.heap.size 9 (.string ⟨#[]⟩) 16 Tryd.underlying56 strInfo23 rfl (.slice Ay zs.length cy) zs.length (strs zs) rfl HOY2.out.1.1 (.string first) 9 rfl rfl (by unfold maxLen; omega) (by omega) hbz12 ?_; intro v13 w13 ho13 hb13 hk13 hw13 hz13
                           have HOY3 := Lib.hid (HOY2.out.app ho13 hb13 hk13 hw13)
                           clear ho13 hb13 hk13 hw13 hz13))
                      go_wp2_with fail
                      go_loopw [7, 20] (fun t7 t20 wr => ∃ r us, r ≤ ls.length ∧ t20 = .int .i64 ((r : Nat) : Int) ∧ Hid (us.map L = (zs ++ [first]).map L ++ ((ls.map L).take r).map shownS) ∧ Hid (OT z0 w6.heap.size w8 wr t7 us (.slice A9 (k + 1) c9) (ts ++ [pb]))) (fun _ t20 _ => ls.length - (intOf t20).toNat)
                      case atStart => exact ⟨0, zs ++ [first], Nat.zero_le _, rfl, Lib.hid (by simp), HOY3⟩
                      case round =>
                        obtain ⟨r, us, hr, rfl, HZS, HOZ⟩ := hrel
                        obtain ⟨Az, cz, hvz⟩ := own_shape23 HOZ.out.1.1
                        subst hvz
                        have hzl : us.length ≤ zs.length + 1 + r := by
                          have h1 := congrArg List.length HZS.out
                          simp only [List.length_map, List.length_append, List.length_cons, List.length_nil, List.length_take] at h1
                          omega
                        have hro := own_mid HR9.out.1 HOZ.out.1.2.2.1
                        have c2 := (hro.cellAt (q * 3 + 2) (by omega)).trans (HRW.out 2 (.slice Al ls.length cl) rfl)
                        have hbz4 : w6.heap.size ≤ wr.heap.size := Nat.le_trans hz8 HOZ.out.1.2.2.2.size
                        clear hro
                        by_cases hrl : r < ls.length
                        · have r0 : (0 : Int) ≤ (r : Int) := by omega
                          have r1 : (r : Int) < (ls.length : Int) := by omega
                          have hlo := own_mid HLR.out HOZ.out.1.2.2.1
                          obtain ⟨gl, rfl⟩ : ∃ gl, Al = some ⟨gl, 0, none⟩ := by
                            rcases hlo.2 with ⟨h, h0⟩ | ⟨g, cap, cur, h, _⟩
                            · omega
                            · injection h with h; exact ⟨g, h⟩
                          have cr : wr.cell? ⟨gl, r, none⟩ = some (.string ls[r]) := (hlo.cellAt r (by omega)).trans (by simp [strs, hrl])
                          have hsz := HSZ.out ls[r] (List.getElem_mem hrl)
                          have hne := HLN.out r hrl
                          have HTR := Lib.hid (show (ls.map L).take (r + 1) = (ls.map L).take r ++ [L ls[r]] by rw [List.take_succ_eq_append_getElem (by simpa using hrl), List.getElem_map])
                          rw [L_length] at hsz
                          clear hlo
                          generalize ls[r] = ln at *
                          have hgb := getB ln
                          have hl1 : 1 ≤ ln.size := hne
                          obtain ⟨m, hm⟩ : ∃ m, ln.size = m + 1 := ⟨ln.size - 1, by omega⟩
                          have em : IntKind.i64.wrap ((ln.size : Int) - 1) = (m : Int) := by rw [IntWalk.i64_in _ (by omega)]; omega
                          have em2 : (ln.size : Int) - 1 = (m : Int) := by omega
                          have m0 : (0 : Int) ≤ (m : Int) := by omega
                          have m1 : (m : Int) < (ln.size : Int) := by omega
                          have m2 : (m : Int) ≤ (ln.size : Int) := by omega
                          have hshw := shown_last ln m hm
                          have HSW := Lib.hid hshw
                          have zl : ¬ 9223372036854775807 < ln.size + 1 := by omega
                          clear hshw hm
                          by_cases hten : B ln m = 10
                          · have k10 : (((B ln m : Nat) : Int) == 10) = true := by rw [hten]; rfl
                            have HW := Lib.hid (HSW.out.1 hten)
                            clear hten
                            go_upto_region 34 with fail
                            iterate 18 go_step
                            go_upto_region 31 with (first
                              | (at_builtin; refine wp_app1w (by rfl) _ _ 56 rfl w6.heap.size 9 (.string ⟨#[]⟩) 16 Tryd.underlying56 strInfo23 rfl (.slice Az us.length cz) us.length (strs us) rfl HOZ.out.1.1 (.string (ln.extract 0 m)) 9 rfl rfl (by unfold maxLen; omega) (by omega) hbz4 ?_; intro v21 w21 ho21 hb21 hk21 hw21 hz21
                                 have HO21 := Lib.hid (HOZ.out.app ho21 hb21 hk21 hw21)
                                 clear ho21 hb21 hk21 hw21 hz21))
                            go_wp2_with fail
                            go_roundw
                            case rel => exact ⟨r + 1, us ++ [ln.extract 0 m], by omega, by go_num, Lib.hid (by rw [List.map_append, HZS.out, HTR.out]; simp [HW.out]), HO21⟩
                            case measure => (simp [intOf]) <;> omega
                          · have k10 : (((B ln m : Nat) : Int) == 10) = false := by rw [beq_eq_false_iff_ne]; omega
                            have HW := Lib.hid (HSW.out.2 hten)
                            clear hten
                            go_upto_region 35 with fail
                            iterate 9 go_step
                            go_upto_region 31 with (first
                              | (at_builtin; refine wp_app1w (by rfl) _ _ 56 rfl w6.heap.size 9 (.string ⟨#[]⟩) 16 Tryd.underlying56 strInfo23 rfl (.slice Az us.length cz) us.length (strs us) rfl HOZ.out.1.1 (.string (ln ++ (⟨#[92]⟩ : ByteArray))) 9 rfl rfl (by unfold maxLen; omega) (by omega) hbz4 ?_; intro v21 w21 ho21 hb21 hk21 hw21 hz21
                                 have HO21 := Lib.hid (HOZ.out.app ho21 hb21 hk21 hw21)
                                 clear ho21 hb21 hk21 hw21 hz21))
                            go_wp2_with fail
                            go_roundw
                            case rel => exact ⟨r + 1, us ++ [ln ++ (⟨#[92]⟩ : ByteArray)], by omega, by go_num, Lib.hid (by rw [List.map_append, HZS.out, HTR.out]; simp [HW.out]), HO21⟩
                            case measure => (simp [intOf]) <;> omega
                        · have hre : r = ls.length := by omega
                          have n1 : ¬ (r : Int) < (ls.length : Int) := by omega
                          have HYN : Hid (us.map L = ys.map L ++ [L hd] ++ ((hs.map hkOf).take (q + 1)).flatMap hunkLn) := by
                            have h1 := HZS.out
                            rw [hre, ← List.length_map (f := L), List.take_length, List.map_append, HYS.out, List.map_cons, List.map_nil, HFI2.out] at h1
                            rw [h1, HTQ.out, List.flatMap_append]
                            exact Lib.hid (by simp [hunkLn, hkOf])
                          clear hre
                          go_wp2_with fail
                          go_roundw
                          case rel => exact ⟨q + 1, us, by omega, by go_num, HYN, HOZ⟩
                          case measure => (simp [intOf]) <;> omega
                    · have hqe : q = hs.length := by omega
                      have n1 : ¬ (q : Int) < (hs.length : Int) := by omega
                      have hfin := HYS.out
                      rw [hqe, ← List.length_map (f := hkOf), List.take_length, HM9.out] at hfin
                      have hcnt := cntH_take (hs.map hkOf) (hs.map hkOf).length
                      rw [List.take_length, HM9.out] at hcnt
                      have HTN : Hid (ToldTo fa fb P (k + 1) zs) := Lib.hid (by
                        refine ⟨?_, by
                          have h1 := congrArg List.length hfin
                          simp only [List.length_map, List.length_append, List.length_cons, List.length_nil] at h1
                          omega⟩
                        rw [HTK.out, linesL_snoc, HR.out.1.1, hfin]
                        show (Option.some _).bind (fun t => (told1 fa fb pb).map (t ++ ·)) = _
                        rw [HT1.out]
                        simp)
                      have HTS : Hid ((ts ++ [pb]).map L = P.take (k + 1)) := Lib.hid (by rw [List.map_append, HR.out.2.2.2.1, HTK.out]; rfl)
                      have htl2 : (ts ++ [pb]).length = k + 1 := by
                        have h := congrArg List.length HTS.out
                        rw [List.length_map, List.length_take] at h
                        omega
                      have ho8 := HOY.out.2.1
                      have hap8 := HOY.out.2.2
                      rw [htl2] at ho8
                      have HOF := Lib.hid (show RLn fa fb P w6 (k + 1) zs (ts ++ [pb]) (.slice Ay zs.length cy) (.slice A9 (k + 1) c9) wr from ⟨HTN.out, HOY.out.1.1, ho8, HTS.out, hap8, HB8W.out.trans HOY.out.1.2.2.2⟩)
                      clear hqe hfin hcnt htl2 ho8 hap8
                      go_wp2_with fail
                      go_roundw
                      case rel => exact ⟨k + 1, zs, ts ++ [pb], by omega, rfl, HOF⟩
                      case measure => (simp [sliceLen]) <;> omega
end Go.Proofs.YthjaepmfkgejkaaDoor
