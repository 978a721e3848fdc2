/-
  HunkApart's walk: the law returns true. Condition: the library's variable MaxLen holds a number.
-/
import Derived.Test.YtfjmbcljohobeaaDoorAwake23
namespace Go.Proofs.YtfjmbcljohobeaaDoor.hunkApart
open Go.RowKit
set_option linter.unusedVariables false
set_option linter.unusedSimpArgs false

theorem tally_le : ∀ (n : Nat) (ls : List (List UInt8)), ls.length = n → (tally ls).1 ≤ n ∧ (tally ls).2.1 ≤ n ∧ (tally ls).2.2.1 ≤ n ∧ (tally ls).2.2.2 ≤ n
  | 0, ls, h => by
    obtain rfl := List.length_eq_zero_iff.1 h
    exact ⟨Nat.le_refl _, Nat.le_refl _, Nat.le_refl _, Nat.le_refl _⟩
  | n + 1, ls, h => by
    rcases List.eq_nil_or_concat ls with rfl | ⟨pre, s, rfl⟩
    · simp at h
    · rw [List.concat_eq_append] at h ⊢
      rw [List.length_append, List.length_singleton] at h
      obtain ⟨h1, h2, h3, h4⟩ := tally_le n pre (by omega)
      rw [tally_snoc]
      unfold tstep
      simp only
      refine ⟨?_, ?_, ?_, ?_⟩ <;> split <;> omega
theorem len_cnt (H : List HunkD) : ∀ h ∈ H, h.2.2.length ≤ cntH H := by
  intro h hh
  obtain ⟨a, b, rfl⟩ := List.append_of_mem hh
  rw [cntH_app]
  show _ ≤ _ + (List.flatMap hunkLn (h :: b)).length
  rw [List.flatMap_cons, List.length_append]
  show _ ≤ _ + ((_ :: _ : List (List UInt8)).length + _)
  simp only [List.length_cons, List.length_map]
  omega
/-- What Hunks hands back, of texts or not. -/
def Handed (w : World) (e : Ending) (w' : World) : Prop := Below w.heap.size w w' ∧ ∃ A c hs er, e = .returned (.tuple #[.slice A hs.length c, .int .i64 er]) ∧ HkR w' w.heap.size (.slice A hs.length c) hs ∧ apart (-1) (hs.map hkOf) ∧ (∀ h ∈ hs.map hkOf, Gd h) ∧ (∀ h ∈ hs.map hkOf, h.1 ≤ 4000 ∧ h.2.2.length ≤ 16000) ∧ hs.length ≤ 20000
theorem handed_any (a b : ByteArray) (w : World) (ha : a.size ≤ 4000) (hb : b.size ≤ 4000) (hg : Glob w) : Calls Tryd.prog 23 #[.string a, .string b] w (Handed w) :=
  (hunks_any a b w ha hb hg).mono fun e w' ⟨h1, h2⟩ => by
    rcases h2 with ⟨_, v, hs, rfl, hm, hr⟩ | ⟨_, rfl⟩
    · obtain ⟨A, c, rfl⟩ := own_shape23 hr.1
      have hc := cntH_hunks (L a) (L b)
      rw [L_length, L_length] at hc
      have hn : hs.length ≤ 20000 := by
        have h3 := congrArg List.length hm
        have h4 : ∀ H : List HunkD, H.length ≤ cntH H := fun H => by
          unfold cntH
          induction H with
          | nil => simp
          | cons h H ih => simp only [List.flatMap_cons, List.length_append, List.length_cons, hunkLn]; omega
        have := h4 (hunksL (L a) (L b))
        rw [List.length_map] at h3
        omega
      refine ⟨h1, A, c, hs, 0, rfl, hr, by rw [hm]; exact (hunksL_apart _ _).1, by rw [hm]; exact (hunksL_apart _ _).2, fun h hh => ?_, hn⟩
      rw [hm] at hh
      have h5 := (hunksL_places _ _ h hh).1
      have h6 := len_cnt _ h hh
      rw [L_length] at h5
      omega
    · exact ⟨h1, none, 0, [], 5, rfl, ⟨World.ownsRow_nil _ _ _ _, fun h hh => absurd hh (by simp)⟩, trivial, fun h hh => absurd hh (by simp), fun h hh => absurd hh (by simp), by simp⟩
/-- What the law holds of the lines so far. -/
def TallyAt (ls : List ByteArray) (f k : Nat) (t9 t10 t11 t12 : Value) : Prop := ∃ (p : Nat × Nat × Nat × Nat) (q : Nat), tally ((ls.map L).take k) = p ∧ q = f + p.1 ∧ t9 = .int .i64 (q : Int) ∧ t10 = .int .i64 (p.2.1 : Int) ∧ t11 = .int .i64 (p.2.2.1 : Int) ∧ t12 = .int .i64 (p.2.2.2 : Int)
set_option maxHeartbeats 8000000 in
set_option maxRecDepth 100000 in
theorem walk (a b : ByteArray) (w : World) (ha : a.size ≤ maxLen) (hb : b.size ≤ maxLen) (hg : Glob w) :
    Calls Tryd.prog 10 #[.string a, .string b] w fun e w' => e = .returned (.bool true) ∧ Below w.heap.size w w' := by
  unfold maxLen at ha hb
  by_cases h1 : 1000 < a.size
  · go_enter Tryd.func10, Tryd.ntmps10
    go_wp2_with fail
    go_ret
    exact ⟨rfl, Below.refl _ _⟩
  by_cases h2 : 1000 < b.size
  · go_enter Tryd.func10, Tryd.ntmps10
    go_wp2_with fail
    go_ret
    exact ⟨rfl, Below.refl _ _⟩
  have hh := handed_any a b w (by omega) (by omega) hg
  have HH := Lib.hid hh; have HG := Lib.hid hg
  clear hh hg
  go_enter Tryd.func10, Tryd.ntmps10
  go_upto_region 6 with (go_at_call 23; refine HH.out.mono ?_; rintro e w1 ⟨hb1, A, c, hs, er, rfl, hr, hap, hgd, hbd, hsl⟩)
  have HB1 := Lib.hid hb1; have HR := Lib.hid hr; have HAP := Lib.hid hap; have HGD := Lib.hid hgd; have HBD := Lib.hid hbd
  clear hb1 hr hap hgd hbd
  go_loop [7, 8] (fun t7 t8 => ∃ i : Nat, i ≤ hs.length ∧ t8 = .int .i64 (i : Int) ∧ t7 = .int .i64 (lastEnd (-1) ((hs.map hkOf).take i))) (fun _ t8 => hs.length - (intOf t8).toNat)
  case atStart => exact ⟨0, Nat.zero_le _, rfl, rfl⟩
  case round =>
    obtain ⟨i, hi, rfl, rfl⟩ := hrel
    by_cases hlt : i < hs.length
    · have i0 : (0 : Int) ≤ (i : Int) := by omega
      have i1 : (i : Int) < (hs.length : Int) := by omega
      have hro := HR.out.1
      obtain ⟨X, rfl⟩ : ∃ X, A = some ⟨X, 0, none⟩ := by
        rcases hro.2 with ⟨h, h0⟩ | ⟨g, cap, cur, h, _⟩
        · omega
        · injection h with h; exact ⟨g, h⟩
      have hlr := HR.out.2 _ (List.getElem_mem hlt)
      have hrw := rowsV_get (hkV_len hs) i hlt
      have hmem : hkOf hs[i] ∈ hs.map hkOf := List.mem_map_of_mem (List.getElem_mem hlt)
      have hgd := HGD.out _ hmem
      have hbd := HBD.out _ hmem
      have htk : (hs.map hkOf).take (i + 1) = (hs.map hkOf).take i ++ [hkOf hs[i]] := by rw [List.take_succ_eq_append_getElem (by simpa using hlt), List.getElem_map]
      have hap := HAP.out
      rw [← List.take_append_drop (i + 1) (hs.map hkOf), htk, apart_app] at hap
      have hgt := ((apart_snoc _ _ _).1 hap.1).2
      have HTK := Lib.hid htk
      clear htk hap hmem
      generalize hs[i] = h at *
      obtain ⟨f, t, lv, ls⟩ := h
      simp only at hlr
      obtain ⟨Al, cl, hvl⟩ := own_shape23 hlr
      subst hvl
      simp only [hkOf] at hgd hbd hgt
      have cF : w1.cell? ⟨X, i * 3, none⟩ = some (.int .i64 (f : Int)) := (hro.cellAt (i * 3) (by omega)).trans (hrw 0 _ rfl)
      have cL : w1.cell? ⟨X, i * 3 + 2, none⟩ = some (.slice Al ls.length cl) := (hro.cellAt (i * 3 + 2) (by omega)).trans (hrw 2 _ rfl)
      have hl0 : 0 < ls.length := by
        have := List.length_pos_iff.2 hgd.1
        simpa using this
      obtain ⟨X2, rfl⟩ : ∃ X2, Al = some ⟨X2, 0, none⟩ := by
        rcases hlr.2 with ⟨h, h0⟩ | ⟨g, cap, cur, h, _⟩
        · omega
        · injection h with h; exact ⟨g, h⟩
      have hll : ls.length ≤ 16000 := by have := hbd.2; simpa using this
      have hf4 : f ≤ 4000 := hbd.1
      obtain ⟨e, he⟩ : ∃ e, lastEnd (-1) ((hs.map hkOf).take i) = e := ⟨_, rfl⟩
      rw [he] at hgt ⊢
      have g1 : ¬ (f : Int) ≤ e := by omega
      have g2 : decide ((f : Int) ≤ e) = false := by rw [decide_eq_false_iff_not]; exact g1
      have g3 : ((ls.length : Int) == 0) = false := by rw [beq_eq_false_iff_ne]; omega
      have HLR := Lib.hid hlr; have HGd := Lib.hid hgd
      clear hro hlr hrw hgd hbd hgt he
      go_upto_region 12 with fail
      clear g1 g2 g3
      go_loop [9, 10, 11, 12, 13] (fun t9 t10 t11 t12 t13 => ∃ k : Nat, k ≤ ls.length ∧ t13 = .int .i64 (k : Int) ∧ TallyAt ls f k t9 t10 t11 t12) (fun _ _ _ _ t13 => ls.length - (intOf t13).toNat)
      case atStart => exact ⟨0, Nat.zero_le _, rfl, (0, 0, 0, 0), f, rfl, rfl, rfl, rfl, rfl, rfl⟩
      case round =>
        obtain ⟨k, hk, rfl, p, at', hp, hat, rfl, rfl, rfl, rfl⟩ := hrel
        obtain ⟨hp1, hp2, hp3, hp4⟩ := tally_le k ((ls.map L).take k) (by rw [List.length_take, List.length_map]; omega)
        rw [hp] at hp1 hp2 hp3 hp4
        obtain ⟨a1, a2, a3, a4⟩ := p
        simp only at hp1 hp2 hp3 hp4 hat
        have hat4 : at' ≤ 20000 := by omega
        have HAT := Lib.hid hat
        clear hat
        by_cases hkl : k < ls.length
        · have k0 : (0 : Int) ≤ (k : Int) := by omega
          have k1 : (k : Int) < (ls.length : Int) := by omega
          have ck : w1.cell? ⟨X2, k, none⟩ = some (.string ls[k]) := (HLR.out.cellAt k (by omega)).trans (by simp [strs, hkl])
          have hne := HGd.out.2.1 (L ls[k]) (List.mem_map_of_mem (List.getElem_mem hkl))
          have htk : tally ((ls.map L).take (k + 1)) = tstep (a1, a2, a3, a4) (L ls[k]) := by rw [List.take_succ_eq_append_getElem (by simpa using hkl), List.getElem_map, tally_snoc, hp]
          have HTS := Lib.hid htk; have HNE := Lib.hid hne
          clear htk hne hp
          generalize ls[k] = s at *
          have hs0 : 0 < s.size := by
            rcases Nat.eq_zero_or_pos s.size with h | h
            · rw [← L_length] at h; exact absurd (List.length_eq_zero_iff.1 h) HNE.out
            · exact h
          have z0 : ((s.size : Int) == 0) = false := by rw [beq_eq_false_iff_ne]; omega
          have s1 : (0 : Int) < (s.size : Int) := by omega
          have hhd : (L s).headD 0 = s[0]'hs0 := by
            have := B_L s 0 hs0
            rw [← List.head?_eq_getElem?] at this
            rw [List.headD_eq_head?_getD, this]
            rfl
          have HHD := Lib.hid hhd
          clear hhd
          by_cases h43 : (s[0]'hs0).toNat = 43
          · have HST := Lib.hid (show tstep (a1, a2, a3, a4) (L s) = (a1, a2, 0, a4 + 1) by
              have h : s[0]'hs0 = 43 := UInt8.toNat_inj.1 h43
              unfold tstep
              rw [HHD.out, h]
              rfl)
            have b1 : (((s[0]'hs0).toNat : Int) != 43) = false := by rw [h43]; rfl
            have b2 : (((s[0]'hs0).toNat : Int) == 32) = false := by rw [h43]; rfl
            clear h43
            go_wp2_with fail
            go_round
            case rel => exact ⟨k + 1, by omega, by go_num, _, at', rfl, by rw [HTS.out, HST.out]; have := HAT.out; simp only; omega, rfl, by rw [HTS.out, HST.out]; try (first | go_num | rfl), by rw [HTS.out, HST.out]; try (first | go_num | rfl), by rw [HTS.out, HST.out]; try (first | go_num | rfl)⟩
            case measure => simp [intOf]; omega
          · have h43' : s[0]'hs0 ≠ 43 := fun h => h43 (by rw [h]; rfl)
            have b1 : (((s[0]'hs0).toNat : Int) != 43) = true := by rw [bne_iff_ne]; omega
            by_cases h32 : (s[0]'hs0).toNat = 32
            · have h : s[0]'hs0 = 32 := UInt8.toNat_inj.1 h32
              have b2 : (((s[0]'hs0).toNat : Int) == 32) = true := by rw [h32]; rfl
              by_cases hn : a4 = 0
              · have HST := Lib.hid (show tstep (a1, a2, a3, a4) (L s) = (a1 + 1, a2 + 1, a3 + 1, a4) by
                  unfold tstep
                  rw [HHD.out, h]
                  simp [hn])
                have b3 : ((a4 : Int) == 0) = true := by rw [hn]; rfl
                clear h43 h43' h32 h hn
                go_wp2_with fail
                go_round
                case rel => exact ⟨k + 1, by omega, by go_num, _, at' + 1, rfl, by rw [HTS.out, HST.out]; have := HAT.out; simp only; omega, by go_num, by rw [HTS.out, HST.out]; try (first | go_num | rfl), by rw [HTS.out, HST.out]; try (first | go_num | rfl), by rw [HTS.out, HST.out]; try (first | go_num | rfl)⟩
                case measure => simp [intOf]; omega
              · have HST := Lib.hid (show tstep (a1, a2, a3, a4) (L s) = (a1 + 1, a2, a3 + 1, a4) by
                  unfold tstep
                  rw [HHD.out, h]
                  simp [hn])
                have b3 : ((a4 : Int) == 0) = false := by rw [beq_eq_false_iff_ne]; omega
                clear h43 h43' h32 h hn
                go_wp2_with fail
                go_round
                case rel => exact ⟨k + 1, by omega, by go_num, _, at' + 1, rfl, by rw [HTS.out, HST.out]; have := HAT.out; simp only; omega, by go_num, by rw [HTS.out, HST.out]; try (first | go_num | rfl), by rw [HTS.out, HST.out]; try (first | go_num | rfl), by rw [HTS.out, HST.out]; try (first | go_num | rfl)⟩
                case measure => simp [intOf]; omega
            · have h32' : s[0]'hs0 ≠ 32 := fun h => h32 (by rw [h]; rfl)
              have b2 : (((s[0]'hs0).toNat : Int) == 32) = false := by rw [beq_eq_false_iff_ne]; omega
              have HST := Lib.hid (show tstep (a1, a2, a3, a4) (L s) = (a1 + 1, a2, 0, a4 + 1) by
                unfold tstep
                rw [HHD.out, if_neg h43', if_neg (fun q => h32' q.1), if_neg h32', if_neg h32'])
              clear h43 h43' h32 h32'
              go_wp2_with fail
              go_round
              case rel => exact ⟨k + 1, by omega, by go_num, _, at' + 1, rfl, by rw [HTS.out, HST.out]; have := HAT.out; simp only; omega, by go_num, by rw [HTS.out, HST.out]; try (first | go_num | rfl), by rw [HTS.out, HST.out]; try (first | go_num | rfl), by rw [HTS.out, HST.out]; try (first | go_num | rfl)⟩
              case measure => simp [intOf]; omega
        · have hke : k = ls.length := by omega
          rw [hke, ← List.length_map (f := L), List.take_length] at hp
          obtain ⟨_, _, g1, g2, g3⟩ := HGd.out
          rw [hp] at g1 g2 g3
          simp only at g1 g2 g3
          have k1 : ¬ (k : Int) < (ls.length : Int) := by omega
          have d1 : ¬ (3 : Int) < (a2 : Int) := by omega
          have d2 : decide ((3 : Int) < (a2 : Int)) = false := by rw [decide_eq_false_iff_not]; omega
          have d3 : decide (3 < a2) = false := by rw [decide_eq_false_iff_not]; omega
          have d4 : ¬ (3 : Int) < (a3 : Int) := by omega
          have d5 : decide ((3 : Int) < (a3 : Int)) = false := by rw [decide_eq_false_iff_not]; omega
          have d6 : decide (3 < a3) = false := by rw [decide_eq_false_iff_not]; omega
          have d7 : ((a4 : Int) == 0) = false := by rw [beq_eq_false_iff_ne]; omega
          have HEND : Hid (lastEnd (-1) ((hs.map hkOf).take (i + 1)) = (at' : Int)) := by
            rw [HTK.out, lastEnd_snoc]
            show (f : Int) + (tally (ls.map L)).1 = _
            rw [hp, HAT.out]
            exact Lib.hid (by simp)
          clear hke hp g3
          go_wp2_with fail
          go_round
          case rel => exact ⟨i + 1, by omega, by go_num, by rw [HEND.out]⟩
          case measure => simp [intOf]; omega
    · have hie : i = hs.length := by omega
      have i1 : ¬ (i : Int) < (hs.length : Int) := by omega
      have haw := awake23_any w1 (HG.out.next HB1.out)
      clear hie
      go_wp2_with (go_at_call 30; refine haw.mono ?_; rintro e w9 ⟨hb9, rfl⟩)
      go_ret
      exact ⟨rfl, HB1.out.trans (hb9.mono HB1.out.size)⟩
end Go.Proofs.YtfjmbcljohobeaaDoor.hunkApart
