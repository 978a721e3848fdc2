/-
  The checker's op of every kind; no change, no commit, a right commit. Conditions: as each says.
-/
import Derived.Test.YtdgbjhfkmembdaaGreatDoorShort0
import Derived.Test.YtdgbjhfkmembdaaGreatDoorObjCkOp
import Derived.Test.YtdgbjhfkmembdaaGreatDoorPathNames
namespace Go.Proofs.YtdgbjhfkmembdaaGreatDoor
open Go.RowKit Go.Maps
set_option linter.unusedVariables false
set_option linter.unusedSimpArgs false

set_option maxHeartbeats 4000000 in
set_option maxRecDepth 100000 in
theorem noChange_any (c : ChangeD) (v : Value) (B : Nat) (w : World) (h : ChIn w B v c) : Calls Tryz.prog 190 #[v] w fun e w' => Below w.heap.size w w' ∧ e = .returned (.bool (noChangeB c)) := by
  obtain ⟨_, _, _, Ad, cd, Ao, co, rfl, _, _⟩ := h
  obtain ⟨t, dp, a, os⟩ := c
  dsimp only
  go_enter Tryz.func190, Tryz.ntmps190
  by_cases h0 : t = 0
  · have e0 : (t == 0) = true := by rw [h0]; rfl
    by_cases h1 : dp = []
    · have e1 : (((dp.length : Nat) : Int) == 0) = true := by rw [h1]; rfl
      by_cases h2 : a = noneS
      · have e2 : a.toList.isEmpty = true := by rw [isEmpty8]; exact dT h2
        by_cases h3 : os = []
        · have e3 : (((os.length : Nat) : Int) == 0) = true := by rw [h3]; rfl
          have HE : Hid (noChangeB (t, dp, a, os) = true) := Lib.hid (by unfold noChangeB; simp [h0, h1, h2, h3])
          clear h0 h1 h2 h3
          go_wp2_with fail
          go_ret
          exact ⟨(qB _ _).alloc (qR _) _, by rw [HE.out]; rfl⟩
        · have e3 : (((os.length : Nat) : Int) == 0) = false := by rw [beq_eq_false_iff_ne]; intro hq; exact h3 (List.eq_nil_of_length_eq_zero (by omega))
          have HE : Hid (noChangeB (t, dp, a, os) = false) := Lib.hid (by unfold noChangeB; simp [h0, h1, h2, h3])
          clear h0 h1 h2 h3
          go_wp2_with fail
          go_ret
          exact ⟨(qB _ _).alloc (qR _) _, by rw [HE.out]; rfl⟩
      · have e2 : a.toList.isEmpty = false := by rw [isEmpty8]; exact dF h2
        have HE : Hid (noChangeB (t, dp, a, os) = false) := Lib.hid (by unfold noChangeB; simp [h0, h1, h2])
        clear h0 h1 h2
        go_wp2_with fail
        go_ret
        exact ⟨(qB _ _).alloc (qR _) _, by rw [HE.out]; rfl⟩
    · have e1 : (((dp.length : Nat) : Int) == 0) = false := by rw [beq_eq_false_iff_ne]; intro hq; exact h1 (List.eq_nil_of_length_eq_zero (by omega))
      have HE : Hid (noChangeB (t, dp, a, os) = false) := Lib.hid (by unfold noChangeB; simp [h0, h1])
      clear h0 h1
      go_wp2_with fail
      go_ret
      exact ⟨(qB _ _).alloc (qR _) _, by rw [HE.out]; rfl⟩
  · have e0 : (t == 0) = false := by rw [beq_eq_false_iff_ne]; exact h0
    have HE : Hid (noChangeB (t, dp, a, os) = false) := Lib.hid (by unfold noChangeB; simp [h0])
    clear h0
    go_wp2_with fail
    go_ret
    exact ⟨(qB _ _).alloc (qR _) _, by rw [HE.out]; rfl⟩
set_option maxHeartbeats 4000000 in
set_option maxRecDepth 100000 in
theorem noCommit_any (c : CommitD) (v : Value) (B : Nat) (w : World) (h : CmIn w B v c) : Calls Tryz.prog 188 #[v] w fun e w' => Below w.heap.size w w' ∧ e = .returned (.bool (noCommitB c)) := by
  obtain ⟨_, _, _, Ap, cp, Ac, cc, rfl, _, _⟩ := h
  obtain ⟨p, s, a, m, x⟩ := c
  dsimp only
  go_enter Tryz.func188, Tryz.ntmps188
  by_cases h0 : p = []
  · have e0 : (((p.length : Nat) : Int) == 0) = true := by rw [h0]; rfl
    by_cases h1 : s = []
    · have e1 : (((s.length : Nat) : Int) == 0) = true := by rw [h1]; rfl
      by_cases h2 : a = noneS
      · have e2 : a.toList.isEmpty = true := by rw [isEmpty8]; exact dT h2
        by_cases h3 : m = noneS
        · have e3 : m.toList.isEmpty = true := by rw [isEmpty8]; exact dT h3
          by_cases h4 : x = 0
          · have e4 : (x == 0) = true := by rw [h4]; rfl
            have HE : Hid (noCommitB (p, s, a, m, x) = true) := Lib.hid (by unfold noCommitB; simp [h0, h1, h2, h3, h4])
            clear h0 h1 h2 h3 h4
            go_wp2_with fail
            go_ret
            exact ⟨(qB _ _).alloc (qR _) _, by rw [HE.out]; rfl⟩
          · have e4 : (x == 0) = false := by rw [beq_eq_false_iff_ne]; exact h4
            have HE : Hid (noCommitB (p, s, a, m, x) = false) := Lib.hid (by unfold noCommitB; simp [h0, h1, h2, h3, h4])
            clear h0 h1 h2 h3 h4
            go_wp2_with fail
            go_ret
            exact ⟨(qB _ _).alloc (qR _) _, by rw [HE.out]; rfl⟩
        · have e3 : m.toList.isEmpty = false := by rw [isEmpty8]; exact dF h3
          have HE : Hid (noCommitB (p, s, a, m, x) = false) := Lib.hid (by unfold noCommitB; simp [h0, h1, h2, h3])
          clear h0 h1 h2 h3
          go_wp2_with fail
          go_ret
          exact ⟨(qB _ _).alloc (qR _) _, by rw [HE.out]; rfl⟩
      · have e2 : a.toList.isEmpty = false := by rw [isEmpty8]; exact dF h2
        have HE : Hid (noCommitB (p, s, a, m, x) = false) := Lib.hid (by unfold noCommitB; simp [h0, h1, h2])
        clear h0 h1 h2
        go_wp2_with fail
        go_ret
        exact ⟨(qB _ _).alloc (qR _) _, by rw [HE.out]; rfl⟩
    · have e1 : (((s.length : Nat) : Int) == 0) = false := by rw [beq_eq_false_iff_ne]; intro hq; exact h1 (List.eq_nil_of_length_eq_zero (by omega))
      have HE : Hid (noCommitB (p, s, a, m, x) = false) := Lib.hid (by unfold noCommitB; simp [h0, h1])
      clear h0 h1
      go_wp2_with fail
      go_ret
      exact ⟨(qB _ _).alloc (qR _) _, by rw [HE.out]; rfl⟩
  · have e0 : (((p.length : Nat) : Int) == 0) = false := by rw [beq_eq_false_iff_ne]; intro hq; exact h0 (List.eq_nil_of_length_eq_zero (by omega))
    have HE : Hid (noCommitB (p, s, a, m, x) = false) := Lib.hid (by unfold noCommitB; simp [h0])
    clear h0
    go_wp2_with fail
    go_ret
    exact ⟨(qB _ _).alloc (qR _) _, by rw [HE.out]; rfl⟩
set_option maxHeartbeats 4000000 in
set_option maxRecDepth 100000 in
theorem rightCommit_any (c : CommitD) (v : Value) (B : Nat) (w : World) (h : CmIn w B v c) (hB : B ≤ w.heap.size) (hl1 : c.1.length ≤ 1099511627776) (hl2 : c.2.1.length ≤ 1099511627776) : Calls Tryz.prog 191 #[v] w fun e w' => Below w.heap.size w w' ∧ e = .returned (.bool (commitB c)) := by
  obtain ⟨ho, ha, hm, Ap, cp, Ac, cc, rfl, sp, ss⟩ := h
  obtain ⟨p, s, a, m, x⟩ := c
  have HO := Lib.hid ho; have HP := Lib.hid sp; have HS := Lib.hid ss
  replace hp : p.length ≤ 1099511627776 := hl1
  replace hs : s.length ≤ 1099511627776 := hl2
  replace ha : a.size ≤ maxLen := ha
  replace hm : m.size ≤ maxLen := hm
  clear ho sp ss hl1 hl2
  dsimp only at HP HS HO ⊢
  go_enter Tryz.func191, Tryz.ntmps191
  go_upto_region 1 with (first
    | (with_reducible refine at_box ?_
       refine wp_boxM (by rfl) 68 _ rfl [.slice Ap p.length cp, .slice Ac s.length cc, .string a, .string m, .int .i64 x] _ rfl rfl (by kernel_rfl) ?_
       intro W0 hb0 hy0 hs0
       have HB0 := Lib.hid hb0; have HY0 := Lib.hid hy0
       clear hb0 hy0 hs0
       simp only [Act.put, List.setIfInBounds_toArray, List.set_cons_zero, List.set_cons_succ]))
  have hx0 : w.heap.size < W0.heap.size := (qX HY0.out)
  have HC := Lib.hid (fun (u : World) (hu : Below W0.heap.size W0 u) => (show u.cell? ⟨w.heap.size, 0, none⟩ = some (.slice Ap p.length cp) ∧ u.cell? ⟨w.heap.size, 1, none⟩ = some (.slice Ac s.length cc) ∧ u.cell? ⟨w.heap.size, 2, none⟩ = some (.string a) ∧ u.cell? ⟨w.heap.size, 3, none⟩ = some (.string m) ∧ u.cell? ⟨w.heap.size, 4, none⟩ = some (.int .i64 x) from
    ⟨(hu.cell (p := ⟨w.heap.size, 0, none⟩) hx0).trans (cells_at0 HY0.out 0), (hu.cell (p := ⟨w.heap.size, 1, none⟩) hx0).trans (cells_at0 HY0.out 1), (hu.cell (p := ⟨w.heap.size, 2, none⟩) hx0).trans (cells_at0 HY0.out 2), (hu.cell (p := ⟨w.heap.size, 3, none⟩) hx0).trans (cells_at0 HY0.out 3), (hu.cell (p := ⟨w.heap.size, 4, none⟩) hx0).trans (cells_at0 HY0.out 4)⟩))
  have HW0 := Lib.hid (qB W0.heap.size W0)
  obtain ⟨b0, b1, b2, b3, b4⟩ := HC.out _ HW0.out
  have HT0 := HB0
  rcases Bool.eq_false_or_eq_true (idsB p 2) with h0 | h0
  · have H0 := Lib.hid h0
    rcases Bool.eq_false_or_eq_true (idsB s 4096) with h1 | h1
    · have H1 := Lib.hid h1
      rcases Bool.eq_false_or_eq_true (authorB a) with h2 | h2
      · have H2 := Lib.hid h2
        rcases Bool.eq_false_or_eq_true (noteB m) with h3 | h3
        · have H3 := Lib.hid h3
          by_cases i0 : (0 : Int) ≤ x
          · have d0 : decide ((0 : Int) ≤ x) = true := dT i0
            by_cases i1 : x ≤ 1099511627776
            · have d1 : decide (x ≤ 1099511627776) = true := dT i1
              have HE : Hid (commitB (p, s, a, m, x) = true) := Lib.hid (by unfold commitB; simp [h0, h1, h2, h3, i0, i1])
              clear h0 h1 h2 h3 i0 i1
              go_wp2_with fail
              refine (ids_any p Ap cp 2 W0 hp (by decide) HO.out.1 ((HP.out.keep (HT0.out.mono hB)).more (qT hB HT0.out.size))).mono ?_
              rintro e W1 ⟨hb, rfl⟩
              rw [H0.out]
              have HW1 := Lib.hid (HW0.out.trans (hb.mono HW0.out.size))
              have HT1 := Lib.hid (HT0.out.trans (hb.mono HT0.out.size))
              clear hb b0 b1 b2 b3 b4
              obtain ⟨b0, b1, b2, b3, b4⟩ := HC.out _ HW1.out
              go_wp2_with fail
              refine (ids_any s Ac cc 4096 W1 hs (by decide) HO.out.2.1 ((HS.out.keep (HT1.out.mono hB)).more (qT hB HT1.out.size))).mono ?_
              rintro e W2 ⟨hb, rfl⟩
              rw [H1.out]
              have HW2 := Lib.hid (HW1.out.trans (hb.mono HW1.out.size))
              have HT2 := Lib.hid (HT1.out.trans (hb.mono HT1.out.size))
              clear hb b0 b1 b2 b3 b4
              obtain ⟨b0, b1, b2, b3, b4⟩ := HC.out _ HW2.out
              go_wp2_with fail
              refine (author_any a W2 ha).mono ?_
              rintro e W3 ⟨hb, rfl⟩
              rw [H2.out]
              have HW3 := Lib.hid (HW2.out.trans (hb.mono HW2.out.size))
              have HT3 := Lib.hid (HT2.out.trans (hb.mono HT2.out.size))
              clear hb b0 b1 b2 b3 b4
              obtain ⟨b0, b1, b2, b3, b4⟩ := HC.out _ HW3.out
              go_wp2_with fail
              refine (note_any m W3 hm).mono ?_
              rintro e W4 ⟨hb, rfl⟩
              rw [H3.out]
              have HW4 := Lib.hid (HW3.out.trans (hb.mono HW3.out.size))
              have HT4 := Lib.hid (HT3.out.trans (hb.mono HT3.out.size))
              clear hb b0 b1 b2 b3 b4
              obtain ⟨b0, b1, b2, b3, b4⟩ := HC.out _ HW4.out
              go_wp2_with fail
              go_ret
              exact ⟨HT4.out, by rw [HE.out]; rfl⟩
            · have d1 : decide (x ≤ 1099511627776) = false := dF i1
              have HE : Hid (commitB (p, s, a, m, x) = false) := Lib.hid (by unfold commitB; simp [h0, h1, h2, h3, i0, i1])
              clear h0 h1 h2 h3 i0 i1
              go_wp2_with fail
              refine (ids_any p Ap cp 2 W0 hp (by decide) HO.out.1 ((HP.out.keep (HT0.out.mono hB)).more (qT hB HT0.out.size))).mono ?_
              rintro e W1 ⟨hb, rfl⟩
              rw [H0.out]
              have HW1 := Lib.hid (HW0.out.trans (hb.mono HW0.out.size))
              have HT1 := Lib.hid (HT0.out.trans (hb.mono HT0.out.size))
              clear hb b0 b1 b2 b3 b4
              obtain ⟨b0, b1, b2, b3, b4⟩ := HC.out _ HW1.out
              go_wp2_with fail
              refine (ids_any s Ac cc 4096 W1 hs (by decide) HO.out.2.1 ((HS.out.keep (HT1.out.mono hB)).more (qT hB HT1.out.size))).mono ?_
              rintro e W2 ⟨hb, rfl⟩
              rw [H1.out]
              have HW2 := Lib.hid (HW1.out.trans (hb.mono HW1.out.size))
              have HT2 := Lib.hid (HT1.out.trans (hb.mono HT1.out.size))
              clear hb b0 b1 b2 b3 b4
              obtain ⟨b0, b1, b2, b3, b4⟩ := HC.out _ HW2.out
              go_wp2_with fail
              refine (author_any a W2 ha).mono ?_
              rintro e W3 ⟨hb, rfl⟩
              rw [H2.out]
              have HW3 := Lib.hid (HW2.out.trans (hb.mono HW2.out.size))
              have HT3 := Lib.hid (HT2.out.trans (hb.mono HT2.out.size))
              clear hb b0 b1 b2 b3 b4
              obtain ⟨b0, b1, b2, b3, b4⟩ := HC.out _ HW3.out
              go_wp2_with fail
              refine (note_any m W3 hm).mono ?_
              rintro e W4 ⟨hb, rfl⟩
              rw [H3.out]
              have HW4 := Lib.hid (HW3.out.trans (hb.mono HW3.out.size))
              have HT4 := Lib.hid (HT3.out.trans (hb.mono HT3.out.size))
              clear hb b0 b1 b2 b3 b4
              obtain ⟨b0, b1, b2, b3, b4⟩ := HC.out _ HW4.out
              go_wp2_with fail
              go_ret
              exact ⟨HT4.out, by rw [HE.out]; rfl⟩
          · have d0 : decide ((0 : Int) ≤ x) = false := dF i0
            have HE : Hid (commitB (p, s, a, m, x) = false) := Lib.hid (by unfold commitB; simp [h0, h1, h2, h3, i0])
            clear h0 h1 h2 h3 i0
            go_wp2_with fail
            refine (ids_any p Ap cp 2 W0 hp (by decide) HO.out.1 ((HP.out.keep (HT0.out.mono hB)).more (qT hB HT0.out.size))).mono ?_
            rintro e W1 ⟨hb, rfl⟩
            rw [H0.out]
            have HW1 := Lib.hid (HW0.out.trans (hb.mono HW0.out.size))
            have HT1 := Lib.hid (HT0.out.trans (hb.mono HT0.out.size))
            clear hb b0 b1 b2 b3 b4
            obtain ⟨b0, b1, b2, b3, b4⟩ := HC.out _ HW1.out
            go_wp2_with fail
            refine (ids_any s Ac cc 4096 W1 hs (by decide) HO.out.2.1 ((HS.out.keep (HT1.out.mono hB)).more (qT hB HT1.out.size))).mono ?_
            rintro e W2 ⟨hb, rfl⟩
            rw [H1.out]
            have HW2 := Lib.hid (HW1.out.trans (hb.mono HW1.out.size))
            have HT2 := Lib.hid (HT1.out.trans (hb.mono HT1.out.size))
            clear hb b0 b1 b2 b3 b4
            obtain ⟨b0, b1, b2, b3, b4⟩ := HC.out _ HW2.out
            go_wp2_with fail
            refine (author_any a W2 ha).mono ?_
            rintro e W3 ⟨hb, rfl⟩
            rw [H2.out]
            have HW3 := Lib.hid (HW2.out.trans (hb.mono HW2.out.size))
            have HT3 := Lib.hid (HT2.out.trans (hb.mono HT2.out.size))
            clear hb b0 b1 b2 b3 b4
            obtain ⟨b0, b1, b2, b3, b4⟩ := HC.out _ HW3.out
            go_wp2_with fail
            refine (note_any m W3 hm).mono ?_
            rintro e W4 ⟨hb, rfl⟩
            rw [H3.out]
            have HW4 := Lib.hid (HW3.out.trans (hb.mono HW3.out.size))
            have HT4 := Lib.hid (HT3.out.trans (hb.mono HT3.out.size))
            clear hb b0 b1 b2 b3 b4
            obtain ⟨b0, b1, b2, b3, b4⟩ := HC.out _ HW4.out
            go_wp2_with fail
            go_ret
            exact ⟨HT4.out, by rw [HE.out]; rfl⟩
        · have HE : Hid (commitB (p, s, a, m, x) = false) := Lib.hid (by unfold commitB; simp [h0, h1, h2, h3])
          have H3 := Lib.hid h3
          clear h0 h1 h2 h3
          go_wp2_with fail
          refine (ids_any p Ap cp 2 W0 hp (by decide) HO.out.1 ((HP.out.keep (HT0.out.mono hB)).more (qT hB HT0.out.size))).mono ?_
          rintro e W1 ⟨hb, rfl⟩
          rw [H0.out]
          have HW1 := Lib.hid (HW0.out.trans (hb.mono HW0.out.size))
          have HT1 := Lib.hid (HT0.out.trans (hb.mono HT0.out.size))
          clear hb b0 b1 b2 b3 b4
          obtain ⟨b0, b1, b2, b3, b4⟩ := HC.out _ HW1.out
          go_wp2_with fail
          refine (ids_any s Ac cc 4096 W1 hs (by decide) HO.out.2.1 ((HS.out.keep (HT1.out.mono hB)).more (qT hB HT1.out.size))).mono ?_
          rintro e W2 ⟨hb, rfl⟩
          rw [H1.out]
          have HW2 := Lib.hid (HW1.out.trans (hb.mono HW1.out.size))
          have HT2 := Lib.hid (HT1.out.trans (hb.mono HT1.out.size))
          clear hb b0 b1 b2 b3 b4
          obtain ⟨b0, b1, b2, b3, b4⟩ := HC.out _ HW2.out
          go_wp2_with fail
          refine (author_any a W2 ha).mono ?_
          rintro e W3 ⟨hb, rfl⟩
          rw [H2.out]
          have HW3 := Lib.hid (HW2.out.trans (hb.mono HW2.out.size))
          have HT3 := Lib.hid (HT2.out.trans (hb.mono HT2.out.size))
          clear hb b0 b1 b2 b3 b4
          obtain ⟨b0, b1, b2, b3, b4⟩ := HC.out _ HW3.out
          go_wp2_with fail
          refine (note_any m W3 hm).mono ?_
          rintro e W4 ⟨hb, rfl⟩
          rw [H3.out]
          have HW4 := Lib.hid (HW3.out.trans (hb.mono HW3.out.size))
          have HT4 := Lib.hid (HT3.out.trans (hb.mono HT3.out.size))
          clear hb b0 b1 b2 b3 b4
          obtain ⟨b0, b1, b2, b3, b4⟩ := HC.out _ HW4.out
          go_wp2_with fail
          go_ret
          exact ⟨HT4.out, by rw [HE.out]; rfl⟩
      · have HE : Hid (commitB (p, s, a, m, x) = false) := Lib.hid (by unfold commitB; simp [h0, h1, h2])
        have H2 := Lib.hid h2
        clear h0 h1 h2
        go_wp2_with fail
        refine (ids_any p Ap cp 2 W0 hp (by decide) HO.out.1 ((HP.out.keep (HT0.out.mono hB)).more (qT hB HT0.out.size))).mono ?_
        rintro e W1 ⟨hb, rfl⟩
        rw [H0.out]
        have HW1 := Lib.hid (HW0.out.trans (hb.mono HW0.out.size))
        have HT1 := Lib.hid (HT0.out.trans (hb.mono HT0.out.size))
        clear hb b0 b1 b2 b3 b4
        obtain ⟨b0, b1, b2, b3, b4⟩ := HC.out _ HW1.out
        go_wp2_with fail
        refine (ids_any s Ac cc 4096 W1 hs (by decide) HO.out.2.1 ((HS.out.keep (HT1.out.mono hB)).more (qT hB HT1.out.size))).mono ?_
        rintro e W2 ⟨hb, rfl⟩
        rw [H1.out]
        have HW2 := Lib.hid (HW1.out.trans (hb.mono HW1.out.size))
        have HT2 := Lib.hid (HT1.out.trans (hb.mono HT1.out.size))
        clear hb b0 b1 b2 b3 b4
        obtain ⟨b0, b1, b2, b3, b4⟩ := HC.out _ HW2.out
        go_wp2_with fail
        refine (author_any a W2 ha).mono ?_
        rintro e W3 ⟨hb, rfl⟩
        rw [H2.out]
        have HW3 := Lib.hid (HW2.out.trans (hb.mono HW2.out.size))
        have HT3 := Lib.hid (HT2.out.trans (hb.mono HT2.out.size))
        clear hb b0 b1 b2 b3 b4
        obtain ⟨b0, b1, b2, b3, b4⟩ := HC.out _ HW3.out
        go_wp2_with fail
        go_ret
        exact ⟨HT3.out, by rw [HE.out]; rfl⟩
    · have HE : Hid (commitB (p, s, a, m, x) = false) := Lib.hid (by unfold commitB; simp [h0, h1])
      have H1 := Lib.hid h1
      clear h0 h1
      go_wp2_with fail
      refine (ids_any p Ap cp 2 W0 hp (by decide) HO.out.1 ((HP.out.keep (HT0.out.mono hB)).more (qT hB HT0.out.size))).mono ?_
      rintro e W1 ⟨hb, rfl⟩
      rw [H0.out]
      have HW1 := Lib.hid (HW0.out.trans (hb.mono HW0.out.size))
      have HT1 := Lib.hid (HT0.out.trans (hb.mono HT0.out.size))
      clear hb b0 b1 b2 b3 b4
      obtain ⟨b0, b1, b2, b3, b4⟩ := HC.out _ HW1.out
      go_wp2_with fail
      refine (ids_any s Ac cc 4096 W1 hs (by decide) HO.out.2.1 ((HS.out.keep (HT1.out.mono hB)).more (qT hB HT1.out.size))).mono ?_
      rintro e W2 ⟨hb, rfl⟩
      rw [H1.out]
      have HW2 := Lib.hid (HW1.out.trans (hb.mono HW1.out.size))
      have HT2 := Lib.hid (HT1.out.trans (hb.mono HT1.out.size))
      clear hb b0 b1 b2 b3 b4
      obtain ⟨b0, b1, b2, b3, b4⟩ := HC.out _ HW2.out
      go_wp2_with fail
      go_ret
      exact ⟨HT2.out, by rw [HE.out]; rfl⟩
  · have HE : Hid (commitB (p, s, a, m, x) = false) := Lib.hid (by unfold commitB; simp [h0])
    have H0 := Lib.hid h0
    clear h0
    go_wp2_with fail
    refine (ids_any p Ap cp 2 W0 hp (by decide) HO.out.1 ((HP.out.keep (HT0.out.mono hB)).more (qT hB HT0.out.size))).mono ?_
    rintro e W1 ⟨hb, rfl⟩
    rw [H0.out]
    have HW1 := Lib.hid (HW0.out.trans (hb.mono HW0.out.size))
    have HT1 := Lib.hid (HT0.out.trans (hb.mono HT0.out.size))
    clear hb b0 b1 b2 b3 b4
    obtain ⟨b0, b1, b2, b3, b4⟩ := HC.out _ HW1.out
    go_wp2_with fail
    go_ret
    exact ⟨HT1.out, by rw [HE.out]; rfl⟩
end Go.Proofs.YtdgbjhfkmembdaaGreatDoor
