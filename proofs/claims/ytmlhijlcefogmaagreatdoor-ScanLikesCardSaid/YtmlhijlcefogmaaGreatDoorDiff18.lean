/-
  What myers.Diff gives: edits that keep as many runes as the script of least cost. Conditions: texts of at most 300 bytes.
-/
import Derived.Test.YtmlhijlcefogmaaGreatDoorMerged7
import Derived.Test.YtmlhijlcefogmaaGreatDoorMerged8
import Derived.Test.YtmlhijlcefogmaaGreatDoorMoves23
import Derived.Test.YtmlhijlcefogmaaGreatDoorMerged14
set_option linter.unusedVariables false
set_option linter.unusedSimpArgs false
set_option maxHeartbeats 4000000
set_option maxRecDepth 100000
namespace Go.Proofs.YtmlhijlcefogmaaGreatDoor
open Go.RowKit Go.Maps Go.Shelf

def intsN (l : List Nat) : List Int := l.map fun r : Nat => (r : Int)
theorem i32s_ints (l : List Nat) : i32s l = i32V (intsN l) := by simp [i32s, i32V, intsN]
theorem intsN_length (l : List Nat) : (intsN l).length = l.length := by simp [intsN]
theorem editInfo : (Tryz.prog.info? 41).map (fun i => (i.zero, i.size, i.bytes)) = some (some (.agg (edV edZ).toArray), 3, 32) := by kernel_rfl
theorem rowsV_last (p : List EdD) (x : EdD) : rowsV edV (p ++ [x]) = rowsV edV p ++ edV x := by simp [rowsV]
theorem edRow_length (l : List EdD) : (rowsV edV l).length = l.length * 3 := rowsV_length fun x _ => edV_length x
theorem ed_set (p : List EdD) (x y : EdD) (k : Nat) (u : Value) (hk : (edV x).set k u = edV y) : (rowsV edV (p ++ [x])).set (p.length * 3 + k) u = rowsV edV (p ++ [y]) := by
  rw [rowsV_last, rowsV_last, ← hk, List.set_append_right _ _ (by rw [edRow_length]; omega), edRow_length, Nat.add_sub_cancel_left]
theorem ed_get (p : List EdD) (x : EdD) (k : Nat) (u : Value) (hk : (edV x)[k]? = some u) : (rowsV edV (p ++ [x]))[p.length * 3 + k]? = some u := by
  rw [rowsV_last, List.getElem?_append_right (by rw [edRow_length]; omega), edRow_length, Nat.add_sub_cancel_left]
  exact hk
theorem runes_le {s : ByteArray} {l : List Nat} (h : runesOf s = some l) : l.length ≤ s.size := by
  have all : ∀ m pos l, s.size - pos = m → runesAt s pos = some l → l.length ≤ s.size - pos := by
    intro m
    induction m using Nat.strongRecOn with
    | ind m ih =>
      intro pos l hm hl
      by_cases hp : pos < s.size
      · cases ho : okAt s pos with
        | false => rw [runesAt_bad hp ho] at hl; cases hl
        | true =>
          rw [runesAt_ok hp ho] at hl
          cases hr : runesAt s (pos + (Utf8.decode s pos).2) with
          | none => rw [hr] at hl; cases hl
          | some r =>
            rw [hr] at hl
            injection hl with hl
            subst hl
            have hd := dec_in hp
            have := ih (s.size - (pos + (Utf8.decode s pos).2)) (by omega) _ r rfl hr
            simp only [List.length_cons]
            omega
      · rw [runesAt_end (by omega)] at hl
        injection hl with hl
        subst hl
        simp
  have := all _ 0 l rfl h
  omega
theorem rune_size (v : Int) : (Utf8.encode v).size ≤ 4 := by
  unfold Utf8.encode
  dsimp only
  repeat' split
  all_goals exact Nat.le_of_ble_eq_true rfl
theorem rune_add (s : ByteArray) (v : Int) : (s ++ Utf8.encode v).size ≤ s.size + 4 := by
  rw [ByteArray.size_append]
  have := rune_size v
  omega
theorem cell_lt18 {w : World} {b j : Nat} {v : Value} (h : w.cell? ⟨b, j, none⟩ = some v) : b < w.heap.size := by
  unfold World.cell? at h
  rcases Nat.lt_or_ge b w.heap.size with h1 | h1
  · exact h1
  · rw [show w.heap[(⟨b, j, none⟩ : Addr).block]? = none from Array.getElem?_eq_none h1] at h; cases h
def DiffGives (a b : ByteArray) (w : World) (e : Ending) (w' : World) : Prop := Below w.heap.size w w' ∧
  ((∃ x y eds A c, runesOf a = some x ∧ runesOf b = some y ∧ e = .returned (.tuple #[.slice A eds.length c, .int .i64 0]) ∧ w'.ownsRow w.heap.size 41 3 (.slice A eds.length c) eds.length (rowsV edV eds) ∧ keepE eds = onesN (movesS (intsN x) (intsN y)) ∧ eds.length ≤ 1000) ∨
   ((runesOf a = none ∨ runesOf b = none) ∧ e = .returned (.tuple #[.slice none 0 0, .int .i64 5])))
theorem runes_some {s : ByteArray} {x : List Nat} (hs : s.size ≤ 300) (h : runesOf s = some x) (w : World) : Calls Tryz.prog 51 #[.string s] w fun e w' => Below w.heap.size w w' ∧ ∃ A c, e = .returned (.tuple #[.slice A x.length c, .int .i64 0, .int .i64 0]) ∧ Sl w' w'.heap.size A x.length 1 (i32s x) :=
  (prunes_any s w (by omega)).mono fun e w' ⟨h1, h2⟩ => by
    rcases h2 with ⟨l, A, c, k1, k2, k3⟩ | ⟨k1, _⟩
    · rw [h] at k1; injection k1 with k1; subst k1; exact ⟨h1, A, c, k2, Sl.of_own k3⟩
    · rw [h] at k1; cases k1
theorem diff_bad (a b : ByteArray) (w : World) (ha : a.size ≤ 300) (hb : b.size ≤ 300) (h : runesOf a = none ∨ runesOf b = none) : Calls Tryz.prog 27 #[.string a, .string b] w (DiffGives a b w) := by
  have HH := Lib.hid h
  have run : ∀ (s : ByteArray) (u : World), s.size ≤ 300 → Calls Tryz.prog 51 #[.string s] u fun e w' => Below u.heap.size u w' ∧ ∃ v z er : Value, ∃ r : Int, e = .returned (.tuple #[v, z, .int .i64 r]) ∧ (r = 0 ∨ r = 5) ∧ (runesOf s = none → r = 5) := fun s u hs => (prunes_any s u (by omega)).mono fun e w' ⟨h1, h2⟩ => by
    rcases h2 with ⟨l, A, c, k1, k2, _⟩ | ⟨k1, n, k2⟩
    · exact ⟨h1, _, _, .bool true, 0, k2, .inl rfl, fun h => by rw [h] at k1; cases k1⟩
    · exact ⟨h1, _, _, .bool true, 5, k2, .inr rfl, fun _ => rfl⟩
  have HA := Lib.hid (fun u => run a u ha); have HB := Lib.hid (fun u => run b u hb)
  clear run h
  go_enter Tryz.func27, Tryz.ntmps27
  go_upto_region 2 with (first
    | (go_at_call 51; refine (HA.out _).mono ?_; rintro e W1 ⟨hb1, v1, z1, _, r1, rfl, hr1, hq1⟩; have HB1 := Lib.hid hb1; have HQ1 := Lib.hid hq1; have HR1 := Lib.hid hr1; clear hb1 hq1 hr1))
  go_upto_region 3 with (first
    | (go_at_call 51; refine (HB.out _).mono ?_; rintro e W2 ⟨hb2, v2, z2, _, r2, rfl, hr2, hq2⟩; have HB2 := Lib.hid hb2; have HQ2 := Lib.hid hq2; have HR2 := Lib.hid hr2; clear hb2 hq2 hr2))
  have HBW : Hid (Below w.heap.size w W2) := Lib.hid (HB1.out.trans (HB2.out.mono HB1.out.size))
  rcases HR1.out with rfl | rfl <;> rcases HR2.out with rfl | rfl
  · exfalso
    rcases HH.out with h | h
    · exact absurd (HQ1.out h) (by decide)
    · exact absurd (HQ2.out h) (by decide)
  all_goals
    go_wp2
    go_ret2
    exact ⟨HBW.out, .inr ⟨HH.out, rfl⟩⟩

theorem diff_good (a b : ByteArray) (x y : List Nat) (w : World) (ha : a.size ≤ 300) (hb : b.size ≤ 300) (hx : runesOf a = some x) (hy : runesOf b = some y) : Calls Tryz.prog 27 #[.string a, .string b] w (DiffGives a b w) := by
  have HA := Lib.hid (runes_some ha hx w); have HB := Lib.hid (fun u => runes_some hb hy u)
  have hxl : (intsN x).length ≤ 300 := by rw [intsN_length]; exact Nat.le_trans (runes_le hx) ha
  have hyl : (intsN y).length ≤ 300 := by rw [intsN_length]; exact Nat.le_trans (runes_le hy) hb
  rw [i32s_ints, ← intsN_length x] at HA
  rw [i32s_ints, ← intsN_length y] at HB
  have HXY := Lib.hid (And.intro hx hy)
  clear hx hy
  have hml := moves_length _ (intsN x) (intsN y) (Nat.le_refl _)
  have hstep := fun i => diff_step (a := intsN x) (b := intsN y) (i := i)
  have hmv := fun A A' ca cb u h1 h2 => moves_any (intsN x) (intsN y) A A' ca cb u h1 h2 (by omega) (by omega)
  have HMV := Lib.hid hmv; have HST := Lib.hid hstep
  have hM : (movesS (intsN x) (intsN y)).length ≤ 600 := by omega
  clear hmv hstep hml
  go_enter Tryz.func27, Tryz.ntmps27
  go_upto_region 2 with (first
    | (go_at_call 51; refine HA.out.mono ?_; rintro e W1 ⟨hb1, A1, c1, rfl, hs1⟩; have HB1 := Lib.hid hb1; have HS1 := Lib.hid hs1; clear hb1 hs1))
  go_upto_region 3 with (first
    | (go_at_call 51; refine (HB.out _).mono ?_; rintro e W2 ⟨hb2, A2, c2, rfl, hs2⟩; have HB2 := Lib.hid hb2; have HS2 := Lib.hid hs2; clear hb2 hs2))
  have HS3 := Lib.hid ((HS1.out.keep HB2.out).more HB2.out.size)
  go_upto_region 12 with (first
    | (go_at_call 52; refine (HMV.out _ _ _ _ _ HS3.out HS2.out).mono ?_; rintro e W3 ⟨hb3, A3, c3, rfl, hs3⟩; have HB3 := Lib.hid hb3; have HS4 := Lib.hid hs3; clear hb3 hs3))
  have HBW : Hid (Below w.heap.size w W3) := Lib.hid (HB1.out.trans ((HB2.out.trans (HB3.out.mono HB2.out.size)).mono HB1.out.size))
  have HY3 := Lib.hid ((HS2.out.keep HB3.out).more HB3.out.size)
  obtain ⟨M, hMd⟩ : ∃ M, movesS (intsN x) (intsN y) = M := ⟨_, rfl⟩
  obtain ⟨Y, hYd⟩ : ∃ Y, intsN y = Y := ⟨_, rfl⟩
  have HMD := Lib.hid hMd; have HYD := Lib.hid hYd
  rw [hMd] at HS4 HST hM ⊢
  rw [hYd] at HST HY3 hyl ⊢
  clear hMd hYd HA HB HMV HS1 HS2 HS3 HB1 HB2 HB3
  go_loopw [13, 14, 15, 48] (fun t13 t14 t15 t48 wr => ∃ (i : Nat) (A : Option Addr) (c la : Nat) (l : List EdD), i ≤ M.length ∧ t48 = .int .i64 (i : Int) ∧ t15 = .int .i64 ((placeS M i).2 : Int) ∧ t14 = .int .u8 (la : Int) ∧ t13 = .slice A l.length c ∧ (la = 1 ∨ la = 2 ∨ la = 3) ∧ Hid (EdOk M i l) ∧ Hid (Below W3.heap.size W3 wr) ∧ Hid (wr.ownsRow W3.heap.size 41 3 (.slice A l.length c) l.length (rowsV edV l))) (fun _ _ _ t48 _ => M.length - (intOf t48).toNat)
  case atStart => exact ⟨0, none, 0, 3, [], Nat.zero_le _, rfl, rfl, rfl, rfl, .inr (.inr rfl), Lib.hid (EdOk.start M), Lib.hid (Below.refl _ _), Lib.hid (World.ownsRow_nil _ _ _ _)⟩
  case round =>
    obtain ⟨i, A, c, la, l, hi, rfl, rfl, rfl, rfl, hla, HE, HBR, HO⟩ := hrel
    by_cases hlt : i < M.length
    · have i0 : (0 : Int) ≤ (i : Int) := by omega
      have i1 : (i : Int) < (M.length : Int) := by omega
      obtain ⟨gm, om, hA3, hgm, hcl⟩ := HS4.out.2 (by omega)
      subst hA3
      have hcell : wr.cell? ⟨gm, om + i, none⟩ = some (.int .u8 (M[i] : Int)) := (HBR.out.cell (p := ⟨gm, om + i, none⟩) hgm).trans (hcl i _ (by simp [u8V, hlt]))
      obtain ⟨hp0, hst⟩ := HST.out i hlt
      have HLE := Lib.hid HE.out.2.2.2
      obtain ⟨j, hj⟩ : ∃ j, (placeS M i).2 = j := ⟨_, rfl⟩
      rw [hj] at hp0 hst ⊢
      clear hj
      have hM9 : i < 600 := by omega
      have hll := HE.out.2.2.2
      rcases hst with ⟨hmi, hpn⟩ | ⟨hmi, hpn⟩ | ⟨hmi, hjl, hpn⟩
      · have HC : wr.cell? ⟨gm, om + i, none⟩ = some (.int .u8 1) := by rw [hcell, hmi]; rfl
        have HPN := Lib.hid hpn; have HMI := Lib.hid hmi
        clear hpn hmi hcl hcell
        rcases Nat.eq_zero_or_pos i with h0 | h0
        · have HLA := Lib.hid hla
          have hib : ((i : Int) == 0) = true := by rw [beq_iff_eq]; omega
          clear h0
          go_wp2_with (first
            | (refine wp_buildSlice1 (by rfl) 37 _ rfl 41 Tryz.underlying37 (.agg (edV edZ).toArray) 3 32 editInfo rfl (by decide) (by decide) (edV edZ) rfl rfl ?_)
            | (at_builtin
               refine wp_appNg rfl _ _ 37 rfl W3.heap.size 41 (.agg (edV edZ).toArray) 3 32 Tryz.underlying37 editInfo rfl (by decide) (.slice A l.length c) l.length (rowsV edV l) rfl HO.out (edV edZ) 41 rfl rfl (edV_one _) (by unfold maxLen; omega) (by omega) HBR.out.size ?_
               intro v1 w1 ho1 hbel1 hk1
               have HB2 := Lib.hid (hbel1 _ _ (Nat.le_refl _) HBR.out)
               have HO2 : Hid (w1.ownsRow W3.heap.size 41 3 v1 (l.length + 1) (rowsV edV (l ++ [edZ]))) := Lib.hid (by rw [rowsV_last]; exact ho1)
               clear ho1 hbel1 hk1
               obtain ⟨g, cg, tl, rfl, hBg, _, _, _, _⟩ := own_open HO2.out (by omega)
               have HE2 := Lib.hid HE.out.fresh
               obtain ⟨p, hp⟩ : ∃ p, l = p := ⟨_, rfl⟩
               rw [hp] at HO2 HE2 hll ⊢
               clear hp HE HO HBR
               obtain ⟨e, he⟩ : ∃ e, edZ = e := ⟨_, rfl⟩
               rw [he] at HO2 HE2
               clear he
               have hpl : p.length ≤ 600 := by omega
               have he1 : e.1 ≤ 600 := by have := (HE2.out.1 e (by simp)).1; omega
               have he2 : e.2.1 ≤ 600 := by have := (HE2.out.1 e (by simp)).2.1; omega
               have hcl2 : w1.cell? ⟨g, p.length * 3, none⟩ = some (.int .i64 (e.1 : Int)) := (HO2.out.cellAt _ (by omega)).trans (ed_get p e 0 _ rfl)
               have hfz2 : w1.frozen? ⟨g, p.length * 3, none⟩ = false := HO2.out.frozenAt _
               have hi1 : IntKind.i64.wrap ((p.length : Int) + 1 - 1) = (p.length : Int) := (IntWalk.i64_in _ (by omega)).trans (by omega)
               have q0 : (0 : Int) ≤ (p.length : Int) := by omega
               have q1 : (p.length : Int) < (p.length : Int) + 1 := by omega))
          go_roundw
          case rel =>
            exact ⟨i + 1, some ⟨g, 0, none⟩, _, 1, p ++ [(e.1 + 1, e.2.1, e.2.2)], by omega, by go_num, by rw [HPN.out] <;> go_num, by first | rfl | go_num, by rw [List.length_append]; rfl, by decide, Lib.hid (EdOk.next hlt HE2.out (by rw [HMI.out]; rfl) (by first | exact Nat.le_refl _ | exact Nat.le_succ _) (Nat.le_add_right _ _)), Lib.hid (HB2.out.setCell hBg _), Lib.hid (by
              have h := (HO2.out.stored (p.length * 3 + 0) (.int .i64 ((e.1 : Int) + 1))).1
              rw [ed_set p e (e.1 + 1, e.2.1, e.2.2) 0 _ (by simp [edV])] at h
              simpa using h)⟩
          case measure => (simp [intOf]) <;> omega
        · rcases hla with rfl | rfl | rfl
          · have hib : ((i : Int) == 0) = false := by rw [beq_eq_false_iff_ne]; omega
            obtain ⟨p, e, rfl⟩ := HE.out.last h0
            have HE2 := Lib.hid HE.out.same
            have HB2 := HBR
            rw [show (p ++ [e]).length = p.length + 1 by simp] at HO hll ⊢
            have HO2 := HO
            obtain ⟨g, cg, tl, hv, hBg, _, _, _, _⟩ := own_open HO2.out (by omega)
            injection hv with hv1 _ hv2
            subst hv1 hv2
            clear HE HO
            obtain ⟨w1, hw1⟩ : ∃ w1, wr = w1 := ⟨_, rfl⟩
            rw [hw1] at HB2 HO2 HBR HC ⊢
            clear hw1
            have hpl : p.length ≤ 600 := by omega
            have he1 : e.1 ≤ 600 := by have := (HE2.out.1 e (by simp)).1; omega
            have he2 : e.2.1 ≤ 600 := by have := (HE2.out.1 e (by simp)).2.1; omega
            have hcl2 : w1.cell? ⟨g, p.length * 3, none⟩ = some (.int .i64 (e.1 : Int)) := (HO2.out.cellAt _ (by omega)).trans (ed_get p e 0 _ rfl)
            have hfz2 : w1.frozen? ⟨g, p.length * 3, none⟩ = false := HO2.out.frozenAt _
            have hi1 : IntKind.i64.wrap ((p.length : Int) + 1 - 1) = (p.length : Int) := (IntWalk.i64_in _ (by omega)).trans (by omega)
            have q0 : (0 : Int) ≤ (p.length : Int) := by omega
            have q1 : (p.length : Int) < (p.length : Int) + 1 := by omega
            go_wp2_with fail
            go_roundw
            case rel =>
              exact ⟨i + 1, some ⟨g, 0, none⟩, _, 1, p ++ [(e.1 + 1, e.2.1, e.2.2)], by omega, by go_num, by rw [HPN.out] <;> go_num, by first | rfl | go_num, by rw [List.length_append]; rfl, by decide, Lib.hid (EdOk.next hlt HE2.out (by rw [HMI.out]; rfl) (by first | exact Nat.le_refl _ | exact Nat.le_succ _) (Nat.le_add_right _ _)), Lib.hid (HB2.out.setCell hBg _), Lib.hid (by
                have h := (HO2.out.stored (p.length * 3 + 0) (.int .i64 ((e.1 : Int) + 1))).1
                rw [ed_set p e (e.1 + 1, e.2.1, e.2.2) 0 _ (by simp [edV])] at h
                simpa using h)⟩
            case measure => (simp [intOf]) <;> omega
          · have hib : ((i : Int) == 0) = false := by rw [beq_eq_false_iff_ne]; omega
            go_wp2_with (first
              | (refine wp_buildSlice1 (by rfl) 37 _ rfl 41 Tryz.underlying37 (.agg (edV edZ).toArray) 3 32 editInfo rfl (by decide) (by decide) (edV edZ) rfl rfl ?_)
              | (at_builtin
                 refine wp_appNg rfl _ _ 37 rfl W3.heap.size 41 (.agg (edV edZ).toArray) 3 32 Tryz.underlying37 editInfo rfl (by decide) (.slice A l.length c) l.length (rowsV edV l) rfl HO.out (edV edZ) 41 rfl rfl (edV_one _) (by unfold maxLen; omega) (by omega) HBR.out.size ?_
                 intro v1 w1 ho1 hbel1 hk1
                 have HB2 := Lib.hid (hbel1 _ _ (Nat.le_refl _) HBR.out)
                 have HO2 : Hid (w1.ownsRow W3.heap.size 41 3 v1 (l.length + 1) (rowsV edV (l ++ [edZ]))) := Lib.hid (by rw [rowsV_last]; exact ho1)
                 clear ho1 hbel1 hk1
                 obtain ⟨g, cg, tl, rfl, hBg, _, _, _, _⟩ := own_open HO2.out (by omega)
                 have HE2 := Lib.hid HE.out.fresh
                 obtain ⟨p, hp⟩ : ∃ p, l = p := ⟨_, rfl⟩
                 rw [hp] at HO2 HE2 hll ⊢
                 clear hp HE HO HBR
                 obtain ⟨e, he⟩ : ∃ e, edZ = e := ⟨_, rfl⟩
                 rw [he] at HO2 HE2
                 clear he
                 have hpl : p.length ≤ 600 := by omega
                 have he1 : e.1 ≤ 600 := by have := (HE2.out.1 e (by simp)).1; omega
                 have he2 : e.2.1 ≤ 600 := by have := (HE2.out.1 e (by simp)).2.1; omega
                 have hcl2 : w1.cell? ⟨g, p.length * 3, none⟩ = some (.int .i64 (e.1 : Int)) := (HO2.out.cellAt _ (by omega)).trans (ed_get p e 0 _ rfl)
                 have hfz2 : w1.frozen? ⟨g, p.length * 3, none⟩ = false := HO2.out.frozenAt _
                 have hi1 : IntKind.i64.wrap ((p.length : Int) + 1 - 1) = (p.length : Int) := (IntWalk.i64_in _ (by omega)).trans (by omega)
                 have q0 : (0 : Int) ≤ (p.length : Int) := by omega
                 have q1 : (p.length : Int) < (p.length : Int) + 1 := by omega))
            go_roundw
            case rel =>
              exact ⟨i + 1, some ⟨g, 0, none⟩, _, 1, p ++ [(e.1 + 1, e.2.1, e.2.2)], by omega, by go_num, by rw [HPN.out] <;> go_num, by first | rfl | go_num, by rw [List.length_append]; rfl, by decide, Lib.hid (EdOk.next hlt HE2.out (by rw [HMI.out]; rfl) (by first | exact Nat.le_refl _ | exact Nat.le_succ _) (Nat.le_add_right _ _)), Lib.hid (HB2.out.setCell hBg _), Lib.hid (by
                have h := (HO2.out.stored (p.length * 3 + 0) (.int .i64 ((e.1 : Int) + 1))).1
                rw [ed_set p e (e.1 + 1, e.2.1, e.2.2) 0 _ (by simp [edV])] at h
                simpa using h)⟩
            case measure => (simp [intOf]) <;> omega
          · have hib : ((i : Int) == 0) = false := by rw [beq_eq_false_iff_ne]; omega
            go_wp2_with (first
              | (refine wp_buildSlice1 (by rfl) 37 _ rfl 41 Tryz.underlying37 (.agg (edV edZ).toArray) 3 32 editInfo rfl (by decide) (by decide) (edV edZ) rfl rfl ?_)
              | (at_builtin
                 refine wp_appNg rfl _ _ 37 rfl W3.heap.size 41 (.agg (edV edZ).toArray) 3 32 Tryz.underlying37 editInfo rfl (by decide) (.slice A l.length c) l.length (rowsV edV l) rfl HO.out (edV edZ) 41 rfl rfl (edV_one _) (by unfold maxLen; omega) (by omega) HBR.out.size ?_
                 intro v1 w1 ho1 hbel1 hk1
                 have HB2 := Lib.hid (hbel1 _ _ (Nat.le_refl _) HBR.out)
                 have HO2 : Hid (w1.ownsRow W3.heap.size 41 3 v1 (l.length + 1) (rowsV edV (l ++ [edZ]))) := Lib.hid (by rw [rowsV_last]; exact ho1)
                 clear ho1 hbel1 hk1
                 obtain ⟨g, cg, tl, rfl, hBg, _, _, _, _⟩ := own_open HO2.out (by omega)
                 have HE2 := Lib.hid HE.out.fresh
                 obtain ⟨p, hp⟩ : ∃ p, l = p := ⟨_, rfl⟩
                 rw [hp] at HO2 HE2 hll ⊢
                 clear hp HE HO HBR
                 obtain ⟨e, he⟩ : ∃ e, edZ = e := ⟨_, rfl⟩
                 rw [he] at HO2 HE2
                 clear he
                 have hpl : p.length ≤ 600 := by omega
                 have he1 : e.1 ≤ 600 := by have := (HE2.out.1 e (by simp)).1; omega
                 have he2 : e.2.1 ≤ 600 := by have := (HE2.out.1 e (by simp)).2.1; omega
                 have hcl2 : w1.cell? ⟨g, p.length * 3, none⟩ = some (.int .i64 (e.1 : Int)) := (HO2.out.cellAt _ (by omega)).trans (ed_get p e 0 _ rfl)
                 have hfz2 : w1.frozen? ⟨g, p.length * 3, none⟩ = false := HO2.out.frozenAt _
                 have hi1 : IntKind.i64.wrap ((p.length : Int) + 1 - 1) = (p.length : Int) := (IntWalk.i64_in _ (by omega)).trans (by omega)
                 have q0 : (0 : Int) ≤ (p.length : Int) := by omega
                 have q1 : (p.length : Int) < (p.length : Int) + 1 := by omega))
            go_roundw
            case rel =>
              exact ⟨i + 1, some ⟨g, 0, none⟩, _, 1, p ++ [(e.1 + 1, e.2.1, e.2.2)], by omega, by go_num, by rw [HPN.out] <;> go_num, by first | rfl | go_num, by rw [List.length_append]; rfl, by decide, Lib.hid (EdOk.next hlt HE2.out (by rw [HMI.out]; rfl) (by first | exact Nat.le_refl _ | exact Nat.le_succ _) (Nat.le_add_right _ _)), Lib.hid (HB2.out.setCell hBg _), Lib.hid (by
                have h := (HO2.out.stored (p.length * 3 + 0) (.int .i64 ((e.1 : Int) + 1))).1
                rw [ed_set p e (e.1 + 1, e.2.1, e.2.2) 0 _ (by simp [edV])] at h
                simpa using h)⟩
            case measure => (simp [intOf]) <;> omega
      · have HC : wr.cell? ⟨gm, om + i, none⟩ = some (.int .u8 2) := by rw [hcell, hmi]; rfl
        have HPN := Lib.hid hpn; have HMI := Lib.hid hmi
        clear hpn hmi hcl hcell
        rcases Nat.eq_zero_or_pos i with h0 | h0
        · have HLA := Lib.hid hla
          have hib : ((i : Int) == 0) = true := by rw [beq_iff_eq]; omega
          clear h0
          go_wp2_with (first
            | (refine wp_buildSlice1 (by rfl) 37 _ rfl 41 Tryz.underlying37 (.agg (edV edZ).toArray) 3 32 editInfo rfl (by decide) (by decide) (edV edZ) rfl rfl ?_)
            | (at_builtin
               refine wp_appNg rfl _ _ 37 rfl W3.heap.size 41 (.agg (edV edZ).toArray) 3 32 Tryz.underlying37 editInfo rfl (by decide) (.slice A l.length c) l.length (rowsV edV l) rfl HO.out (edV edZ) 41 rfl rfl (edV_one _) (by unfold maxLen; omega) (by omega) HBR.out.size ?_
               intro v1 w1 ho1 hbel1 hk1
               have HB2 := Lib.hid (hbel1 _ _ (Nat.le_refl _) HBR.out)
               have HO2 : Hid (w1.ownsRow W3.heap.size 41 3 v1 (l.length + 1) (rowsV edV (l ++ [edZ]))) := Lib.hid (by rw [rowsV_last]; exact ho1)
               clear ho1 hbel1 hk1
               obtain ⟨g, cg, tl, rfl, hBg, _, _, _, _⟩ := own_open HO2.out (by omega)
               have HE2 := Lib.hid HE.out.fresh
               obtain ⟨p, hp⟩ : ∃ p, l = p := ⟨_, rfl⟩
               rw [hp] at HO2 HE2 hll ⊢
               clear hp HE HO HBR
               obtain ⟨e, he⟩ : ∃ e, edZ = e := ⟨_, rfl⟩
               rw [he] at HO2 HE2
               clear he
               have hpl : p.length ≤ 600 := by omega
               have he1 : e.1 ≤ 600 := by have := (HE2.out.1 e (by simp)).1; omega
               have he2 : e.2.1 ≤ 600 := by have := (HE2.out.1 e (by simp)).2.1; omega
               have hcl2 : w1.cell? ⟨g, p.length * 3 + 1, none⟩ = some (.int .i64 (e.2.1 : Int)) := (HO2.out.cellAt _ (by omega)).trans (ed_get p e 1 _ rfl)
               have hfz2 : w1.frozen? ⟨g, p.length * 3 + 1, none⟩ = false := HO2.out.frozenAt _
               have hi1 : IntKind.i64.wrap ((p.length : Int) + 1 - 1) = (p.length : Int) := (IntWalk.i64_in _ (by omega)).trans (by omega)
               have q0 : (0 : Int) ≤ (p.length : Int) := by omega
               have q1 : (p.length : Int) < (p.length : Int) + 1 := by omega))
          go_roundw
          case rel =>
            exact ⟨i + 1, some ⟨g, 0, none⟩, _, 2, p ++ [(e.1, e.2.1 + 1, e.2.2)], by omega, by go_num, by rw [HPN.out] <;> go_num, by first | rfl | go_num, by rw [List.length_append]; rfl, by decide, Lib.hid (EdOk.next hlt HE2.out (by rw [HMI.out]; rfl) (by first | exact Nat.le_refl _ | exact Nat.le_succ _) (Nat.le_add_right _ _)), Lib.hid (HB2.out.setCell hBg _), Lib.hid (by
              have h := (HO2.out.stored (p.length * 3 + 1) (.int .i64 ((e.2.1 : Int) + 1))).1
              rw [ed_set p e (e.1, e.2.1 + 1, e.2.2) 1 _ (by simp [edV])] at h
              simpa using h)⟩
          case measure => (simp [intOf]) <;> omega
        · have HLA := Lib.hid hla
          have hib : ((i : Int) == 0) = false := by rw [beq_eq_false_iff_ne]; omega
          obtain ⟨p, e, rfl⟩ := HE.out.last h0
          have HE2 := Lib.hid HE.out.same
          have HB2 := HBR
          rw [show (p ++ [e]).length = p.length + 1 by simp] at HO hll ⊢
          have HO2 := HO
          obtain ⟨g, cg, tl, hv, hBg, _, _, _, _⟩ := own_open HO2.out (by omega)
          injection hv with hv1 _ hv2
          subst hv1 hv2
          clear HE HO
          obtain ⟨w1, hw1⟩ : ∃ w1, wr = w1 := ⟨_, rfl⟩
          rw [hw1] at HB2 HO2 HBR HC ⊢
          clear hw1
          have hpl : p.length ≤ 600 := by omega
          have he1 : e.1 ≤ 600 := by have := (HE2.out.1 e (by simp)).1; omega
          have he2 : e.2.1 ≤ 600 := by have := (HE2.out.1 e (by simp)).2.1; omega
          have hcl2 : w1.cell? ⟨g, p.length * 3 + 1, none⟩ = some (.int .i64 (e.2.1 : Int)) := (HO2.out.cellAt _ (by omega)).trans (ed_get p e 1 _ rfl)
          have hfz2 : w1.frozen? ⟨g, p.length * 3 + 1, none⟩ = false := HO2.out.frozenAt _
          have hi1 : IntKind.i64.wrap ((p.length : Int) + 1 - 1) = (p.length : Int) := (IntWalk.i64_in _ (by omega)).trans (by omega)
          have q0 : (0 : Int) ≤ (p.length : Int) := by omega
          have q1 : (p.length : Int) < (p.length : Int) + 1 := by omega
          go_wp2_with fail
          go_roundw
          case rel =>
            exact ⟨i + 1, some ⟨g, 0, none⟩, _, 2, p ++ [(e.1, e.2.1 + 1, e.2.2)], by omega, by go_num, by rw [HPN.out] <;> go_num, by first | rfl | go_num, by rw [List.length_append]; rfl, by decide, Lib.hid (EdOk.next hlt HE2.out (by rw [HMI.out]; rfl) (by first | exact Nat.le_refl _ | exact Nat.le_succ _) (Nat.le_add_right _ _)), Lib.hid (HB2.out.setCell hBg _), Lib.hid (by
              have h := (HO2.out.stored (p.length * 3 + 1) (.int .i64 ((e.2.1 : Int) + 1))).1
              rw [ed_set p e (e.1, e.2.1 + 1, e.2.2) 1 _ (by simp [edV])] at h
              simpa using h)⟩
          case measure => (simp [intOf]) <;> omega
      · have HC : wr.cell? ⟨gm, om + i, none⟩ = some (.int .u8 3) := by rw [hcell, hmi]; rfl
        have HPN := Lib.hid hpn; have HMI := Lib.hid hmi
        obtain ⟨gy, oy, hA2, hgy, hcy⟩ := HY3.out.2 (by omega)
        subst hA2
        have HCY := Lib.hid (hcy j (.int .i32 Y[j]) (by simp [i32V, hjl]))
        clear hpn hmi hcl hcell hcy
        rcases Nat.eq_zero_or_pos i with h0 | h0
        · have HLA := Lib.hid hla
          have hib : ((i : Int) == 0) = true := by rw [beq_iff_eq]; omega
          clear h0
          go_upto_region 24 with (first
            | (refine wp_buildSlice1 (by rfl) 37 _ rfl 41 Tryz.underlying37 (.agg (edV edZ).toArray) 3 32 editInfo rfl (by decide) (by decide) (edV edZ) rfl rfl ?_)
            | (at_builtin
               refine wp_appNg rfl _ _ 37 rfl W3.heap.size 41 (.agg (edV edZ).toArray) 3 32 Tryz.underlying37 editInfo rfl (by decide) (.slice A l.length c) l.length (rowsV edV l) rfl HO.out (edV edZ) 41 rfl rfl (edV_one _) (by unfold maxLen; omega) (by omega) HBR.out.size ?_
               intro v1 w1 ho1 hbel1 hk1
               have HB2 := Lib.hid (hbel1 _ _ (Nat.le_refl _) HBR.out)
               have HO2 : Hid (w1.ownsRow W3.heap.size 41 3 v1 (l.length + 1) (rowsV edV (l ++ [edZ]))) := Lib.hid (by rw [rowsV_last]; exact ho1)
               clear ho1 hbel1 hk1
               obtain ⟨g, cg, tl, rfl, hBg, _, _, _, _⟩ := own_open HO2.out (by omega)
               have HE2 := Lib.hid HE.out.fresh
               obtain ⟨p, hp⟩ : ∃ p, l = p := ⟨_, rfl⟩
               rw [hp] at HO2 HE2 hll ⊢
               clear hp HE HO HBR
               obtain ⟨e, he⟩ : ∃ e, edZ = e := ⟨_, rfl⟩
               rw [he] at HO2 HE2
               clear he
               have hpl : p.length ≤ 600 := by omega
               have he1 : e.1 ≤ 600 := by have := (HE2.out.1 e (by simp)).1; omega
               have he2 : e.2.1 ≤ 600 := by have := (HE2.out.1 e (by simp)).2.1; omega
               have hcl2 : w1.cell? ⟨g, p.length * 3 + 2, none⟩ = some (.string e.2.2) := (HO2.out.cellAt _ (by omega)).trans (ed_get p e 2 _ rfl)
               have hfz2 : w1.frozen? ⟨g, p.length * 3 + 2, none⟩ = false := HO2.out.frozenAt _
               have hi1 : IntKind.i64.wrap ((p.length : Int) + 1 - 1) = (p.length : Int) := (IntWalk.i64_in _ (by omega)).trans (by omega)
               have q0 : (0 : Int) ≤ (p.length : Int) := by omega
               have q1 : (p.length : Int) < (p.length : Int) + 1 := by omega))
          have hyw : w1.cell? ⟨gy, oy + j, none⟩ = some (.int .i32 Y[j]) := (HB2.out.cell (p := ⟨gy, oy + j, none⟩) hgy).trans HCY.out
          have j0 : (0 : Int) ≤ (j : Int) := by omega
          have j1 : (j : Int) < (Y.length : Int) := by omega
          generalize Y[j] = yv at *
          have HRS := Lib.hid (rune_add e.2.2 yv)
          have hsz9 : ¬ 9223372036854775807 < e.2.2.size + (Utf8.encode yv).size := by
            have h1 := (HE2.out.1 e (by simp)).2.2
            have h2 := rune_size yv
            omega
          have hgl : g < w1.heap.size := cell_lt18 hcl2
          have FS := Wg.cell hcl2 hgl
          have FY := Wg.cell hyw (cell_lt18 hyw)
          clear hcl2 hyw
          refine wp_region_tail_wg 12 (by kernel_rfl) (by kernel_rfl) (by kernel_rfl) (by kernel_rfl) (by kernel_rfl) ?_
          simp only [List.take_succ_cons, List.take_zero, List.drop_succ_cons, List.drop_zero]
          repeat (first
            | go_big_quiet_skip
            | (go_big_quiet_want
               (go_big_quiet_op
                first
                  | go_big_quiet_on
                  | go_big_quiet_call (first | (fail)))))
          refine wpQuiet_nil ?_
          rintro w' ⟨kk, rfl⟩
          have hk8 := kk.2
          generalize kk.val = w8 at *
          clear kk FS FY
          have HB3 := Lib.hid (HB2.out.trans ((hk8.below).mono HB2.out.size))
          have HO3 : Hid (w8.ownsRow W3.heap.size 41 3 (.slice (some ⟨g, 0, none⟩) (p.length + 1) cg) (p.length + 1) (rowsV edV (p ++ [e]))) := Lib.hid ((But.of_below (X := NoB) hk8.below).own HO2.out fun _ _ q => q)
          clear HB2 HO2 hk8
          have HB2 := HB3
          have HO2 := HO3
          have hcl2 : w8.cell? ⟨g, p.length * 3 + 2, none⟩ = some (.string e.2.2) := (HO2.out.cellAt _ (by omega)).trans (ed_get p e 2 _ rfl)
          have hfz2 : w8.frozen? ⟨g, p.length * 3 + 2, none⟩ = false := HO2.out.frozenAt _
          go_wp2_with fail
          go_roundw
          case rel =>
            exact ⟨i + 1, some ⟨g, 0, none⟩, _, 3, p ++ [(e.1, e.2.1, e.2.2 ++ Utf8.encode yv)], by omega, by go_num, by rw [HPN.out] <;> go_num, by first | rfl | go_num, by rw [List.length_append]; rfl, by decide, Lib.hid (EdOk.next hlt HE2.out (by rw [HMI.out]; rfl) (by first | exact Nat.le_refl _ | exact Nat.le_succ _) (HRS.out)), Lib.hid (HB2.out.setCell hBg _), Lib.hid (by
              have h := (HO2.out.stored (p.length * 3 + 2) (.string (e.2.2 ++ Utf8.encode yv))).1
              rw [ed_set p e (e.1, e.2.1, e.2.2 ++ Utf8.encode yv) 2 _ (by simp [edV])] at h
              simpa using h)⟩
          case measure => (simp [intOf]) <;> omega
        · have HLA := Lib.hid hla
          have hib : ((i : Int) == 0) = false := by rw [beq_eq_false_iff_ne]; omega
          obtain ⟨p, e, rfl⟩ := HE.out.last h0
          have HE2 := Lib.hid HE.out.same
          have HB2 := HBR
          rw [show (p ++ [e]).length = p.length + 1 by simp] at HO hll ⊢
          have HO2 := HO
          obtain ⟨g, cg, tl, hv, hBg, _, _, _, _⟩ := own_open HO2.out (by omega)
          injection hv with hv1 _ hv2
          subst hv1 hv2
          clear HE HO
          obtain ⟨w1, hw1⟩ : ∃ w1, wr = w1 := ⟨_, rfl⟩
          rw [hw1] at HB2 HO2 HBR HC ⊢
          clear hw1
          have hpl : p.length ≤ 600 := by omega
          have he1 : e.1 ≤ 600 := by have := (HE2.out.1 e (by simp)).1; omega
          have he2 : e.2.1 ≤ 600 := by have := (HE2.out.1 e (by simp)).2.1; omega
          have hcl2 : w1.cell? ⟨g, p.length * 3 + 2, none⟩ = some (.string e.2.2) := (HO2.out.cellAt _ (by omega)).trans (ed_get p e 2 _ rfl)
          have hfz2 : w1.frozen? ⟨g, p.length * 3 + 2, none⟩ = false := HO2.out.frozenAt _
          have hi1 : IntKind.i64.wrap ((p.length : Int) + 1 - 1) = (p.length : Int) := (IntWalk.i64_in _ (by omega)).trans (by omega)
          have q0 : (0 : Int) ≤ (p.length : Int) := by omega
          have q1 : (p.length : Int) < (p.length : Int) + 1 := by omega
          go_upto_region 24 with fail
          have hyw : w1.cell? ⟨gy, oy + j, none⟩ = some (.int .i32 Y[j]) := (HB2.out.cell (p := ⟨gy, oy + j, none⟩) hgy).trans HCY.out
          have j0 : (0 : Int) ≤ (j : Int) := by omega
          have j1 : (j : Int) < (Y.length : Int) := by omega
          generalize Y[j] = yv at *
          have HRS := Lib.hid (rune_add e.2.2 yv)
          have hsz9 : ¬ 9223372036854775807 < e.2.2.size + (Utf8.encode yv).size := by
            have h1 := (HE2.out.1 e (by simp)).2.2
            have h2 := rune_size yv
            omega
          have hgl : g < w1.heap.size := cell_lt18 hcl2
          have FS := Wg.cell hcl2 hgl
          have FY := Wg.cell hyw (cell_lt18 hyw)
          clear hcl2 hyw
          refine wp_region_tail_wg 12 (by kernel_rfl) (by kernel_rfl) (by kernel_rfl) (by kernel_rfl) (by kernel_rfl) ?_
          simp only [List.take_succ_cons, List.take_zero, List.drop_succ_cons, List.drop_zero]
          repeat (first
            | go_big_quiet_skip
            | (go_big_quiet_want
               (go_big_quiet_op
                first
                  | go_big_quiet_on
                  | go_big_quiet_call (first | (fail)))))
          refine wpQuiet_nil ?_
          rintro w' ⟨kk, rfl⟩
          have hk8 := kk.2
          generalize kk.val = w8 at *
          clear kk FS FY
          have HB3 := Lib.hid (HB2.out.trans ((hk8.below).mono HB2.out.size))
          have HO3 : Hid (w8.ownsRow W3.heap.size 41 3 (.slice (some ⟨g, 0, none⟩) (p.length + 1) c) (p.length + 1) (rowsV edV (p ++ [e]))) := Lib.hid ((But.of_below (X := NoB) hk8.below).own HO2.out fun _ _ q => q)
          clear HB2 HO2 hk8
          have HB2 := HB3
          have HO2 := HO3
          have hcl2 : w8.cell? ⟨g, p.length * 3 + 2, none⟩ = some (.string e.2.2) := (HO2.out.cellAt _ (by omega)).trans (ed_get p e 2 _ rfl)
          have hfz2 : w8.frozen? ⟨g, p.length * 3 + 2, none⟩ = false := HO2.out.frozenAt _
          go_wp2_with fail
          go_roundw
          case rel =>
            exact ⟨i + 1, some ⟨g, 0, none⟩, _, 3, p ++ [(e.1, e.2.1, e.2.2 ++ Utf8.encode yv)], by omega, by go_num, by rw [HPN.out] <;> go_num, by first | rfl | go_num, by rw [List.length_append]; rfl, by decide, Lib.hid (EdOk.next hlt HE2.out (by rw [HMI.out]; rfl) (by first | exact Nat.le_refl _ | exact Nat.le_succ _) (HRS.out)), Lib.hid (HB2.out.setCell hBg _), Lib.hid (by
              have h := (HO2.out.stored (p.length * 3 + 2) (.string (e.2.2 ++ Utf8.encode yv))).1
              rw [ed_set p e (e.1, e.2.1, e.2.2 ++ Utf8.encode yv) 2 _ (by simp [edV])] at h
              simpa using h)⟩
          case measure => (simp [intOf]) <;> omega
    · have hie : i = M.length := by omega
      have HIE := Lib.hid hie
      have HBF : Hid (Below w.heap.size w wr) := Lib.hid (HBW.out.trans (HBR.out.mono HBW.out.size))
      have HLL : Hid (l.length ≤ 1000) := Lib.hid (by have := HE.out.2.2.2; omega)
      have HKE : Hid (keepE l = onesN (movesS (intsN x) (intsN y))) := Lib.hid (by rw [HMD.out, HE.out.2.2.1, HIE.out, List.take_length])
      have HOF := Lib.hid (own_lower HO.out HBW.out.size)
      clear hie
      go_wp2_with fail
      go_ret2
      exact ⟨HBF.out, .inl ⟨x, y, l, A, c, HXY.out.1, HXY.out.2, rfl, HOF.out, HKE.out, HLL.out⟩⟩
theorem diff_no (a b : ByteArray) (w : World) (ha : a.size ≤ 300) (hb : b.size ≤ 300) (h : runesOf a = none ∨ runesOf b = none) : Calls Tryz.prog 27 #[.string a, .string b] w fun e w' => Below w.heap.size w w' ∧ e = .returned (.tuple #[.slice none 0 0, .int .i64 5]) :=
  (diff_bad a b w ha hb h).mono fun e w' ⟨h1, h2⟩ => by
    rcases h2 with ⟨x', y', eds, A, c, k1, k2, _⟩ | ⟨_, k⟩
    · rcases h with h | h
      · rw [h] at k1; cases k1
      · rw [h] at k2; cases k2
    · exact ⟨h1, k⟩
theorem diff_any (a b : ByteArray) (w : World) (ha : a.size ≤ 300) (hb : b.size ≤ 300) : Calls Tryz.prog 27 #[.string a, .string b] w (DiffGives a b w) := by
  cases hx : runesOf a with
  | none => exact diff_bad a b w ha hb (.inl hx)
  | some x => cases hy : runesOf b with
    | none => exact diff_bad a b w ha hb (.inr hy)
    | some y => exact diff_good a b x y w ha hb hx hy
end Go.Proofs.YtmlhijlcefogmaaGreatDoor
