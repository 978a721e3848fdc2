/-
  Two lists of hunks that are alike: Same tells so. Conditions: few hunks, few lines.
-/
import Derived.Test.YtfjmbcljohobeaaDoorRefOf23
namespace Go.Proofs.YtfjmbcljohobeaaDoor
open Go.RowKit Go.Maps Go.Shelf
set_option linter.unusedVariables false
set_option linter.unusedSimpArgs false

theorem mapL_inj : ∀ {a b : List ByteArray}, a.map L = b.map L → a = b
  | [], [], _ => rfl
  | [], _ :: _, h => by cases h
  | _ :: _, [], h => by cases h
  | x :: a, y :: b, h => by
    simp only [List.map_cons, List.cons.injEq] at h
    rw [L_inj h.1, mapL_inj h.2]
/-- Hunks that can be read: their rows, their lines. -/
def HsR (w : World) (A : Option Addr) (hs : List HkD) : Prop := Sl w w.heap.size A hs.length 3 (rowsV hkV hs) ∧ ∀ h ∈ hs, ∃ Al cl, h.2.2.1 = .slice Al h.2.2.2.length cl ∧ Sl w w.heap.size Al h.2.2.2.length 1 (strs h.2.2.2)
set_option maxHeartbeats 8000000 in
set_option maxRecDepth 100000 in
theorem same_any (hs hs2 : List HkD) (A A' : Option Addr) (c c' : Nat) (w : World) (hn : hs.length ≤ 20000) (hnl : ∀ h ∈ hs, h.2.2.2.length ≤ 16000) (he : hs.map hkOf = hs2.map hkOf) (h1 : HsR w A hs) (h2 : HsR w A' hs2) :
    Calls Tryd.prog 25 #[.slice A hs.length c, .slice A' hs2.length c'] w fun e w' => Below w.heap.size w w' ∧ e = .returned (.bool true) := by
  have hll : hs.length = hs2.length := by have := congrArg List.length he; simpa using this
  have HE := Lib.hid he; have H1 := Lib.hid h1; have H2 := Lib.hid h2; have HNL := Lib.hid hnl
  have HLL := Lib.hid hll
  obtain ⟨n2, hn2⟩ : ∃ n2, hs2.length = n2 := ⟨_, rfl⟩
  rw [hn2]
  have e2 : n2 = hs.length := by omega
  subst e2
  clear he h1 h2 hnl hll
  have bl : (((hs.length : Nat) : Int) != ((hs.length : Nat) : Int)) = false := bne_self_eq_false _
  go_enter Tryd.func25, Tryd.ntmps25
  go_wp2_with fail
  go_loopw [5] (fun t5 wr => ∃ i : Nat, i ≤ hs.length ∧ t5 = .int .i64 (i : Int) ∧ Hid (Below w.heap.size w wr)) (fun t5 _ => hs.length - (intOf t5).toNat)
  case atStart => exact ⟨0, Nat.zero_le _, rfl, Lib.hid (Below.refl _ _)⟩
  case round =>
    obtain ⟨i, hi, rfl, HBR⟩ := hrel
    by_cases hlt : i < hs.length
    · have hlt2 : i < hs2.length := by have := HLL.out; omega
      have i0 : (0 : Int) ≤ (i : Int) := by omega
      have i1 : (i : Int) < (hs.length : Int) := by omega
      obtain ⟨b1, o1, rfl, hb1, hc1⟩ := H1.out.1.2 (by omega)
      obtain ⟨b2, o2, rfl, hb2, hc2⟩ := H2.out.1.2 (by omega)
      have hr1 := Sl.row (fun h hh => hkV_len hs h hh) hc1 hlt
      have hr2 := Sl.row (fun h hh => hkV_len hs2 h hh) hc2 hlt2
      have hl1 := H1.out.2 _ (List.getElem_mem hlt)
      have hl2 := H2.out.2 _ (List.getElem_mem hlt2)
      have hnx := HNL.out _ (List.getElem_mem hlt)
      have hxy : hkOf hs[i] = hkOf hs2[i] := by
        have h := congrArg (fun l => l[i]?) HE.out
        simp only [List.getElem?_map, List.getElem?_eq_getElem hlt, List.getElem?_eq_getElem hlt2, Option.map_some] at h
        exact Option.some.inj h
      clear hc1 hc2
      generalize hs[i] = x at *
      generalize hs2[i] = y at *
      obtain ⟨f, t, lv, ls⟩ := x
      obtain ⟨f', t', lv', ls'⟩ := y
      unfold hkOf at hxy
      simp only [Prod.mk.injEq] at hxy
      obtain ⟨rfl, rfl, hls⟩ := hxy
      obtain rfl := mapL_inj hls
      obtain ⟨Al, cl, q1, hs1⟩ := hl1
      obtain ⟨Al', cl', q2, hs2'⟩ := hl2
      simp only at q1 q2 hs1 hs2' hnx
      subst q1 q2
      have hbw := HBR.out
      have hz : w.heap.size ≤ wr.heap.size := hbw.size
      have R1 := Lib.hid (fun (u : World) (hu : Below w.heap.size w u) (j : Nat) (v : Value) (hj : (hkV (f, t, .slice Al ls.length cl, ls))[j]? = some v) => (hu.cell (p := ⟨b1, o1 + i * 3 + j, none⟩) hb1).trans (hr1 j v hj))
      have R2 := Lib.hid (fun (u : World) (hu : Below w.heap.size w u) (j : Nat) (v : Value) (hj : (hkV (f, t, .slice Al' ls.length cl', ls))[j]? = some v) => (hu.cell (p := ⟨b2, o2 + i * 3 + j, none⟩) hb2).trans (hr2 j v hj))
      have HS1 := Lib.hid hs1; have HS2 := Lib.hid hs2'
      have x0 := Wg.cell (R1.out wr hbw 0 _ rfl) (by omega)
      have x1 := Wg.cell (R1.out wr hbw 1 _ rfl) (by omega)
      have x2 := Wg.cell (R1.out wr hbw 2 _ rfl) (by omega)
      have y0 := Wg.cell (R2.out wr hbw 0 _ rfl) (by omega)
      have y1 := Wg.cell (R2.out wr hbw 1 _ rfl) (by omega)
      have y2 := Wg.cell (R2.out wr hbw 2 _ rfl) (by omega)
      rw [Nat.add_zero] at x0 y0
      have bf : (((f : Nat) : Int) != ((f : Nat) : Int)) = false := bne_self_eq_false _
      have bt : (((t : Nat) : Int) != ((t : Nat) : Int)) = false := bne_self_eq_false _
      have bn : (((ls.length : Nat) : Int) != ((ls.length : Nat) : Int)) = false := bne_self_eq_false _
      clear hr1 hr2 hs1 hs2' hls
      go_upto_region 6 with fail
      refine wp_region_wr (by kernel_rfl) (by kernel_rfl) ?_
      repeat (first
        | go_big_quiet_skip
        | (go_big_quiet_want
           first
             | (go_big_quiet_op
                first
                  | go_big_quiet_on
                  | go_big_quiet_call (first | (fail)))))
      refine wpQuiet_nil ?_
      rintro w' ⟨kk, rfl⟩
      have hk8 := kk.2
      generalize kk.val = w8 at *
      clear kk
      have HB8 := Lib.hid (HBR.out.trans (hk8.below.mono hz))
      clear x0 x1 x2 y0 y1 y2 hk8
      go_wp2_with fail
      go_loopw [6] (fun t6 wr => ∃ k : Nat, k ≤ ls.length ∧ t6 = .int .i64 (k : Int) ∧ Hid (Below w.heap.size w wr)) (fun t6 _ => ls.length - (intOf t6).toNat)
      case atStart => exact ⟨0, Nat.zero_le _, rfl, HB8⟩
      case round =>
        obtain ⟨k, hk, rfl, HBK⟩ := hrel
        have c2 := R1.out wr HBK.out 2 _ rfl
        have hz9 : w.heap.size ≤ wr.heap.size := HBK.out.size
        by_cases hkl : k < ls.length
        · have k0 : (0 : Int) ≤ (k : Int) := by omega
          have k1 : (k : Int) < (ls.length : Int) := by omega
          obtain ⟨e1, p1, rfl, he1, hd1⟩ := HS1.out.2 (by omega)
          obtain ⟨e2, p2, rfl, he2, hd2⟩ := HS2.out.2 (by omega)
          have s1 := (HBK.out.cell (p := ⟨e1, p1 + k, none⟩) he1).trans (hd1 k (.string ls[k]) (by simp [strs, hkl]))
          have s2 := (HBK.out.cell (p := ⟨e2, p2 + k, none⟩) he2).trans (hd2 k (.string ls[k]) (by simp [strs, hkl]))
          generalize ls[k] = s at *
          have x2 := Wg.cell c2 (by omega)
          have y2 := Wg.cell (R2.out wr HBK.out 2 _ rfl) (by omega)
          have z1 := Wg.cell s1 (by omega)
          have z2 := Wg.cell s2 (by omega)
          have tb : (!(s.toList == s.toList)) = false := by rw [beq_self_eq_true]; rfl
          clear hd1 hd2 s1 s2
          go_upto_region 11 with fail
          refine wp_region_wr (by kernel_rfl) (by kernel_rfl) ?_
          repeat (first
            | go_big_quiet_skip
            | (go_big_quiet_want
               first
                 | (go_big_quiet_op
                    first
                      | go_big_quiet_on
                      | go_big_quiet_call (first | (fail)))))
          refine wpQuiet_nil ?_
          rintro w' ⟨kk, rfl⟩
          have hk9 := kk.2
          generalize kk.val = w9 at *
          clear kk
          have HB9 := Lib.hid (HBK.out.trans (hk9.below.mono hz9))
          clear x2 y2 z1 z2 hk9
          go_wp2_with fail
          go_roundw
          case rel => exact ⟨k + 1, by omega, by go_num, HB9⟩
          case measure => (simp [intOf]) <;> omega
        · have k1 : ¬ (k : Int) < (ls.length : Int) := by omega
          go_wp2_with fail
          go_roundw
          case rel => exact ⟨i + 1, by omega, by go_num, HBK⟩
          case measure => (simp [intOf]) <;> omega
    · have i1 : ¬ (i : Int) < (hs.length : Int) := by omega
      go_wp2_with fail
      go_ret
      exact ⟨HBR.out, rfl⟩
end Go.Proofs.YtfjmbcljohobeaaDoor
