/-
  What the document's Light tells. Conditions: few operations.
-/
import Derived.Test.YtdgbjhfkmembdaaGreatDoorShort0
import Derived.Test.YtdgbjhfkmembdaaGreatDoorObjReadOp
import Derived.Test.YtdgbjhfkmembdaaGreatDoorStoreM
namespace Go.Proofs.YtdgbjhfkmembdaaGreatDoor
open Go.RowKit Go.Maps
set_option linter.unusedVariables false
set_option linter.unusedSimpArgs false

/-- Is an object small enough to be gone through? -/
def textB8 (x : OpD) : Bool := !(decide (300 < x.2.2.2.1.size) && decide (x.2.2.2.1.size ≤ 4096))
def lightB (o : ObjD) : Bool := decide (o.2.1.2.2.2.length ≤ 60) && decide (o.2.1.2.1.length ≤ 100) && decide (o.2.2.1.length ≤ 100) && decide (o.2.2.2.1.length ≤ 200) && o.2.1.2.2.2.all textB8
theorem lightB_lens {o : ObjD} (h : lightB o = true) : o.2.1.2.2.2.length ≤ 60 ∧ o.2.1.2.1.length ≤ 100 ∧ o.2.2.1.length ≤ 100 ∧ o.2.2.2.1.length ≤ 200 := by
  unfold lightB at h
  simp only [Bool.and_eq_true, decide_eq_true_eq] at h
  exact ⟨h.1.1.1.1, h.1.1.1.2, h.1.1.2, h.1.2⟩
theorem lightB_no {o : ObjD} (h : ¬ (o.2.1.2.2.2.length ≤ 60 ∧ o.2.1.2.1.length ≤ 100 ∧ o.2.2.1.length ≤ 100 ∧ o.2.2.2.1.length ≤ 200)) : lightB o = false := by
  rcases Bool.eq_false_or_eq_true (lightB o) with q | q
  · exact absurd (lightB_lens q) h
  · exact q
theorem all_next {α : Type} {p : α → Bool} {l : List α} {i : Nat} (h : i < l.length) : (l.take (i + 1)).all p = ((l.take i).all p && p l[i]) := by
  rw [List.take_succ_eq_append_getElem h, List.all_append]
  simp
theorem all_stop {α : Type} {p : α → Bool} {l : List α} {i : Nat} (h : i < l.length) (hp : p l[i] = false) : l.all p = false := by
  rcases Bool.eq_false_or_eq_true (l.all p) with q | q
  · have := List.all_eq_true.1 q _ (List.getElem_mem h)
    rw [hp] at this; cases this
  · exact q
set_option maxHeartbeats 4000000 in
set_option maxRecDepth 100000 in
theorem light_any (o : ObjD) (v : Value) (w : World) (h : ObjIn w w.heap.size v o) :
    Calls Tryz.prog 34 #[v] w fun e w' => Below w.heap.size w w' ∧ e = .returned (.bool (lightB o)) := by
  obtain ⟨ok, hop, ha, ha2, hm, Ad, cd, Ao, co, Ap, cp, Ac, cc, rfl, sd, so, sp, sc⟩ := h
  obtain ⟨k, ⟨n, ds, au, os⟩, ⟨ps, cs, a2, ms, st⟩⟩ := o
  dsimp only at *
  have HSO := Lib.hid so; have HOP := Lib.hid hop
  clear ok hop ha ha2 hm sd so sp sc
  go_enter Tryz.func34, Tryz.ntmps34
  go_upto_region 1 with (first
    | (with_reducible refine at_box ?_
       refine wp_boxM (by rfl) 70 _ rfl [.int .u8 (k.toNat : Int), .int .i64 n, .slice Ad ds.length cd, .string au, .slice Ao os.length co, .slice Ap ps.length cp, .slice Ac cs.length cc, .string a2, .string ms, .int .i64 st] _ rfl rfl (by kernel_rfl) ?_
       intro W0 hb0 hy0 hs0
       have HB0 := Lib.hid hb0; have HY0 := Lib.hid hy0
       clear hb0 hy0 hs0))
  have hx0 := (qX HY0.out)
  have c4 : W0.cell? ⟨w.heap.size, 4, none⟩ = some (.slice Ao os.length co) := cells_at0 HY0.out 4
  have c2 : W0.cell? ⟨w.heap.size, 2, none⟩ = some (.slice Ad ds.length cd) := cells_at0 HY0.out 2
  have c5 : W0.cell? ⟨w.heap.size, 5, none⟩ = some (.slice Ap ps.length cp) := cells_at0 HY0.out 5
  have c6 : W0.cell? ⟨w.heap.size, 6, none⟩ = some (.slice Ac cs.length cc) := cells_at0 HY0.out 6
  try simp only [Act.put, List.setIfInBounds_toArray, List.set_cons_zero, List.set_cons_succ]
  clear HY0
  by_cases h0 : 60 < os.length
  · have d0 : decide ((60 : Int) < (os.length : Int)) = true := dT (by omega)
    have d0' : decide (60 < os.length) = true := dT (by omega)
    go_wp2_with fail
    go_ret
    exact ⟨HB0.out, by rw [lightB_no (by intro q; have q1 := q.1; have q2 := q.2.1; have q3 := q.2.2.1; have q4 := q.2.2.2; dsimp only at q1 q2 q3 q4; omega)]; rfl⟩
  have d0 : decide ((60 : Int) < (os.length : Int)) = false := dF (by omega)
  have d0' : decide (60 < os.length) = false := dF (by omega)
  by_cases h1 : 100 < ds.length
  · have d1 : decide ((100 : Int) < (ds.length : Int)) = true := dT (by omega)
    have d1' : decide (100 < ds.length) = true := dT (by omega)
    go_wp2_with fail
    go_ret
    exact ⟨HB0.out, by rw [lightB_no (by intro q; have q1 := q.1; have q2 := q.2.1; have q3 := q.2.2.1; have q4 := q.2.2.2; dsimp only at q1 q2 q3 q4; omega)]; rfl⟩
  have d1 : decide ((100 : Int) < (ds.length : Int)) = false := dF (by omega)
  have d1' : decide (100 < ds.length) = false := dF (by omega)
  by_cases h2 : 100 < ps.length
  · have d2 : decide ((100 : Int) < (ps.length : Int)) = true := dT (by omega)
    have d2' : decide (100 < ps.length) = true := dT (by omega)
    go_wp2_with fail
    go_ret
    exact ⟨HB0.out, by rw [lightB_no (by intro q; have q1 := q.1; have q2 := q.2.1; have q3 := q.2.2.1; have q4 := q.2.2.2; dsimp only at q1 q2 q3 q4; omega)]; rfl⟩
  have d2 : decide ((100 : Int) < (ps.length : Int)) = false := dF (by omega)
  have d2' : decide (100 < ps.length) = false := dF (by omega)
  by_cases h3 : 200 < cs.length
  · have d3 : decide ((200 : Int) < (cs.length : Int)) = true := dT (by omega)
    have d3' : decide (200 < cs.length) = true := dT (by omega)
    go_wp2_with fail
    go_ret
    exact ⟨HB0.out, by rw [lightB_no (by intro q; have q1 := q.1; have q2 := q.2.1; have q3 := q.2.2.1; have q4 := q.2.2.2; dsimp only at q1 q2 q3 q4; omega)]; rfl⟩
  have d3 : decide ((200 : Int) < (cs.length : Int)) = false := dF (by omega)
  have d3' : decide (200 < cs.length) = false := dF (by omega)
  have c4' := c4
  have HC4 := Lib.hid (fun (u : World) (hu : Below W0.heap.size W0 u) => (hu.cell (p := ⟨w.heap.size, 4, none⟩) hx0).trans c4')
  go_upto_region 4 with fail
  clear c4 c2 c5 c6 c4'
  go_loopw [3] (fun t wr => ∃ i : Nat, i ≤ os.length ∧ t = .int .i64 i ∧ Hid ((os.take i).all textB8 = true) ∧ Hid (Below W0.heap.size W0 wr)) (fun t _ => os.length - (intOf t).toNat)
  case atStart => exact ⟨0, by omega, rfl, Lib.hid rfl, Lib.hid (qB _ _)⟩
  case round =>
    obtain ⟨i, hi, rfl, HAL, HBR⟩ := hrel
    have HBT := Lib.hid (HB0.out.trans (HBR.out.mono (Nat.le_of_lt hx0)))
    have e4 := HC4.out wr HBR.out
    by_cases hlt : i < os.length
    · obtain ⟨b, off, rfl, hbl, hcl⟩ := (HSO.out.keep HBT.out).2 (by omega)
      have i0 : (0 : Int) ≤ (i : Int) := by omega
      have i1 : (i : Int) < (os.length : Int) := by omega
      have hrow := Sl.row (fun x hx => opV_length (HOP.out x hx)) hcl hlt
      have HX := Lib.hid (HOP.out _ (List.getElem_mem hlt))
      have HNX := Lib.hid (all_next (p := textB8) hlt)
      have HST := Lib.hid (fun h => all_stop (p := textB8) hlt h)
      generalize os[i] = x at *
      have HOC := Lib.hid (op_cells HX.out)
      have e67 : wr.cell? ⟨b, off + i * 70 + (3 + 64), none⟩ = some (.string x.2.2.2.1) := hrow 67 _ HOC.out.2.2.2.1
      have HTB : Hid (textB8 x = !(decide (300 < x.2.2.2.1.size) && decide (x.2.2.2.1.size ≤ 4096))) := Lib.hid rfl
      generalize x.2.2.2.1 = s at *
      clear hcl hbl hrow
      by_cases hs1 : 300 < s.size
      · have g1 : decide ((300 : Int) < (s.size : Int)) = true := dT (by omega)
        have g1' : decide (300 < s.size) = true := dT (by omega)
        by_cases hs2 : s.size ≤ 4096
        · have g2 : decide ((s.size : Int) ≤ 4096) = true := dT (by omega)
          have g2' : decide (s.size ≤ 4096) = true := dT (by omega)
          have HLN : Hid (lightB (k, (n, ds, au, os), (ps, cs, a2, ms, st)) = false) := Lib.hid (by unfold lightB; dsimp only; rw [HST.out (by rw [HTB.out, g1', g2']; rfl), Bool.and_false])
          go_wp2_with fail
          go_ret
          exact ⟨HBT.out, by rw [HLN.out]; rfl⟩
        · have g2 : decide ((s.size : Int) ≤ 4096) = false := dF (by omega)
          have g2' : decide (s.size ≤ 4096) = false := dF (by omega)
          have HAN := Lib.hid (show (os.take (i + 1)).all textB8 = true by rw [HNX.out, HAL.out, HTB.out, g1', g2']; rfl)
          go_wp2_with fail
          go_roundw
          case rel => exact ⟨i + 1, by omega, by go_num, HAN, HBR⟩
          case measure => simp [intOf]; omega
      · have g1 : decide ((300 : Int) < (s.size : Int)) = false := dF (by omega)
        have g1' : decide (300 < s.size) = false := dF (by omega)
        have HAN := Lib.hid (show (os.take (i + 1)).all textB8 = true by rw [HNX.out, HAL.out, HTB.out, g1']; rfl)
        go_wp2_with fail
        go_roundw
        case rel => exact ⟨i + 1, by omega, by go_num, HAN, HBR⟩
        case measure => simp [intOf]; omega
    · have i1 : ¬ (i : Int) < (os.length : Int) := by omega
      have HLY : Hid (lightB (k, (n, ds, au, os), (ps, cs, a2, ms, st)) = true) := Lib.hid (by
        have h := HAL.out
        rw [List.take_of_length_le (by omega)] at h
        unfold lightB; dsimp only
        rw [h, dT (show os.length ≤ 60 by omega), dT (show ds.length ≤ 100 by omega), dT (show ps.length ≤ 100 by omega), dT (show cs.length ≤ 200 by omega)]; rfl)
      go_wp2_with fail
      go_ret
      exact ⟨HBT.out, by rw [HLY.out]; rfl⟩
end Go.Proofs.YtdgbjhfkmembdaaGreatDoor
