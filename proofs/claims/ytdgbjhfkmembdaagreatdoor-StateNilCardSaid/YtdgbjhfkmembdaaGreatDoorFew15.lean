/-
  Are changes few, and small? As the law of chapter 15 asks it. Conditions: the changes lie in memory as they came.
-/
import Derived.Test.YtdgbjhfkmembdaaGreatDoorStateAdd
namespace Go.Proofs.YtdgbjhfkmembdaaGreatDoor
open Go.RowKit Go.Maps
set_option linter.unusedVariables false
set_option linter.unusedSimpArgs false

/-- A change, and where its slices lie. -/
abbrev ChM := ChangeD × (Option Addr × Nat × Option Addr × Nat)
def chV (x : ChM) : List Value := chC x.1.1 x.2.1 x.1.2.1.length x.2.2.1 x.1.2.2.1 x.2.2.2.1 x.1.2.2.2.length x.2.2.2.2
theorem chV_length (x : ChM) : (chV x).length = 4 := rfl
structure ChMIn (w : World) (B : Nat) (x : ChM) : Prop where
  ok : ChangeOk x.1
  ops : ∀ y ∈ x.1.2.2.2, OpIn y
  author : x.1.2.2.1.size ≤ maxLen
  sd : Sl w B x.2.1 x.1.2.1.length 32 (idsV x.1.2.1)
  so : Sl w B x.2.2.2.1 x.1.2.2.2.length 70 (rowsV opV x.1.2.2.2)
  ld : x.1.2.1.length ≤ maxLen
  lo : x.1.2.2.2.length ≤ maxLen
structure ChsIn (w : World) (B : Nat) (A : Option Addr) (l : List ChM) : Prop where
  sl : Sl w B A l.length 4 (rowsV chV l)
  each : ∀ x ∈ l, ChMIn w B x
  len : l.length ≤ maxLen
theorem ChMIn.keep {w w' : World} {B : Nat} {x : ChM} (h : ChMIn w B x) (hb : Below B w w') : ChMIn w' B x := ⟨h.ok, h.ops, h.author, h.sd.keep hb, h.so.keep hb, h.ld, h.lo⟩
theorem ChsIn.keep {w w' : World} {B : Nat} {A : Option Addr} {l : List ChM} (h : ChsIn w B A l) (hb : Below B w w') : ChsIn w' B A l := ⟨h.sl.keep hb, fun x hx => (h.each x hx).keep hb, h.len⟩
def szOps (l : List OpD) : Nat := (l.map fun x => 1 + x.2.2.2.1.size).sum
def szChs (l : List ChM) : Nat := (l.map fun x => szOps x.1.2.2.2).sum
theorem szOps_snoc {l : List OpD} {j : Nat} (h : j < l.length) : szOps (l.take (j + 1)) = szOps (l.take j) + (1 + l[j].2.2.2.1.size) := by
  unfold szOps
  rw [List.take_succ_eq_append_getElem h, List.map_append, List.sum_append]
  simp
theorem szChs_snoc {l : List ChM} {i : Nat} (h : i < l.length) : szChs (l.take (i + 1)) = szChs (l.take i) + szOps l[i].1.2.2.2 := by
  unfold szChs
  rw [List.take_succ_eq_append_getElem h, List.map_append, List.sum_append]
  simp
theorem szOps_le (l : List OpD) (j : Nat) : szOps (l.take j) ≤ szOps l := by
  have h : szOps l = szOps (l.take j) + szOps (l.drop j) := by
    unfold szOps
    rw [← List.sum_append, ← List.map_append, List.take_append_drop]
  omega
theorem szChs_le (l : List ChM) (i : Nat) : szChs (l.take i) ≤ szChs l := by
  have h : szChs l = szChs (l.take i) + szChs (l.drop i) := by
    unfold szChs
    rw [← List.sum_append, ← List.map_append, List.take_append_drop]
  omega
set_option maxHeartbeats 4000000 in
set_option maxRecDepth 100000 in
theorem size15_any (l : List ChM) (A : Option Addr) (c : Nat) (w : World) (h : ChsIn w w.heap.size A l) (hs : ∀ x ∈ l, ∀ y ∈ x.1.2.2.2, y.2.2.2.1.size ≤ 1099511627776) :
    Calls Tryz.prog 33 #[.slice A l.length c, .int .i64 200] w fun e w' => w = w' ∧ ∃ n : Nat, e = .returned (.int .i64 (n : Int)) ∧ (200 < n ↔ 200 < szChs l) := by
  have hlen := h.len
  unfold maxLen at hlen
  have H := Lib.hid h; have HSZ := Lib.hid hs
  clear h hs
  go_enter Tryz.func33, Tryz.ntmps33
  go_wp2_with fail
  go_loop [5, 6] (fun t5 t6 => ∃ (n i : Nat), i ≤ l.length ∧ n ≤ 1125899906842624 ∧ t5 = .int .i64 (n : Int) ∧ t6 = .int .i64 (i : Int) ∧ Hid (n = szChs (l.take i) ∨ (200 < n ∧ 200 < szChs l))) (fun _ t6 => l.length - (intOf t6).toNat)
  case atStart => exact ⟨0, 0, Nat.zero_le _, by decide, rfl, rfl, Lib.hid (.inl rfl)⟩
  case round =>
    obtain ⟨n, i, hi, hn, rfl, rfl, HN⟩ := hrel
    by_cases hlt : i < l.length
    · have i0 : (0 : Int) ≤ (i : Int) := by omega
      have i1 : (i : Int) < (l.length : Int) := by omega
      have d1 : decide ((i : Int) < (l.length : Int)) = true := dT i1
      have d1' : decide (i < l.length) = true := dT hlt
      by_cases hle : n ≤ 200
      · have d2 : decide ((n : Int) ≤ 200) = true := dT (by omega)
        have d2' : decide (n ≤ 200) = true := dT hle
        obtain ⟨b, off, rfl, hbl, hcl⟩ := H.out.sl.2 (by omega)
        have hrow := Sl.row (fun x _ => chV_length x) hcl hlt
        have HX := Lib.hid (H.out.each _ (List.getElem_mem hlt)); have HXS := Lib.hid (HSZ.out _ (List.getElem_mem hlt))
        have HSN := Lib.hid (szChs_snoc hlt)
        have HNE : Hid (n = szChs (l.take i)) := Lib.hid (HN.out.elim id fun q => absurd q.1 (by omega))
        have HTL := Lib.hid (szChs_le l (i + 1))
        generalize l[i] = x at *
        have e3 : w.cell? ⟨b, off + i * 4 + 3, none⟩ = some (.slice x.2.2.2.1 x.1.2.2.2.length x.2.2.2.2) := hrow 3 _ rfl
        have hlo := HX.out.lo
        unfold maxLen at hlo
        have HSO := Lib.hid HX.out.so
        have HOP := Lib.hid HX.out.ops
        clear hrow hcl HN
        generalize x.2.2.2.1 = Ao at *
        generalize x.2.2.2.2 = co at *
        generalize x.1.2.2.2 = os at *
        go_upto_region 6 with fail
        go_loop [5, 7] (fun t5 t7 => ∃ (m j : Nat), j ≤ os.length ∧ m ≤ 1125899906842624 ∧ t5 = .int .i64 (m : Int) ∧ t7 = .int .i64 (j : Int) ∧ Hid (m = szChs (l.take i) + szOps (os.take j))) (fun _ t7 => os.length - (intOf t7).toNat)
        case atStart => exact ⟨n, 0, Nat.zero_le _, hn, rfl, rfl, Lib.hid (by rw [HNE.out]; simp [szOps])⟩
        case round =>
          obtain ⟨m, j, hj, hm, rfl, rfl, HM⟩ := hrel
          by_cases hlj : j < os.length
          · have j0 : (0 : Int) ≤ (j : Int) := by omega
            have j1 : (j : Int) < (os.length : Int) := by omega
            have d3 : decide ((j : Int) < (os.length : Int)) = true := dT j1
            have d3' : decide (j < os.length) = true := dT hlj
            by_cases hlm : m ≤ 200
            · have d4 : decide ((m : Int) ≤ 200) = true := dT (by omega)
              have d4' : decide (m ≤ 200) = true := dT hlm
              obtain ⟨bo, oo, rfl, hbo, hco⟩ := HSO.out.2 (by omega)
              have hro := Sl.row (fun x hx => opV_length (HOP.out x hx)) hco hlj
              have HY := Lib.hid (HOP.out _ (List.getElem_mem hlj)); have HYS := Lib.hid (HXS.out _ (List.getElem_mem hlj))
              have HSJ := Lib.hid (szOps_snoc hlj)
              generalize os[j] = y at *
              have HOC := Lib.hid (op_cells HY.out)
              have e67 : w.cell? ⟨bo, oo + j * 70 + (3 + 64), none⟩ = some (.string y.2.2.2.1) := hro 67 _ HOC.out.2.2.2.1
              have hys := HYS.out
              generalize y.2.2.2.1 = t at *
              clear hco hro
              go_wp2_with fail
              go_round
              case rel => exact ⟨m + (1 + t.size), j + 1, by omega, by omega, by go_num, by go_num, Lib.hid (by rw [HSJ.out, HM.out]; omega)⟩
              case measure => (simp [intOf]) <;> omega
            · have d4 : decide ((m : Int) ≤ 200) = false := dF (by omega)
              have d4' : decide (m ≤ 200) = false := dF hlm
              have HOV : Hid (200 < m ∧ 200 < szChs l) := Lib.hid ⟨by omega, by
                have h1 := HTL.out
                have h2 := szOps_le os j
                rw [HSN.out] at h1
                have h3 := HM.out
                omega⟩
              go_wp2_with fail
              go_round
              case rel => exact ⟨m, i + 1, by omega, hm, by go_num, by go_num, Lib.hid (.inr HOV.out)⟩
              case measure => (simp [intOf]) <;> omega
          · have d3 : decide ((j : Int) < (os.length : Int)) = false := dF (by omega)
            have d3' : decide (j < os.length) = false := dF hlj
            have HEQ : Hid (m = szChs (l.take (i + 1))) := Lib.hid (by rw [HSN.out, HM.out, List.take_of_length_le (show os.length ≤ j by omega)])
            go_wp2_with fail
            go_round
            case rel => exact ⟨m, i + 1, by omega, hm, by go_num, by go_num, Lib.hid (.inl HEQ.out)⟩
            case measure => (simp [intOf]) <;> omega
      · have d2 : decide ((n : Int) ≤ 200) = false := dF (by omega)
        have d2' : decide (n ≤ 200) = false := dF hle
        have HIF : Hid (200 < n ↔ 200 < szChs l) := Lib.hid ⟨fun _ => HN.out.elim (fun q => by have := szChs_le l i; omega) (·.2), fun _ => by omega⟩
        go_wp2_with fail
        go_ret
        exact ⟨rfl, n, rfl, HIF.out⟩
    · have d1 : decide ((i : Int) < (l.length : Int)) = false := dF (by omega)
      have d1' : decide (i < l.length) = false := dF hlt
      have HIF : Hid (200 < n ↔ 200 < szChs l) := Lib.hid (HN.out.elim (fun q => by rw [q, List.take_of_length_le (by omega)]) fun q => ⟨fun _ => q.2, fun _ => q.1⟩)
      go_wp2_with fail
      go_ret
      exact ⟨rfl, n, rfl, HIF.out⟩
set_option maxHeartbeats 4000000 in
set_option maxRecDepth 100000 in
/-- Whatever the sizes. -/
theorem size15_some (l : List ChM) (A : Option Addr) (c : Nat) (w : World) (h : ChsIn w w.heap.size A l) :
    Calls Tryz.prog 33 #[.slice A l.length c, .int .i64 200] w fun e w' => w = w' ∧ ∃ n : Int, e = .returned (.int .i64 n) := by
  have hlen := h.len
  unfold maxLen at hlen
  have H := Lib.hid h
  clear h
  go_enter Tryz.func33, Tryz.ntmps33
  go_wp2_with fail
  go_loop [5, 6] (fun t5 t6 => ∃ (n : Int) (i : Nat), i ≤ l.length ∧ t5 = .int .i64 n ∧ t6 = .int .i64 (i : Int)) (fun _ t6 => l.length - (intOf t6).toNat)
  case atStart => exact ⟨0, 0, Nat.zero_le _, rfl, rfl⟩
  case round =>
    obtain ⟨n, i, hi, rfl, rfl⟩ := hrel
    by_cases hlt : i < l.length
    · have i0 : (0 : Int) ≤ (i : Int) := by omega
      have i1 : (i : Int) < (l.length : Int) := by omega
      have d1 : decide ((i : Int) < (l.length : Int)) = true := dT i1
      have d1' : decide (i < l.length) = true := dT hlt
      by_cases hle : n ≤ 200
      · have d2 : decide (n ≤ 200) = true := dT (by omega)
        obtain ⟨b, off, rfl, hbl, hcl⟩ := H.out.sl.2 (by omega)
        have hrow := Sl.row (fun x _ => chV_length x) hcl hlt
        have HX := Lib.hid (H.out.each _ (List.getElem_mem hlt))
        generalize l[i] = x at *
        have e3 : w.cell? ⟨b, off + i * 4 + 3, none⟩ = some (.slice x.2.2.2.1 x.1.2.2.2.length x.2.2.2.2) := hrow 3 _ rfl
        have hlo := HX.out.lo
        unfold maxLen at hlo
        have HSO := Lib.hid HX.out.so
        have HOP := Lib.hid HX.out.ops
        clear hrow hcl
        generalize x.2.2.2.1 = Ao at *
        generalize x.2.2.2.2 = co at *
        generalize x.1.2.2.2 = os at *
        go_upto_region 6 with fail
        go_loop [5, 7] (fun t5 t7 => ∃ (m : Int) (j : Nat), j ≤ os.length ∧ t5 = .int .i64 m ∧ t7 = .int .i64 (j : Int)) (fun _ t7 => os.length - (intOf t7).toNat)
        case atStart => exact ⟨n, 0, Nat.zero_le _, rfl, rfl⟩
        case round =>
          obtain ⟨m, j, hj, rfl, rfl⟩ := hrel
          by_cases hlj : j < os.length
          · have j0 : (0 : Int) ≤ (j : Int) := by omega
            have j1 : (j : Int) < (os.length : Int) := by omega
            have d3 : decide ((j : Int) < (os.length : Int)) = true := dT j1
            have d3' : decide (j < os.length) = true := dT hlj
            by_cases hlm : m ≤ 200
            · have d4 : decide (m ≤ 200) = true := dT (by omega)
              obtain ⟨bo, oo, rfl, hbo, hco⟩ := HSO.out.2 (by omega)
              have hro := Sl.row (fun x hx => opV_length (HOP.out x hx)) hco hlj
              have HY := Lib.hid (HOP.out _ (List.getElem_mem hlj))
              generalize os[j] = y at *
              have HOC := Lib.hid (op_cells HY.out)
              have e67 : w.cell? ⟨bo, oo + j * 70 + (3 + 64), none⟩ = some (.string y.2.2.2.1) := hro 67 _ HOC.out.2.2.2.1
              generalize y.2.2.2.1 = t at *
              clear hco hro
              go_wp2_with fail
              go_round
              case rel => exact ⟨_, j + 1, by omega, rfl, by go_num⟩
              case measure => (simp [intOf]) <;> omega
            · have d4 : decide (m ≤ 200) = false := dF (by omega)
              go_wp2_with fail
              go_round
              case rel => exact ⟨m, i + 1, by omega, rfl, by go_num⟩
              case measure => (simp [intOf]) <;> omega
          · have d3 : decide ((j : Int) < (os.length : Int)) = false := dF (by omega)
            have d3' : decide (j < os.length) = false := dF hlj
            go_wp2_with fail
            go_round
            case rel => exact ⟨m, i + 1, by omega, rfl, by go_num⟩
            case measure => (simp [intOf]) <;> omega
      · have d2 : decide (n ≤ 200) = false := dF (by omega)
        go_wp2_with fail
        go_ret
        exact ⟨rfl, n, rfl⟩
    · have d1 : decide ((i : Int) < (l.length : Int)) = false := dF (by omega)
      have d1' : decide (i < l.length) = false := dF hlt
      go_wp2_with fail
      go_ret
      exact ⟨rfl, n, rfl⟩
/-- Few and small. -/
def lightC (x : ChM) : Bool := lightB (0, x.1, noCommitD)
/-- What few gives where the size is one of P's. -/
def FewIs (P : Int → Prop) (l : List ChM) (most : Nat) (b : Bool) : Prop := (b = true → l.length ≤ most ∧ (∃ n, P n ∧ n ≤ 200) ∧ l.all lightC = true) ∧ (b = false → l.length ≤ most → l.all lightC = true → ∃ n, P n ∧ 200 < n)
def obC0 (x : ChM) : List Value := .int .u8 0 :: (chV x ++ [.slice none 0 0, .slice none 0 0, .string noneS, .string noneS, .int .i64 0])
theorem obj0_built (x : ChM) (w : World) : (Instr.build 70 #[(1, .agg (chV x).toArray)]).run Tryz.prog w = .ok (.agg (obC0 x).toArray) w := by kernel_rfl
theorem obj0_in {w : World} {B : Nat} {x : ChM} (h : ChMIn w B x) : ObjIn w B (.agg (obC0 x).toArray) (0, x.1, noCommitD) :=
  ⟨⟨h.ok, (fun x hx => by cases hx), (fun x hx => by cases hx), (by decide : (Lit.int .i64 0).wf = true)⟩, h.ops, h.author, (by show (0 : Nat) ≤ maxLen; omega), (by show (0 : Nat) ≤ maxLen; omega), x.2.1, x.2.2.1, x.2.2.2.1, x.2.2.2.2, none, 0, none, 0, rfl, h.sd, h.so, Sl.nil, Sl.nil⟩
set_option maxHeartbeats 4000000 in
set_option maxRecDepth 100000 in
theorem few15_core (P : Int → Prop) (l : List ChM) (A : Option Addr) (c most : Nat) (w : World) (h : ChsIn w w.heap.size A l) (hm : most ≤ 1000)
    (hs : Calls Tryz.prog 33 #[.slice A l.length c, .int .i64 200] w fun e w' => w = w' ∧ ∃ n, e = .returned (.int .i64 n) ∧ P n) :
    Calls Tryz.prog 9 #[.slice A l.length c, .int .i64 (most : Int)] w fun e w' => Below w.heap.size w w' ∧ ∃ b, e = .returned (.bool b) ∧ FewIs P l most b := by
  have hlen := h.len
  unfold maxLen at hlen
  have H := Lib.hid h; have HSZ := Lib.hid hs
  clear h hs
  by_cases h0 : most < l.length
  · have d0 : decide ((most : Int) < (l.length : Int)) = true := dT (by omega)
    have d0' : decide (most < l.length) = true := dT h0
    go_enter Tryz.func9, Tryz.ntmps9
    go_wp2_with fail
    go_ret
    exact ⟨qB _ _, _, rfl, ⟨(fun h => by cases h), fun _ h => absurd h (by omega)⟩⟩
  · have d0 : decide ((most : Int) < (l.length : Int)) = false := dF (by omega)
    have d0' : decide (most < l.length) = false := dF h0
    clear hm
    go_enter Tryz.func9, Tryz.ntmps9
    go_wp2_with fail
    go_at_call 33
    refine HSZ.out.mono ?_
    rintro e W1 ⟨rfl, n, rfl, hP⟩
    have HP := Lib.hid hP
    clear hP
    by_cases h1 : 200 < n
    · have d1 : decide ((200 : Int) < n) = true := dT h1
      go_wp2_with fail
      go_ret
      exact ⟨qB _ _, _, rfl, ⟨(fun h => by cases h), fun _ _ _ => ⟨n, HP.out, h1⟩⟩⟩
    · have d1 : decide ((200 : Int) < n) = false := dF h1
      have HN : Hid (n ≤ 200) := Lib.hid (by omega)
      clear h1
      go_upto_region 4 with fail
      go_loopw [5] (fun t5 wr => ∃ i : Nat, i ≤ l.length ∧ t5 = .int .i64 (i : Int) ∧ Hid (Below w.heap.size w wr) ∧ Hid ((l.take i).all lightC = true)) (fun t5 _ => l.length - (intOf t5).toNat)
      case atStart => exact ⟨0, Nat.zero_le _, rfl, Lib.hid (qB _ _), Lib.hid rfl⟩
      case round =>
        obtain ⟨i, hi, rfl, HBR, HAL⟩ := hrel
        by_cases hlt : i < l.length
        · have i0 : (0 : Int) ≤ (i : Int) := by omega
          have i1 : (i : Int) < (l.length : Int) := by omega
          have HK := Lib.hid (H.out.keep HBR.out)
          obtain ⟨b, off, rfl, hbl, hcl⟩ := HK.out.sl.2 (by omega)
          have hrow := Sl.row (fun x _ => chV_length x) hcl hlt
          have HX := Lib.hid (HK.out.each _ (List.getElem_mem hlt))
          have HNX := Lib.hid (all_next (p := lightC) hlt)
          have HST := Lib.hid (fun h => all_stop (p := lightC) hlt h)
          generalize l[i] = x at *
          have HRW := Lib.hid (show wr.rangeAt b (off + i * 4) (chV x) from fun j u hj => hrow j u hj)
          have HLT := Lib.hid (light_any (0, x.1, noCommitD) _ wr ((obj0_in HX.out).more HBR.out.size))
          clear hrow hcl
          cases hlx : lightC x
          · have HLX : Hid (lightB (0, x.1, noCommitD) = false) := Lib.hid hlx
            have HBN : Hid (l.all lightC = false) := Lib.hid (HST.out hlx)
            clear hlx
            go_wp2_with (first
              | (with_reducible refine at_load ?_
                 refine wp_loadN rfl 37 _ rfl b _ rfl (chV x) _ HRW.out Tryz.underlying37 rfl (by kernel_rfl) ?_)
              | (with_reducible refine at_build ?_
                 refine wp_val (by rfl) (ex_build 70 _ rfl (by simp only [List.map_toArray, List.map_cons, List.map_nil]; exact obj0_built x _)) ?_)
              | (go_at_call 34; refine HLT.out.mono ?_; rintro e W2 ⟨hb2, rfl⟩
                 rw [HLX.out]
                 have HB2 := Lib.hid (HBR.out.trans (hb2.mono HBR.out.size))
                 clear hb2))
            go_ret
            exact ⟨HB2.out, _, rfl, ⟨(fun h => by cases h), fun _ _ h => by rw [HBN.out] at h; cases h⟩⟩
          · have HLX : Hid (lightB (0, x.1, noCommitD) = true) := Lib.hid hlx
            have HAN := Lib.hid (show (l.take (i + 1)).all lightC = true by rw [HNX.out, HAL.out, hlx]; rfl)
            clear hlx
            go_wp2_with (first
              | (with_reducible refine at_load ?_
                 refine wp_loadN rfl 37 _ rfl b _ rfl (chV x) _ HRW.out Tryz.underlying37 rfl (by kernel_rfl) ?_)
              | (with_reducible refine at_build ?_
                 refine wp_val (by rfl) (ex_build 70 _ rfl (by simp only [List.map_toArray, List.map_cons, List.map_nil]; exact obj0_built x _)) ?_)
              | (go_at_call 34; refine HLT.out.mono ?_; rintro e W2 ⟨hb2, rfl⟩
                 rw [HLX.out]
                 have HB2 := Lib.hid (HBR.out.trans (hb2.mono HBR.out.size))
                 clear hb2))
            go_roundw
            case rel => exact ⟨i + 1, by omega, by go_num, HB2, HAN⟩
            case measure => (simp [intOf]) <;> omega
        · have HFY : Hid (l.all lightC = true) := Lib.hid (by
            have h := HAL.out
            rw [List.take_of_length_le (show l.length ≤ i by omega)] at h
            exact h)
          go_wp2_with fail
          go_ret
          exact ⟨HBR.out, _, rfl, ⟨(fun _ => ⟨by omega, ⟨n, HP.out, HN.out⟩, HFY.out⟩), fun h => by cases h⟩⟩
/-- Whatever the sizes. -/
theorem few15_some (l : List ChM) (A : Option Addr) (c most : Nat) (w : World) (h : ChsIn w w.heap.size A l) (hm : most ≤ 1000) :
    Calls Tryz.prog 9 #[.slice A l.length c, .int .i64 (most : Int)] w fun e w' => Below w.heap.size w w' ∧ ∃ b, e = .returned (.bool b) ∧ (b = true → l.length ≤ most ∧ l.all lightC = true) :=
  (few15_core (fun _ => True) l A c most w h hm ((size15_some l A c w h).mono fun e w' ⟨h1, n, h2⟩ => ⟨h1, n, h2, trivial⟩)).mono fun e w' ⟨h1, b, h2, h3⟩ => ⟨h1, b, h2, fun hb => ⟨(h3.1 hb).1, (h3.1 hb).2.2⟩⟩
end Go.Proofs.YtdgbjhfkmembdaaGreatDoor
