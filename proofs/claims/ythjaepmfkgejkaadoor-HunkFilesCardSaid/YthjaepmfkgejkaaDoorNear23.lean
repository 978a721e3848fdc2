/-
  What hunk's near gives: which moves belong to hunks. Conditions: at most 100000 moves.
-/
import Derived.Test.YthjaepmfkgejkaaDoorMerged2
namespace Go.Proofs.YthjaepmfkgejkaaDoor
open Go.RowKit Go.Maps Go.Shelf
set_option linter.unusedVariables false
set_option linter.unusedSimpArgs false

def u8V (l : List Nat) : List Value := l.map fun x : Nat => .int .u8 (x : Int)
def nearTo (l : List Nat) (i k : Nat) : Bool := (List.range i).any fun j => decide (l.getD j 1 ≠ 1) && decide (j ≤ k + 3) && decide (k ≤ j + 3)
/-- Does a move belong to a hunk? -/
def nearS (l : List Nat) (k : Nat) : Bool := nearTo l l.length k
theorem nearTo_succ (l : List Nat) (i k : Nat) : nearTo l (i + 1) k = (nearTo l i k || (decide (l.getD i 1 ≠ 1) && decide (i ≤ k + 3) && decide (k ≤ i + 3))) := by
  unfold nearTo
  rw [List.range_succ, List.any_append]
  simp
def boolsV (n : Nat) (f : Nat → Bool) : List Value := (List.range n).map fun j => .bool (f j)
theorem boolsV_set (n k : Nat) (f : Nat → Bool) (b : Bool) (hk : k < n) : (boolsV n f).set k (.bool b) = boolsV n fun j => if j = k then b else f j := by
  apply List.ext_getElem
  · simp [boolsV]
  · intro j h1 h2
    simp [boolsV] at h2
    simp only [boolsV, List.getElem_set, List.getElem_map, List.getElem_range]
    by_cases e : k = j
    · rw [if_pos e, if_pos e.symm]
    · rw [if_neg e, if_neg (fun q => e q.symm)]
theorem boolsV_get (n k : Nat) (f : Nat → Bool) (hk : k < n) : (boolsV n f)[k]? = some (.bool (f k)) := by simp [boolsV, hk]
theorem boolInfo : (Tryd.prog.info? 4).map (fun i => (i.zero, i.size, i.bytes)) = some (some (.bool false), 1, 1) := by kernel_rfl
set_option maxHeartbeats 4000000 in
set_option maxRecDepth 100000 in
theorem near_any (l : List Nat) (A : Option Addr) (c : Nat) (w : World) (hl : l.length ≤ 100000) (hsl : Sl w w.heap.size A l.length 1 (u8V l)) :
    Calls Tryd.prog 71 #[.slice A l.length c] w fun e w' => Below w.heap.size w w' ∧ ∃ A' c', e = .returned (.slice A' l.length c') ∧ Sl w' w'.heap.size A' l.length 1 (boolsV l.length (nearS l)) := by
  have HSL := Lib.hid hsl
  clear hsl
  obtain ⟨im, hmi, hm0, hm1, hm2⟩ := info_parts boolInfo
  go_enter Tryd.func71, Tryd.ntmps71
  go_wp2_with (refine wpList_make_full w rfl _ _ 136 rfl w.heap.size 4 im (.bool false) 1 Tryd.underlying136 hmi hm0 hm1 .i64 .i64 _ _ l.length rfl rfl rfl rfl (by rw [hm2]; omega) (by unfold maxLen; omega) (Nat.le_refl _) ?_; intro w1 hown1 hg1)
  have hb1 : Below w.heap.size w w1 := (Below.refl _ _).grown hg1 (Nat.le_refl _) (fun k e => by cases e)
  have hini : (madeCells (Value.bool false).cells (l.length * 1)).toList = boolsV l.length (nearTo l 0) := by
    rw [Nat.mul_one]
    refine (toList_madeCells_one _ _).trans ?_
    unfold boolsV nearTo
    simp
    exact List.ext_getElem (by simp) (by simp)
  rw [hini] at hown1
  have HO1 := Lib.hid hown1; have HB1 := Lib.hid hb1
  clear hini hown1 hg1 hb1
  go_loopw [12] (fun t wr => ∃ i : Nat, i ≤ l.length ∧ t = .int .i64 i ∧ Below w.heap.size w wr ∧ Hid (wr.ownsRow w.heap.size 4 1 (.slice (some ⟨w.heap.size, 0, none⟩) l.length l.length) l.length (boolsV l.length (nearTo l i)))) (fun t _ => l.length - (intOf t).toNat)
  case atStart => exact ⟨0, Nat.zero_le _, rfl, HB1.out, HO1⟩
  case round =>
    obtain ⟨i, hi, rfl, hbr, hO⟩ := hrel
    by_cases hlt : i < l.length
    · obtain ⟨b, off, rfl, hbl, hcl⟩ := HSL.out.2 (by omega)
      have i0 : (0 : Int) ≤ (i : Int) := by omega
      have i1 : (i : Int) < (l.length : Int) := by omega
      have hc := (hbr.cell (p := ⟨b, off + i, none⟩) hbl).trans (hcl i (.int .u8 ((l[i] : Nat) : Int)) (by simp [u8V, hlt]))
      have hgd : l.getD i 1 = l[i] := by rw [List.getD_eq_getElem?_getD, List.getElem?_eq_getElem hlt]; rfl
      have hstep := nearTo_succ l i
      rw [hgd] at hstep
      have HST := Lib.hid hstep
      have HBR := Lib.hid hbr
      clear hcl hgd hstep hbr
      generalize l[i] = x at *
      by_cases hx : x = 1
      · have hxb : ((x : Int) == 1) = true := by rw [hx]; rfl
        have hsame : nearTo l (i + 1) = nearTo l i := funext fun k => by rw [HST.out, hx]; simp
        have HS := Lib.hid hsame
        clear hsame hx
        go_wp2_with fail
        go_roundw
        case rel => exact ⟨i + 1, by omega, by go_num, HBR.out, by rw [HS.out]; exact hO⟩
        case measure => simp [intOf]; omega
      · have hxb : ((x : Int) == 1) = false := by rw [beq_eq_false_iff_ne]; omega
        have e1 : IntKind.i64.wrap ((i : Int) - 3) = (i : Int) - 3 := IntWalk.i64_in _ (by omega)
        have hmax : max ((i : Int) - 3) 0 = ((i - 3 : Nat) : Int) := by omega
        have HX := Lib.hid hx
        obtain ⟨lo, hlo⟩ : ∃ lo, i - 3 = lo := ⟨_, rfl⟩
        rw [hlo] at hmax
        obtain ⟨hi', hhi⟩ : ∃ hi' : Nat, min (i + 3) (l.length - 1) = hi' := ⟨_, rfl⟩
        have e2 : IntKind.i64.wrap ((i : Int) + 3) = (i : Int) + 3 := IntWalk.i64_in _ (by omega)
        have e3 : IntKind.i64.wrap ((l.length : Int) - 1) = (l.length : Int) - 1 := IntWalk.i64_in _ (by omega)
        have hmin : min ((i : Int) + 3) ((l.length : Int) - 1) = (hi' : Int) := by omega
        have hlh : lo ≤ hi' + 1 := by omega
        have hhl : hi' < l.length := by omega
        have HLO := Lib.hid hlo; have HHI := Lib.hid hhi
        clear hx hlo hhi
        obtain ⟨wo, hwo⟩ : ∃ wo : World, wo = wr := ⟨_, rfl⟩
        subst hwo
        go_wp2_with fail
        go_loopw [6] (fun t wr => ∃ k : Nat, lo ≤ k ∧ k ≤ hi' + 1 ∧ t = .int .i64 k ∧ Below w.heap.size w wr ∧ Hid (wr.ownsRow w.heap.size 4 1 (.slice (some ⟨w.heap.size, 0, none⟩) l.length l.length) l.length (boolsV l.length fun j => nearTo l i j || (decide (lo ≤ j) && decide (j < k))))) (fun t _ => hi' + 1 - (intOf t).toNat)
        case atStart =>
          refine ⟨lo, Nat.le_refl _, hlh, rfl, HBR.out, ?_⟩
          have hf : (fun j => nearTo l i j || (decide (lo ≤ j) && decide (j < lo))) = nearTo l i := funext fun j => by
            have : (decide (lo ≤ j) && decide (j < lo)) = false := by rw [Bool.and_eq_false_iff, decide_eq_false_iff_not, decide_eq_false_iff_not]; omega
            rw [this, Bool.or_false]
          rw [hf]
          exact hO
        case round =>
          obtain ⟨k, hk1, hk2, rfl, hbq, hOK⟩ := hrel
          by_cases hkh : k ≤ hi'
          · have hkl : k < l.length := by omega
            have k0 : (0 : Int) ≤ (k : Int) := by omega
            have k1 : (k : Int) < (l.length : Int) := by omega
            have k2 : (k : Int) ≤ (hi' : Int) := by omega
            have co := (hOK.out.cellAt k (by omega)).trans (boolsV_get l.length k _ hkl)
            have fo := hOK.out.frozenAt k
            have HBQ := Lib.hid hbq
            clear hbq
            go_wp2_with fail
            obtain ⟨hO2, _⟩ := hOK.out.stored k (.bool true)
            rw [boolsV_set _ _ _ _ hkl] at hO2
            have hb2 : Below w.heap.size w (wr.setCell ⟨w.heap.size, k, none⟩ (.bool true)) := HBQ.out.setCell (Nat.le_refl _) _
            go_roundw
            case rel =>
              refine ⟨k + 1, by omega, by omega, by go_num, hb2, Lib.hid ?_⟩
              have hf : (fun j => nearTo l i j || (decide (lo ≤ j) && decide (j < k + 1))) = fun j => if j = k then true else (nearTo l i j || (decide (lo ≤ j) && decide (j < k))) := funext fun j => by
                by_cases e : j = k
                · subst e; rw [if_pos rfl]; simp; omega
                · rw [if_neg e]
                  congr 2
                  rw [decide_eq_decide]; omega
              rw [hf]
              exact hO2
            case measure => simp [intOf]; omega
          · have k2 : ¬ (k : Int) ≤ (hi' : Int) := by omega
            have hf : (fun j => nearTo l i j || (decide (lo ≤ j) && decide (j < k))) = fun j => if j < l.length then nearTo l (i + 1) j else (nearTo l i j || (decide (lo ≤ j) && decide (j < k))) := funext fun j => by
              by_cases hj : j < l.length
              · rw [if_pos hj, HST.out]
                congr 1
                have h1 := HLO.out; have h2 := HHI.out; have h3 := HX.out
                rw [Bool.eq_iff_iff]
                simp only [Bool.and_eq_true, decide_eq_true_eq]
                omega
              · rw [if_neg hj]
            have hv : boolsV l.length (fun j => nearTo l i j || (decide (lo ≤ j) && decide (j < k))) = boolsV l.length (nearTo l (i + 1)) := by
              rw [hf]
              unfold boolsV
              refine List.map_congr_left fun j hj => ?_
              show Value.bool (if j < l.length then _ else _) = _
              rw [if_pos (List.mem_range.1 hj)]
            rw [hv] at hOK
            have HBQ := Lib.hid hbq
            clear hbq hf hv
            go_wp2_with fail
            go_roundw
            case rel => exact ⟨i + 1, by omega, by go_num, HBQ.out, hOK⟩
            case measure => simp [intOf]; omega
    · have hie : i = l.length := by omega
      rw [hie] at hO
      have HBR := Lib.hid hbr
      clear hie hbr
      go_wp2_with fail
      go_ret
      exact ⟨HBR.out, _, _, rfl, Sl.of_own hO.out⟩
end Go.Proofs.YthjaepmfkgejkaaDoor
