/-
  The document's Number and Text give a number's and a text's bytes. Conditions: numbers not below 0.
  What the program's order of keys gives. Conditions: the keys are well formed.
  What the document's order of ids gives. Conditions: ids of 32 bytes.
  The document's In, IsSet, ids. Conditions: ids of 32 bytes; at most 2^40 of them.
-/
import Derived.Test.YthjaepmfkgejkaaGreatDoorMerged8
import Derived.Test.YthjaepmfkgejkaaGreatDoorMerged9
import Derived.Test.YthjaepmfkgejkaaGreatDoorMerged4
import Derived.Test.YthjaepmfkgejkaaGreatDoorMerged7
import Derived.Deep.MidRow
import Derived.Test.YthjaepmfkgejkaaGreatDoorMerged10
import Derived.Test.YthjaepmfkgejkaaGreatDoorMerged1
import Derived.Test.YthjaepmfkgejkaaGreatDoorMerged5
import Derived.Test.YthjaepmfkgejkaaGreatDoorMerged12
import Derived.Test.YthjaepmfkgejkaaGreatDoorMerged11
import Derived.Test.YthjaepmfkgejkaaGreatDoorMerged2
set_option linter.unusedVariables false
set_option linter.unusedSimpArgs false
set_option maxHeartbeats 4000000
set_option maxRecDepth 100000
namespace Go.Proofs.YthjaepmfkgejkaaGreatDoor
open Lib (hid)
open Go.RowKit Go.Maps
def JX (l : List UInt8) (w : World) (e : Ending) (w' : World) : Prop := Below w.heap.size w w' ∧ ∃ A c, e = .returned (.slice A l.length c) ∧ w'.ownsRow w.heap.size 5 1 (.slice A l.length c) l.length (idV l)
theorem zt (n : Nat) (hn : n < 9223372036854775808) (w : World) : Calls Tryz.prog 64 #[.int .i64 (n : Int)] w (JX (kS n) w) := by
  have H10 := hid (kU (n := n) (by omega))
  go_enter Tryz.func64, Tryz.ntmps64
  go_wp2_with fail
  go_loopw [0, 3] (fun t0 t3 wr => ∃ (m : Nat) (pre : List UInt8) (A0 : Option Addr) (c0 : Nat), t0 = .int .i64 (m : Int) ∧ t3 = .slice A0 pre.length c0 ∧ m < 9223372036854775808 ∧ pre.length ≤ 10 ∧ Hid (kS n = pre ++ kS m) ∧ Hid (wr.ownsRow w.heap.size 5 1 (.slice A0 pre.length c0) pre.length (idV pre)) ∧ Hid (Below w.heap.size w wr)) (fun t0 _ _ => (intOf t0).toNat)
  case atStart => exact ⟨n, [], none, 0, rfl, rfl, hn, by simp, hid rfl, hid (World.ownsRow_nil _ _ _ _), hid (Below.refl _ _)⟩
  case round =>
    obtain ⟨m, pre, A0, c0, rfl, rfl, hm, hpl, HP, HOWN, HBR⟩ := hrel
    have hpl2 : pre.length + (kS m).length ≤ 10 := by
      have := H10.out
      rw [HP.out, List.length_append] at this
      exact this
    have hpos := ui m
    by_cases h128 : m < 128
    ·
     have HSM := hid (Zw h128)
     have i1 : ¬ (128 : Int) ≤ (m : Int) := by omega
     go_wp2_with (at_builtin; refine Ko rfl _ _ 22 rfl w.heap.size 5 (.int .u8 0) 1 Tryz.underlying22 kH rfl (.slice A0 pre.length c0) pre.length (idV pre) rfl HOWN.out _ _ rfl rfl ?c1 ?c2 ?c3 ?_)
     case c1 => unfold maxLen; omega
     case c2 => omega
     case c3 => exact HBR.out.size
     intro v' w3 hown3 hbel
     have HB3 := hid (hbel _ w (Nat.le_refl _) HBR.out)
     have HO3 := hid hown3
     clear hbel hown3
     obtain ⟨A3, c3, rfl⟩ := kg HO3.out
     go_wp2_with fail
     go_ret
     have e1 : (kS n).length = pre.length + 1 := by rw [HP.out, HSM.out]; simp
     have e2 : idV (kS n) = idV pre ++ [.int .u8 (m : Int)] := by
       rw [HP.out, HSM.out]
       simp only [idV, List.map_append, List.map_cons, List.map_nil]
       rw [u8_of (by omega)]
     exact ⟨HB3.out, A3, c3, by rw [e1]; rfl, by rw [e1, e2]; exact HO3.out⟩
    ·
     have i1 : (128 : Int) ≤ (m : Int) := by omega
     go_wp2_with (at_builtin; refine Ko rfl _ _ 22 rfl w.heap.size 5 (.int .u8 0) 1 Tryz.underlying22 kH rfl (.slice A0 pre.length c0) pre.length (idV pre) rfl HOWN.out _ _ rfl rfl ?c1 ?c2 ?c3 ?_)
     case c1 => unfold maxLen; omega
     case c2 => omega
     case c3 => exact HBR.out.size
     intro v' w3 hown3 hbel
     have HB3 := hid (hbel _ w (Nat.le_refl _) HBR.out)
     have HO3 := hid hown3
     clear hbel hown3
     obtain ⟨A3, c3, rfl⟩ := kg HO3.out
     go_wp2_with fail
     go_roundw
     case rel =>
       refine ⟨m / 128, pre ++ [UInt8.ofNat (m % 128 + 128)], A3, c3, congrArg (Value.int .i64) (by omega), by simp, by omega, by rw [List.length_append, List.length_singleton]; omega, hid ?_, hid ?_, HB3⟩
       · rw [HP.out, uh h128]
         simp
       ·
        rw [List.length_append, List.length_singleton]
        have e : idV (pre ++ [UInt8.ofNat (m % 128 + 128)]) = idV pre ++ [.int .u8 (128 + (m : Int) % 128)] := by
          simp only [idV, List.map_append, List.map_cons, List.map_nil]
          rw [u8_of (by omega), show ((m % 128 + 128 : Nat) : Int) = 128 + (m : Int) % 128 by omega]
        rw [e]
        exact HO3.out
     case measure => (simp [intOf]) <;> omega
theorem KR (s : ByteArray) (hs : s.size ≤ 1099511627776) (w : World) : Calls Tryz.prog 63 #[.string s] w (JX (kJ (L s)) w) := by
  have hl := kU (n := s.size) (by omega)
  obtain ⟨i0, hi, hz0, hz1, hz2⟩ := info_parts kH
  have HTX := hid (show kJ (L s) = kS s.size ++ L s by unfold kJ; rw [jW])
  go_enter Tryz.func63, Tryz.ntmps63
  go_wp2_with (first
    | (go_at_call 64; refine (zt s.size (by omega) w).mono ?_; rintro e w1 ⟨hb1, A1, c1, rfl, ho1⟩
       have HB1 := hid hb1; have HO1 := hid ho1
       clear hb1 ho1)
    | (at_builtin; refine Lib.wpList_append_own_string _ rfl _ _ 22 9 rfl w.heap.size 5 i0 Tryz.underlying22 Tryz.underlying9 hi hz0 hz1 hz2 _ _ _ rfl HO1.out s rfl ?c1 ?c2 ?c3 ?_))
  case c1 => unfold maxLen; omega
  case c2 => omega
  case c3 => exact HB1.out.size
  intro v' w3 hown3 hgr3 _
  have HO3 := hid hown3
  have HB3 := hid (HB1.out.grown hgr3 HB1.out.size (fun k e => (HO1.out.lt k e).1))
  clear hown3 hgr3
  obtain ⟨A3, c3, rfl⟩ := kg HO3.out
  go_wp2_with fail
  go_ret
  have e1 : (kJ (L s)).length = (kS s.size).length + s.size := by rw [HTX.out, List.length_append, jW]
  have e2 : idV (kJ (L s)) = idV (kS s.size) ++ (L s).map fun b => Value.int .u8 (b.toNat : Int) := by rw [HTX.out]; unfold idV; rw [List.map_append]
  exact ⟨HB3.out, A3, c3, by rw [e1]; rfl, by rw [e1, e2]; exact HO3.out⟩
end Go.Proofs.YthjaepmfkgejkaaGreatDoor
namespace Go.Proofs.YthjaepmfkgejkaaGreatDoor
open Go.RowKit
def at3 (x y z : Int) (i : Nat) : Int := if i = 0 then x else if i = 1 then y else z
theorem Q9 {w : World} {g : Nat} {cs : List Value} {t : TypeId} {fr : Nat × Nat} (h : w.heap[g]? = some (.cells cs.toArray t fr)) (j : Nat) : w.cell? ⟨g, j, none⟩ = cs[j]? := by
  rw [cell_of_row w g j _ t fr h]
  simp
end Go.Proofs.YthjaepmfkgejkaaGreatDoor
namespace Go.Proofs.YthjaepmfkgejkaaGreatDoor
open Lib (hid)
open Go.RowKit
theorem cmpB_cut : ∀ (i : Nat) (a b : List UInt8), a.take i = b.take i → i ≤ a.length → i ≤ b.length → kX a b = kX (a.drop i) (b.drop i)
  | 0, _, _, _, _, _ => rfl
  | i + 1, [], _, _, h, _ => by simp at h
  | i + 1, _ :: _, [], _, _, h => by simp at h
  | i + 1, x :: a, y :: b, h, ha, hb => by
    simp only [List.take_succ_cons, List.cons.injEq] at h
    obtain ⟨rfl, h⟩ := h
    rw [KL, if_neg (KI x), if_neg (KI x)]
    exact cmpB_cut i a b h (by simpa using ha) (by simpa using hb)
theorem cmpB_stop {a b : List UInt8} {i : Nat} (h : a.take i = b.take i) (ha : i < a.length) (hb : i < b.length) : (a[i] < b[i] → kX a b = -1) ∧ (b[i] < a[i] → kX a b = 1) ∧ (¬ a[i] < b[i] → ¬ b[i] < a[i] → a.take (i + 1) = b.take (i + 1)) := by
  have e := cmpB_cut i a b h (by omega) (by omega)
  rw [List.drop_eq_getElem_cons ha, List.drop_eq_getElem_cons hb, KL] at e
  refine ⟨fun q => by rw [e, if_pos q], fun q => by rw [e, if_neg (JN q), if_pos q], fun q r => ?_⟩
  have : a[i] = b[i] := by
    rcases JM a[i] b[i] with h1 | h1 | h1
    · exact absurd h1 q
    · exact absurd h1 r
    · exact h1
  rw [List.take_succ_eq_append_getElem ha, List.take_succ_eq_append_getElem hb, h, this]
theorem id_cells {l : List UInt8} (h : Ke l) (i : Nat) (hi : i < 32) : (idV l)[i]? = some (.int .u8 ((l[i]'(by rw [h]; exact hi)).toNat : Int)) := by
  have hl : l.length = 32 := h
  simp [idV, hl, hi]
theorem Zc (a b : List UInt8) (w : World) (ha : Ke a) (hb : Ke b) :
    Calls Tryz.prog 117 #[.agg (idV a).toArray, .agg (idV b).toArray] w fun e w' => Gr w w' ∧ e = .returned (.int .i64 (kX a b)) := by
  have h1 : (w.alloc (.cells (idV a).toArray 47)).heap[w.heap.size]? = some (.cells (idV a).toArray 47 (0, 0)) := heap_alloc_new _ _
  have hla : a.length = 32 := ha
  have hlb : b.length = 32 := hb
  go_enter Tryz.func117, Tryz.ntmps117
  go_upto_region 1 with fail
  obtain ⟨W, hW⟩ : ∃ W, (w.alloc (.cells (idV a).toArray 47)).alloc (.cells (idV b).toArray 47) = W := ⟨_, rfl⟩
  have hA : W.heap[w.heap.size]? = some (.cells (idV a).toArray 47 (0, 0)) := by
    rw [← hW]
    exact (heap_alloc_old (w.alloc (.cells (idV a).toArray 47)) _ (by simp)).trans h1
  have hB : W.heap[w.heap.size + 1]? = some (.cells (idV b).toArray 47 (0, 0)) := by
    rw [← hW]
    have := heap_alloc_new (w.alloc (.cells (idV a).toArray 47)) (.cells (idV b).toArray 47)
    rw [World.size_alloc] at this
    exact this
  have hbW : Gr w W := by rw [← hW]; exact ((Gr.refl _).alloc _).alloc _
  have hsW : W.heap.size = w.heap.size + 2 := by rw [← hW]; simp
  rw [hW]
  clear hW h1
  have HA := hid fun (i : Nat) (hi : i < 32) => (Q9 hA i).trans (id_cells ha i hi)
  have HB := hid fun (i : Nat) (hi : i < 32) => (Q9 hB i).trans (id_cells hb i hi)
  have HSW := hid hsW
  have HST := hid fun (i : Nat) (hi : i < 32) (h : a.take i = b.take i) => cmpB_stop h (by omega) (by omega)
  have HEN := hid fun (h : a.take 32 = b.take 32) => (show kX a b = 0 from by
    rw [List.take_of_length_le (by omega), List.take_of_length_le (by omega)] at h
    exact K6.2 h)
  clear hA hB hsW
  go_wp2_with fail
  go_loopw [5] (fun t wr => ∃ i : Nat, i ≤ 32 ∧ t = .int .i64 i ∧ Gr W wr ∧ Hid (a.take i = b.take i)) (fun t _ => 32 - (intOf t).toNat)
  case atStart => exact ⟨0, by omega, rfl, Gr.refl _, hid rfl⟩
  case round =>
    obtain ⟨i, hi, rfl, hgr, hI⟩ := hrel
    by_cases hlt : i < 32
    ·
     have ca := (hgr.below.cell (p := ⟨w.heap.size, i, none⟩) (by have := HSW.out; show w.heap.size < _; omega)).trans (HA.out i hlt)
     have cb := (hgr.below.cell (p := ⟨w.heap.size + 1, i, none⟩) (by have := HSW.out; show w.heap.size + 1 < _; omega)).trans (HB.out i hlt)
     have i0 : (0 : Int) ≤ (i : Int) := by omega
     have i1 : (i : Int) < 32 := by omega
     have hst := hid (HST.out i hlt hI.out)
     generalize a[i]'(by omega) = x at *
     generalize b[i]'(by omega) = y at *
     rcases JM x y with h | h | h
     ·
      have q1 : ((x.toNat : Nat) : Int) < (y.toNat : Int) := by rw [UInt8.lt_iff_toNat_lt] at h; omega
      have hr := hid (hst.out.1 h)
      go_wp2_with fail
      go_quiet (fail)
      go_wp2_with fail
      go_ret
      exact ⟨hbW.trans (hgr.drewN _), by rw [hr.out]; rfl⟩
     ·
      have q1 : ((y.toNat : Nat) : Int) < (x.toNat : Int) := by rw [UInt8.lt_iff_toNat_lt] at h; omega
      have q2 : ¬ ((x.toNat : Nat) : Int) < (y.toNat : Int) := by omega
      have hr := hid (hst.out.2.1 h)
      go_wp2_with fail
      go_quiet (fail)
      go_wp2_with fail
      go_quiet (fail)
      go_wp2_with fail
      go_ret
      exact ⟨hbW.trans ((hgr.drewN _).drewN _), by rw [hr.out]; rfl⟩
     ·
      subst h
      have hnx := hid (hst.out.2.2 (KI x) (KI x))
      go_wp2_with fail
      go_quiet (fail)
      go_wp2_with fail
      go_quiet (fail)
      go_wp2_with fail
      go_roundw
      case rel => exact ⟨i + 1, by omega, by go_num, hgr.drewN _, hnx⟩
      case measure => simp [intOf]; omega
    ·
     have i1 : ¬ (i : Int) < 32 := by omega
     have e : i = 32 := by omega
     have hr := hid (HEN.out (by rw [← e]; exact hI.out))
     clear e
     go_wp2_with fail
     go_ret
     exact ⟨hbW.trans hgr, by rw [hr.out]; rfl⟩
end Go.Proofs.YthjaepmfkgejkaaGreatDoor
namespace Go.Proofs.YthjaepmfkgejkaaGreatDoor
open Lib (hid)
open Go.RowKit Go.Maps
theorem vC (l : List (List UInt8)) (x : List UInt8) (A : Option Addr) (c : Nat) (w : World) (hn : l.length ≤ 1099511627776) (ho : IdsOk l) (hx : Ke x) (hs : Sl w w.heap.size A l.length 32 (kr l)) :
    Calls Tryz.prog 85 #[.slice A l.length c, .agg (idV x).toArray] w fun e w' => Below w.heap.size w w' ∧ e = .returned (.bool (decide (x ∈ l))) := by
  have HO := hid ho; have HS := hid hs
  clear ho hs
  go_enter Tryz.func85, Tryz.ntmps85
  go_upto_region 1 with (first
    | (with_reducible refine kz ?_
       refine ko (by rfl) 47 _ rfl (idV x) _ rfl rfl (by rw [k8, show x.length = 32 from hx]; exact kt) ?_
       intro W0 hb0 hz0 hs0
       have HB0 := hid hb0; have HZ0 := hid hz0
       clear hb0 hz0 hs0))
  have hz := (qX HZ0.out)
  try go_frame
  go_wp2_with fail
  go_loopw [5] (fun t wr => ∃ i : Nat, i ≤ l.length ∧ t = .int .i64 (i : Int) ∧ Hid (Below W0.heap.size W0 wr) ∧ Hid (x ∉ l.take i)) (fun t _ => l.length - (intOf t).toNat)
  case atStart => exact ⟨0, Nat.zero_le _, rfl, hid (qB _ _), hid (by simp)⟩
  case round =>
    obtain ⟨i, hi, rfl, HBR, HN⟩ := hrel
    by_cases hlt : i < l.length
    ·
     have i0 : (0 : Int) ≤ (i : Int) := by omega
     have i1 : (i : Int) < (l.length : Int) := by omega
     have hbw := HB0.out.trans (HBR.out.mono HB0.out.size)
     obtain ⟨b, off, rfl, hbl, hcl⟩ := (HS.out.keep hbw).2 (by omega)
     have R1 := hid (Wd.row (base := wr.heap.size) (Sl.id (B := 0) HO.out hcl (i := i) hlt) (qL hbl hbw.size))
     have R2 := hid (Wd.row (base := wr.heap.size) (o := 0) (cs := idV x) (b := w.heap.size) (fun j u hj => by rw [qZ]; exact ((HBR.out.cell (p := ⟨w.heap.size, j, none⟩) hz).trans (k5 HZ0.out j)).trans hj) (qL hz HBR.out.size))
     have HY := hid (show Ke l[i] from HO.out _ (List.getElem_mem hlt))
     obtain ⟨y, hy⟩ : ∃ y, l[i] = y := ⟨_, rfl⟩
     rw [hy] at R1 HY
     have HTK := hid (show l.take (i + 1) = l.take i ++ [y] by rw [List.take_succ_eq_append_getElem hlt, hy])
     have HMEM := hid (show y ∈ l by rw [← hy]; exact List.getElem_mem hlt)
     clear hcl hbl hbw hy
     by_cases he : y = x
     ·
      have HM := hid (show x ∈ l by rw [← he]; exact HMEM.out)
      have HEQ : Hid (∀ u : World, (Op.equalIn 10000 47 (.agg (idV y).toArray) (.agg (idV x).toArray)).run Tryz.prog u = .ok true u) := hid (fun u => (jX HY.out hx u).trans (by rw [dT he]))
      clear he
      go_wp2_with fail
      refine jl (base := wr.heap.size) wr (qB _ _) (by kernel_rfl) (by kernel_rfl) ?_
      repeat (first
        | go_big_quiet_skip
        | (go_big_quiet_want
           first
             | (refine kG (fun w' hw' => k9 47 _ rfl (p := ⟨b, off + i * 32, none⟩) rfl (qV w' _ _ _ (idV y) _ (R1.out w' hw') Tryz.underlying47 rfl (by rw [k8, show y.length = 32 from HY.out]; exact kt))) ?_
                go_big_quiet_on
                go_frame; try simp only [nTF])
             | (refine kG (fun w' hw' => k9 47 _ rfl (p := ⟨w.heap.size, 0, none⟩) rfl (qV w' _ _ _ (idV x) _ (R2.out w' hw') Tryz.underlying47 rfl (by rw [k8, show x.length = 32 from hx]; exact kt))) ?_
                go_big_quiet_on
                go_frame; try simp only [nTF])
             | (refine kG (fun w' hw' => K8 47 _ _ _ rfl (xs := (idV y).toArray) (ys := (idV x).toArray) rfl rfl (r := true) eqId.noGuard (HEQ.out w')) ?_
                go_big_quiet_on
                go_frame; try simp only [nTF])
             | (go_big_quiet_op
                go_big_quiet_on)))
      refine wpQuiet_nil ?_
      rintro w' ⟨kk, rfl⟩
      have hk9 := kk.2
      generalize kk.val = w9 at *
      clear kk
      have HBN := hid (HBR.out.trans (hk9.mono HBR.out.size))
      clear hk9
      go_wp2_with fail
      go_ret
      exact ⟨HB0.out.trans (HBN.out.mono HB0.out.size), by rw [dT HM.out]; rfl⟩
     ·
      have HN2 := hid (show x ∉ l.take (i + 1) by rw [HTK.out]; simp only [List.mem_append, List.mem_singleton, not_or]; exact ⟨HN.out, fun h => he h.symm⟩)
      have HEQ : Hid (∀ u : World, (Op.equalIn 10000 47 (.agg (idV y).toArray) (.agg (idV x).toArray)).run Tryz.prog u = .ok false u) := hid (fun u => (jX HY.out hx u).trans (by rw [dF he]))
      clear he
      go_wp2_with fail
      refine jl (base := wr.heap.size) wr (qB _ _) (by kernel_rfl) (by kernel_rfl) ?_
      repeat (first
        | go_big_quiet_skip
        | (go_big_quiet_want
           first
             | (refine kG (fun w' hw' => k9 47 _ rfl (p := ⟨b, off + i * 32, none⟩) rfl (qV w' _ _ _ (idV y) _ (R1.out w' hw') Tryz.underlying47 rfl (by rw [k8, show y.length = 32 from HY.out]; exact kt))) ?_
                go_big_quiet_on
                go_frame; try simp only [nTF])
             | (refine kG (fun w' hw' => k9 47 _ rfl (p := ⟨w.heap.size, 0, none⟩) rfl (qV w' _ _ _ (idV x) _ (R2.out w' hw') Tryz.underlying47 rfl (by rw [k8, show x.length = 32 from hx]; exact kt))) ?_
                go_big_quiet_on
                go_frame; try simp only [nTF])
             | (refine kG (fun w' hw' => K8 47 _ _ _ rfl (xs := (idV y).toArray) (ys := (idV x).toArray) rfl rfl (r := false) eqId.noGuard (HEQ.out w')) ?_
                go_big_quiet_on
                go_frame; try simp only [nTF])
             | (go_big_quiet_op
                go_big_quiet_on)))
      refine wpQuiet_nil ?_
      rintro w' ⟨kk, rfl⟩
      have hk9 := kk.2
      generalize kk.val = w9 at *
      clear kk
      have HBN := hid (HBR.out.trans (hk9.mono HBR.out.size))
      clear hk9
      go_wp2_with fail
      go_roundw
      case rel => exact ⟨i + 1, by omega, by go_num, HBN, HN2⟩
      case measure => (simp [intOf]) <;> omega
    ·
     have i1 : ¬ (i : Int) < (l.length : Int) := by omega
     have HM := hid (show x ∉ l by have h := HN.out; rwa [List.take_of_length_le (by omega)] at h)
     go_wp2_with fail
     go_ret
     exact ⟨HB0.out.trans (HBR.out.mono HB0.out.size), by rw [dF HM.out]; rfl⟩
theorem uF (l : List (List UInt8)) (A : Option Addr) (c : Nat) (w : World) (hn : l.length ≤ 1099511627776) (ho : IdsOk l) (hsl : Sl w w.heap.size A l.length 32 (kr l)) :
    Calls Tryz.prog 105 #[.slice A l.length c] w fun e w' => Below w.heap.size w w' ∧ e = .returned (.bool (kI l)) := by
  have HSL := hid hsl; clear hsl
  have HO := hid ho; clear ho
  go_enter Tryz.func105, Tryz.ntmps105
  go_wp2_with fail
  go_loopw [3] (fun t wr => ∃ i : Nat, i ≤ l.length ∧ t = .int .i64 ((i : Int) + 1) ∧ Hid (Below w.heap.size w wr) ∧ Hid (∀ j (h : j + 1 < l.length), j < i → kX (l[j]'(by omega)) l[j + 1] < 0)) (fun t _ => l.length + 1 - (intOf t).toNat)
  case atStart => exact ⟨0, by omega, rfl, hid (qB _ _), hid fun j _ hj => absurd hj (by omega)⟩
  case round =>
    obtain ⟨i, hi, rfl, HBR, hI⟩ := hrel
    by_cases hlt : i + 1 < l.length
    ·
     have i1 : (0 : Int) ≤ (i : Int) := by omega
     have i3 : ((i : Int) + 1) < (l.length : Int) := by omega
     have i4 : (i : Int) < (l.length : Int) := by omega
     have i5 : (0 : Int) ≤ (i : Int) + 1 := by omega
     have ei : ((i : Int) + 1) - 1 = (i : Int) := by omega
     have ei2 : ((i : Int) + 1) = ((i + 1 : Nat) : Int) := by omega
     have ei3 : ((i : Int) + 1).toNat = i + 1 := by omega
     have ew : IntKind.i64.wrap (i : Int) = (i : Int) := IntWalk.i64_in _ ⟨by omega, by omega⟩
     obtain ⟨b, off, rfl, hbl, hcl⟩ := (HSL.out.keep HBR.out).2 (by omega)
     have C1 := hid (Sl.id (B := 0) HO.out hcl (i := i) (by omega))
     have C2 := hid (Sl.id (B := 0) HO.out hcl (i := i + 1) hlt)
     have HX := hid (show Ke (l[i]'(by omega)) from HO.out _ (List.getElem_mem _))
     have HY := hid (show Ke l[i + 1] from HO.out _ (List.getElem_mem _))
     clear hcl ei2
     go_wp2_with fail
     refine wp_region_still_tail 9 (by kernel_rfl) (by kernel_rfl) ?_
     simp only [List.take_succ_cons, List.take_zero, List.drop_succ_cons, List.drop_zero]
     repeat still_step
     refine zn (by rfl) 47 _ rfl b _ rfl (idV (l[i]'(by omega))) _ C1.out Tryz.underlying47 rfl (by rw [k8, HX.out]; exact kt) ?_
     repeat still_step
     refine zn (by rfl) 47 _ rfl b _ rfl (idV l[i + 1]) _ C2.out Tryz.underlying47 rfl (by rw [k8, HY.out]; exact kt) ?_
     refine wpStill_nil ?_
     change wpList _ _ _ _ _ wr.drew
     generalize hwd : wr.drew = w2
     have hbr2 : Below w.heap.size w w2 := by rw [← hwd]; exact HBR.out.drew
     clear hwd
     have hstop : 0 ≤ kX (l[i]'(by omega)) l[i + 1] → kI l = false := by
       intro h
       rw [Bool.eq_false_iff]
       intro h2
       have := J5.1 h2 i hlt
       omega
     have hgo : kX (l[i]'(by omega)) l[i + 1] < 0 → ∀ j (h : j + 1 < l.length), j < i + 1 → kX (l[j]'(by omega)) l[j + 1] < 0 := by
       intro h j hj hji
       rcases (by omega : j < i ∨ j = i) with q | q
       · exact hI.out j hj q
       · subst q; exact h
     have HST := hid hstop; clear hstop
     have HGO := hid hgo; clear hgo
     go_wp2_with fail
     refine (Zc (l[i]'(by omega)) l[i + 1] _ HX.out HY.out).mono ?_
     generalize kX (l[i]'(by omega)) l[i + 1] = q at *
     rintro e w3 ⟨hg3, rfl⟩
     have hb3 := hg3.below
     have HBN := hid (hbr2.trans (hb3.mono hbr2.size))
     clear hb3 hbr2
     by_cases hq : 0 ≤ q
     ·
      have HNO := hid (HST.out hq)
      have dq : decide (0 ≤ q) = true := dT hq
      go_wp2_with fail
      go_ret
      exact ⟨HBN.out, by rw [HNO.out]; rfl⟩
     ·
      have hq2 : q < 0 := by omega
      have dq : decide (0 ≤ q) = false := dF hq
      go_wp2_with fail
      go_roundw
      case rel => exact ⟨i + 1, by omega, by go_num, HBN, hid (HGO.out hq2)⟩
      case measure => (simp [intOf]) <;> omega
    ·
     have i3 : ¬ ((i : Int) + 1) < (l.length : Int) := by omega
     have HYES := hid (show kI l = true from J5.2 fun j hj => hI.out j hj (by omega))
     go_wp2_with fail
     go_ret
     exact ⟨HBR.out, by rw [HYES.out]; rfl⟩
theorem ids_same {l : List (List UInt8)} {most : Nat} (ho : IdsOk l) : KA l most = (decide (l.length ≤ most) && kI l && !decide (zero32 ∈ l)) := by
  rcases hb : KA l most with _ | _
  ·
   rcases h1 : (decide (l.length ≤ most) && kI l && !decide (zero32 ∈ l)) with _ | _
   · rfl
   ·
    exfalso
    simp only [Bool.and_eq_true, Bool.not_eq_true', decide_eq_true_eq, decide_eq_false_iff_not] at h1
    unfold KA at hb
    simp only [h1.1.1, h1.1.2, decide_true, Bool.true_and, Bool.or_eq_false_iff, decide_eq_false_iff_not, Bool.not_eq_false', decide_eq_true_eq] at hb
    rcases l with _ | ⟨a, t⟩
    · exact hb.1 rfl
    · exact h1.2 (by have h := hb.2; simp only [List.headD_cons] at h; rw [← h]; exact List.mem_cons_self)
  · obtain ⟨h1, h2, h3⟩ := vw hb ho
    simp [h1, h2, h3]
theorem vY (l : List (List UInt8)) (A : Option Addr) (c : Nat) (most : Nat) (w : World) (hmost : most ≤ 1099511627776) (hn : l.length ≤ 1099511627776) (ho : IdsOk l) (hs : Sl w w.heap.size A l.length 32 (kr l)) :
    Calls Tryz.prog 78 #[.slice A l.length c, .int .i64 (most : Int)] w fun e w' => Below w.heap.size w w' ∧ e = .returned (.bool (KA l most)) := by
  have HE := hid (ids_same (most := most) ho)
  have HO := hid ho; have HS := hid hs
  clear ho hs
  by_cases h1 : l.length ≤ most
  ·
   have d1 : decide ((l.length : Int) ≤ (most : Int)) = true := dT (by omega)
   have i1 : (l.length : Int) ≤ (most : Int) := by omega
   have HE1 : Hid (KA l most = (kI l && !decide (zero32 ∈ l))) := hid (by rw [HE.out, dT h1, Bool.true_and])
   clear HE h1
   obtain ⟨sb, hsb⟩ : ∃ b, kI l = b := ⟨_, rfl⟩
   have HSB := hid hsb
   clear hsb
   cases sb
   ·
    go_enter Tryz.func78, Tryz.ntmps78
    go_wp2_with (first
      | (go_at_call 105; refine (uF l A c w hn HO.out HS.out).mono ?_; rintro e w1 ⟨hb1, rfl⟩
         rw [HSB.out]
         have HB1 := hid hb1
         clear hb1))
    go_ret
    exact ⟨HB1.out, by rw [HE1.out, HSB.out]; rfl⟩
   ·
    go_enter Tryz.func78, Tryz.ntmps78
    go_wp2_with (first
      | (refine k6 (by rfl) (kB 47 #[] rfl (jI _)) ?_)
      | (go_at_call 105; refine (uF l A c w hn HO.out HS.out).mono ?_; rintro e w1 ⟨hb1, rfl⟩
         rw [HSB.out]
         have HB1 := hid hb1
         clear hb1)
      | (go_at_call 85; refine (vC l zero32 A c w1 hn HO.out zP ((HS.out.keep HB1.out).more HB1.out.size)).mono ?_; rintro e w2 ⟨hb2, rfl⟩
         have HB2 := hid (HB1.out.trans (hb2.mono HB1.out.size))
         clear hb2))
    go_ret
    exact ⟨HB2.out, by rw [HE1.out, HSB.out]; rfl⟩
  ·
   have d1 : decide ((l.length : Int) ≤ (most : Int)) = false := dF (by omega)
   have i1 : ¬ (l.length : Int) ≤ (most : Int) := by omega
   have HE1 : Hid (KA l most = false) := hid (by rw [HE.out, dF h1]; rfl)
   clear HE h1
   go_enter Tryz.func78, Tryz.ntmps78
   go_wp2_with fail
   go_ret
   exact ⟨qB _ _, by rw [HE1.out]; rfl⟩
end Go.Proofs.YthjaepmfkgejkaaGreatDoor
