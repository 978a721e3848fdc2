/-
  What the reference's SortKeys gives: the places of the keys, in the keys' order. Conditions: keys well formed; at most a million of them.
-/
import Derived.Test.YtfjmbcljohobeaaGreatDoorSortIdx
import Derived.Test.YtfjmbcljohobeaaGreatDoorRefKeys
import Derived.Test.YtfjmbcljohobeaaGreatDoorRegFind
import Derived.Test.YtfjmbcljohobeaaGreatDoorApart14Walk
import Derived.Laws.OwnMore
namespace Go.Proofs.YtfjmbcljohobeaaGreatDoor
open Go.RowKit Go.Maps Go.Shelf
set_option linter.unusedVariables false
set_option linter.unusedSimpArgs false

def intsV (o : List Nat) : List Value := o.map fun j : Nat => .int .i64 (j : Int)
def keyAt (ks : List KeyD) (j : Nat) : KeyD := ks.getD j zeroKd
theorem keyAt_eq {ks : List KeyD} {j : Nat} (h : j < ks.length) : keyAt ks j = ks[j] := by simp [keyAt, h]
theorem intInfo : (Tryz.prog.info? 3).map (fun i => (i.zero, i.size, i.bytes)) = some (some (.int .i64 0), 1, 8) := by kernel_rfl
theorem own_block1 {w : World} {base n size : Nat} {e : TypeId} {v : Value} {xs : List Value} (h : w.ownsRow base e size v n xs) (hn : 0 < n) : ∃ g c, v = .slice (some ⟨g, 0, none⟩) n c ∧ base ≤ g ∧ g < w.heap.size := by
  rcases h.2 with ⟨_, h0⟩ | ⟨g, cap, cur, hv, hb, hg, _⟩
  · omega
  · exact ⟨g, cap, hv, hb, (Array.getElem?_eq_some_iff.1 hg).1⟩
theorem hole_get (o : List Nat) (k : Nat) (x : Value) (hk : k ≤ o.length) : (intsV (o.take k) ++ x :: intsV (o.drop k))[k]? = some x := by
  rw [List.getElem?_append_right (by simp [intsV]; omega)]
  simp [intsV, Nat.min_eq_left hk]
theorem hole_below (o : List Nat) (k q : Nat) (x : Value) (hq : q < k) (hk : k ≤ o.length) : (intsV (o.take k) ++ x :: intsV (o.drop k))[q]? = some (.int .i64 ((o[q]'(by omega) : Nat) : Int)) := by
  rw [List.getElem?_append_left (by simp [intsV]; omega)]
  simp [intsV, hq, Nat.lt_of_lt_of_le hq hk]
theorem hole_set (o : List Nat) (k : Nat) (x y : Value) (hk : k ≤ o.length) : (intsV (o.take k) ++ x :: intsV (o.drop k)).set k y = intsV (o.take k) ++ y :: intsV (o.drop k) := by
  rw [List.set_append_right _ _ (by simp [intsV]; omega)]
  simp [intsV, Nat.min_eq_left hk]
theorem hole_move (o : List Nat) (k q : Nat) (h : q + 1 = k) (hk : k ≤ o.length) : intsV (o.take k) ++ (.int .i64 ((o[q]'(by omega) : Nat) : Int)) :: intsV (o.drop k) = intsV (o.take q) ++ (.int .i64 ((o[q]'(by omega) : Nat) : Int)) :: intsV (o.drop q) := by
  subst h
  have h1 : o.take (q + 1) = o.take q ++ [o[q]] := List.take_succ_eq_append_getElem (by omega)
  have h2 : o.drop q = o[q] :: o.drop (q + 1) := List.drop_eq_getElem_cons (by omega)
  rw [h1, h2]
  simp only [intsV, List.map_append, List.map_cons, List.map_nil, List.append_assoc, List.cons_append, List.nil_append]
theorem hole_fill (o : List Nat) (k i : Nat) : intsV (o.take k) ++ (.int .i64 (i : Int)) :: intsV (o.drop k) = intsV (o.take k ++ i :: o.drop k) := by simp [intsV]
set_option maxHeartbeats 4000000 in
set_option maxRecDepth 100000 in
theorem refSortKeys_any (ks : List KeyD) (A : Option Addr) (c : Nat) (w : World) (hl : ks.length ≤ 1000000) (hok : ∀ k ∈ ks, KeyOk k) (hsl : Sl w w.heap.size A ks.length 34 (rowsV keyV ks)) :
    Calls Tryz.prog 27 #[.slice A ks.length c] w fun e w' => Below w.heap.size w w' ∧ ∃ A' c' o, e = .returned (.slice A' ks.length c') ∧ o.Perm (List.range ks.length) ∧ LeK (o.map (keyAt ks)) ∧ Sl w' w'.heap.size A' ks.length 1 (intsV o) := by
  have HSL := Lib.hid hsl; have HOK := Lib.hid hok
  clear hsl hok
  go_enter Tryz.func27, Tryz.ntmps27
  go_wp2_with fail
  go_loopw [3, 4] (fun v t wr => ∃ i : Nat, i ≤ ks.length ∧ t = .int .i64 i ∧ Below w.heap.size w wr ∧ ∃ o : List Nat, Hid (o.Perm (List.range i)) ∧ Hid (LeK (o.map (keyAt ks))) ∧ Hid (wr.ownsRow w.heap.size 3 1 v i (intsV o))) (fun _ t _ => ks.length - (intOf t).toNat)
  case atStart => exact ⟨0, by omega, rfl, Below.refl _ _, [], Lib.hid (by simp), Lib.hid (by simp [LeK]), Lib.hid ⟨by simp [intsV], .inl ⟨rfl, rfl⟩⟩⟩
  case round =>
    obtain ⟨i, hi, rfl, hbr, o, HP, HS, HO⟩ := hrel
    have hol : o.length = i := by have := HP.out.length_eq; rwa [List.length_range] at this
    by_cases hlt : i < ks.length
    · obtain ⟨b, off, rfl, hbl, hcl⟩ := HSL.out.2 (by omega)
      have i0 : (0 : Int) ≤ (i : Int) := by omega
      have i1 : (i : Int) < (ks.length : Int) := by omega
      have hrowj : ∀ j (hj : j < ks.length), w.rangeAt b (off + j * 34) (keyV ks[j]) := fun j hj => Sl.row (fun x hx => keyV_length (HOK.out x hx)) hcl hj
      have HROWJ := Lib.hid hrowj; have HBR := Lib.hid hbr; have HOL := Lib.hid hol
      obtain ⟨A3, c3, rfl⟩ := own_shape HO.out
      clear hcl hrowj hol
      have hown := HO.out
      go_wp2_with (at_builtin; refine wp_app1 rfl _ _ 65 rfl w.heap.size 3 (.int .i64 0) 8 Tryz.underlying65 intInfo rfl _ _ _ rfl hown _ _ rfl rfl ?c1 ?c2 ?c3 ?_)
      case c1 => unfold maxLen; omega
      case c2 => omega
      case c3 => exact hbr.size
      intro v6 w6 hown6 hbel
      have hb6 := hbel w.heap.size w (Nat.le_refl _) hbr
      obtain ⟨g, c6, rfl, hgb, hgz⟩ := own_block1 hown6 (by omega)
      have HGB := Lib.hid hgb
      have H6 := Lib.hid hb6
      have HO6 := Lib.hid hown6
      clear hown6 hown HO hbr hb6 hbel hgb hgz
      obtain ⟨wo, hwo⟩ : ∃ wo : World, wo = wr := ⟨_, rfl⟩
      subst hwo
      go_wp2_with fail
      go_loopw [5] (fun t wr => ∃ k : Nat, k ≤ i ∧ t = .int .i64 k ∧ Below w.heap.size w wr ∧ Hid (∃ x, wr.ownsRow w.heap.size 3 1 (.slice (some ⟨g, 0, none⟩) (i + 1) c6) (i + 1) (intsV (o.take k) ++ x :: intsV (o.drop k))) ∧ Hid (∀ x ∈ o.drop k, 0 < cmpK (keyAt ks x) (keyAt ks i))) (fun t _ => (intOf t).toNat)
      case atStart => exact ⟨i, by omega, rfl, H6.out, Lib.hid ⟨_, by rw [List.take_of_length_le (by have := HOL.out; omega), List.drop_eq_nil_of_le (by have := HOL.out; omega)]; exact HO6.out⟩, Lib.hid (by rw [List.drop_eq_nil_of_le (by have := HOL.out; omega)]; intro x hx; exact absurd hx (by simp))⟩
      case round =>
        obtain ⟨k, hk, rfl, hbq, hX, HGT⟩ := hrel
        obtain ⟨x, hox⟩ := hX.out
        have HO := Lib.hid hox; have HBQ := Lib.hid hbq
        have hol := HOL.out
        have HXK := Lib.hid (hole_get o k x (by omega))
        have hset := hole_set o k x (.int .i64 (i : Int)) (by omega)
        rw [hole_fill] at hset
        have HSET := Lib.hid hset
        have k0 : (0 : Int) ≤ (k : Int) := by omega
        have k1 : (k : Int) < (i : Int) + 1 := by omega
        have k2 : (k : Int) < ((i + 1 : Nat) : Int) := by omega
        have HGZ : Hid (g < wr.heap.size) := by
          obtain ⟨g', c', e, _, h⟩ := own_block1 hox (by omega)
          injection e with e1
          injection e1 with e1
          injection e1 with e1
          exact e1 ▸ h
        clear hX hox hset hbq
        by_cases hk0 : 0 < k
        · have d1 : decide ((0 : Int) < (k : Int)) = true := by rw [decide_eq_true_iff]; omega
          have d2 : (0 : Int) < (k : Int) := by omega
          have d3 : decide (0 < k) = true := by rw [decide_eq_true_iff]; omega
          obtain ⟨q, hq⟩ : ∃ q, q + 1 = k := ⟨k - 1, by omega⟩
          have e1 : IntKind.i64.wrap ((k : Int) - 1) = (q : Int) := by rw [IntWalk.i64_in _ (by omega)]; omega
          have q0 : (0 : Int) ≤ (q : Int) := by omega
          have q1 : (q : Int) < (i : Int) + 1 := by omega
          have q2 : (q : Int) < ((i + 1 : Nat) : Int) := by omega
          have hqo : q < o.length := by omega
          have hmem : o[q] < i := by have := HP.out.mem_iff.1 (List.getElem_mem hqo); rwa [List.mem_range] at this
          have hcq := (HO.out.cellAt q (by omega)).trans (hole_below o k q x (by omega) (by omega))
          have hmv := hole_set o k x (.int .i64 ((o[q] : Nat) : Int)) (by omega)
          rw [hole_move o k q hq (by omega)] at hmv
          have HMV := Lib.hid hmv
          have hdq : o.drop q = o[q] :: o.drop k := by rw [List.drop_eq_getElem_cons hqo, hq]
          have HDQ := Lib.hid hdq
          have hoq : o[k - 1]'(by omega) = o[q] := by congr 1; omega
          have HOQ := Lib.hid hoq
          clear hmv hdq hoq
          obtain ⟨p, hp⟩ : ∃ p, o[q] = p := ⟨_, rfl⟩
          rw [hp] at hmem hcq HMV HDQ HOQ
          have hpl : p < ks.length := by omega
          have p0 : (0 : Int) ≤ (p : Int) := by omega
          have p1 : (p : Int) < (ks.length : Int) := by omega
          have hpk : keyAt ks p = ks[p] := keyAt_eq hpl
          have hik : keyAt ks i = ks[i] := keyAt_eq hlt
          have hkpo := HOK.out _ (List.getElem_mem hpl)
          have hkio := HOK.out _ (List.getElem_mem hlt)
          have hbzq := Nat.lt_of_lt_of_le hbl HBQ.out.size
          have rP := Lib.hid (Wg.row (w := wr) (b := b) (o := off + p * 34) (cs := keyV ks[p]) (fun j u hj => (HBQ.out.cell (p := ⟨b, off + p * 34 + j, none⟩) hbl).trans (HROWJ.out p hpl j u hj)) hbzq)
          have rI := Lib.hid (Wg.row (w := wr) (b := b) (o := off + i * 34) (cs := keyV ks[i]) (fun j u hj => (HBQ.out.cell (p := ⟨b, off + i * 34 + j, none⟩) hbl).trans (HROWJ.out i hlt j u hj)) hbzq)
          have CC := Lib.hid (fun u : World => refKeys_gr ks[p] ks[i] u hkpo hkio)
          have HSP : Hid ((Tryz.prog.info? 26).map (·.size) = some (keyV ks[p]).length) := by rw [keyV_length hkpo]; exact sizeKey
          have HSI : Hid ((Tryz.prog.info? 26).map (·.size) = some (keyV ks[i]).length) := by rw [keyV_length hkio]; exact sizeKey
          have HPK := Lib.hid hpk; have HIK := Lib.hid hik
          clear hpk hik hkpo hkio hp
          generalize ks[p] = kp at *
          generalize ks[i] = ki at *
          have cq := Wg.cell hcq HGZ.out
          have HCQ := Lib.hid hcq
          clear hcq
          by_cases hcm : 0 < cmpK kp ki
          · have d4 : decide ((0 : Int) < cmpK kp ki) = true := by rw [decide_eq_true_iff]; omega
            have HCM := Lib.hid hcm; have HQK := Lib.hid hq
            clear HOQ hk0 hq hqo hol
            go_wp2_with fail
            refine wp_region_wg (by kernel_rfl) (by kernel_rfl) ?_
            repeat (first
              | go_big_quiet_skip
              | (go_big_quiet_want
                 first
                   | (refine quiet_val (fun w' hw' => ex_load 26 _ rfl (p := ⟨b, off + p * 34, none⟩) rfl (run_loadVar_mid w' _ _ _ (keyV kp) _ (rP.out w' hw') Tryz.underlying26 rfl HSP.out)) ?_
                      go_big_quiet_on
                      simp only [Act.put, List.setIfInBounds_toArray, List.set_cons_zero, List.set_cons_succ])
                   | (refine quiet_val (fun w' hw' => ex_load 26 _ rfl (p := ⟨b, off + i * 34, none⟩) rfl (run_loadVar_mid w' _ _ _ (keyV ki) _ (rI.out w' hw') Tryz.underlying26 rfl HSI.out)) ?_
                      go_big_quiet_on
                      simp only [Act.put, List.setIfInBounds_toArray, List.set_cons_zero, List.set_cons_succ])
                   | (go_big_quiet_op
                      first
                        | go_big_quiet_on
                        | go_big_quiet_call (first | (go_at_call 16; exact Wg.call (fun w' => CC.out w') _)))))
            refine wpQuiet_nil ?_
            rintro w' ⟨kk, rfl⟩
            have hkk := kk.2
            generalize kk.val = w11 at *

            have B11 : Below w.heap.size w w11 := HBQ.out.trans (hkk.below.mono HBQ.out.size)
            have O11 := own_below' HO.out hkk.below
            have HB11 := Lib.hid B11
            have c1 : w11.cell? ⟨g, q, none⟩ = some (.int .i64 (p : Int)) := (hkk.below.cell (p := ⟨g, q, none⟩) HGZ.out).trans HCQ.out
            have ck : w11.cell? ⟨g, k, none⟩ = some x := (O11.cellAt k (by omega)).trans HXK.out
            have fk := O11.frozenAt k
            have HO11 := Lib.hid O11
            clear hkk kk B11 O11 rP rI cq
            go_wp2_with fail
            obtain ⟨hO12, hg12⟩ := HO11.out.stored k (.int .i64 (p : Int))
            have B12 : Below w.heap.size w (w11.setCell ⟨g, k, none⟩ (.int .i64 (p : Int))) := HB11.out.setCell HGB.out _
            rw [HMV.out] at hO12
            go_roundw
            case rel =>
              refine ⟨q, by omega, by go_num, B12, Lib.hid ⟨_, hO12⟩, Lib.hid fun y hy => ?_⟩
              rw [HDQ.out] at hy
              rcases List.mem_cons.1 hy with rfl | hy
              · rw [HPK.out, HIK.out]; exact HCM.out
              · exact HGT.out y hy
            case measure => have := HQK.out; simp [intOf]; omega
          · have d4 : decide ((0 : Int) < cmpK kp ki) = false := by rw [decide_eq_false_iff_not]; omega
            have d5 : ¬ (0 : Int) < cmpK kp ki := by omega
            have HSR : Hid (LeK ((o.take k ++ i :: o.drop k).map (keyAt ks))) := Lib.hid (ins_sorted HS.out (by omega) HGT.out fun h => by rw [HOQ.out, HPK.out, HIK.out]; omega)
            clear hcm HOQ hk0 hq hqo hol
            go_wp2_with fail
            refine wp_region_wg (by kernel_rfl) (by kernel_rfl) ?_
            repeat (first
              | go_big_quiet_skip
              | (go_big_quiet_want
                 first
                   | (refine quiet_val (fun w' hw' => ex_load 26 _ rfl (p := ⟨b, off + p * 34, none⟩) rfl (run_loadVar_mid w' _ _ _ (keyV kp) _ (rP.out w' hw') Tryz.underlying26 rfl HSP.out)) ?_
                      go_big_quiet_on
                      simp only [Act.put, List.setIfInBounds_toArray, List.set_cons_zero, List.set_cons_succ])
                   | (refine quiet_val (fun w' hw' => ex_load 26 _ rfl (p := ⟨b, off + i * 34, none⟩) rfl (run_loadVar_mid w' _ _ _ (keyV ki) _ (rI.out w' hw') Tryz.underlying26 rfl HSI.out)) ?_
                      go_big_quiet_on
                      simp only [Act.put, List.setIfInBounds_toArray, List.set_cons_zero, List.set_cons_succ])
                   | (go_big_quiet_op
                      first
                        | go_big_quiet_on
                        | go_big_quiet_call (first | (go_at_call 16; exact Wg.call (fun w' => CC.out w') _)))))
            refine wpQuiet_nil ?_
            rintro w' ⟨kk, rfl⟩
            have hkk := kk.2
            generalize kk.val = w11 at *

            clear rP rI cq
            have B11 : Below w.heap.size w w11 := HBQ.out.trans (hkk.below.mono HBQ.out.size)
            have O11 := own_below' HO.out hkk.below
            have HB11 := Lib.hid B11
            have ck : w11.cell? ⟨g, k, none⟩ = some x := (O11.cellAt k (by omega)).trans HXK.out
            have fk := O11.frozenAt k
            have HO11 := Lib.hid O11
            clear hkk kk B11 O11
            go_wp2_with fail
            obtain ⟨hO12, hg12⟩ := HO11.out.stored k (.int .i64 (i : Int))
            have B12 : Below w.heap.size w (w11.setCell ⟨g, k, none⟩ (.int .i64 (i : Int))) := HB11.out.setCell HGB.out _
            rw [HSET.out] at hO12
            go_roundw
            case rel => exact ⟨i + 1, by omega, by go_num, B12, o.take k ++ i :: o.drop k, Lib.hid (ins_perm HP.out rfl), HSR, Lib.hid hO12⟩
            case measure => simp [intOf]; omega

        · have d1 : decide ((0 : Int) < (k : Int)) = false := by rw [decide_eq_false_iff_not]; omega
          have d2 : ¬ (0 : Int) < (k : Int) := by omega
          have d3 : decide (0 < k) = false := by rw [decide_eq_false_iff_not]; omega
          have HSR : Hid (LeK ((o.take k ++ i :: o.drop k).map (keyAt ks))) := Lib.hid (ins_sorted HS.out (by omega) HGT.out fun h => absurd h hk0)
          clear hol
          go_wp2_with fail
          refine wp_region_wg (by kernel_rfl) (by kernel_rfl) ?_
          repeat (first
            | go_big_quiet_skip
            | (go_big_quiet_want
               first
                 | (go_big_quiet_op
                    first
                      | go_big_quiet_on
                      | go_big_quiet_call (first | (fail)))))
          refine wpQuiet_nil ?_
          rintro w' ⟨kk, rfl⟩
          have hkk := kk.2
          generalize kk.val = w11 at *

          have B11 : Below w.heap.size w w11 := HBQ.out.trans (hkk.below.mono HBQ.out.size)
          have O11 := own_below' HO.out hkk.below
          have HB11 := Lib.hid B11
          have ck : w11.cell? ⟨g, k, none⟩ = some x := (O11.cellAt k (by omega)).trans HXK.out
          have fk := O11.frozenAt k
          have HO11 := Lib.hid O11
          clear hkk kk B11 O11
          go_wp2_with fail
          obtain ⟨hO12, hg12⟩ := HO11.out.stored k (.int .i64 (i : Int))
          have B12 : Below w.heap.size w (w11.setCell ⟨g, k, none⟩ (.int .i64 (i : Int))) := HB11.out.setCell HGB.out _
          rw [HSET.out] at hO12
          go_roundw
          case rel => exact ⟨i + 1, by omega, by go_num, B12, o.take k ++ i :: o.drop k, Lib.hid (ins_perm HP.out rfl), HSR, Lib.hid hO12⟩
          case measure => simp [intOf]; omega

    · have hie : i = ks.length := by omega
      rw [hie] at HP HO
      obtain ⟨A3, c3, rfl⟩ := own_shape HO.out
      have HBR := Lib.hid hbr
      clear hie hbr hol
      go_wp2_with fail
      go_ret
      exact ⟨HBR.out, A3, c3, o, rfl, HP.out, HS.out, Sl.of_own HO.out⟩
end Go.Proofs.YtfjmbcljohobeaaGreatDoor
