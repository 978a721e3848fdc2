/-
  A text is inserted into a document. Conditions: the document lies in memory, its indexes are small, at most 2^30 runs; the text is one, of at most 2^40 bytes.
-/
import Derived.Test.YtdgbjhfkmembdaaGreatDoorBlockCut
import Derived.Test.YtdgbjhfkmembdaaGreatDoorUtfRunes
import Derived.Test.YtdgbjhfkmembdaaGreatDoorKeyWalks
namespace Go.Proofs.YtdgbjhfkmembdaaGreatDoor
open Go.RowKit Go.Maps
set_option linter.unusedVariables false
set_option linter.unusedSimpArgs false

theorem ex_lssB {P : Program} {ρ : Operand → Value} {o : Oper} {w : World} (x y : Operand) (t' : TypeId) (ho : o.op = .binOp .lss 3 x y t') {m n : Int} (hx : ρ x = .int .i64 m) (hy : ρ y = .int .i64 n) {r : Bool} (hr : decide (m < n) = r) : (execOp ρ o).run P w = .ok (.value (.bool r)) w := by
  subst hr
  unfold execOp
  simp only [ho, hx, hy]
  rfl
theorem ex_gtrB {P : Program} {ρ : Operand → Value} {o : Oper} {w : World} (x y : Operand) (t' : TypeId) (ho : o.op = .binOp .gtr 3 x y t') {m n : Int} (hx : ρ x = .int .i64 m) (hy : ρ y = .int .i64 n) {r : Bool} (hr : decide (n < m) = r) : (execOp ρ o).run P w = .ok (.value (.bool r)) w := by
  subst hr
  unfold execOp
  simp only [ho, hx, hy]
  rfl
/-- Runes that a call laid. -/
theorem RuneAt.of_own {w : World} {B c : Nat} {A : Option Addr} {l : List Nat} (h : w.ownsRow B 21 1 (.slice A l.length c) l.length (i32s l)) (hl : 0 < l.length) : RuneAt w (.slice A l.length c) l := by
  obtain ⟨g, cap, tail, hv, _, hg, hc, hm, _⟩ := own_open h hl
  injection hv with e1 _ e2
  subst e1 e2
  refine ⟨g, 0, c, _, _, rfl, hc, hm, hg, fun j u hj => ?_⟩
  rw [Nat.zero_add, List.getElem?_toArray, List.getElem?_append_left (List.getElem?_eq_some_iff.1 hj).1]
  exact hj
def InsGives (w : World) (B p : Nat) (v : Value) (d : List RunD) (e : Ending) (w' : World) : Prop := (∃ n : Int, e = .returned (.int .i64 n)) ∧ DTurn w B p v d w'
set_option maxHeartbeats 4000000 in
set_option maxRecDepth 100000 in
theorem insert_bad (d : List RunD) (key at' : KeyD) (s : ByteArray) (l : List Nat) (B p : Nat) (v : Value) (w : World) (h : DocAt w B p v d) (hk : KeyOk key) (ha : KeyOk at') (hix : RunIx d) (hl : d.length ≤ 1073741822) (hs : s.size ≤ 1099511627776) (hr : runesOf s = some l) (hln : l.length ≤ 1099511627776) (hkx : Ix key.2.2) (first : Bool) (hb : l = [] ∨ key.2.2 < 0 ∨ 2147483648 - (l.length : Int) < key.2.2) :
    Calls Tryz.prog 101 #[.pointer (some ⟨p, 0, none⟩), .agg (keyV key).toArray, .agg (keyV at').toArray, .bool first, .string s] w (InsGives w B p v (insertR d key at' first l).1) := by
  have HD := Lib.hid h; have HK := Lib.hid hk; have HA := Lib.hid ha; have HIX := Lib.hid hix; have HRS := Lib.hid hr
  have hlt := h.lt
  have hkl := keyV_length hk
  have hal := keyV_length ha
  clear h hk ha hix hr
  unfold Ix at hkx
  obtain ⟨kt, ki, kx⟩ := key
  dsimp only at hkx
  obtain ⟨q0, q1, q2⟩ := key_cells HK.out
  have Q1 := Lib.hid q1
  clear q0 q1 q2
  go_enter Tryz.func101, Tryz.ntmps101
  go_upto_region 1 with (first
    | (with_reducible refine at_box ?_
       refine wp_boxM (by rfl) 89 _ rfl (keyV (kt, ki, kx)) _ rfl rfl (by rw [hkl]; kernel_rfl) ?_
       intro W0 hb0 hy0 hs0
       have HB0 := Lib.hid hb0; have HY0 := Lib.hid hy0; have HS0 := Lib.hid hs0
       clear hb0 hy0 hs0)
    | (with_reducible refine at_box ?_
       refine wp_boxM (by rfl) 89 _ rfl (keyV at') _ rfl rfl (by rw [hal]; kernel_rfl) ?_
       intro W1 hb1 hy1 hs1
       have HB1 := Lib.hid hb1; have HY1 := Lib.hid hy1; have HS1 := Lib.hid hs1
       clear hb1 hy1 hs1))
  obtain ⟨b6, hb6⟩ : ∃ b6, w.heap.size = b6 := ⟨_, rfl⟩
  obtain ⟨b7, hb7⟩ : ∃ b7, W0.heap.size = b7 := ⟨_, rfl⟩
  have HBW := Lib.hid (HB0.out.trans (HB1.out.mono HB0.out.size))
  have HZ0 := Lib.hid ((HB1.out.block w.heap.size (qX HY0.out)).trans HY0.out)
  rw [hb6] at HZ0 ⊢
  rw [hb7] at HY1 ⊢
  have HL6 := Lib.hid (show w.heap.size ≤ b6 by omega)
  have HL7 := Lib.hid (show w.heap.size ≤ b7 by have := HB0.out.size; omega)
  clear HB0 HB1 HS0 HS1 hb6 hb7 HY0
  go_upto_region 2 with (first
    | (go_at_call 155; refine (prunes_any s W1 hs).mono ?_
       rintro e W2 ⟨hb2, ⟨l', A, c, hr', rfl, ho'⟩ | ⟨hr', _⟩⟩
       rotate_left
       · exact absurd (HRS.out.symm.trans hr') (by simp)
       obtain rfl : l' = l := Option.some.inj (hr'.symm.trans HRS.out)
       have HB2 := Lib.hid hb2; have HO := Lib.hid ho'
       clear hb2 ho' hr'))
  have HZ2 := Lib.hid ((HB2.out.block b6 (qX HZ0.out)).trans HZ0.out)
  have HY2 := Lib.hid ((HB2.out.block b7 (qX HY1.out)).trans HY1.out)
  have HBW2 : Hid (Below w.heap.size w W2) := Lib.hid (HBW.out.trans (HB2.out.mono HBW.out.size))
  have c33 : W2.cell? ⟨b6, 33, none⟩ = some (.int .i64 kx) := (cells_at0 HZ2.out 33).trans Q1.out
  have HD2 := Lib.hid (HD.out.keep HBW2.out)
  clear HZ0 HY1 HB2 HBW
  have ew1 : IntKind.i64.wrap (2147483647 - (l'.length : Int)) = 2147483647 - (l'.length : Int) := IntWalk.i64_in _ (by omega)
  have ew2 : IntKind.i64.wrap (2147483647 - (l'.length : Int) + 1) = 2147483648 - (l'.length : Int) := by rw [IntWalk.i64_in _ (by omega)]; omega
  have HEQ : Hid ((insertR d (kt, ki, kx) at' first l').1 = d) := Lib.hid (by unfold insertR; rw [if_pos hb])
  try dsimp only at hb
  have HFIN : Hid (∀ w' n, Below W2.heap.size W2 w' → InsGives w B p v (insertR d (kt, ki, kx) at' first l').1 (.returned (.int .i64 n)) w') := Lib.hid fun w' n hb => by
    rw [HEQ.out]
    exact ⟨⟨n, rfl⟩, DTurn.same HD.out (HBW2.out.trans (hb.mono HBW2.out.size))⟩
  by_cases h0 : l'.length = 0
  · go_wp2_with fail
    go_ret
    exact HFIN.out _ _ (qB _ _)
  by_cases h1 : kx < 0
  · go_wp2_with fail
    go_ret
    exact HFIN.out _ _ (qB _ _)
  · have h2 : 2147483648 - (l'.length : Int) < kx := by
      rcases hb with rfl | hb | hb
      · simp at h0
      · omega
      · exact hb
    go_wp2_with fail
    go_ret
    exact HFIN.out _ _ (qB _ _)
/-- A document's numbers are turned. -/
theorem DocRows.setBox {w w' : World} {B p : Nat} {v : Value} {rs : List RunM} {s t : Int} (h : DocRows w B p v rs) (hbx : w'.heap[p]? = some (.cells [v, .int .i64 s, .int .i64 t].toArray 192 (0, 0))) (hb : But (fun k => k = p) w w') : DocRows w' B p v rs := by
  obtain ⟨s0, t0, h0⟩ := h.box
  have hK : KeepR w w' := KeepR.but hb fun k hk cu ty fr hty hcc => by
    subst hk
    rw [h0] at hcc
    injection hcc with hcc
    injection hcc with _ hcc
    subst hcc
    exact absurd hty (by decide)
  exact ⟨⟨s, t, hbx⟩, h.low, fun r hr => (h.ins r hr).keep hK, hb.own h.own fun g hg e => by
    obtain ⟨c, hc⟩ := own_tagged h.own hg
    exact ne_tag hc h0 (by decide) e⟩
set_option maxHeartbeats 4000000 in
set_option maxRecDepth 100000 in
theorem run_built2 (k : KeyD) (hk : KeyOk k) (x : Value) (hx : x.oneCell' = true) (w : World) : (Instr.build 177 #[(0, .agg (keyV k).toArray), (1, x)]).run Tryz.prog w = .ok (.agg (keyV k ++ ([x] ++ [Value.bool false])).toArray) w := by
  obtain ⟨j, hi, hz, _, _⟩ := info_parts infoRun
  have hc : x.cells = #[x] := by cases x <;> first | rfl | cases hx
  have h := built_struct (P := Tryz.prog) hi Tryz.underlying177 hz [keyV (0, zero32, 0), [.slice none 0 0], [.bool false]] rfl (places := [(0, 34), (34, 1), (35, 1)]) (by kernel_rfl) (by kernel_rfl) [(0, .agg (keyV k).toArray), (1, x)] (by
    intro q hq
    simp only [List.mem_cons, List.not_mem_nil, or_false] at hq
    rcases hq with rfl | rfl
    · exact ⟨by show 0 < 3; omega, by show (keyV k).toArray.size = 34; rw [List.size_toArray, keyV_length hk]⟩
    · exact ⟨by show 1 < 3; omega, by show x.cells.size = 1; rw [hc]; rfl⟩)
  have h2 := run_build (P := Tryz.prog) w 177 #[(0, .agg (keyV k).toArray), (1, x)] _ h
  refine h2.trans ?_
  have e1 : (Value.agg (keyV k).toArray).cells = (keyV k).toArray := rfl
  simp [e1, hc]
theorem cutR_ge (d : List RunD) (i n : Nat) : d.length ≤ (cutR d i n).length := by
  unfold cutR
  split
  · exact Nat.le_refl _
  · rename_i r hr
    split
    · have hi := (List.getElem?_eq_some_iff.1 hr).1
      simp
      omega
    · exact Nat.le_refl _
theorem cutR_le (d : List RunD) (i n : Nat) : (cutR d i n).length ≤ d.length + 1 := by
  unfold cutR
  split
  · omega
  · rename_i r hr
    split
    · have hi := (List.getElem?_eq_some_iff.1 hr).1
      simp
      omega
    · omega
set_option maxHeartbeats 4000000 in
set_option maxRecDepth 100000 in
theorem insert_first (d : List RunD) (key at' : KeyD) (s : ByteArray) (l : List Nat) (B p : Nat) (v : Value) (w : World) (h : DocAt w B p v d) (hk : KeyOk key) (ha : KeyOk at') (hix : RunIx d) (hl : d.length ≤ 1073741822) (hs : s.size ≤ 1099511627776) (hr : runesOf s = some l) (hln : l.length ≤ 1099511627776) (hkx : Ix key.2.2) (h0 : 0 < l.length) (h1 : 0 ≤ key.2.2) (h2 : key.2.2 ≤ 2147483648 - (l.length : Int)) :
    Calls Tryz.prog 101 #[.pointer (some ⟨p, 0, none⟩), .agg (keyV key).toArray, .agg (keyV at').toArray, .bool true, .string s] w (InsGives w B p v (insertR d key at' true l).1) := by
  have HD := Lib.hid h; have HK := Lib.hid hk; have HA := Lib.hid ha; have HIX := Lib.hid hix; have HRS := Lib.hid hr
  have hlt := h.lt
  have hkl := keyV_length hk
  have hal := keyV_length ha
  clear h hk ha hix hr
  unfold Ix at hkx
  obtain ⟨kt, ki, kx⟩ := key
  dsimp only at hkx
  obtain ⟨q0, q1, q2⟩ := key_cells HK.out
  have Q1 := Lib.hid q1
  clear q0 q1 q2
  go_enter Tryz.func101, Tryz.ntmps101
  go_upto_region 1 with (first
    | (with_reducible refine at_box ?_
       refine wp_boxM (by rfl) 89 _ rfl (keyV (kt, ki, kx)) _ rfl rfl (by rw [hkl]; kernel_rfl) ?_
       intro W0 hb0 hy0 hs0
       have HB0 := Lib.hid hb0; have HY0 := Lib.hid hy0; have HS0 := Lib.hid hs0
       clear hb0 hy0 hs0)
    | (with_reducible refine at_box ?_
       refine wp_boxM (by rfl) 89 _ rfl (keyV at') _ rfl rfl (by rw [hal]; kernel_rfl) ?_
       intro W1 hb1 hy1 hs1
       have HB1 := Lib.hid hb1; have HY1 := Lib.hid hy1; have HS1 := Lib.hid hs1
       clear hb1 hy1 hs1))
  obtain ⟨b6, hb6⟩ : ∃ b6, w.heap.size = b6 := ⟨_, rfl⟩
  obtain ⟨b7, hb7⟩ : ∃ b7, W0.heap.size = b7 := ⟨_, rfl⟩
  have HBW := Lib.hid (HB0.out.trans (HB1.out.mono HB0.out.size))
  have HZ0 := Lib.hid ((HB1.out.block w.heap.size (qX HY0.out)).trans HY0.out)
  rw [hb6] at HZ0 ⊢
  rw [hb7] at HY1 ⊢
  have HL6 := Lib.hid (show w.heap.size ≤ b6 by omega)
  have HL7 := Lib.hid (show w.heap.size ≤ b7 by have := HB0.out.size; omega)
  clear HB0 HB1 HS0 HS1 hb6 hb7 HY0
  go_upto_region 2 with (first
    | (go_at_call 155; refine (prunes_any s W1 hs).mono ?_
       rintro e W2 ⟨hb2, ⟨l', A, c, hr', rfl, ho'⟩ | ⟨hr', _⟩⟩
       rotate_left
       · exact absurd (HRS.out.symm.trans hr') (by simp)
       obtain rfl : l' = l := Option.some.inj (hr'.symm.trans HRS.out)
       have HB2 := Lib.hid hb2; have HO := Lib.hid ho'
       clear hb2 ho' hr'))
  have HZ2 := Lib.hid ((HB2.out.block b6 (qX HZ0.out)).trans HZ0.out)
  have HY2 := Lib.hid ((HB2.out.block b7 (qX HY1.out)).trans HY1.out)
  have HBW2 : Hid (Below w.heap.size w W2) := Lib.hid (HBW.out.trans (HB2.out.mono HBW.out.size))
  have c33 : W2.cell? ⟨b6, 33, none⟩ = some (.int .i64 kx) := (cells_at0 HZ2.out 33).trans Q1.out
  have HD2 := Lib.hid (HD.out.keep HBW2.out)
  clear HZ0 HY1 HB2 HBW
  have ew1 : IntKind.i64.wrap (2147483647 - (l'.length : Int)) = 2147483647 - (l'.length : Int) := IntWalk.i64_in _ (by omega)
  have ew2 : IntKind.i64.wrap (2147483647 - (l'.length : Int) + 1) = 2147483648 - (l'.length : Int) := by rw [IntWalk.i64_in _ (by omega)]; omega
  try dsimp only at h1 h2
  have g0 : ¬ l'.length = 0 := by omega
  have g1 : ¬ kx < 0 := by omega
  have g2 : ¬ 2147483648 - (l'.length : Int) < kx := by omega
  have HNE : Hid (l' ≠ []) := Lib.hid (List.length_pos_iff.1 h0)
  have HOK : Hid (¬ (l' = [] ∨ kx < 0 ∨ 2147483648 - (l'.length : Int) < kx)) := Lib.hid (by
    rintro (rfl | q | q)
    · simp at h0
    · omega
    · omega)
  obtain ⟨c0, hc0⟩ : ∃ x, c = x := ⟨_, rfl⟩
  rw [hc0] at HO ⊢
  clear hc0
  have HR2 := Lib.hid (RuneAt.of_own HO.out h0)
  obtain ⟨rs0, hrs0, hdr0⟩ := HD2.out.runs
  have HDR0 := Lib.hid hdr0
  have HRM0 := Lib.hid hrs0
  have HIX0 := Lib.hid (show (∀ r ∈ rs0, Ix r.1.2.2) ∧ (∀ r ∈ rs0, r.2.2.1.length ≤ 2305843009213693952) from by
    have h : ∀ r ∈ rs0, 0 ≤ r.1.2.2 ∧ r.1.2.2 + (r.2.2.1.length : Int) ≤ 2147483648 := fun r hr => HIX.out (runOf r) (by rw [← hrs0]; exact List.mem_map_of_mem hr)
    exact ⟨fun r hr => by have := h r hr; unfold Ix; omega, fun r hr => by have := h r hr; omega⟩)
  have hl0 : rs0.length ≤ 1099511627776 := by rw [← List.length_map (f := runOf), hrs0]; omega
  clear hrs0 hdr0
  have HSAME : Hid (∀ w' n dd, dd = d → Below W2.heap.size W2 w' → InsGives w B p v dd (.returned (.int .i64 n)) w') := Lib.hid fun w' n dd hdd hb => by
    subst hdd
    exact ⟨⟨n, rfl⟩, DTurn.same HD.out (HBW2.out.trans (hb.mono HBW2.out.size))⟩
  have HKW := Lib.hid (show W2.rangeAt b6 0 (keyV (kt, ki, kx)) from fun j x hj => by rw [qZ]; exact (cells_at0 HZ2.out j).trans hj)
  cases hfr : freshR d (kt, ki, kx) (l'.length : Int)
  · have HFR := Lib.hid hfr
    have HFI : Hid ((insertR d (kt, ki, kx) at' true l').1 = d) := Lib.hid (by unfold insertR; rw [if_neg HOK.out, if_pos rfl, if_neg (by rw [hfr]; exact Bool.false_ne_true)])
    clear hfr
    go_wp2_with (first
      | (refine wp_val (by rfl) (ldK HK.out HKW.out) ?_)
      | (go_at_call 157; refine (fresh_run rs0 (kt, ki, kx) (l'.length : Int) B p v W2 HDR0.out HK.out HIX0.out.1 (by unfold Ix; omega) (by unfold Ix; omega) HIX0.out.2 hl0).mono ?_
         rintro e W3 ⟨hb3, rfl⟩
         rw [HRM0.out, show freshE d (kt, ki, kx) (l'.length : Int) = 11 from if_neg (by rw [HFR.out]; exact Bool.false_ne_true)]
         have HB3 := Lib.hid hb3
         clear hb3))
    go_ret
    exact HSAME.out _ _ _ HFI.out HB3.out
  · have HFR := Lib.hid hfr
    have HFE : Hid ((insertR d (kt, ki, kx) at' true l').1 = putR d (placeR d (kt, ki, kx) 0) ((kt, ki, kx), l', false)) := Lib.hid (by unfold insertR; rw [if_neg HOK.out, if_pos rfl, if_pos hfr])
    clear hfr
    go_upto_region 20 with (first
      | (refine wp_val (by rfl) (ldK HK.out HKW.out) ?_)
      | (go_at_call 157; refine (fresh_run rs0 (kt, ki, kx) (l'.length : Int) B p v W2 HDR0.out HK.out HIX0.out.1 (by unfold Ix; omega) (by unfold Ix; omega) HIX0.out.2 hl0).mono ?_
         rintro e WL ⟨hb3, rfl⟩
         rw [HRM0.out, show freshE d (kt, ki, kx) (l'.length : Int) = 0 from if_pos HFR.out]
         have HB3 := Lib.hid hb3
         clear hb3))
    clear c33 ew1 ew2
    have HBWL := Lib.hid (HBW2.out.trans (HB3.out.mono HBW2.out.size))
    have HDL := Lib.hid (HD.out.keep HBWL.out)
    have HLB : Hid (But (DocX p v) w WL) := Lib.hid (But.of_below HBWL.out)
    have HLN := Lib.hid (Newer.refl w v)
    have HZL := Lib.hid ((HB3.out.block b6 (qX HZ2.out)).trans HZ2.out)
    have HRL := Lib.hid (HR2.out.keep (KeepR.below HB3.out))
    clear HDR0 HRM0 HIX0 hl0 HB3 HZ2 HR2 HKW HD2 HY2 HSAME HO
    have hlL : d.length ≤ 1073741823 := by omega
    obtain ⟨dL, hdL⟩ : ∃ x, d = x := ⟨_, rfl⟩
    obtain ⟨j0, hj0⟩ : ∃ x : Nat, 0 = x := ⟨_, rfl⟩
    obtain ⟨vL, hvL0⟩ : ∃ x, v = x := ⟨_, rfl⟩
    have HDL : Hid (DocAt WL B p vL dL) := Lib.hid (by rw [← hdL, ← hvL0]; exact HDL.out)
    have HFE : Hid ((insertR d (kt, ki, kx) at' true l').1 = putR dL (placeR dL (kt, ki, kx) j0) ((kt, ki, kx), l', false)) := Lib.hid (by rw [← hdL, ← hj0]; exact HFE.out)
    have HLN : Hid (Newer w v vL) := Lib.hid (by rw [← hvL0]; exact HLN.out)
    have hlL : dL.length ≤ 1073741823 := by rw [← hdL]; exact hlL
    have hj0l : j0 ≤ dL.length := by omega
    have HJ0 := Lib.hid hj0
    clear hdL hvL0 hj0
    obtain ⟨rs, hrs, hdr⟩ := HDL.out.runs
    have HDR := Lib.hid hdr; have HRM := Lib.hid hrs
    have hlr : rs.length = dL.length := by rw [← hrs, List.length_map]
    clear hdr hrs
    have hltL := HDR.out.lt
    have hpc : ∃ A c, vL = .slice A rs.length c := own_form HDR.out.own
    obtain ⟨AL, cL, hvL⟩ := hpc
    subst hvL
    have HCP := Lib.hid (show WL.cell? ⟨p, 0, none⟩ = some (.slice AL rs.length cL) by
      obtain ⟨s1, t1, hb1⟩ := HDR.out.box
      exact cells_at0 hb1 0)
    have HWL := Lib.hid (show w.heap.size ≤ WL.heap.size from HLB.out.size)
    have HKY := Lib.hid (show ∀ u : World, Below WL.heap.size WL u → u.rangeAt b6 0 (keyV (kt, ki, kx)) from fun u hu j x hj => by rw [qZ]; exact (cells_at0 ((hu.block b6 (qX HZL.out)).trans HZL.out) j).trans hj)
    go_loopw [15] (fun t wr => ∃ j : Nat, j0 ≤ j ∧ j ≤ rs.length ∧ t = .int .i64 (j : Int) ∧ Hid (Below WL.heap.size WL wr) ∧ Hid (∀ q (hq : q < rs.length), j0 ≤ q → q < j → 0 < cmpK rs[q].1 (kt, ki, kx))) (fun t _ => rs.length - (intOf t).toNat)
    case atStart => exact ⟨j0, Nat.le_refl _, by omega, (by rw [← HJ0.out]; rfl), Lib.hid (qB _ _), Lib.hid (fun q _ h1 h2 => absurd h1 (by omega))⟩
    case round =>
      obtain ⟨j, hj1, hj2, rfl, HBR, HALL⟩ := hrel
      obtain ⟨c, hc⟩ : ∃ c : Bool, (if h : j < rs.length then decide (0 < cmpK rs[j].1 (kt, ki, kx)) else false) = c := ⟨_, rfl⟩
      have HC := Lib.hid hc
      clear hc
      have hE1 := enE Tryz.func78 rfl
      have HBD := Lib.hid (HBR.out.trans ((qD wr.heap.size wr).mono HBR.out.size))
      repeat go_step
      go_cut [107] from 88 to 107 (fun t wx => t = .bool c ∧ Hid (Below WL.heap.size WL wx))
      case first =>
        by_cases hlt2 : j < rs.length
        · have hiw : decide ((j : Int) < (rs.length : Int)) = true := dT (by omega)
          have HIW := Lib.hid hiw
          obtain ⟨g, c', hgv, hrow, hgl, hgB⟩ := HDR.out.row hlt2
          injection hgv with hA _ hc'
          subst hA hc'
          have HRI := Lib.hid (HDR.out.ins _ (List.getElem_mem hlt2))
          have HCC : Hid (decide (0 < cmpK rs[j].1 (kt, ki, kx)) = c) := Lib.hid (by have := HC.out; rw [dif_pos hlt2] at this; exact this)
          obtain ⟨_, _, _, _, _, p5⟩ := run_cells HRI.out.1
          have HRK := Lib.hid (show ∀ u : World, Below WL.heap.size WL u → u.rangeAt g (0 + j * 36 + 0) (keyV rs[j].1) from fun u hu q x hq => by
            have h1 := hrow _ _ (p5 q x hq)
            have h2 := (hu.cell (p := ⟨g, j * 36 + (0 + q), none⟩) hgl).trans h1
            rw [show 0 + j * 36 + 0 + q = j * 36 + (0 + q) by omega]
            exact h2)
          clear hrow hgB p5 hiw
          have HCW := Lib.hid (show ∀ u : World, Below WL.heap.size WL u → u.cell? ⟨p, 0, none⟩ = some (.slice (some ⟨g, 0, none⟩) rs.length cL) from fun u hu => (hu.cell (p := ⟨p, 0, none⟩) hltL).trans HCP.out)
          have HRO : Hid (KeyOk rs[j].1) := Lib.hid HRI.out.1
          generalize rs[j] = r at *
          refine rN 20 (fun u => Below WL.heap.size WL u) HBD.out fun hF0 => ?_
          refine tw 0 (.int .i64 (j : Int)) ?_
          go_frame
          refine tw 1 (.pointer (some ⟨p, 0, none⟩)) ?_
          go_frame
          refine tw 2 (.pointer (some ⟨p, 0, none⟩)) ?_
          go_frame
          refine tw 3 (.pointer (some ⟨p, 0, none⟩)) ?_
          go_frame
          refine tl 4 (.slice (some ⟨g, 0, none⟩) rs.length cL) rfl hF0 (fun w' hw' => l1 Tryz.underlying190 (HCW.out w' hw')) ?_
          go_frame
          refine tk 5 (.int .i64 (rs.length : Int)) rfl (fun w' hw' => ex_len 190 _ rfl rfl Tryz.underlying190) ?_
          go_frame
          refine tk 6 (.bool true) rfl (fun w' hw' => ex_lssB _ _ _ rfl rfl rfl HIW.out) ?_
          go_frame
          refine tw 7 (.bool true) ?_
          go_frame
          refine tw 8 (.pointer (some ⟨p, 0, none⟩)) ?_
          go_frame
          refine tw 9 (.pointer (some ⟨p, 0, none⟩)) ?_
          go_frame
          refine tw 10 (.pointer (some ⟨p, 0, none⟩)) ?_
          go_frame
          refine tl 11 (.slice (some ⟨g, 0, none⟩) rs.length cL) rfl hF0 (fun w' hw' => l1 Tryz.underlying190 (HCW.out w' hw')) ?_
          go_frame
          refine tw 12 (.int .i64 (j : Int)) ?_
          go_frame
          refine tk 13 (.pointer (some ⟨g, 0 + j * 36, none⟩)) rfl (fun w' hw' => ex_indexG 190 _ _ rfl (b := g) (off := 0) (q := j) (n := rs.length) (c := cL) rfl rfl hlt2 Tryz.underlying190 sizeRun) ?_
          go_frame
          refine tw 14 (.pointer (some ⟨g, 0 + j * 36 + 0, none⟩)) ?_
          go_frame
          refine tl 15 (.agg (keyV r.1).toArray) rfl hF0 (fun w' hw' => ldK HRO.out (HRK.out w' hw')) ?_
          go_frame
          refine tl 16 (.agg (keyV (kt, ki, kx)).toArray) rfl hF0 (fun w' hw' => ldK HK.out (HKY.out w' hw')) ?_
          go_frame
          refine ta 17 ?_
          refine tc #[.agg (keyV r.1).toArray, .agg (keyV (kt, ki, kx)).toArray] hE1 rfl ?_
          refine (keys_any _ _ _ HRO.out HK.out).mono ?_
          rintro e u3 ⟨hb3, rfl⟩
          have HB3 := Lib.hid (HBD.out.trans (hb3.mono HBD.out.size))
          clear hb3
          refine ⟨_, rfl, fun _ _ => HB3.out, ?_⟩
          go_frame
          refine tk 18 (.bool c) rfl (fun w' hw' => ex_gtrB _ _ _ rfl rfl rfl HCC.out) ?_
          go_frame
          refine tw 19 (.bool c) ?_
          go_frame
          refine wpAnyN_done (by kernel_rfl) ?_ _
          go_wp2_with fail
          go_meet
          case rel => exact ⟨rfl, HB3⟩
        · have hiw : decide ((j : Int) < (rs.length : Int)) = false := dF (by omega)
          have HIW := Lib.hid hiw
          have HCC : Hid (c = false) := Lib.hid (by have := HC.out; rw [dif_neg hlt2] at this; exact this.symm)
          have HCW := Lib.hid (show ∀ u : World, Below WL.heap.size WL u → u.cell? ⟨p, 0, none⟩ = some (.slice AL rs.length cL) from fun u hu => (hu.cell (p := ⟨p, 0, none⟩) hltL).trans HCP.out)
          clear hiw
          refine rN 20 (fun u => Below WL.heap.size WL u) HBD.out fun hF0 => ?_
          refine tw 0 (.int .i64 (j : Int)) ?_
          go_frame
          refine tw 1 (.pointer (some ⟨p, 0, none⟩)) ?_
          go_frame
          refine tw 2 (.pointer (some ⟨p, 0, none⟩)) ?_
          go_frame
          refine tw 3 (.pointer (some ⟨p, 0, none⟩)) ?_
          go_frame
          refine tl 4 (.slice AL rs.length cL) rfl hF0 (fun w' hw' => l1 Tryz.underlying190 (HCW.out w' hw')) ?_
          go_frame
          refine tk 5 (.int .i64 (rs.length : Int)) rfl (fun w' hw' => ex_len 190 _ rfl rfl Tryz.underlying190) ?_
          go_frame
          refine tk 6 (.bool false) rfl (fun w' hw' => ex_lssB _ _ _ rfl rfl rfl HIW.out) ?_
          go_frame
          refine tw 7 (.bool false) ?_
          go_frame
          refine tn 8 ?_
          go_frame
          refine tn 9 ?_
          go_frame
          refine tn 10 ?_
          go_frame
          refine tn 11 ?_
          go_frame
          refine tn 12 ?_
          go_frame
          refine tn 13 ?_
          go_frame
          refine tn 14 ?_
          go_frame
          refine tn 15 ?_
          go_frame
          refine tn 16 ?_
          go_frame
          refine tn 17 ?_
          go_frame
          refine tn 18 ?_
          go_frame
          refine tw 19 (.bool false) ?_
          go_frame
          refine wpAnyN_done (by kernel_rfl) ?_ _
          go_wp2_with fail
          go_meet
          case rel => exact ⟨by rw [HCC.out], HBD⟩
      case rest =>
        obtain ⟨rfl, HBC⟩ := hcut
        have ewj : IntKind.i64.wrap ((j : Int) + 1) = ((j + 1 : Nat) : Int) := by rw [IntWalk.i64_in _ (by omega)]; omega
        clear hE1 HBD
        cases c with
        | true =>
          have hlt2 : j < rs.length := by
            by_cases h : j < rs.length
            · exact h
            · have := HC.out; rw [dif_neg h] at this; cases this
          have HP := Lib.hid (show 0 < cmpK rs[j].1 (kt, ki, kx) by have := HC.out; rw [dif_pos hlt2] at this; exact of_decide_eq_true this)
          go_wp2_with fail
          go_roundw
          case rel =>
            refine ⟨j + 1, by omega, by omega, by go_num, HBC, Lib.hid (fun q hq h1 h2 => ?_)⟩
            rcases (by omega : q < j ∨ q = j) with h3 | rfl
            · exact HALL.out q hq h1 h3
            · exact HP.out
          case measure => (simp [intOf]) <;> omega
        | false =>
          have HPL : Hid (placeR dL (kt, ki, kx) j0 = j) := Lib.hid (by
            refine placeR_is hj1 (by omega) (fun q hq h1 h2 => ?_) fun hn => ?_
            · have hq2 : q < rs.length := by omega
              have := HALL.out q hq2 h1 h2
              have e : dL[q].1 = rs[q].1 := by simp only [← HRM.out, List.getElem_map]; rfl
              rw [e]; exact this
            · have hq2 : j < rs.length := by omega
              have := HC.out
              rw [dif_pos hq2] at this
              have e : dL[j].1 = rs[j].1 := by simp only [← HRM.out, List.getElem_map]; rfl
              rw [e]; exact of_decide_eq_false this)
          have HDC := Lib.hid (HDR.out.keep HBC.out)
          have HKC := Lib.hid (HKY.out wc HBC.out)
          have HRC : Hid (RunIn wc ((kt, ki, kx), .slice A l'.length c0, l', false)) := Lib.hid ⟨HK.out, HRL.out.keep (KeepR.below HBC.out), HNE.out⟩
          clear HC HALL HKY
          go_upto_region 23 with (first
            | (refine wp_val (by rfl) (ldK HK.out HKC.out) ?_)
            | (with_reducible refine at_build ?_
               refine wp_val (by rfl) (ex_build 177 _ rfl (by simp only [List.map_toArray, List.map_cons, List.map_nil]; exact run_built2 _ HK.out _ rfl _)) ?_)
            | (go_at_call 159; refine (put_run rs j ((kt, ki, kx), .slice A l'.length c0, l', false) B p _ wc HDC.out HRC.out (by omega) (by omega)).mono ?_
               rintro e W5 ⟨rfl, v5, hdr, hbt, hnw⟩
               have HD5 := Lib.hid hdr; have HB5 := Lib.hid hbt; have HN5 := Lib.hid hnw
               clear hdr hbt hnw))
          obtain ⟨s5, t5, hbx5⟩ := HD5.out.box
          have HX5 := Lib.hid hbx5
          have c51 : W5.cell? ⟨p, 1, none⟩ = some (.int .i64 s5) := cells_at0 hbx5 1
          clear hbx5
          go_upto_region 24 with (first
            | (with_reducible refine at_store ?_
               refine wp_storeM (by rfl) 3 _ _ rfl p 1 [v5] [.int .i64 s5] [.int .i64 t5] [.int .i64 (wrap64 (s5 + (l'.length : Int)))] 192 (.int .i64 (wrap64 (s5 + (l'.length : Int)))) rfl rfl rfl rfl HX5.out rfl (by kernel_rfl) (by intro u hu; rw [List.mem_singleton.1 hu]; rfl) ?_
               intro W6 hb6 hy6 hs6
               have HB6 := Lib.hid hb6; have HX6 := Lib.hid hy6
               clear hb6 hy6 hs6))
          have c62 : W6.cell? ⟨p, 2, none⟩ = some (.int .i64 t5) := cells_at0 HX6.out 2
          clear c51
          go_upto_region 25 with (first
            | (with_reducible refine at_store ?_
               refine wp_storeM (by rfl) 3 _ _ rfl p 2 [v5, .int .i64 (wrap64 (s5 + (l'.length : Int)))] [.int .i64 t5] [] [.int .i64 (wrap64 (t5 + (l'.length : Int)))] 192 (.int .i64 (wrap64 (t5 + (l'.length : Int)))) rfl rfl rfl rfl HX6.out rfl (by kernel_rfl) (by intro u hu; rw [List.mem_singleton.1 hu]; rfl) ?_
               intro W7 hb7 hy7 hs7
               have HB7 := Lib.hid hb7; have HX7 := Lib.hid hy7
               clear hb7 hy7 hs7))
          clear c62
          go_wp2_with fail
          go_ret
          have hb67 : But (fun k => k = p) W5 W7 := HB6.out.trans HB7.out fun k _ q => q
          have hd7 := HD5.out.setBox (s := wrap64 (s5 + (l'.length : Int))) (t := wrap64 (t5 + (l'.length : Int))) (by simpa using HX7.out) hb67
          refine ⟨⟨_, rfl⟩, DTurn.trans HLB.out HLN.out HLB.out.size ⟨v5, ?_, ((But.of_below HBC.out).trans HB5.out fun k hk hx => hx).trans hb67 fun k hk e => .inl e, ?_⟩⟩
          · have e : (rs.take j ++ ((kt, ki, kx), Value.slice A l'.length c0, l', false) :: rs.drop j).map runOf = (insertR d (kt, ki, kx) at' true l').1 := by
              rw [HFE.out, HPL.out, putR_map, HRM.out]
              rfl
            rw [← e]
            exact hd7.at
          · intro k hk
            rcases HN5.out k hk with q | q
            · exact .inl q
            · exact .inr (qT HBC.out.size q)
set_option maxHeartbeats 4000000 in
set_option maxRecDepth 100000 in
theorem insert_at (d : List RunD) (key at' : KeyD) (s : ByteArray) (l : List Nat) (B p : Nat) (v : Value) (w : World) (h : DocAt w B p v d) (hk : KeyOk key) (ha : KeyOk at') (hix : RunIx d) (hl : d.length ≤ 1073741822) (hs : s.size ≤ 1099511627776) (hr : runesOf s = some l) (hln : l.length ≤ 1099511627776) (hkx : Ix key.2.2) (h0 : 0 < l.length) (h1 : 0 ≤ key.2.2) (h2 : key.2.2 ≤ 2147483648 - (l.length : Int)) (hax : Ix at'.2.2) :
    Calls Tryz.prog 101 #[.pointer (some ⟨p, 0, none⟩), .agg (keyV key).toArray, .agg (keyV at').toArray, .bool false, .string s] w (InsGives w B p v (insertR d key at' false l).1) := by
  have HD := Lib.hid h; have HK := Lib.hid hk; have HA := Lib.hid ha; have HIX := Lib.hid hix; have HRS := Lib.hid hr
  have hlt := h.lt
  have hkl := keyV_length hk
  have hal := keyV_length ha
  clear h hk ha hix hr
  unfold Ix at hkx
  obtain ⟨kt, ki, kx⟩ := key
  dsimp only at hkx
  obtain ⟨q0, q1, q2⟩ := key_cells HK.out
  have Q1 := Lib.hid q1
  clear q0 q1 q2
  go_enter Tryz.func101, Tryz.ntmps101
  go_upto_region 1 with (first
    | (with_reducible refine at_box ?_
       refine wp_boxM (by rfl) 89 _ rfl (keyV (kt, ki, kx)) _ rfl rfl (by rw [hkl]; kernel_rfl) ?_
       intro W0 hb0 hy0 hs0
       have HB0 := Lib.hid hb0; have HY0 := Lib.hid hy0; have HS0 := Lib.hid hs0
       clear hb0 hy0 hs0)
    | (with_reducible refine at_box ?_
       refine wp_boxM (by rfl) 89 _ rfl (keyV at') _ rfl rfl (by rw [hal]; kernel_rfl) ?_
       intro W1 hb1 hy1 hs1
       have HB1 := Lib.hid hb1; have HY1 := Lib.hid hy1; have HS1 := Lib.hid hs1
       clear hb1 hy1 hs1))
  obtain ⟨b6, hb6⟩ : ∃ b6, w.heap.size = b6 := ⟨_, rfl⟩
  obtain ⟨b7, hb7⟩ : ∃ b7, W0.heap.size = b7 := ⟨_, rfl⟩
  have HBW := Lib.hid (HB0.out.trans (HB1.out.mono HB0.out.size))
  have HZ0 := Lib.hid ((HB1.out.block w.heap.size (qX HY0.out)).trans HY0.out)
  rw [hb6] at HZ0 ⊢
  rw [hb7] at HY1 ⊢
  have HL6 := Lib.hid (show w.heap.size ≤ b6 by omega)
  have HL7 := Lib.hid (show w.heap.size ≤ b7 by have := HB0.out.size; omega)
  clear HB0 HB1 HS0 HS1 hb6 hb7 HY0
  go_upto_region 2 with (first
    | (go_at_call 155; refine (prunes_any s W1 hs).mono ?_
       rintro e W2 ⟨hb2, ⟨l', A, c, hr', rfl, ho'⟩ | ⟨hr', _⟩⟩
       rotate_left
       · exact absurd (HRS.out.symm.trans hr') (by simp)
       obtain rfl : l' = l := Option.some.inj (hr'.symm.trans HRS.out)
       have HB2 := Lib.hid hb2; have HO := Lib.hid ho'
       clear hb2 ho' hr'))
  have HZ2 := Lib.hid ((HB2.out.block b6 (qX HZ0.out)).trans HZ0.out)
  have HY2 := Lib.hid ((HB2.out.block b7 (qX HY1.out)).trans HY1.out)
  have HBW2 : Hid (Below w.heap.size w W2) := Lib.hid (HBW.out.trans (HB2.out.mono HBW.out.size))
  have c33 : W2.cell? ⟨b6, 33, none⟩ = some (.int .i64 kx) := (cells_at0 HZ2.out 33).trans Q1.out
  have HD2 := Lib.hid (HD.out.keep HBW2.out)
  clear HZ0 HY1 HB2 HBW
  have ew1 : IntKind.i64.wrap (2147483647 - (l'.length : Int)) = 2147483647 - (l'.length : Int) := IntWalk.i64_in _ (by omega)
  have ew2 : IntKind.i64.wrap (2147483647 - (l'.length : Int) + 1) = 2147483648 - (l'.length : Int) := by rw [IntWalk.i64_in _ (by omega)]; omega
  try dsimp only at h1 h2
  have g0 : ¬ l'.length = 0 := by omega
  have g1 : ¬ kx < 0 := by omega
  have g2 : ¬ 2147483648 - (l'.length : Int) < kx := by omega
  have HNE : Hid (l' ≠ []) := Lib.hid (List.length_pos_iff.1 h0)
  have HOK : Hid (¬ (l' = [] ∨ kx < 0 ∨ 2147483648 - (l'.length : Int) < kx)) := Lib.hid (by
    rintro (rfl | q | q)
    · simp at h0
    · omega
    · omega)
  obtain ⟨c0, hc0⟩ : ∃ x, c = x := ⟨_, rfl⟩
  rw [hc0] at HO ⊢
  clear hc0
  have HR2 := Lib.hid (RuneAt.of_own HO.out h0)
  obtain ⟨rs0, hrs0, hdr0⟩ := HD2.out.runs
  have HDR0 := Lib.hid hdr0
  have HRM0 := Lib.hid hrs0
  have HIX0 := Lib.hid (show (∀ r ∈ rs0, Ix r.1.2.2) ∧ (∀ r ∈ rs0, r.2.2.1.length ≤ 2305843009213693952) from by
    have h : ∀ r ∈ rs0, 0 ≤ r.1.2.2 ∧ r.1.2.2 + (r.2.2.1.length : Int) ≤ 2147483648 := fun r hr => HIX.out (runOf r) (by rw [← hrs0]; exact List.mem_map_of_mem hr)
    exact ⟨fun r hr => by have := h r hr; unfold Ix; omega, fun r hr => by have := h r hr; omega⟩)
  have hl0 : rs0.length ≤ 1099511627776 := by rw [← List.length_map (f := runOf), hrs0]; omega
  clear hrs0 hdr0
  have HSAME : Hid (∀ w' n dd, dd = d → Below W2.heap.size W2 w' → InsGives w B p v dd (.returned (.int .i64 n)) w') := Lib.hid fun w' n dd hdd hb => by
    subst hdd
    exact ⟨⟨n, rfl⟩, DTurn.same HD.out (HBW2.out.trans (hb.mono HBW2.out.size))⟩
  have HKW := Lib.hid (show ∀ u : World, Below W2.heap.size W2 u → u.rangeAt b6 0 (keyV (kt, ki, kx)) from fun u hu j x hj => by rw [qZ]; exact (cells_at0 ((hu.block b6 (qX HZ2.out)).trans HZ2.out) j).trans hj)
  have HAW := Lib.hid (show ∀ u : World, Below W2.heap.size W2 u → u.rangeAt b7 0 (keyV at') from fun u hu j x hj => by rw [qZ]; exact (cells_at0 ((hu.block b7 (qX HY2.out)).trans HY2.out) j).trans hj)
  have HKW0 := Lib.hid (HAW.out W2 (qB _ _))
  clear c33
  cases hfd : findR d at' with
  | none =>
    have HFD := Lib.hid hfd
    have HFI : Hid ((insertR d (kt, ki, kx) at' false l').1 = d) := Lib.hid (by unfold insertR; rw [if_neg HOK.out, if_neg Bool.false_ne_true, hfd])
    clear hfd
    have c33 : W2.cell? ⟨b6, 33, none⟩ = some (.int .i64 kx) := (cells_at0 HZ2.out 33).trans Q1.out
    go_wp2_with (first
      | (refine wp_val (by rfl) (ldK HA.out HKW0.out) ?_)
      | (go_at_call 156; refine (find_run rs0 at' B p v W2 HDR0.out HA.out HIX0.out.1 hax hl0).mono ?_
         rintro e W3 ⟨hb3, rfl⟩
         rw [HRM0.out, HFD.out]
         unfold findV
         have HB3 := Lib.hid hb3
         clear hb3))
    go_ret
    exact HSAME.out _ _ _ HFI.out HB3.out
  | some x =>
    obtain ⟨i, k⟩ := x
    have HFD := Lib.hid hfd
    obtain ⟨hid, hholds, hkeq⟩ := findR_lt hfd
    have hkl2 : k ≤ 2147483648 ∧ i < 1073741823 := by
      obtain ⟨g1, g2⟩ := HIX.out d[i] (List.getElem_mem hid)
      unfold holdsR at hholds
      simp only [Bool.and_eq_true, decide_eq_true_eq] at hholds
      omega
    clear hfd hholds hkeq
    have c33 : W2.cell? ⟨b6, 33, none⟩ = some (.int .i64 kx) := (cells_at0 HZ2.out 33).trans Q1.out
    go_upto_region 10 with (first
      | (refine wp_val (by rfl) (ldK HA.out HKW0.out) ?_)
      | (go_at_call 156; refine (find_run rs0 at' B p v W2 HDR0.out HA.out HIX0.out.1 hax hl0).mono ?_
         rintro e W3 ⟨hb3, rfl⟩
         rw [HRM0.out, HFD.out]
         unfold findV
         have HB3 := Lib.hid hb3
         clear hb3))
    clear c33 ew1 ew2 HKW0
    have HA3 := Lib.hid (HAW.out W3 HB3.out)
    have HK3 := Lib.hid (HKW.out W3 HB3.out)
    by_cases hcmp : 0 ≤ cmpK at' (kt, ki, kx)
    · have HFI : Hid ((insertR d (kt, ki, kx) at' false l').1 = d) := Lib.hid (by unfold insertR; rw [if_neg HOK.out, if_neg Bool.false_ne_true, HFD.out]; dsimp only; rw [if_pos hcmp])
      go_wp2_with (first
        | (refine wp_val (by rfl) (ldK HA.out HA3.out) ?_)
        | (refine wp_val (by rfl) (ldK HK.out HK3.out) ?_)
        | (go_at_call 78; refine (keys_any at' (kt, ki, kx) W3 HA.out HK.out).mono ?_
           rintro e W4 ⟨hb4, rfl⟩
           have HB4 := Lib.hid (HB3.out.trans (hb4.mono HB3.out.size))
           clear hb4))
      go_ret
      exact HSAME.out _ _ _ HFI.out HB4.out
    · have HCP0 := Lib.hid hcmp
      go_upto_region 12 with (first
        | (refine wp_val (by rfl) (ldK HA.out HA3.out) ?_)
        | (refine wp_val (by rfl) (ldK HK.out HK3.out) ?_)
        | (go_at_call 78; refine (keys_any at' (kt, ki, kx) W3 HA.out HK.out).mono ?_
           rintro e W4 ⟨hb4, rfl⟩
           have HB4 := Lib.hid (HB3.out.trans (hb4.mono HB3.out.size))
           clear hb4))
      clear hcmp HB3 HA3 HK3
      have HK4 := Lib.hid (HKW.out W4 HB4.out)
      have HDR4 := Lib.hid (HDR0.out.keep HB4.out)
      cases hfr : freshR d (kt, ki, kx) (l'.length : Int)
      · have HFR := Lib.hid hfr
        have HFI : Hid ((insertR d (kt, ki, kx) at' false l').1 = d) := Lib.hid (by unfold insertR; rw [if_neg HOK.out, if_neg Bool.false_ne_true, HFD.out]; dsimp only; rw [if_neg (by have := HCP0.out; omega), if_neg (by rw [hfr]; exact Bool.false_ne_true)])
        clear hfr
        go_wp2_with (first
          | (refine wp_val (by rfl) (ldK HK.out HK4.out) ?_)
          | (go_at_call 157; refine (fresh_run rs0 (kt, ki, kx) (l'.length : Int) B p v W4 HDR4.out HK.out HIX0.out.1 (by unfold Ix; omega) (by unfold Ix; omega) HIX0.out.2 hl0).mono ?_
             rintro e W5 ⟨hb5, rfl⟩
             rw [HRM0.out, show freshE d (kt, ki, kx) (l'.length : Int) = 11 from if_neg (by rw [HFR.out]; exact Bool.false_ne_true)]
             have HB5 := Lib.hid (HB4.out.trans (hb5.mono HB4.out.size))
             clear hb5))
        go_ret
        exact HSAME.out _ _ _ HFI.out HB5.out
      · have HFR := Lib.hid hfr
        have HFE : Hid ((insertR d (kt, ki, kx) at' false l').1 = putR (cutR d i (k + 1)) (placeR (cutR d i (k + 1)) (kt, ki, kx) (i + 1)) ((kt, ki, kx), l', false)) := Lib.hid (by unfold insertR; rw [if_neg HOK.out, if_neg Bool.false_ne_true, HFD.out]; dsimp only; rw [if_neg (by have := HCP0.out; omega), if_pos hfr])
        clear hfr
        have ewk : IntKind.i64.wrap ((k : Int) + 1) = ((k + 1 : Nat) : Int) := by rw [IntWalk.i64_in _ (by omega)]; omega
        have ewi : IntKind.i64.wrap ((i : Int) + 1) = ((i + 1 : Nat) : Int) := by rw [IntWalk.i64_in _ (by omega)]; omega
        go_upto_region 20 with (first
          | (refine wp_val (by rfl) (ldK HK.out HK4.out) ?_)
          | (go_at_call 157; refine (fresh_run rs0 (kt, ki, kx) (l'.length : Int) B p v W4 HDR4.out HK.out HIX0.out.1 (by unfold Ix; omega) (by unfold Ix; omega) HIX0.out.2 hl0).mono ?_
             rintro e W5 ⟨hb5, rfl⟩
             rw [HRM0.out, show freshE d (kt, ki, kx) (l'.length : Int) = 0 from if_pos HFR.out]
             have HB5 := Lib.hid (HB4.out.trans (hb5.mono HB4.out.size))
             clear hb5)
          | (go_at_call 158; refine (cut_any d i (k + 1) B p v W5 (HD2.out.keep HB5.out) hid HIX.out (by omega)).mono ?_
             rintro e WL ⟨rfl, vL, hdl, hbl, hnl⟩
             have HDL := Lib.hid hdl; have HBL := Lib.hid hbl; have HNL := Lib.hid hnl
             clear hdl hbl hnl))
        have HB5W := Lib.hid (HBW2.out.trans (HB5.out.mono HBW2.out.size))
        have HLB : Hid (But (DocX p v) w WL) := Lib.hid ((But.of_below HB5W.out).trans HBL.out fun j hj hx => hx)
        have HLN : Hid (Newer w v vL) := Lib.hid fun j hj => (HNL.out j hj).elim .inl fun q => .inr (qT HB5W.out.size q)
        have HZ5 := Lib.hid ((HB5.out.block b6 (qX HZ2.out)).trans HZ2.out)
        have HNX := Lib.hid (show ¬ DocX p v b6 from fun hx => by
          have h1 := HL6.out
          rcases hx with q | q
          · omega
          · obtain ⟨rs', _, _, ho⟩ := HD.out.rows
            have := (ho.lt b6 q).2
            omega)
        have HZL := Lib.hid ((HBL.out.block b6 (qX HZ5.out) HNX.out).trans HZ5.out)
        have HRL := Lib.hid ((HR2.out.keep (KeepR.below HB5.out)).keep (KeepR.but HBL.out (HD2.out.keep HB5.out).noRunes))
        have hlL : (cutR d i (k + 1)).length ≤ 1073741823 := by have := cutR_le d i (k + 1); omega
        have hj0l : i + 1 ≤ (cutR d i (k + 1)).length := by have := cutR_ge d i (k + 1); omega
        clear HDR0 HRM0 HIX0 hl0 HB4 HB5 HZ2 HZ5 HR2 HKW HAW HK4 HDR4 HD2 HY2 HSAME HO HB5W HBL HNL ewk ewi HNX
        obtain ⟨dL, hdL⟩ : ∃ x, cutR d i (k + 1) = x := ⟨_, rfl⟩
        obtain ⟨j0, hj0⟩ : ∃ x : Nat, i + 1 = x := ⟨_, rfl⟩
        rw [hdL] at HDL hlL hj0l
        have HFE : Hid ((insertR d (kt, ki, kx) at' false l').1 = putR dL (placeR dL (kt, ki, kx) j0) ((kt, ki, kx), l', false)) := Lib.hid (by rw [← hdL, ← hj0]; exact HFE.out)
        rw [hj0] at hj0l
        have HJ0 := Lib.hid hj0
        clear hdL hj0 hid hkl2 HFD HCP0 HFR
        obtain ⟨rs, hrs, hdr⟩ := HDL.out.runs
        have HDR := Lib.hid hdr; have HRM := Lib.hid hrs
        have hlr : rs.length = dL.length := by rw [← hrs, List.length_map]
        clear hdr hrs
        have hltL := HDR.out.lt
        have hpc : ∃ A c, vL = .slice A rs.length c := own_form HDR.out.own
        obtain ⟨AL, cL, hvL⟩ := hpc
        subst hvL
        have HCP := Lib.hid (show WL.cell? ⟨p, 0, none⟩ = some (.slice AL rs.length cL) by
          obtain ⟨s1, t1, hb1⟩ := HDR.out.box
          exact cells_at0 hb1 0)
        have HWL := Lib.hid (show w.heap.size ≤ WL.heap.size from HLB.out.size)
        have HKY := Lib.hid (show ∀ u : World, Below WL.heap.size WL u → u.rangeAt b6 0 (keyV (kt, ki, kx)) from fun u hu j x hj => by rw [qZ]; exact (cells_at0 ((hu.block b6 (qX HZL.out)).trans HZL.out) j).trans hj)
        go_loopw [15] (fun t wr => ∃ j : Nat, j0 ≤ j ∧ j ≤ rs.length ∧ t = .int .i64 (j : Int) ∧ Hid (Below WL.heap.size WL wr) ∧ Hid (∀ q (hq : q < rs.length), j0 ≤ q → q < j → 0 < cmpK rs[q].1 (kt, ki, kx))) (fun t _ => rs.length - (intOf t).toNat)
        case atStart => exact ⟨j0, Nat.le_refl _, by omega, (by rw [← HJ0.out]; rfl), Lib.hid (qB _ _), Lib.hid (fun q _ h1 h2 => absurd h1 (by omega))⟩
        case round =>
          obtain ⟨j, hj1, hj2, rfl, HBR, HALL⟩ := hrel
          obtain ⟨c, hc⟩ : ∃ c : Bool, (if h : j < rs.length then decide (0 < cmpK rs[j].1 (kt, ki, kx)) else false) = c := ⟨_, rfl⟩
          have HC := Lib.hid hc
          clear hc
          have hE1 := enE Tryz.func78 rfl
          have HBD := Lib.hid (HBR.out.trans ((qD wr.heap.size wr).mono HBR.out.size))
          repeat go_step
          go_cut [107] from 88 to 107 (fun t wx => t = .bool c ∧ Hid (Below WL.heap.size WL wx))
          case first =>
            by_cases hlt2 : j < rs.length
            · have hiw : decide ((j : Int) < (rs.length : Int)) = true := dT (by omega)
              have HIW := Lib.hid hiw
              obtain ⟨g, c', hgv, hrow, hgl, hgB⟩ := HDR.out.row hlt2
              injection hgv with hA _ hc'
              subst hA hc'
              have HRI := Lib.hid (HDR.out.ins _ (List.getElem_mem hlt2))
              have HCC : Hid (decide (0 < cmpK rs[j].1 (kt, ki, kx)) = c) := Lib.hid (by have := HC.out; rw [dif_pos hlt2] at this; exact this)
              obtain ⟨_, _, _, _, _, p5⟩ := run_cells HRI.out.1
              have HRK := Lib.hid (show ∀ u : World, Below WL.heap.size WL u → u.rangeAt g (0 + j * 36 + 0) (keyV rs[j].1) from fun u hu q x hq => by
                have h1 := hrow _ _ (p5 q x hq)
                have h2 := (hu.cell (p := ⟨g, j * 36 + (0 + q), none⟩) hgl).trans h1
                rw [show 0 + j * 36 + 0 + q = j * 36 + (0 + q) by omega]
                exact h2)
              clear hrow hgB p5 hiw
              have HCW := Lib.hid (show ∀ u : World, Below WL.heap.size WL u → u.cell? ⟨p, 0, none⟩ = some (.slice (some ⟨g, 0, none⟩) rs.length cL) from fun u hu => (hu.cell (p := ⟨p, 0, none⟩) hltL).trans HCP.out)
              have HRO : Hid (KeyOk rs[j].1) := Lib.hid HRI.out.1
              generalize rs[j] = r at *
              refine rN 20 (fun u => Below WL.heap.size WL u) HBD.out fun hF0 => ?_
              refine tw 0 (.int .i64 (j : Int)) ?_
              go_frame
              refine tw 1 (.pointer (some ⟨p, 0, none⟩)) ?_
              go_frame
              refine tw 2 (.pointer (some ⟨p, 0, none⟩)) ?_
              go_frame
              refine tw 3 (.pointer (some ⟨p, 0, none⟩)) ?_
              go_frame
              refine tl 4 (.slice (some ⟨g, 0, none⟩) rs.length cL) rfl hF0 (fun w' hw' => l1 Tryz.underlying190 (HCW.out w' hw')) ?_
              go_frame
              refine tk 5 (.int .i64 (rs.length : Int)) rfl (fun w' hw' => ex_len 190 _ rfl rfl Tryz.underlying190) ?_
              go_frame
              refine tk 6 (.bool true) rfl (fun w' hw' => ex_lssB _ _ _ rfl rfl rfl HIW.out) ?_
              go_frame
              refine tw 7 (.bool true) ?_
              go_frame
              refine tw 8 (.pointer (some ⟨p, 0, none⟩)) ?_
              go_frame
              refine tw 9 (.pointer (some ⟨p, 0, none⟩)) ?_
              go_frame
              refine tw 10 (.pointer (some ⟨p, 0, none⟩)) ?_
              go_frame
              refine tl 11 (.slice (some ⟨g, 0, none⟩) rs.length cL) rfl hF0 (fun w' hw' => l1 Tryz.underlying190 (HCW.out w' hw')) ?_
              go_frame
              refine tw 12 (.int .i64 (j : Int)) ?_
              go_frame
              refine tk 13 (.pointer (some ⟨g, 0 + j * 36, none⟩)) rfl (fun w' hw' => ex_indexG 190 _ _ rfl (b := g) (off := 0) (q := j) (n := rs.length) (c := cL) rfl rfl hlt2 Tryz.underlying190 sizeRun) ?_
              go_frame
              refine tw 14 (.pointer (some ⟨g, 0 + j * 36 + 0, none⟩)) ?_
              go_frame
              refine tl 15 (.agg (keyV r.1).toArray) rfl hF0 (fun w' hw' => ldK HRO.out (HRK.out w' hw')) ?_
              go_frame
              refine tl 16 (.agg (keyV (kt, ki, kx)).toArray) rfl hF0 (fun w' hw' => ldK HK.out (HKY.out w' hw')) ?_
              go_frame
              refine ta 17 ?_
              refine tc #[.agg (keyV r.1).toArray, .agg (keyV (kt, ki, kx)).toArray] hE1 rfl ?_
              refine (keys_any _ _ _ HRO.out HK.out).mono ?_
              rintro e u3 ⟨hb3, rfl⟩
              have HB3 := Lib.hid (HBD.out.trans (hb3.mono HBD.out.size))
              clear hb3
              refine ⟨_, rfl, fun _ _ => HB3.out, ?_⟩
              go_frame
              refine tk 18 (.bool c) rfl (fun w' hw' => ex_gtrB _ _ _ rfl rfl rfl HCC.out) ?_
              go_frame
              refine tw 19 (.bool c) ?_
              go_frame
              refine wpAnyN_done (by kernel_rfl) ?_ _
              go_wp2_with fail
              go_meet
              case rel => exact ⟨rfl, HB3⟩
            · have hiw : decide ((j : Int) < (rs.length : Int)) = false := dF (by omega)
              have HIW := Lib.hid hiw
              have HCC : Hid (c = false) := Lib.hid (by have := HC.out; rw [dif_neg hlt2] at this; exact this.symm)
              have HCW := Lib.hid (show ∀ u : World, Below WL.heap.size WL u → u.cell? ⟨p, 0, none⟩ = some (.slice AL rs.length cL) from fun u hu => (hu.cell (p := ⟨p, 0, none⟩) hltL).trans HCP.out)
              clear hiw
              refine rN 20 (fun u => Below WL.heap.size WL u) HBD.out fun hF0 => ?_
              refine tw 0 (.int .i64 (j : Int)) ?_
              go_frame
              refine tw 1 (.pointer (some ⟨p, 0, none⟩)) ?_
              go_frame
              refine tw 2 (.pointer (some ⟨p, 0, none⟩)) ?_
              go_frame
              refine tw 3 (.pointer (some ⟨p, 0, none⟩)) ?_
              go_frame
              refine tl 4 (.slice AL rs.length cL) rfl hF0 (fun w' hw' => l1 Tryz.underlying190 (HCW.out w' hw')) ?_
              go_frame
              refine tk 5 (.int .i64 (rs.length : Int)) rfl (fun w' hw' => ex_len 190 _ rfl rfl Tryz.underlying190) ?_
              go_frame
              refine tk 6 (.bool false) rfl (fun w' hw' => ex_lssB _ _ _ rfl rfl rfl HIW.out) ?_
              go_frame
              refine tw 7 (.bool false) ?_
              go_frame
              refine tn 8 ?_
              go_frame
              refine tn 9 ?_
              go_frame
              refine tn 10 ?_
              go_frame
              refine tn 11 ?_
              go_frame
              refine tn 12 ?_
              go_frame
              refine tn 13 ?_
              go_frame
              refine tn 14 ?_
              go_frame
              refine tn 15 ?_
              go_frame
              refine tn 16 ?_
              go_frame
              refine tn 17 ?_
              go_frame
              refine tn 18 ?_
              go_frame
              refine tw 19 (.bool false) ?_
              go_frame
              refine wpAnyN_done (by kernel_rfl) ?_ _
              go_wp2_with fail
              go_meet
              case rel => exact ⟨by rw [HCC.out], HBD⟩
          case rest =>
            obtain ⟨rfl, HBC⟩ := hcut
            have ewj : IntKind.i64.wrap ((j : Int) + 1) = ((j + 1 : Nat) : Int) := by rw [IntWalk.i64_in _ (by omega)]; omega
            clear hE1 HBD
            cases c with
            | true =>
              have hlt2 : j < rs.length := by
                by_cases h : j < rs.length
                · exact h
                · have := HC.out; rw [dif_neg h] at this; cases this
              have HP := Lib.hid (show 0 < cmpK rs[j].1 (kt, ki, kx) by have := HC.out; rw [dif_pos hlt2] at this; exact of_decide_eq_true this)
              go_wp2_with fail
              go_roundw
              case rel =>
                refine ⟨j + 1, by omega, by omega, by go_num, HBC, Lib.hid (fun q hq h1 h2 => ?_)⟩
                rcases (by omega : q < j ∨ q = j) with h3 | rfl
                · exact HALL.out q hq h1 h3
                · exact HP.out
              case measure => (simp [intOf]) <;> omega
            | false =>
              have HPL : Hid (placeR dL (kt, ki, kx) j0 = j) := Lib.hid (by
                refine placeR_is hj1 (by omega) (fun q hq h1 h2 => ?_) fun hn => ?_
                · have hq2 : q < rs.length := by omega
                  have := HALL.out q hq2 h1 h2
                  have e : dL[q].1 = rs[q].1 := by simp only [← HRM.out, List.getElem_map]; rfl
                  rw [e]; exact this
                · have hq2 : j < rs.length := by omega
                  have := HC.out
                  rw [dif_pos hq2] at this
                  have e : dL[j].1 = rs[j].1 := by simp only [← HRM.out, List.getElem_map]; rfl
                  rw [e]; exact of_decide_eq_false this)
              have HDC := Lib.hid (HDR.out.keep HBC.out)
              have HKC := Lib.hid (HKY.out wc HBC.out)
              have HRC : Hid (RunIn wc ((kt, ki, kx), .slice A l'.length c0, l', false)) := Lib.hid ⟨HK.out, HRL.out.keep (KeepR.below HBC.out), HNE.out⟩
              clear HC HALL HKY
              go_upto_region 23 with (first
                | (refine wp_val (by rfl) (ldK HK.out HKC.out) ?_)
                | (with_reducible refine at_build ?_
                   refine wp_val (by rfl) (ex_build 177 _ rfl (by simp only [List.map_toArray, List.map_cons, List.map_nil]; exact run_built2 _ HK.out _ rfl _)) ?_)
                | (go_at_call 159; refine (put_run rs j ((kt, ki, kx), .slice A l'.length c0, l', false) B p _ wc HDC.out HRC.out (by omega) (by omega)).mono ?_
                   rintro e W5 ⟨rfl, v5, hdr, hbt, hnw⟩
                   have HD5 := Lib.hid hdr; have HB5 := Lib.hid hbt; have HN5 := Lib.hid hnw
                   clear hdr hbt hnw))
              obtain ⟨s5, t5, hbx5⟩ := HD5.out.box
              have HX5 := Lib.hid hbx5
              have c51 : W5.cell? ⟨p, 1, none⟩ = some (.int .i64 s5) := cells_at0 hbx5 1
              clear hbx5
              go_upto_region 24 with (first
                | (with_reducible refine at_store ?_
                   refine wp_storeM (by rfl) 3 _ _ rfl p 1 [v5] [.int .i64 s5] [.int .i64 t5] [.int .i64 (wrap64 (s5 + (l'.length : Int)))] 192 (.int .i64 (wrap64 (s5 + (l'.length : Int)))) rfl rfl rfl rfl HX5.out rfl (by kernel_rfl) (by intro u hu; rw [List.mem_singleton.1 hu]; rfl) ?_
                   intro W6 hb6 hy6 hs6
                   have HB6 := Lib.hid hb6; have HX6 := Lib.hid hy6
                   clear hb6 hy6 hs6))
              have c62 : W6.cell? ⟨p, 2, none⟩ = some (.int .i64 t5) := cells_at0 HX6.out 2
              clear c51
              go_upto_region 25 with (first
                | (with_reducible refine at_store ?_
                   refine wp_storeM (by rfl) 3 _ _ rfl p 2 [v5, .int .i64 (wrap64 (s5 + (l'.length : Int)))] [.int .i64 t5] [] [.int .i64 (wrap64 (t5 + (l'.length : Int)))] 192 (.int .i64 (wrap64 (t5 + (l'.length : Int)))) rfl rfl rfl rfl HX6.out rfl (by kernel_rfl) (by intro u hu; rw [List.mem_singleton.1 hu]; rfl) ?_
                   intro W7 hb7 hy7 hs7
                   have HB7 := Lib.hid hb7; have HX7 := Lib.hid hy7
                   clear hb7 hy7 hs7))
              clear c62
              go_wp2_with fail
              go_ret
              have hb67 : But (fun k => k = p) W5 W7 := HB6.out.trans HB7.out fun k _ q => q
              have hd7 := HD5.out.setBox (s := wrap64 (s5 + (l'.length : Int))) (t := wrap64 (t5 + (l'.length : Int))) (by simpa using HX7.out) hb67
              refine ⟨⟨_, rfl⟩, DTurn.trans HLB.out HLN.out HLB.out.size ⟨v5, ?_, ((But.of_below HBC.out).trans HB5.out fun k hk hx => hx).trans hb67 fun k hk e => .inl e, ?_⟩⟩
              · have e : (rs.take j ++ ((kt, ki, kx), Value.slice A l'.length c0, l', false) :: rs.drop j).map runOf = (insertR d (kt, ki, kx) at' false l').1 := by
                  rw [HFE.out, HPL.out, putR_map, HRM.out]
                  rfl
                rw [← e]
                exact hd7.at
              · intro k hk
                rcases HN5.out k hk with q | q
                · exact .inl q
                · exact .inr (qT HBC.out.size q)
/-- A text is inserted, whatever it comes to. -/
theorem insert_any (d : List RunD) (key at' : KeyD) (first : Bool) (s : ByteArray) (l : List Nat) (B p : Nat) (v : Value) (w : World) (h : DocAt w B p v d) (hk : KeyOk key) (ha : KeyOk at') (hix : RunIx d) (hl : d.length ≤ 1073741822) (hs : s.size ≤ 1099511627776) (hr : runesOf s = some l) (hln : l.length ≤ 1099511627776) (hkx : Ix key.2.2) (hax : Ix at'.2.2) :
    Calls Tryz.prog 101 #[.pointer (some ⟨p, 0, none⟩), .agg (keyV key).toArray, .agg (keyV at').toArray, .bool first, .string s] w (InsGives w B p v (insertR d key at' first l).1) := by
  by_cases hb : l = [] ∨ key.2.2 < 0 ∨ 2147483648 - (l.length : Int) < key.2.2
  · exact insert_bad d key at' s l B p v w h hk ha hix hl hs hr hln hkx first hb
  · have h0 : 0 < l.length := List.length_pos_iff.2 fun e => hb (.inl e)
    have h1 : 0 ≤ key.2.2 := by
      by_cases hq : key.2.2 < 0
      · exact absurd (.inr (.inl hq)) hb
      · omega
    have h2 : key.2.2 ≤ 2147483648 - (l.length : Int) := by
      by_cases hq : 2147483648 - (l.length : Int) < key.2.2
      · exact absurd (.inr (.inr hq)) hb
      · omega
    cases first
    · exact insert_at d key at' s l B p v w h hk ha hix hl hs hr hln hkx h0 h1 h2 hax
    · exact insert_first d key at' s l B p v w h hk ha hix hl hs hr hln hkx h0 h1 h2
end Go.Proofs.YtdgbjhfkmembdaaGreatDoor
