/-
  The iterator of a document's live runs hands out each of them once, in order. Conditions: the document lies in memory below the caller's builder; at most 2^40 runs.
-/
import Derived.Test.YtdgbjhfkmembdaaGreatDoorIterIn
import Derived.Test.YtdgbjhfkmembdaaGreatDoorBlockLives
import Derived.Test.YtdgbjhfkmembdaaGreatDoorBlockFind
import Derived.Test.YtdgbjhfkmembdaaGreatDoorUtfText
namespace Go.Proofs.YtdgbjhfkmembdaaGreatDoor
open Go.RowKit Go.Maps Go.Shelf
set_option linter.unusedVariables false
set_option linter.unusedSimpArgs false

/-- What a round keeps: all below a block, all cells but that block's and rows of bytes; a builder stays one. -/
def KpT (z : Nat) (W W' : World) : Prop := Below z W W' ∧ (∀ (k : Nat) (cur : Array Value) (t : TypeId) (fr : Nat × Nat), t ≠ 5 → k ≠ z → W.heap[k]? = some (.cells cur t fr) → W'.heap[k]? = some (.cells cur t fr)) ∧ ((∃ cur fr, W.heap[z]? = some (.cells cur 171 fr)) → ∃ cur fr, W'.heap[z]? = some (.cells cur 171 fr))
theorem KpT.trans {z : Nat} {A B C : World} (h : KpT z A B) (k : KpT z B C) : KpT z A C := ⟨h.1.trans k.1, fun i cur t fr ht hi hc => k.2.1 i cur t fr ht hi (h.2.1 i cur t fr ht hi hc), fun q => k.2.2 (h.2.2 q)⟩
theorem KpT.book {z n : Nat} (hz : z ≤ n) (W : World) (l : Nat) (o o' : Obj) (hl : n ≤ l) (h : W.heap[l]? = some o) (ho : o.isCells = false) : KpT z W (W.putObj l o') := by
  have hg := grownBy_putObj' W l o'
  have hk : ∀ (k : Nat) (cur : Array Value) (t : TypeId) (fr : Nat × Nat), W.heap[k]? = some (.cells cur t fr) → (W.putObj l o').heap[k]? = some (.cells cur t fr) := fun k cur t fr hc => by
    refine (hg.block k (qX hc) fun e => ?_).trans hc
    cases e
    rw [h] at hc
    cases hc
    cases ho
  exact ⟨(Below.refl z W).grown hg (by have := (Array.getElem?_eq_some_iff.1 h).1; omega) (fun k e => by cases e; omega), fun k cur t fr _ _ hc => hk k cur t fr hc, fun ⟨cur, fr, hc⟩ => ⟨cur, fr, hk _ _ _ _ hc⟩⟩
section
variable {w w' : World} {z B p : Nat} {v : Value} {rs : List RunM}
theorem RunIn.keepT {r : RunM} (h : RunIn w r) (hk : KpT z w w') (hz : ∀ cur fr, w.heap[z]? ≠ some (.cells cur 21 fr)) : RunIn w' r := by
  obtain ⟨h1, ⟨g, off, cap, cur, fr, h2, h3, h4, h5, h6⟩, h7⟩ := h
  exact ⟨h1, ⟨g, off, cap, cur, fr, h2, h3, h4, hk.2.1 g cur _ fr (by decide) (fun e => hz cur fr (e ▸ h5)) h5, h6⟩, h7⟩
theorem DocRows.keepT (h : DocRows w B p v rs) (hk : KpT z w w') (hz : ∃ cur fr, w.heap[z]? = some (.cells cur 171 fr)) : DocRows w' B p v rs := by
  obtain ⟨cz, fz, hcz⟩ := hz
  obtain ⟨s, t, h0⟩ := h.box
  refine ⟨⟨s, t, hk.2.1 p _ _ _ (by decide) (ne_tag h0 hcz (by decide)) h0⟩, h.low, fun r hr => (h.ins r hr).keepT hk fun cur fr e => ?_, ?_⟩
  · rw [hcz] at e
    injection e with e
    injection e with _ e
    exact absurd e (by decide)
  · refine ⟨h.own.1, ?_⟩
    rcases h.own.2 with q | ⟨g, cap, cur, hv, hB, hh, r⟩
    · exact .inl q
    · exact .inr ⟨g, cap, cur, hv, hB, hk.2.1 g cur _ _ (by decide) (ne_tag hh hcz (by decide)) hh, r⟩
end
/-- The live runs. -/
def liveM (rs : List RunM) : List RunM := rs.filter fun r => !r.2.2.2
theorem liveM_snoc {rs : List RunM} {i : Nat} (hi : i < rs.length) : liveM (rs.take (i + 1)) = liveM (rs.take i) ++ (if rs[i].2.2.2 then [] else [rs[i]]) := by
  unfold liveM
  rw [List.take_succ_eq_append_getElem hi, List.filter_append]
  cases h : rs[i].2.2.2 <;> simp [h]
theorem liveM_len (rs : List RunM) (i : Nat) : (liveM (rs.take i)).length ≤ i := by
  have h1 := List.length_filter_le (fun r : RunM => !r.2.2.2) (rs.take i)
  rw [List.length_take] at h1
  unfold liveM
  omega
theorem liveM_text (rs : List RunM) : (liveM rs).flatMap (fun r => bytesU r.2.2.1) = textR (rs.map runOf) := by
  unfold textR liveM
  induction rs with
  | nil => rfl
  | cons r rs ih =>
    rw [List.map_cons, List.flatMap_cons, ← ih]
    have e : (runOf r).2.2 = r.2.2.2 := rfl
    have e2 : (runOf r).2.1 = r.2.2.1 := rfl
    rw [e, e2]
    cases h : r.2.2.2 <;> simp [h]
abbrev LiveS (rs : List RunM) := {x : Int × RunM // x.2 ∈ rs}
def liveA {rs : List RunM} (x : LiveS rs) : Array Value := #[.int .i64 x.1.1, .agg (runV x.1.2).toArray]
/-- A block that holds a run. -/
def RunBox (W : World) (b : Nat) (r : RunM) : Prop := W.heap[b]? = some (.cells (runV r).toArray 177 (0, 0))
theorem run_info {r : RunM} (h : (runV r).length = 36) : (Tryz.prog.info? 177).map (·.size) = some (runV r).toArray.size := by rw [List.size_toArray, h]; exact sizeRun
set_option maxRecDepth 100000 in
set_option maxHeartbeats 4000000 in
theorem livesIt_in (n : Nat) (hn : 1 ≤ n) (l B p z b : Nat) (v : Value) (rs : List RunM) (N : Nat) (J Jx : List (LiveS rs) → World → Prop)
    (hY : ∀ pre x W, J pre W → pre.length < rs.length + 1 → YieldAt Fence.wide (n - 1) Tryz.prog l (liveA x) W fun e W' => (e = .returned (.bool true) ∧ J (pre ++ [x]) W' ∧ KpT z W W') ∨ (e = .returned (.bool false) ∧ Jx (pre ++ [x]) W'))
    (W : World) (hJ : AbidesFrom W.heap.size J) (hd : DocRows W B p v rs) (hb : W.heap[b]? = some (.cells [.pointer (some ⟨p, 0, none⟩)].toArray 92 (0, 0))) (hz : ∃ cur fr, W.heap[z]? = some (.cells cur 171 fr)) (hl : rs.length ≤ 1099511627776) (h0 : J [] W) :
    CallsIn Fence.wide n Tryz.prog 132 #[.func (.yield l) #[] #[], .pointer (some ⟨b, 0, none⟩)] W fun e W' => (∃ v, e = .returned v) ∧ ((∃ xs : List (LiveS rs), xs.map (·.1.2) = liveM rs ∧ J xs W') ∨ (∃ pre, True ∧ Jx pre W')) := by
  refine callsIn_of_wp Tryz.func132 rfl trivial ?_ rfl
  simp only [Tryz.ntmps132, List.size_toArray, List.length_cons, List.length_nil, Nat.reduceAdd, Nat.reduceSub, Array.replicate_succ, Array.replicate_zero, List.push_toArray, List.append_toArray, List.nil_append, List.cons_append]
  have cb : W.cell? ⟨b, 0, none⟩ = some (.pointer (some ⟨p, 0, none⟩)) := cells_at0 hb 0
  obtain ⟨A, c, rfl⟩ := own_form hd.own
  have cp : W.cell? ⟨p, 0, none⟩ = some (.slice A rs.length c) := by
    obtain ⟨s, t, hbx⟩ := hd.box
    exact cells_at0 hbx 0
  have HD := Lib.hid hd; have HB := Lib.hid hb; have HZ := Lib.hid hz; have HJ := Lib.hid hJ; have HY := Lib.hid hY; have H0 := Lib.hid h0
  clear hd hb hz hJ hY h0
  gi_wp2
  gi_loopw [3, 13] (fun t3 t13 wr => ∃ (n0 : Int) (i : Nat) (xs : List (LiveS rs)), i ≤ rs.length ∧ t3 = .int .i64 n0 ∧ t13 = .int .i64 (i : Int) ∧ Hid (xs.map (·.1.2) = liveM (rs.take i)) ∧ Hid (DocRows wr B p (.slice A rs.length c) rs) ∧ Hid (∃ cur fr, wr.heap[z]? = some (.cells cur 171 fr)) ∧ Hid (J xs wr))
    (fun _ t13 _ => rs.length - (intOf t13).toNat)
  case atStart => exact ⟨0, 0, [], Nat.zero_le _, rfl, rfl, Lib.hid rfl, HD, HZ, H0⟩
  case round =>
    obtain ⟨n0, i, xs, hi, rfl, rfl, HXS, HDR, HZR, HJR⟩ := hrel
    by_cases hlt : i < rs.length
    · have i0 : (0 : Int) ≤ (i : Int) := by omega
      have i1 : (i : Int) < (rs.length : Int) := by omega
      obtain ⟨g, c', hgv, hrow, hgl, hgB⟩ := HDR.out.row hlt
      injection hgv with hA _ hc'
      subst hA hc'
      have HRI := Lib.hid (HDR.out.ins _ (List.getElem_mem hlt))
      have HMEM := Lib.hid (List.getElem_mem hlt)
      have HSN := Lib.hid (liveM_snoc hlt)
      have HROW := Lib.hid hrow
      clear hrow hgB
      have hxl : xs.length < rs.length + 1 := by
        have h1 := congrArg List.length HXS.out
        rw [List.length_map] at h1
        have := liveM_len rs i
        omega
      generalize rs[i] = r at *
      have hrl := runV_length HRI.out
      have HRL := Lib.hid hrl
      obtain ⟨gr, off, cap, cur, fr, hrv, hrc, hrm, _, _⟩ := HRI.out.2.1
      obtain ⟨_, _, _, p3, p4, _⟩ := run_cells HRI.out.1
      have P3 := Lib.hid (p3.trans (congrArg some hrv)); have P4 := Lib.hid p4
      clear p3 p4 hrv
      obtain ⟨g1, g2, g3⟩ := grown_box wr runZ.toArray (runV r).toArray 177
      have hst := fun (ρ : Operand → Value) (o : Oper) (x y : Operand) (ho : o.op = .store 177 x y) hx hy => ex_storeRow (P := Tryz.prog) (w := wr.alloc (.cells runZ.toArray 177)) (ρ := ρ) 177 x y ho wr.heap.size (runV r).toArray hx hy 177 runZ.toArray (heap_alloc_new _ _) (run_info hrl) (by rw [List.size_toArray, List.size_toArray, hrl]; rfl) (by simpa using runV_one r HRI.out.2.1.one)
      generalize (wr.alloc (.cells runZ.toArray 177)).setRow wr.heap.size (runV r).toArray = w3 at *
      have HST := Lib.hid hst; have G2 := Lib.hid g2
      have HBW : Hid (Below wr.heap.size wr w3) := Lib.hid ⟨g1.os, g1.tape, g1.output, g1.size, fun k hk => g1.block k hk (by simp)⟩
      have HJ3 := Lib.hid (HJ.out xs wr w3 none HJR.out g1 (fun r e => by cases e))
      obtain ⟨b5, hb5⟩ : ∃ x, wr.heap.size = x := ⟨_, rfl⟩
      have HB5 := Lib.hid hb5
      have c35 : w3.cell? ⟨wr.heap.size, 35, none⟩ = some (.bool r.2.2.2) := (cells_at0 G2.out 35).trans P4.out
      have HU3 := Lib.hid (show w3.rangeAt wr.heap.size 0 (runV r) from fun j u hj => by rw [qZ]; exact (cells_at0 G2.out j).trans hj)
      have HD3 := Lib.hid (HDR.out.keep HBW.out)
      have HZ3 : Hid (∃ cur fr, w3.heap[z]? = some (.cells cur 171 fr)) := Lib.hid (by
        obtain ⟨cz, fz, hcz⟩ := HZR.out
        exact ⟨cz, fz, (HBW.out.block z (qX hcz)).trans hcz⟩)
      have HZN := Lib.hid (show b5 ≠ z from by
        obtain ⟨cz, fz, hcz⟩ := HZR.out
        have := qX hcz
        omega)
      clear hst g1 g2 g3 hb5
      cases hdd : r.2.2.2
      · rw [hdd] at c35
        rw [hdd] at HSN
        have HSN2 : Hid (liveM (rs.take (i + 1)) = liveM (rs.take i) ++ [r]) := Lib.hid HSN.out
        clear hdd HSN
        obtain ⟨fn, tmps, assign, body, hy, hR⟩ := HY.out xs ⟨(n0, r), HMEM.out⟩ w3 HJ3.out hxl
        simp only [liveA] at hy
        gi_wp2_with (first
          | (refine wpListIn_val rfl (by intro c h; cases h) (by intro c h; cases h) (ldU HRL.out HROW.out) ?_)
          | (refine wpListIn_none rfl (by intro c h; cases h) (by intro c h; cases h) (HST.out _ _ _ _ rfl rfl rfl) ?_)
          | (refine wpListIn_val rfl (by intro c h; cases h) (by intro c h; cases h) (ldU HRL.out HU3.out) ?_)
          | gi_in)
        refine hR.mono ?_
        rintro e W4 (⟨rfl, hJ4, hk4⟩ | ⟨rfl, hJ4⟩)
        · have hb54 : W4.heap[wr.heap.size]? = some (.cells (runV r).toArray 177 (0, 0)) := hk4.2.1 _ _ _ _ (by decide) (by rw [HB5.out]; exact HZN.out) G2.out
          have c34 : W4.cell? ⟨wr.heap.size, 34, none⟩ = some (.slice (some ⟨gr, off, none⟩) r.2.2.1.length cap) := (cells_at0 hb54 34).trans P3.out
          have HK4 := Lib.hid hk4; have HJ4 := Lib.hid hJ4
          clear hk4 hJ4 hb54
          gi_wp2
          go_roundw
          case rel =>
            refine ⟨_, i + 1, xs ++ [⟨(n0, r), HMEM.out⟩], by omega, rfl, by go_num, Lib.hid ?_, Lib.hid (HD3.out.keepT HK4.out HZ3.out), Lib.hid (HK4.out.2.2 HZ3.out), HJ4⟩
            rw [List.map_append, HXS.out, HSN2.out]
            rfl
          case measure => (simp [intOf]) <;> omega
        · gi_wp2
          refine bodyPost_ret (results_none rfl _ _ _) rfl ?_
          exact ⟨⟨_, rfl⟩, .inr ⟨_, trivial, hJ4⟩⟩
      · rw [hdd] at c35
        rw [hdd] at HSN
        have HSN2 : Hid (liveM (rs.take (i + 1)) = liveM (rs.take i) ++ []) := Lib.hid HSN.out
        clear hdd HSN
        gi_wp2_with (first
          | (refine wpListIn_val rfl (by intro c h; cases h) (by intro c h; cases h) (ldU HRL.out HROW.out) ?_)
          | (refine wpListIn_none rfl (by intro c h; cases h) (by intro c h; cases h) (HST.out _ _ _ _ rfl rfl rfl) ?_)
          | gi_in)
        go_roundw
        case rel =>
          refine ⟨n0, i + 1, xs, by omega, rfl, by go_num, Lib.hid ?_, HD3, HZ3, HJ3⟩
          rw [HXS.out, HSN2.out, List.append_nil]
        case measure => (simp [intOf]) <;> omega
    · gi_wp2
      go_end0
      exact ⟨⟨_, rfl⟩, .inl ⟨xs, by rw [HXS.out, List.take_of_length_le (by omega)], HJR.out⟩⟩
end Go.Proofs.YtdgbjhfkmembdaaGreatDoor
