/-
  A document's text. Conditions: the document lies in memory, small; each rune's encoding is known.
-/
import Derived.Test.YtdgbjhfkmembdaaGreatDoorLivesIter
namespace Go.Proofs.YtdgbjhfkmembdaaGreatDoor
open Go.RowKit Go.Maps Go.Shelf
set_option linter.unusedVariables false
set_option linter.unusedSimpArgs false
attribute [local go_sem] Oper.semAt_some

theorem bld_own {rs : List RunM} {z : Nat} (f : List (LiveS rs) → List UInt8) : Own (fun (s : List (LiveS rs)) W => Lib.IsBuilderF 171 5 z z (Lib.byteCells (f s)) W) := fun s X Y row hs hg hr => by
  have step : ∀ p, Lib.BuilderAtF 171 5 z z p (Lib.byteCells (f s)) X → Lib.BuilderAtF 171 5 z z p (Lib.byteCells (f s)) Y := by
    rintro p ⟨a, v, c, d, g⟩
    have hl := qX c
    refine ⟨a, v, (hg.block z hl fun e => ?_).trans c, d.kept hg ?_, g⟩
    · obtain ⟨o, ho, hc⟩ := hr z e.symm
      rw [c] at ho; cases ho; cases hc
    · rcases d.2 with hn | ⟨g1, cap, cur, fz, rfl, hb, hgg, _⟩
      · exact .inl (by rw [hn.1]; rfl)
      · refine .inr fun e => ?_
        obtain ⟨o, ho, hc⟩ := hr g1 (by simpa [Value.ownBlock] using e.symm)
        rw [hgg] at ho; cases ho; cases hc
  rcases hs with h | h
  · exact .inl (step _ h)
  · exact .inr (step _ h)
theorem texts_le {rs : List RunM} (hs : ∀ r ∈ rs, r.2.2.1.length ≤ 65536) : ∀ pre : List (LiveS rs), (pre.flatMap fun x => bytesU x.1.2.2.2.1).length ≤ pre.length * 262144
  | [] => by simp
  | x :: pre => by
    have h1 := texts_le hs pre
    have h2 := bytesU_len x.1.2.2.2.1
    have h3 := hs _ x.2
    rw [List.flatMap_cons, List.length_append, List.length_cons]
    omega
set_option maxRecDepth 100000 in
set_option maxHeartbeats 4000000 in
theorem dtext_core (dp : Option Addr) (rs : List RunM) (w : World) (hin : ∀ r ∈ rs, RunIn w r) (hE : ∀ r ∈ rs, ∀ u ∈ r.2.2.1, EncIs u) (hl : rs.length ≤ 65536) (hs : ∀ r ∈ rs, r.2.2.1.length ≤ 65536)
    (hq : ∀ (z bb : Nat) (W2 : World), Below w.heap.size w W2 → W2.heap[bb]? = some (.cells [.pointer dp].toArray 92 (0, 0)) → (∃ cur fr, W2.heap[z]? = some (.cells cur 171 fr)) → SeqStopsK Fence.wide 3 Tryz.prog 132 #[.pointer (some ⟨bb, 0, none⟩)] (liveA (rs := rs)) (KpT z) (fun xs => xs.map (·.1.2) = liveM rs) (fun _ => True) (rs.length + 1) W2) :
    Calls Tryz.prog 36 #[.pointer dp] w fun e w' => Below w.heap.size w w' ∧ e = .returned (.string ⟨(textR (rs.map runOf)).toArray⟩) := by
  refine (callsIn_wide (n := 4)).1 ?_
  refine callsIn_of_wp_marks Tryz.func36 rfl trivial ?_ rfl
  simp only [Tryz.ntmps36, List.size_toArray, List.length_cons, List.length_nil, Nat.reduceAdd, Nat.reduceSub, Array.replicate_succ, Array.replicate_zero, List.push_toArray, List.append_toArray, List.nil_append, List.cons_append]
  have HIN := Lib.hid hin; have HE := Lib.hid hE; have HQ := Lib.hid hq
  have hal : Below w.heap.size w (w.alloc (.cells #[.pointer none, .slice none 0 0] 171)) := (Below.refl _ _).alloc (Nat.le_refl _) _
  have hf0 : Lib.IsBuilderF 171 5 w.heap.size w.heap.size (Lib.byteCells []) (w.alloc (.cells #[.pointer none, .slice none 0 0] 171)) := Lib.IsBuilderF.of (Lib.fresh_isBuilder _ _ _)
  have HAL := Lib.hid hal; have HF0 := Lib.hid hf0
  clear hin hE hal hf0 hq
  gi_wp2
  refine ⟨trivial, (callsIn_wide.2 (lives_any dp _)).mono ?_⟩
  rintro e W2 ⟨hb2, hx2, rfl⟩
  have HB2 := Lib.hid hb2; have HX2 := Lib.hid hx2
  clear hb2 hx2
  gi_wp2
  obtain ⟨w1, hw1⟩ : ∃ x, w.alloc (.cells #[.pointer none, .slice none 0 0] 171) = x := ⟨_, rfl⟩
  have hs1 : w1.heap.size = w.heap.size + 1 := by rw [← hw1]; simp
  rw [hw1] at HB2 HX2 HAL HF0
  clear hw1
  obtain ⟨z, hz⟩ : ∃ z, w.heap.size = z := ⟨_, rfl⟩
  obtain ⟨bb, hbb⟩ : ∃ z, w1.heap.size = z := ⟨_, rfl⟩
  have HZ := Lib.hid hz
  have HBL : Hid (Below w.heap.size w W2) := Lib.hid (HAL.out.trans (HB2.out.mono HAL.out.size))
  have HF2 : Hid (Lib.IsBuilderF 171 5 z z (Lib.byteCells []) W2) := Lib.hid (by rw [← hz]; exact bld_kept HF0.out HB2.out)
  have hz2 : z < W2.heap.size := by have := HB2.out.size; omega
  rw [hbb] at HX2
  rw [show w.heap.size + 1 = bb by omega, hz]
  clear hs1 hz hbb HF0
  have hbz : ∀ {W : World} {l : List UInt8}, Lib.IsBuilderF 171 5 z z (Lib.byteCells l) W → ∃ cur fr, W.heap[z]? = some (.cells cur 171 fr) := fun h => by
    rcases h with ⟨_, v, hc, _⟩ | ⟨_, v, hc, _⟩ <;> exact ⟨_, _, hc⟩
  have hE1 := enE Tryz.func132 rfl
  have hseq := HQ.out z bb W2 HBL.out HX2.out (hbz HF2.out)
  have hkg : ∀ {X Y : World}, z ≤ X.heap.size → X.grownBy Y none → KpT z X Y := fun {X Y} hx hg => ⟨(qB z X).grown hg hx (fun k e => by cases e), fun k cur t fr _ _ hc => (hg.block k (qX hc) (by simp)).trans hc, fun ⟨cur, fr, hc⟩ => ⟨cur, fr, (hg.block z (qX hc) (by simp)).trans hc⟩⟩
  refine wpIn_rangeFunc_ownH rfl (by decide) (gf := 132) (lb := #[.pointer (some ⟨bb, 0, none⟩)]) rfl trivial (fun args w => hE1 w args) hseq KpT.trans (fun W l o o' hl h ho _ => KpT.book (n := W2.heap.size) (Nat.le_of_lt hz2) W l o o' hl h ho) (qB _ _) (fun _ => rfl)
    (fun pre W => Lib.IsBuilderF 171 5 z z (Lib.byteCells (pre.flatMap fun x => bytesU x.1.2.2.2.1)) W ∧ Below w.heap.size w W)
    (fun _ _ _ => False)
    (OwnFrom.and (Own.from (bld_own (rs := rs) (z := z) (fun pre => pre.flatMap fun x => bytesU x.1.2.2.2.1)) _) (ownFrom_below (Nat.le_refl _) HBL.out.size))
    (fun _ _ _ _ _ hs _ _ => hs)
    ⟨HF2.out, HBL.out⟩
    (fun x a' W => ∃ Bx, z < Bx ∧ RunBox W Bx x.1.2 ∧ a' = { tmps := #[.pointer dp, undef, .string ⟨#[]⟩, .pointer (some ⟨z, 0, none⟩), undef, .pointer (some ⟨Bx, 0, none⟩), undef, undef, .pointer dp, .func (.func 132) #[] #[.pointer (some ⟨bb, 0, none⟩)], .int .i64 x.1.1, .agg (runV x.1.2).toArray, undef, undef, undef, undef, undef, undef, undef, undef, undef], defers := [] })
    (fun x a' _ X Y row hs hg hr => by
      obtain ⟨Bx, h1, h2, h3⟩ := hs
      refine ⟨Bx, h1, (hg.block Bx (qX h2) fun e => ?_).trans h2, h3⟩
      obtain ⟨o, ho, hc⟩ := (hr Bx e.symm).2
      rw [show X.heap[Bx]? = _ from h2] at ho; cases ho; cases hc)
    ?assign ?body ?done ?stop
  case assign =>
    rintro l pre x W K ⟨hbl, hB⟩ hK
    have hrl := runV_length (HIN.out _ x.2)
    obtain ⟨g1, g2, g3⟩ := grown_box W runZ.toArray (runV x.1.2).toArray 177
    have hst := fun (ρ : Operand → Value) (o : Oper) (p y : Operand) (ho : o.op = .store 177 p y) hx hy => ex_storeRow (P := Tryz.prog) (w := W.alloc (.cells runZ.toArray 177)) (ρ := ρ) 177 p y ho W.heap.size (runV x.1.2).toArray hx hy 177 runZ.toArray (heap_alloc_new _ _) (run_info hrl) (by rw [List.size_toArray, List.size_toArray, hrl]; rfl) (by simpa using runV_one x.1.2 (HIN.out _ x.2).2.1.one)
    have HST := Lib.hid hst
    obtain ⟨cz, fz, hcz⟩ := hbz hbl
    have hzW := qX hcz
    clear hst hcz
    generalize (W.alloc (.cells runZ.toArray 177)).setRow W.heap.size (runV x.1.2).toArray = W3 at *
    simp only [liveA]
    gi_wp2_with (first
      | (refine wpListIn_none rfl (by intro c h; cases h) (by intro c h; cases h) (HST.out _ _ _ _ rfl rfl rfl) ?_)
      | gi_in)
    have hbW : Below W.heap.size W W3 := ⟨g1.os, g1.tape, g1.output, g1.size, fun k hk => g1.block k hk (by simp)⟩
    exact hK _ _ ((KeepsOthers.of_grownBy g1 (fun j o e => by cases e)).from _) (hkg (Nat.le_of_lt hzW) g1) ⟨bld_kept hbl hbW, hB.trans (hbW.mono hB.size)⟩ ⟨W.heap.size, hzW, g2, rfl⟩
  case body =>
    rintro l pre x a' W hl2 ⟨rr, hr⟩ ⟨hbl, hB⟩ ⟨Bx, hBx, bX, rfl⟩ hlt
    have HRI := Lib.hid ((HIN.out _ x.2).keep (KeepR.below hB))
    have HEX := Lib.hid (HE.out _ x.2)
    obtain ⟨gr, off, cap, cur, fr, hrv, hrc, hrm, _, _⟩ := HRI.out.2.1
    obtain ⟨_, _, _, p3, _, _⟩ := run_cells HRI.out.1
    have c34 : W.cell? ⟨Bx, 34, none⟩ = some (.slice (some ⟨gr, off, none⟩) x.1.2.2.2.1.length cap) := (cells_at0 bX 34).trans (p3.trans (congrArg some hrv))
    have HRN : Hid (RuneAt W (.slice (some ⟨gr, off, none⟩) x.1.2.2.2.1.length cap) x.1.2.2.2.1) := Lib.hid (by rw [← hrv]; exact HRI.out.2.1)
    have HBLD := Lib.hid hbl; have HBW := Lib.hid hB
    obtain ⟨cz, fz, hcz⟩ := hbz hbl
    have hzW := qX hcz
    have hxl := hs _ x.2
    have hpl := texts_le hs pre
    clear p3 hrv hbl hB hcz
    gi_wp2
    refine ⟨trivial, (callsIn_wide.2 (utext_any _ gr off cap W HRN.out HEX.out (by omega))).mono ?_⟩
    rintro e W5 ⟨hb5, rfl⟩
    have HB5 := Lib.hid hb5
    clear hb5
    gi_wp2
    refine ⟨trivial, (callsIn_wide.2 (bwrite_any z z (pre.flatMap fun x => bytesU x.1.2.2.2.1) ⟨(bytesU x.1.2.2.2.1).toArray⟩ W5 (bld_kept HBLD.out HB5.out) (by rw [size_mk]; have := bytesU_len x.1.2.2.2.1; omega) (by have := HB5.out.size; omega))).mono ?_⟩
    rintro e W6 ⟨rfl, h1, h2, h3⟩
    gi_wp2
    rw [L_mk] at h1
    have hko : ∀ k o, W.heap[k]? = some o → k ≠ z → (∀ c fz, o ≠ .cells c 5 fz) → W6.heap[k]? = some o := fun k o hk hkz hc => h3 k o ((HB5.out.block k (qX hk)).trans hk) (fun e => hkz (Option.some.inj e)) hc
    refine ⟨⟨Nat.le_trans HB5.out.size h2.size, fun k o _ hk ho => hko k o hk (fun e => ?_) fun c fz e => by subst e; cases ho⟩, ⟨(HB5.out.mono (Nat.le_of_lt hzW)).trans h2, fun k cur t fr ht hkz hk => hko k _ hk hkz fun c fz e => by injection e with _ e; exact ht e, fun _ => hbz h1⟩, ?_, ?_⟩
    · subst e
      obtain ⟨cz, fz, hcz⟩ := hbz HBLD.out
      rw [hcz] at hk
      cases hk
      cases ho
    · rw [List.flatMap_append]
      simpa using h1
    · rw [HZ.out] at HBW ⊢
      exact HBW.out.trans ((HB5.out.mono (Nat.le_of_lt hzW)).trans h2)
  case done =>
    rintro D zs W hD hS ⟨hbl, hB⟩ hK
    obtain ⟨cz, fz, hcz⟩ := hbz hbl
    have hzW := qX hcz
    gi_wp2
    refine ⟨trivial, (callsIn_wide.2 (Tryz.Builder_String_any_k z z _ W hbl (Nat.le_of_lt hzW))).mono ?_⟩
    rintro e W7 ⟨rfl, _, hb7, h7⟩
    have hK7 := h7 D _ hK (fun e => by
      have := Option.some.inj e
      omega) fun c fz e => by cases e
    gi_wp2
    refine ⟨by simp, .inl ⟨_, _, rfl, run_takeDeferred hK7, ?_⟩⟩
    have et : (zs.flatMap fun x => bytesU x.1.2.2.2.1) = textR (rs.map runOf) := by
      rw [← liveM_text, ← hS, List.flatMap_map]
    refine ⟨_, results_tmp rfl _ _ _, ?_, ?_⟩
    · refine (hB.trans ?_).trans (belowK_b (w := w) (Nat.le_refl _) W7 D _ _ (by have := HBL.out.size; omega) hK7 rfl rfl)
      rw [HZ.out]
      exact hb7
    · rw [← et]
      rfl
  case stop =>
    rintro D c pre W _ _ h _
    exact h.elim
theorem dtext_run (rs : List RunM) (B p : Nat) (v : Value) (w : World) (h : DocRows w B p v rs) (hE : ∀ r ∈ rs, ∀ u ∈ r.2.2.1, EncIs u) (hl : rs.length ≤ 65536) (hs : ∀ r ∈ rs, r.2.2.1.length ≤ 65536) :
    Calls Tryz.prog 36 #[.pointer (some ⟨p, 0, none⟩)] w fun e w' => Below w.heap.size w w' ∧ e = .returned (.string ⟨(textR (rs.map runOf)).toArray⟩) :=
  dtext_core (some ⟨p, 0, none⟩) rs w h.ins hE hl hs fun z bb W2 hb hx hz l J Jx W hW hJ hJx hY h0 => by
    obtain ⟨cz, fz, hcz⟩ := hz
    exact livesIt_in 3 (by decide) l B p z bb v rs 0 J Jx hY W hJ (h.keep (hb.trans (hW.mono hb.size))) ((hW.block bb (qX hx)).trans hx) ⟨cz, fz, (hW.block z (qX hcz)).trans hcz⟩ (by omega) h0
/-- Of a document that is not there. -/
theorem dtext_nil (w : World) : Calls Tryz.prog 36 #[.pointer none] w fun e w' => Below w.heap.size w w' ∧ e = .returned (.string ⟨#[]⟩) :=
  dtext_core none [] w (fun r hr => by cases hr) (fun r hr => by cases hr) (by decide) (fun r hr => by cases hr) fun z bb W2 hb hx hz l J Jx W hW hJ hJx hY h0 => callsIn_wide.2 ((livesIt_nil bb (.func (.yield l) #[] #[]) W ((hW.block bb (qX hx)).trans hx)).mono fun e w' ⟨h1, h2⟩ => ⟨⟨_, h2⟩, .inl ⟨[], rfl, by rw [h1]; exact h0⟩⟩)
end Go.Proofs.YtdgbjhfkmembdaaGreatDoor
