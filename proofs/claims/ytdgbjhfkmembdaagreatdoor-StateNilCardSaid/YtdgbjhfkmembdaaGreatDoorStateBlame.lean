/-
  Who wrote what of the document that has a path. Conditions: the state lies in memory; the pieces are known, each of a change that is there.
-/
import Derived.Test.YtdgbjhfkmembdaaGreatDoorStateText
import Derived.Test.YtdgbjhfkmembdaaGreatDoorBlockPieces
import Derived.Test.YtdgbjhfkmembdaaGreatDoorStateHas
namespace Go.Proofs.YtdgbjhfkmembdaaGreatDoor
open Go.RowKit Go.Maps
set_option linter.unusedVariables false
set_option linter.unusedSimpArgs false

def blameV (x : BlameD) : List Value := idV x.1 ++ ([.string x.2.1] ++ [.string ⟨x.2.2.toArray⟩])
theorem blameV_length {x : BlameD} (h : IdOk x.1) : (blameV x).length = 34 := by
  have : x.1.length = 32 := h
  simp [blameV, idV_length, this]
theorem blameV_one (x : BlameD) : ∀ u ∈ blameV x, u.oneCell' = true := by
  intro u hu
  unfold blameV at hu
  simp only [List.mem_append, List.mem_singleton] at hu
  rcases hu with hu | rfl | rfl
  · exact idV_one _ u hu
  · rfl
  · rfl
def blameZ : List Value := idV zero32 ++ ([.string noneS] ++ [.string noneS])
theorem infoBlame : (Tryz.prog.info? 43).map (fun i => (i.zero, i.size, i.bytes)) = some (some (.agg blameZ.toArray), 34, 64) := by kernel_rfl
theorem sizeBlame : (Tryz.prog.info? 43).map (·.size) = some 34 := by kernel_rfl
theorem pieceZ_run (w : World) : (zeroValue 102).run Tryz.prog w = .ok (.agg pieceZ.toArray) w := by kernel_rfl
theorem idZ_run15 (w : World) : (zeroValue 41).run Tryz.prog w = .ok (.agg (idV zero32).toArray) w := by kernel_rfl
theorem blame_built (x : BlameD) (hk : IdOk x.1) (w : World) : (Instr.build 43 #[(0, .agg (idV x.1).toArray), (1, .string x.2.1), (2, .string ⟨x.2.2.toArray⟩)]).run Tryz.prog w = .ok (.agg (blameV x).toArray) w := by
  obtain ⟨j, hi, hz, _, _⟩ := info_parts infoBlame
  have hl : x.1.length = 32 := hk
  have h := built_struct (P := Tryz.prog) hi Tryz.underlying43 hz [idV zero32, [.string noneS], [.string noneS]] rfl (places := [(0, 32), (32, 1), (33, 1)]) (by kernel_rfl) (by kernel_rfl) [(0, .agg (idV x.1).toArray), (1, .string x.2.1), (2, .string ⟨x.2.2.toArray⟩)] (by
    intro q hq
    simp only [List.mem_cons, List.not_mem_nil, or_false] at hq
    rcases hq with rfl | rfl | rfl
    · exact ⟨by show 0 < 3; omega, by show (idV x.1).toArray.size = 32; rw [List.size_toArray, idV_length, hl]⟩
    · exact ⟨by show 1 < 3; omega, rfl⟩
    · exact ⟨by show 2 < 3; omega, rfl⟩)
  have h2 := run_build (P := Tryz.prog) w 43 #[(0, .agg (idV x.1).toArray), (1, .string x.2.1), (2, .string ⟨x.2.2.toArray⟩)] _ h
  refine h2.trans ?_
  simp [blameV, Value.cells]
/-- The last row. -/
theorem blame_last {w : World} {B : Nat} {l : List BlameD} {q : BlameD} {v : Value} (h : w.ownsRow B 43 34 v (l ++ [q]).length (rowsV blameV (l ++ [q]))) (hl : ∀ x ∈ l ++ [q], IdOk x.1) :
    ∃ g c tail, v = .slice (some ⟨g, 0, none⟩) (l.length + 1) c ∧ B ≤ g ∧ w.heap[g]? = some (.cells ((rowsV blameV l ++ (idV q.1 ++ [Value.string q.2.1])) ++ ([Value.string ⟨q.2.2.toArray⟩] ++ tail)).toArray 43 (0, 0)) ∧ l.length + 1 ≤ c ∧ c ≤ maxLen ∧ tail.length = (c - (l.length + 1)) * 34 ∧ (rowsV blameV l).length = l.length * 34 ∧ (idV q.1).length = 32 := by
  obtain ⟨g, c, tail, hv, hB, hg, hc, hm, ht⟩ := own_open h (by simp)
  rw [List.length_append, List.length_singleton] at hv hc ht
  refine ⟨g, c, tail, hv, hB, ?_, hc, hm, ht, rowsV_length fun x hx => blameV_length (hl x (List.mem_append_left _ hx)), by rw [idV_length]; exact hl q (by simp)⟩
  rw [hg, rowsV_snocP]
  simp [blameV]
/-- An entry's author. -/
def authorS (S : StateD) (i : List UInt8) : ByteArray := match entryAt S i with
  | some e => e.1.2.2.1
  | none => noneS
theorem entryG_author {S : StateD} (q : StateL) {i : List UInt8} (h : (entryAt S i).isSome = true) : ∃ g0 g1 g3 g4, entryG S q i = [g0, g1, .string (authorS S i), g3, g4] := by
  unfold entryG authorS
  cases he : entryAt S i with
  | none => rw [he] at h; cases h
  | some e => exact ⟨_, _, _, _, rfl⟩
def blSt (S : StateD) (ps : List PieceD) (i : Nat) : List BlameD := (ps.take i).foldl (stepB (authorS S)) []
theorem blSt_next {S : StateD} {ps : List PieceD} {i : Nat} (hi : i < ps.length) : blSt S ps (i + 1) = stepB (authorS S) (blSt S ps i) ps[i] := by
  unfold blSt
  rw [List.take_succ_eq_append_getElem hi, List.foldl_append]
  rfl
theorem blSt_text (S : StateD) (ps : List PieceD) (i : Nat) : textB15 (blSt S ps i) = textP (ps.take i) := by
  unfold blSt
  have : ∀ (l : List PieceD) (out : List BlameD), textB15 (l.foldl (stepB (authorS S)) out) = textB15 out ++ textP l := by
    intro l
    induction l with
    | nil => intro out; simp [textP]
    | cons x l ih =>
      intro out
      rw [List.foldl_cons, ih, textB_step]
      simp [textP]
  rw [this]
  rfl
theorem textB_mem {l : List BlameD} {x : BlameD} (h : x ∈ l) : x.2.2.length ≤ (textB15 l).length := by
  unfold textB15
  induction l with
  | nil => cases h
  | cons y l ih =>
    rw [List.flatMap_cons, List.length_append]
    rcases List.mem_cons.1 h with rfl | h
    · omega
    · have := ih h; omega
theorem textP_take (ps : List PieceD) (i : Nat) : (textP (ps.take i)).length ≤ (textP ps).length := by
  have h : textP ps = textP (ps.take i) ++ textP (ps.drop i) := by
    unfold textP
    rw [← List.flatMap_append, List.take_append_drop]
  rw [h, List.length_append]
  omega
/-- What the rows are. -/
def BlOk (st : List BlameD) (i : Nat) : Prop := (∀ x ∈ st, IdOk x.1) ∧ st.length ≤ i
theorem BlOk.step {S : StateD} {st : List BlameD} {i : Nat} {x : PieceD} (h : BlOk st i) (hk : IdOk x.1.2.1) : BlOk (stepB (authorS S) st x) (i + 1) := by
  obtain ⟨h1, h2⟩ := h
  unfold stepB
  cases hl : st.getLast? with
  | none =>
    refine ⟨fun y hy => ?_, by simp; omega⟩
    rcases List.mem_append.1 hy with hy | hy
    · exact h1 y hy
    · rw [List.mem_singleton] at hy
      subst hy
      exact hk
  | some z =>
    have e := last_split hl
    have hz := h1 z (by rw [e]; simp)
    dsimp only
    split
    · refine ⟨fun y hy => ?_, ?_⟩
      · rcases List.mem_append.1 hy with hy | hy
        · exact h1 y (by rw [e]; exact List.mem_append_left _ hy)
        · rw [List.mem_singleton] at hy
          subst hy
          exact hz
      · have hs := congrArg List.length e
        rw [List.length_append, List.length_singleton] at hs
        simp only [List.length_append, List.length_singleton]
        omega
    · refine ⟨fun y hy => ?_, by simp; omega⟩
      rcases List.mem_append.1 hy with hy | hy
      · exact h1 y hy
      · rw [List.mem_singleton] at hy
        subst hy
        exact hk
set_option maxHeartbeats 4000000 in
set_option maxRecDepth 100000 in
theorem sblame_core (B s : Nat) (S : StateD) (q : StateL) (p : ByteArray) (kk : KeyD) (hkk : (keyV kk).length = 34) (dp : Option Addr) (n : Int) (ps : List PieceD) (w : World) (h : StateAt w B s S q)
    (hf : Calls Tryz.prog 40 #[.pointer (some ⟨s, 0, none⟩), .string p] w fun e w' => Below w.heap.size w w' ∧ e = .returned (.tuple #[.agg (keyV kk).toArray, .pointer dp, .int .i64 n]))
    (hp : ∀ u, Below w.heap.size w u → Calls Tryz.prog 41 #[.pointer dp] u fun e w' => ∃ v', e = .returned v' ∧ w'.ownsRow u.heap.size 102 36 v' ps.length (rowsV pieceV ps) ∧ Below u.heap.size u w')
    (hok : ∀ x ∈ ps, PieceOk x) (hl : ps.length ≤ 1099511627776) (ht : (textP ps).length ≤ 1099511627776) (he : ∀ x ∈ ps, (entryAt S x.1.2.1).isSome = true) :
    Calls Tryz.prog 12 #[.pointer (some ⟨s, 0, none⟩), .string p] w fun e w' => Below w.heap.size w w' ∧ ∃ v, e = .returned (.tuple #[v, .int .i64 n]) ∧ w'.ownsRow w.heap.size 43 34 v (blameR (authorS S) ps).length (rowsV blameV (blameR (authorS S) ps)) := by
  have HS := Lib.hid h; have HF := Lib.hid hf; have HP := Lib.hid hp; have HOK := Lib.hid hok; have HE := Lib.hid he; have HKK := Lib.hid hkk; have HT := Lib.hid ht
  clear h hf hp hok he hkk ht
  go_enter Tryz.func12, Tryz.ntmps12
  go_wp2_with (first
    | (go_at_call 40; refine HF.out.mono ?_; rintro e W1 ⟨hb1, rfl⟩
       have HB1 := Lib.hid hb1
       clear hb1)
    | (go_at_call 41; refine (HP.out _ HB3.out).mono ?_; rintro e W4 ⟨v4, rfl, ho4, hb4⟩
       have HB4 := Lib.hid (HB3.out.trans (hb4.mono HB3.out.size))
       have HO4 := Lib.hid (own_lower ho4 HB3.out.size)
       obtain ⟨Ap, cp, rfl⟩ := own_form ho4
       clear hb4 ho4)
    | (with_reducible refine at_alloc ?_
       refine wp_allocM (by rfl) 89 rfl (keyV (0, zero32, 0)) (keyZ_run _) ?_
       intro W2 hb2 hy2 hs2
       have HB2 := Lib.hid (HB1.out.trans (hb2.mono HB1.out.size)); have HY2 := Lib.hid hy2
       clear hb2 hy2 hs2)
    | (with_reducible refine at_store ?_
       refine wp_storeM (by rfl) 89 _ _ rfl W1.heap.size 0 [] (keyV (0, zero32, 0)) [] (keyV kk) 89 (.agg (keyV kk).toArray) rfl rfl rfl rfl (by simpa using HY2.out) (by rw [HKK.out]; rfl) (by rw [HKK.out]; kernel_rfl) (keyV_one _) ?_
       intro W3 hb3 hy3 hs3
       have HB3 := Lib.hid (HB2.out.trans (hb3.below (B := w.heap.size) HB2.out.size (fun k hk e => by have e2 : k = W1.heap.size := e; have := HB1.out.size; omega)))
       clear hb3 hy3 hs3))
  go_loopw [9, 24] (fun t9 t24 wr => ∃ (i : Nat) (A : Option Addr) (c : Nat), i ≤ ps.length ∧ t9 = .slice A (blSt S ps i).length c ∧ t24 = .int .i64 (i : Int) ∧ Hid (Below w.heap.size w wr) ∧ Hid (wr.ownsRow w.heap.size 43 34 (.slice A (blSt S ps i).length c) (blSt S ps i).length (rowsV blameV (blSt S ps i))) ∧ Hid (wr.ownsRow w.heap.size 102 36 (.slice Ap ps.length cp) ps.length (rowsV pieceV ps)) ∧ Hid (BlOk (blSt S ps i) i)) (fun _ t24 _ => ps.length - (intOf t24).toNat)
  case atStart => exact ⟨0, none, 0, Nat.zero_le _, rfl, rfl, HB4, Lib.hid (World.ownsRow_nil _ _ _ _), HO4, Lib.hid ⟨fun x hx => (by cases hx), Nat.le_refl _⟩⟩
  case round =>
    obtain ⟨i, A, c, hi, rfl, rfl, HBR, HOB, HOP, HBO⟩ := hrel
    by_cases hlt : i < ps.length
    · have i0 : (0 : Int) ≤ (i : Int) := by omega
      have i1 : (i : Int) < (ps.length : Int) := by omega
      obtain ⟨gp, cq, tlp, hvp, hBp, hgp, hcp, hmp, htp⟩ := own_open HOP.out (by omega)
      injection hvp with hvp1 _ hvp2
      subst hvp1 hvp2
      have HNX := Lib.hid (blSt_next (S := S) hlt)
      have HPO := Lib.hid (HOK.out _ (List.getElem_mem hlt))
      have HPE := Lib.hid (HE.out _ (List.getElem_mem hlt))
      have HXT : Hid (ps[i].2.2.length ≤ 1099511627776) := Lib.hid (Nat.le_trans (textP_mem (List.getElem_mem hlt)) HT.out)
      have HROW := Lib.hid (show wr.rangeAt gp (i * 36) (pieceV ps[i]) from fun j u hj => by
        have hr := rowsV_get (fun x hx => pieceV_length (HOK.out x hx)) i hlt j u hj
        rw [cells_at0 hgp, List.getElem?_append_left (List.getElem?_eq_some_iff.1 hr).1]
        exact hr)
      clear hgp htp
      generalize ps[i] = x at *
      have HTX : Hid ((textB15 (blSt S ps i)).length ≤ 1099511627776) := Lib.hid (by rw [blSt_text]; exact Nat.le_trans (textP_take ps i) HT.out)
      have HID : Hid (IdOk x.1.2.1) := Lib.hid HPO.out.1.2.1
      have HBO2 : Hid (BlOk (stepB (authorS S) (blSt S ps i) x) (i + 1)) := Lib.hid (HBO.out.step HID.out)
      generalize blSt S ps i = out at *
      have hxl := pieceV_length HPO.out
      have HXL := Lib.hid hxl
      have hidl : (idV x.1.2.1).length = 32 := by rw [idV_length]; exact HID.out
      have HIDL := Lib.hid hidl
      clear hxl hidl
      obtain ⟨m, hm⟩ : ∃ m, out.length = m := ⟨_, rfl⟩
      rw [hm] at HOB ⊢
      have hmi : m ≤ i := by rw [← hm]; exact HBO.out.2
      have HMI := Lib.hid hmi
      have hm2 : (m : Int) ≤ 9223372036854775807 := by omega
      clear hmi
      go_upto_region 8 with (first
        | (with_reducible refine at_load ?_
           first
           | refine wp_loadN rfl 102 _ rfl gp _ rfl (pieceV x) _ HROW.out Tryz.underlying102 rfl (by rw [HXL.out]; exact sizePiece) ?_
           | refine wp_val (by rfl) (ldD HID.out HRI7.out) ?_)
        | (with_reducible refine at_alloc ?_
           first
           | (refine wp_allocM (by rfl) 102 rfl pieceZ (pieceZ_run _) ?_
              intro W6 hb6 hy6 hs6
              have HB6 := Lib.hid hb6; have HY6 := Lib.hid hy6; have HS6 := Lib.hid hs6
              clear hb6 hy6 hs6)
           | (refine wp_allocM (by rfl) 41 rfl (idV zero32) (idZ_run15 _) ?_
              intro W8 hb8 hy8 hs8
              have HB8 := Lib.hid hb8; have HY8 := Lib.hid hy8; have HS8 := Lib.hid hs8
              clear hb8 hy8 hs8))
        | (with_reducible refine at_store ?_
           first
           | (refine wp_storeM (by rfl) 102 _ _ rfl wr.heap.size 0 [] pieceZ [] (pieceV x) 102 (.agg (pieceV x).toArray) rfl rfl rfl rfl (by simpa using HY6.out) (by rw [HXL.out]; rfl) (by rw [HXL.out]; exact sizePiece) (pieceV_one _) ?_
              intro W7 hb7 hy7 hs7
              have HBR7 : Hid (Below wr.heap.size wr W7) := Lib.hid (HB6.out.trans (hb7.below (B := wr.heap.size) (by have := HS6.out; omega) (fun k hk e => by have e2 : k = wr.heap.size := e; omega)))
              have HY7 : Hid (W7.heap[wr.heap.size]? = some (.cells (pieceV x).toArray 102 (0, 0))) := Lib.hid (by simpa using hy7)
              have HRI7 : Hid (W7.rangeAt wr.heap.size (0 + 1) (idV x.1.2.1)) := Lib.hid fun j u hj => (cells_at0 HY7.out _).trans (by
                unfold pieceV keyV
                have hjl := (List.getElem?_eq_some_iff.1 hj).1
                rw [List.getElem?_append_left (by simp only [List.length_cons, List.length_append, List.length_singleton]; omega), show 0 + 1 + j = j + 1 by omega, List.getElem?_cons_succ, List.getElem?_append_left hjl]
                exact hj)
              clear hb7 hy7 hs7)
           | (refine wp_storeM (by rfl) 41 _ _ rfl W7.heap.size 0 [] (idV zero32) [] (idV x.1.2.1) 41 (.agg (idV x.1.2.1).toArray) rfl rfl rfl rfl (by simpa using HY8.out) (by rw [HIDL.out]; rfl) (by rw [HIDL.out]; kernel_rfl) (idV_one _) ?_
              intro W9 hb9 hy9 hs9
              have HBR9 : Hid (Below wr.heap.size wr W9) := Lib.hid (HBR7.out.trans ((HB8.out.trans (hb9.below (B := W7.heap.size) (by have := HS8.out; omega) (fun k hk e => by have e2 : k = W7.heap.size := e; omega))).mono HBR7.out.size))
              have HY9 : Hid (W9.heap[W7.heap.size]? = some (.cells (idV x.1.2.1).toArray 41 (0, 0))) := Lib.hid (by simpa using hy9)
              have HYP : Hid (W9.heap[wr.heap.size]? = some (.cells (pieceV x).toArray 102 (0, 0))) := Lib.hid (((HB8.out.trans (hb9.below (B := W7.heap.size) (by have := HS8.out; omega) (fun k hk e => by have e2 : k = W7.heap.size := e; omega))).block wr.heap.size (qX HY7.out)).trans HY7.out)
              clear hb9 hy9 hs9)))
      obtain ⟨b11, hb11⟩ : ∃ z, wr.heap.size = z := ⟨_, rfl⟩
      obtain ⟨b12, hb12⟩ : ∃ z, W7.heap.size = z := ⟨_, rfl⟩
      have HYI : Hid (W9.heap[b12]? = some (.cells (idV x.1.2.1).toArray 41 (0, 0))) := Lib.hid (by rw [← hb12]; exact HY9.out)
      have HYQ : Hid (W9.heap[b11]? = some (.cells (pieceV x).toArray 102 (0, 0))) := Lib.hid (by rw [← hb11]; exact HYP.out)
      rw [hb11, hb12]
      have HBW9 : Hid (Below w.heap.size w W9) := Lib.hid (HBR.out.trans (HBR9.out.mono HBR.out.size))
      have HS9 := Lib.hid (HS.out.keep ((HBW9.out).mono (Nat.le_refl _)))
      have HOB9 := Lib.hid ((But.of_below (X := NoB) HBR9.out).own HOB.out fun _ _ q => q)
      have HOP9 := Lib.hid ((But.of_below (X := NoB) HBR9.out).own HOP.out fun _ _ q => q)
      have HFU := Lib.hid (show ∀ u : World, Below W9.heap.size W9 u → u.cell? ⟨b11, 35, none⟩ = some (.string ⟨x.2.2.toArray⟩) ∧ u.rangeAt b12 0 (idV x.1.2.1) ∧ StateAt u B s S q from fun u hu => ⟨(cells_at0 ((hu.block b11 (qX HYQ.out)).trans HYQ.out) 35).trans (by
        unfold pieceV
        have h34 := keyV_length HPO.out.1
        rw [List.getElem?_append_right (by omega), List.getElem?_append_right (by simp; omega), h34]
        rfl), fun j y hj => by rw [qZ]; exact (cells_at0 ((hu.block b12 (qX HYI.out)).trans HYI.out) j).trans hj, HS9.out.keep hu⟩)
      obtain ⟨g0, g1, g3, g4, hgf⟩ := entryG_author q HPE.out
      have HGF := Lib.hid hgf
      obtain ⟨imB, hmi, hmz, hms, hmb⟩ := info_parts infoBlame
      clear hgf HB6 HY6 HS6 HBR7 HY7 HRI7 HB8 HY8 HS8 hb11 hb12 HY9 HYP
      rcases List.eq_nil_or_concat out with h0 | ⟨l2, y, hlq⟩
      · have hm0 : m = 0 := by rw [← hm, h0]; rfl
        have HST : Hid (stepB (authorS S) out x = out ++ [(x.1.2.1, authorS S x.1.2.1, x.2.2)]) := Lib.hid (by unfold stepB; rw [h0]; rfl)
        clear h0
        refine rN 12 (fun u => Below W9.heap.size W9 u) (qD _ _) fun hF0 => ?_
        refine tw 0 (.int .i64 (m : Int)) ?_
        go_frame
        refine tk 1 (.bool false) rfl (fun w' hw' => ex_gtrB _ _ _ rfl rfl rfl (decide_eq_false (by omega))) ?_
        go_frame
        refine tw 2 (.bool false) ?_
        go_frame
        refine tn 3 ?_
        go_frame
        refine tn 4 ?_
        go_frame
        refine tn 5 ?_
        go_frame
        refine tn 6 ?_
        go_frame
        refine tn 7 ?_
        go_frame
        refine tn 8 ?_
        go_frame
        refine tn 9 ?_
        go_frame
        refine tn 10 ?_
        go_frame
        refine tw 11 (.bool false) ?_
        go_frame
        refine wpAnyN_done (by kernel_rfl) ?_ _
        go_upto_region 10 with fail
        have HOA := Lib.hid (fun (u : World) (hu : Below W9.heap.size W9 u) => (But.of_below (X := NoB) hu).own HOB9.out fun _ _ q => q)
        have hrow := blameV_length (x := (x.1.2.1, authorS S x.1.2.1, x.2.2)) HID.out
        have HRW := Lib.hid hrow
        clear hrow
        refine rN 13 (fun u => Below W9.heap.size W9 u) ((qD _ _).trans (qD _ _)) fun hF0 => ?_
        refine tw 0 (.slice A m c) ?_
        go_frame
        refine tl 1 (.agg (idV x.1.2.1).toArray) rfl hF0 (fun w' hw' => ldD HID.out (HFU.out w' hw').2.1) ?_
        go_frame
        refine tw 2 (.pointer (some ⟨s, 0, none⟩)) ?_
        go_frame
        refine tw 3 (.pointer (some ⟨s, 0, none⟩)) ?_
        go_frame
        refine tw 4 (.pointer (some ⟨s, 2, none⟩)) ?_
        go_frame
        refine tl 5 (.map (some q.bc)) rfl hF0 (fun w' hw' => l1 Tryz.underlying85 ((cells_at0 (HFU.out w' hw').2.2.box 2))) ?_
        go_frame
        refine tl 6 (.agg (idV x.1.2.1).toArray) rfl hF0 (fun w' hw' => ldD HID.out (HFU.out w' hw').2.1) ?_
        go_frame
        refine tl 7 (.agg [g0, g1, .string (authorS S x.1.2.1), g3, g4].toArray) rfl hF0 (fun w' hw' => ex_mapGet1 idEnc Tryz.underlying85 (entryZ_run _) (HFU.out w' hw').2.2.mapC HID.out ((entryG_is S q x.1.2.1).trans (by rw [HGF.out]))) ?_
        go_frame
        refine tw 8 (.agg [g0, g1, .string (authorS S x.1.2.1), g3].toArray) ?_
        go_frame
        refine tw 9 (.string (authorS S x.1.2.1)) ?_
        go_frame
        refine tw 10 (.pointer (some ⟨b11, 35, none⟩)) ?_
        go_frame
        refine tl 11 (.string ⟨x.2.2.toArray⟩) rfl hF0 (fun w' hw' => l1 Tryz.underlying9 (HFU.out w' hw').1) ?_
        go_frame
        refine tk 12 (.agg (blameV (x.1.2.1, authorS S x.1.2.1, x.2.2)).toArray) rfl (fun w' hw' => ex_build 43 _ rfl (by simp only [List.map_toArray, List.map_cons, List.map_nil]; exact blame_built (x.1.2.1, authorS S x.1.2.1, x.2.2) HID.out _)) ?_
        go_frame
        refine ta 13 ?_
        refine wpOp_val _ rfl (by kernel_rfl) (ex_buildSlice1 28 _ rfl 43 Tryz.underlying28 (.agg blameZ.toArray) 34 64 infoBlame rfl (by decide) (by decide) (blameV (x.1.2.1, authorS S x.1.2.1, x.2.2)) HRW.out rfl) ?_
        refine ⟨fun h => absurd h (by decide), ?_⟩
        go_frame
        obtain ⟨WD, hWD⟩ : ∃ z, W9.drew.drew = z := ⟨_, rfl⟩
        have HBD : Hid (Below W9.heap.size W9 WD) := Lib.hid (by rw [← hWD]; exact (qD _ _).trans (qD _ _))
        rw [hWD]
        clear hWD hF0
        have HBE : Hid (Below W9.heap.size W9 (WD.alloc (.cells (blameV (x.1.2.1, authorS S x.1.2.1, x.2.2)).toArray 43))) := Lib.hid (HBD.out.alloc HBD.out.size _)
        refine ta 14 ?_
        refine wpOp_wp _ rfl (by kernel_rfl) (wp_append_sl _ _ 28 rfl w.heap.size 43 imB (.agg blameZ.toArray) 34 64 Tryz.underlying28 hmi hmz hms hmb rfl (by decide) (.slice A m c) m (rowsV blameV out) rfl (HOA.out _ HBE.out) (some ⟨WD.heap.size, 0, none⟩) 1 1 (WD.heap.size + 1) (blameV (x.1.2.1, authorS S x.1.2.1, x.2.2)) rfl ⟨by rw [HRW.out], fun _ => ⟨WD.heap.size, 0, rfl, by omega, fun j u hj => by rw [Nat.zero_add]; exact (cells_at0 (heap_alloc_new _ _) j).trans hj⟩⟩ (blameV_one _) (by have := HMI.out; unfold maxLen; omega) (by have := HMI.out; omega) (Nat.le_trans HBW9.out.size HBE.out.size) ?_)
        intro v1 w1 ho1 hg1
        have HO1 := Lib.hid ho1
        have HB1 : Hid (Below w.heap.size w w1) := Lib.hid (HBW9.out.trans ((HBE.out.mono HBW9.out.size).grown hg1 (Nat.le_trans HBW9.out.size HBE.out.size) fun k e => (HOB9.out.lt k e).1))
        have HOP1 : Hid (w1.ownsRow w.heap.size 102 36 (.slice (some ⟨gp, 0, none⟩) ps.length cp) ps.length (rowsV pieceV ps)) := Lib.hid (by
          refine ((But.of_below (X := NoB) HBE.out).own HOP9.out fun _ _ q => q).kept hg1 (.inr fun e => ?_)
          obtain ⟨c1, hc1⟩ := own_tagged HOP9.out (rfl : _ = some gp)
          obtain ⟨c2, hc2⟩ := own_tagged HOB9.out e.symm
          exact ne_tag hc1 hc2 (by decide) rfl)
        obtain ⟨A1, c1', rfl⟩ := own_form ho1
        clear ho1 hg1
        refine ⟨fun h => absurd h (by decide), ?_⟩
        go_frame
        refine tw 15 (.slice A1 (m + 1) c1') ?_
        go_frame
        refine wpAnyN_done (by kernel_rfl) ?_ _
        go_wp2_with fail
        go_roundw
        case rel =>
          rw [HST.out] at HNX HBO2
          have hlen : (out ++ [((x.1.2.1, authorS S x.1.2.1, x.2.2) : BlameD)]).length = m + 1 := by rw [List.length_append, List.length_singleton, hm]
          refine ⟨i + 1, A1, c1', by omega, by rw [HNX.out, hlen], by go_num, HB1, Lib.hid ?_, HOP1, Lib.hid (by rw [HNX.out]; exact HBO2.out)⟩
          rw [HNX.out, hlen, rowsV_snocP]
          exact HO1.out
        case measure => (simp [intOf]) <;> omega
      · rw [List.concat_eq_append] at hlq
        have hml : m = l2.length + 1 := by rw [← hm, hlq, List.length_append, List.length_singleton]
        have hob := HOB9.out
        have hbo := HBO.out.1
        have e0 : m = (l2 ++ [y]).length := by rw [← hm, hlq]
        rw [hlq] at hbo
        rw [hlq, e0] at hob
        obtain ⟨g, c', tail, hv, hB, hg, hc, hcm, htl, hrl, hyl⟩ := blame_last hob hbo
        injection hv with hv1 _ hv2
        subst hv1 hv2
        have HYO : Hid (IdOk y.1) := Lib.hid (hbo y (by simp))
        have HG := Lib.hid hg; have HTL := Lib.hid htl
        have HRU := Lib.hid (show ∀ u : World, Below W9.heap.size W9 u → u.rangeAt g (0 + l2.length * 34 + 0) (idV y.1) ∧ u.cell? ⟨g, 0 + l2.length * 34 + 33, none⟩ = some (.string ⟨y.2.2.toArray⟩) from fun u hu => by
          have h2 := (hu.block g (qX HG.out)).trans HG.out
          refine ⟨fun j z hj => (cells_at0 h2 _).trans ?_, (cells_at0 h2 _).trans ?_⟩
          · have := (List.getElem?_eq_some_iff.1 hj).1
            rw [List.getElem?_append_left (by simp; omega), List.getElem?_append_right (by omega), List.getElem?_append_left (by omega), ← hj]
            congr 1
            omega
          · rw [List.getElem?_append_right (by simp; omega)]
            have : 0 + l2.length * 34 + 33 - (rowsV blameV l2 ++ (idV y.1 ++ [Value.string y.2.1])).length = 0 := by simp; omega
            rw [this]
            rfl)
        have ew : IntKind.i64.wrap ((m : Int) - 1) = (l2.length : Int) := by
          have := HMI.out
          rw [IntWalk.i64_in _ (by omega)]; omega
        have hgt : decide ((m : Int) > 0) = true := decide_eq_true (by omega)
        clear hob hbo hg htl e0
        by_cases hyx : y.1 = x.1.2.1
        · have HST : Hid (stepB (authorS S) out x = l2 ++ [(y.1, y.2.1, y.2.2 ++ x.2.2)]) := Lib.hid (by
            unfold stepB
            rw [hlq, List.getLast?_concat, List.dropLast_concat]
            exact if_pos hyx)
          have HDQ : Hid (decide (y.1 = x.1.2.1) = true) := Lib.hid (decide_eq_true hyx)
          have hys : y.2.2.length ≤ 1099511627776 := Nat.le_trans (textB_mem (by rw [hlq]; simp)) HTX.out
          clear hyx hlq
          refine rN 12 (fun u => Below W9.heap.size W9 u) (qD _ _) fun hF0 => ?_
          refine tw 0 (.int .i64 (m : Int)) ?_
          go_frame
          refine tk 1 (.bool true) rfl (fun w' hw' => ex_gtrB _ _ _ rfl rfl rfl hgt) ?_
          go_frame
          refine tw 2 (.bool true) ?_
          go_frame
          refine tw 3 (.slice (some ⟨g, 0, none⟩) m c) ?_
          go_frame
          refine tw 4 (.int .i64 (m : Int)) ?_
          go_frame
          refine tk 5 (.int .i64 (l2.length : Int)) rfl (fun w' hw' => ex_subI _ _ _ rfl rfl rfl ew) ?_
          go_frame
          refine tk 6 (.pointer (some ⟨g, 0 + l2.length * 34, none⟩)) rfl (fun w' hw' => ex_indexG 28 _ _ rfl (b := g) (off := 0) (q := l2.length) (n := m) (c := c) rfl rfl (by omega) Tryz.underlying28 sizeBlame) ?_
          go_frame
          refine tw 7 (.pointer (some ⟨g, 0 + l2.length * 34 + 0, none⟩)) ?_
          go_frame
          refine tl 8 (.agg (idV y.1).toArray) rfl hF0 (fun w' hw' => ldD HYO.out (HRU.out w' hw').1) ?_
          go_frame
          refine tl 9 (.agg (idV x.1.2.1).toArray) rfl hF0 (fun w' hw' => ldD HID.out (HFU.out w' hw').2.1) ?_
          go_frame
          refine tk 10 (.bool true) rfl (fun w' hw' => eqD HYO.out HID.out HDQ.out) ?_
          go_frame
          refine tw 11 (.bool true) ?_
          go_frame
          refine wpAnyN_done (by kernel_rfl) ?_ _
          go_upto_region 9 with fail
          have hxs := HXT.out
          have hpre : (rowsV blameV l2 ++ (idV y.1 ++ [Value.string y.2.1])).length = 0 + l2.length * 34 + 33 := by simp; omega
          refine rN 11 (fun u => Below W9.heap.size W9 u) ((qD _ _).trans (qD _ _)) fun hF0 => ?_
          refine tw 0 (.slice (some ⟨g, 0, none⟩) m c) ?_
          go_frame
          refine tw 1 (.int .i64 (m : Int)) ?_
          go_frame
          refine tk 2 (.int .i64 (l2.length : Int)) rfl (fun w' hw' => ex_subI _ _ _ rfl rfl rfl ew) ?_
          go_frame
          refine tk 3 (.pointer (some ⟨g, 0 + l2.length * 34, none⟩)) rfl (fun w' hw' => ex_indexG 28 _ _ rfl (b := g) (off := 0) (q := l2.length) (n := m) (c := c) rfl rfl (by omega) Tryz.underlying28 sizeBlame) ?_
          go_frame
          refine tw 4 (.pointer (some ⟨g, 0 + l2.length * 34 + 33, none⟩)) ?_
          go_frame
          refine tl 5 (.string ⟨y.2.2.toArray⟩) rfl hF0 (fun w' hw' => l1 Tryz.underlying9 (HRU.out w' hw').2) ?_
          go_frame
          refine tw 6 (.pointer (some ⟨b11, 35, none⟩)) ?_
          go_frame
          refine tl 7 (.string ⟨x.2.2.toArray⟩) rfl hF0 (fun w' hw' => l1 Tryz.underlying9 (HFU.out w' hw').1) ?_
          go_frame
          refine tk 8 (.string ⟨(y.2.2 ++ x.2.2).toArray⟩) rfl (fun w' hw' => (ex_addS 9 _ _ _ rfl rfl rfl (by rw [size_mk, size_mk]; omega)).trans (by rw [str_app])) ?_
          go_frame
          refine tk 9 (.pointer (some ⟨g, 0 + l2.length * 34, none⟩)) rfl (fun w' hw' => ex_indexG 28 _ _ rfl (b := g) (off := 0) (q := l2.length) (n := m) (c := c) rfl rfl (by omega) Tryz.underlying28 sizeBlame) ?_
          go_frame
          refine tw 10 (.pointer (some ⟨g, 0 + l2.length * 34 + 33, none⟩)) ?_
          go_frame
          refine ta 11 ?_
          refine wpOp_storeM _ rfl (by kernel_rfl) 9 _ _ rfl g (0 + l2.length * 34 + 33) (rowsV blameV l2 ++ (idV y.1 ++ [Value.string y.2.1])) [.string ⟨y.2.2.toArray⟩] tail [.string ⟨(y.2.2 ++ x.2.2).toArray⟩] 43 (.string ⟨(y.2.2 ++ x.2.2).toArray⟩) rfl hpre.symm rfl rfl HG.out rfl (by kernel_rfl) (by intro u hu; rw [List.mem_singleton.1 hu]; rfl) ?_
          intro WC hbC hyC hsC
          have HBC := Lib.hid hbC; have HYC := Lib.hid hyC
          clear hbC hyC hsC
          refine ⟨fun h => absurd h (by decide), ?_⟩
          go_frame
          refine wpAnyN_done (by kernel_rfl) ?_ _
          go_wp2_with fail
          go_roundw
          case rel =>
            have hbt : But (fun k => k = g) W9 WC := (But.refl _ W9).drew.drew.trans HBC.out fun k _ e => e
            have hlen : (l2 ++ [((y.1, y.2.1, y.2.2 ++ x.2.2) : BlameD)]).length = m := by rw [List.length_append, List.length_singleton, hml]
            rw [HST.out] at HNX HBO2
            refine ⟨i + 1, some ⟨g, 0, none⟩, c, by omega, by rw [HNX.out, hlen], by go_num, Lib.hid (HBW9.out.trans (hbt.below HBW9.out.size fun k hk e => by subst e; omega)), Lib.hid ?_, Lib.hid (hbt.own HOP9.out fun k hk e => ?_), Lib.hid (by rw [HNX.out]; exact HBO2.out)⟩
            · rw [HNX.out, hlen]
              refine own_shut (tail := tail) ?_ hB ?_ (by omega) hcm (by rw [HTL.out, hml])
              · rw [rowsV_snocP, List.length_append, hrl]
                simp [blameV, hyl]
                omega
              · rw [HYC.out, rowsV_snocP]
                simp [blameV]
            · obtain ⟨c1, hc1⟩ := own_tagged HOP9.out hk
              exact ne_tag hc1 HG.out (by decide) e
          case measure => (simp [intOf]) <;> omega
        · have HST : Hid (stepB (authorS S) out x = out ++ [(x.1.2.1, authorS S x.1.2.1, x.2.2)]) := Lib.hid (by
            unfold stepB
            rw [hlq, List.getLast?_concat]
            exact if_neg hyx)
          have HDQ : Hid (decide (y.1 = x.1.2.1) = false) := Lib.hid (decide_eq_false hyx)
          clear hyx hlq
          refine rN 12 (fun u => Below W9.heap.size W9 u) (qD _ _) fun hF0 => ?_
          refine tw 0 (.int .i64 (m : Int)) ?_
          go_frame
          refine tk 1 (.bool true) rfl (fun w' hw' => ex_gtrB _ _ _ rfl rfl rfl hgt) ?_
          go_frame
          refine tw 2 (.bool true) ?_
          go_frame
          refine tw 3 (.slice (some ⟨g, 0, none⟩) m c) ?_
          go_frame
          refine tw 4 (.int .i64 (m : Int)) ?_
          go_frame
          refine tk 5 (.int .i64 (l2.length : Int)) rfl (fun w' hw' => ex_subI _ _ _ rfl rfl rfl ew) ?_
          go_frame
          refine tk 6 (.pointer (some ⟨g, 0 + l2.length * 34, none⟩)) rfl (fun w' hw' => ex_indexG 28 _ _ rfl (b := g) (off := 0) (q := l2.length) (n := m) (c := c) rfl rfl (by omega) Tryz.underlying28 sizeBlame) ?_
          go_frame
          refine tw 7 (.pointer (some ⟨g, 0 + l2.length * 34 + 0, none⟩)) ?_
          go_frame
          refine tl 8 (.agg (idV y.1).toArray) rfl hF0 (fun w' hw' => ldD HYO.out (HRU.out w' hw').1) ?_
          go_frame
          refine tl 9 (.agg (idV x.1.2.1).toArray) rfl hF0 (fun w' hw' => ldD HID.out (HFU.out w' hw').2.1) ?_
          go_frame
          refine tk 10 (.bool false) rfl (fun w' hw' => eqD HYO.out HID.out HDQ.out) ?_
          go_frame
          refine tw 11 (.bool false) ?_
          go_frame
          refine wpAnyN_done (by kernel_rfl) ?_ _
          obtain ⟨A, hA⟩ : ∃ z, some (⟨g, 0, none⟩ : Addr) = z := ⟨_, rfl⟩
          rw [hA] at HOB9 ⊢
          clear hA
          go_upto_region 10 with fail
          have HOA := Lib.hid (fun (u : World) (hu : Below W9.heap.size W9 u) => (But.of_below (X := NoB) hu).own HOB9.out fun _ _ q => q)
          have hrow := blameV_length (x := (x.1.2.1, authorS S x.1.2.1, x.2.2)) HID.out
          have HRW := Lib.hid hrow
          clear hrow
          refine rN 13 (fun u => Below W9.heap.size W9 u) ((qD _ _).trans (qD _ _)) fun hF0 => ?_
          refine tw 0 (.slice A m c) ?_
          go_frame
          refine tl 1 (.agg (idV x.1.2.1).toArray) rfl hF0 (fun w' hw' => ldD HID.out (HFU.out w' hw').2.1) ?_
          go_frame
          refine tw 2 (.pointer (some ⟨s, 0, none⟩)) ?_
          go_frame
          refine tw 3 (.pointer (some ⟨s, 0, none⟩)) ?_
          go_frame
          refine tw 4 (.pointer (some ⟨s, 2, none⟩)) ?_
          go_frame
          refine tl 5 (.map (some q.bc)) rfl hF0 (fun w' hw' => l1 Tryz.underlying85 ((cells_at0 (HFU.out w' hw').2.2.box 2))) ?_
          go_frame
          refine tl 6 (.agg (idV x.1.2.1).toArray) rfl hF0 (fun w' hw' => ldD HID.out (HFU.out w' hw').2.1) ?_
          go_frame
          refine tl 7 (.agg [g0, g1, .string (authorS S x.1.2.1), g3, g4].toArray) rfl hF0 (fun w' hw' => ex_mapGet1 idEnc Tryz.underlying85 (entryZ_run _) (HFU.out w' hw').2.2.mapC HID.out ((entryG_is S q x.1.2.1).trans (by rw [HGF.out]))) ?_
          go_frame
          refine tw 8 (.agg [g0, g1, .string (authorS S x.1.2.1), g3].toArray) ?_
          go_frame
          refine tw 9 (.string (authorS S x.1.2.1)) ?_
          go_frame
          refine tw 10 (.pointer (some ⟨b11, 35, none⟩)) ?_
          go_frame
          refine tl 11 (.string ⟨x.2.2.toArray⟩) rfl hF0 (fun w' hw' => l1 Tryz.underlying9 (HFU.out w' hw').1) ?_
          go_frame
          refine tk 12 (.agg (blameV (x.1.2.1, authorS S x.1.2.1, x.2.2)).toArray) rfl (fun w' hw' => ex_build 43 _ rfl (by simp only [List.map_toArray, List.map_cons, List.map_nil]; exact blame_built (x.1.2.1, authorS S x.1.2.1, x.2.2) HID.out _)) ?_
          go_frame
          refine ta 13 ?_
          refine wpOp_val _ rfl (by kernel_rfl) (ex_buildSlice1 28 _ rfl 43 Tryz.underlying28 (.agg blameZ.toArray) 34 64 infoBlame rfl (by decide) (by decide) (blameV (x.1.2.1, authorS S x.1.2.1, x.2.2)) HRW.out rfl) ?_
          refine ⟨fun h => absurd h (by decide), ?_⟩
          go_frame
          obtain ⟨WD, hWD⟩ : ∃ z, W9.drew.drew = z := ⟨_, rfl⟩
          have HBD : Hid (Below W9.heap.size W9 WD) := Lib.hid (by rw [← hWD]; exact (qD _ _).trans (qD _ _))
          rw [hWD]
          clear hWD hF0
          have HBE : Hid (Below W9.heap.size W9 (WD.alloc (.cells (blameV (x.1.2.1, authorS S x.1.2.1, x.2.2)).toArray 43))) := Lib.hid (HBD.out.alloc HBD.out.size _)
          refine ta 14 ?_
          refine wpOp_wp _ rfl (by kernel_rfl) (wp_append_sl _ _ 28 rfl w.heap.size 43 imB (.agg blameZ.toArray) 34 64 Tryz.underlying28 hmi hmz hms hmb rfl (by decide) (.slice A m c) m (rowsV blameV out) rfl (HOA.out _ HBE.out) (some ⟨WD.heap.size, 0, none⟩) 1 1 (WD.heap.size + 1) (blameV (x.1.2.1, authorS S x.1.2.1, x.2.2)) rfl ⟨by rw [HRW.out], fun _ => ⟨WD.heap.size, 0, rfl, by omega, fun j u hj => by rw [Nat.zero_add]; exact (cells_at0 (heap_alloc_new _ _) j).trans hj⟩⟩ (blameV_one _) (by have := HMI.out; unfold maxLen; omega) (by have := HMI.out; omega) (Nat.le_trans HBW9.out.size HBE.out.size) ?_)
          intro v1 w1 ho1 hg1
          have HO1 := Lib.hid ho1
          have HB1 : Hid (Below w.heap.size w w1) := Lib.hid (HBW9.out.trans ((HBE.out.mono HBW9.out.size).grown hg1 (Nat.le_trans HBW9.out.size HBE.out.size) fun k e => (HOB9.out.lt k e).1))
          have HOP1 : Hid (w1.ownsRow w.heap.size 102 36 (.slice (some ⟨gp, 0, none⟩) ps.length cp) ps.length (rowsV pieceV ps)) := Lib.hid (by
            refine ((But.of_below (X := NoB) HBE.out).own HOP9.out fun _ _ q => q).kept hg1 (.inr fun e => ?_)
            obtain ⟨c1, hc1⟩ := own_tagged HOP9.out (rfl : _ = some gp)
            obtain ⟨c2, hc2⟩ := own_tagged HOB9.out e.symm
            exact ne_tag hc1 hc2 (by decide) rfl)
          obtain ⟨A1, c1', rfl⟩ := own_form ho1
          clear ho1 hg1
          refine ⟨fun h => absurd h (by decide), ?_⟩
          go_frame
          refine tw 15 (.slice A1 (m + 1) c1') ?_
          go_frame
          refine wpAnyN_done (by kernel_rfl) ?_ _
          go_wp2_with fail
          go_roundw
          case rel =>
            rw [HST.out] at HNX HBO2
            have hlen : (out ++ [((x.1.2.1, authorS S x.1.2.1, x.2.2) : BlameD)]).length = m + 1 := by rw [List.length_append, List.length_singleton, hm]
            refine ⟨i + 1, A1, c1', by omega, by rw [HNX.out, hlen], by go_num, HB1, Lib.hid ?_, HOP1, Lib.hid (by rw [HNX.out]; exact HBO2.out)⟩
            rw [HNX.out, hlen, rowsV_snocP]
            exact HO1.out
          case measure => (simp [intOf]) <;> omega
    · have e : blSt S ps i = blameR (authorS S) ps := by unfold blSt blameR; rw [List.take_of_length_le (by omega)]
      rw [e] at HOB ⊢
      have hie : i = ps.length := by omega
      clear e
      go_wp2_with fail
      go_ret2
      exact ⟨HBR.out, _, rfl, HOB.out⟩
end Go.Proofs.YtdgbjhfkmembdaaGreatDoor
