/-
  A document's pieces. Conditions: the document lies in memory, small; each rune's encoding is known.
-/
import Derived.Test.YtdgbjhfkmembdaaGreatDoorPieceMem
import Derived.Test.YtdgbjhfkmembdaaGreatDoorUtfText
namespace Go.Proofs.YtdgbjhfkmembdaaGreatDoor
open Go.RowKit Go.Maps
set_option linter.unusedVariables false
set_option linter.unusedSimpArgs false

theorem textP_mem {l : List PieceD} {x : PieceD} (h : x ∈ l) : x.2.2.length ≤ (textP l).length := by
  unfold textP
  induction l with
  | nil => cases h
  | cons y l ih =>
    rw [List.flatMap_cons, List.length_append]
    rcases List.mem_cons.1 h with rfl | h
    · omega
    · have := ih h; omega
/-- How much the pieces come to. -/
def PcOk (st : List PieceD × Bool) (i : Nat) : Prop := (∀ x ∈ st.1, PieceOk x) ∧ st.1.length ≤ i ∧ (textP st.1).length ≤ i * 262144
set_option maxRecDepth 100000 in
theorem PcOk.step {st : List PieceD × Bool} {i : Nat} {r : RunD} (h : PcOk st i) (hk : KeyOk r.1) (h1 : 0 ≤ r.1.2.2) (h2 : r.1.2.2 + (r.2.1.length : Int) ≤ 2147483648) (hl : r.2.1.length ≤ 65536) : PcOk (stepP st r) (i + 1) := by
  obtain ⟨g1, g2, g3⟩ := h
  have hb := bytesU_len r.2.1
  have ht : (textP (stepP st r).1).length ≤ (i + 1) * 262144 := by
    rw [textP_step, List.length_append, Nat.succ_mul]
    have h0 : (if r.2.2 then [] else bytesU r.2.1).length ≤ (bytesU r.2.1).length := by
      split
      · exact Nat.zero_le _
      · exact Nat.le_refl _
    have h3 : (bytesU r.2.1).length ≤ 262144 := by omega
    exact Nat.add_le_add g3 (Nat.le_trans h0 h3)
  refine ⟨?_, ?_, ht⟩
  · unfold stepP
    split
    · exact g1
    · split
      · rename_i hf
        simp only [Bool.and_eq_true] at hf
        have hf2 := hf.2
        unfold followsB at hf2
        unfold moreP
        cases hl2 : st.1.getLast? with
        | none => rw [hl2] at hf2; cases hf2
        | some p =>
          rw [hl2] at hf2
          have e := of_decide_eq_true hf2
          have hs := last_split hl2
          have hp := g1 p (by rw [hs]; simp)
          intro x hx
          rcases List.mem_append.1 hx with hx | hx
          · exact g1 x (by rw [hs]; exact List.mem_append_left _ hx)
          · rw [List.mem_singleton] at hx
            subst hx
            have e2 : p.1.2.2 + (p.2.1 : Int) = r.1.2.2 := congrArg (fun k : KeyD => k.2.2) e
            refine ⟨hp.1, hp.2.1, ?_⟩
            show p.1.2.2 + ((p.2.1 + r.2.1.length : Nat) : Int) ≤ 2147483648
            omega
      · intro x hx
        rcases List.mem_append.1 hx with hx | hx
        · exact g1 x hx
        · rw [List.mem_singleton] at hx
          subst hx
          exact ⟨hk, h1, h2⟩
  · unfold stepP
    split
    · show st.1.length ≤ i + 1; omega
    · split
      · unfold moreP
        cases hl2 : st.1.getLast? with
        | none => show st.1.length ≤ i + 1; omega
        | some p =>
          have hs := congrArg List.length (last_split hl2)
          rw [List.length_append, List.length_singleton] at hs
          simp only [List.length_append, List.length_singleton]
          omega
      · simp only [List.length_append, List.length_singleton]
        omega
def pcSt (rs : List RunM) (i : Nat) : List PieceD × Bool := ((rs.take i).map runOf).foldl stepP ([], true)
theorem pcSt_next {rs : List RunM} {i : Nat} (hi : i < rs.length) : pcSt rs (i + 1) = stepP (pcSt rs i) (runOf rs[i]) := by
  unfold pcSt
  rw [List.take_succ_eq_append_getElem hi, List.map_append, List.foldl_append]
  rfl
def pieceZ : List Value := keyV (0, zero32, 0) ++ ([Value.int .i64 0] ++ [Value.string noneS])
theorem infoPiece : (Tryz.prog.info? 102).map (fun i => (i.zero, i.size, i.bytes)) = some (some (.agg pieceZ.toArray), 36, 72) := by kernel_rfl
theorem piece_built (k : KeyD) (hk : KeyOk k) (n : Nat) (s : List UInt8) (w : World) : (Instr.build 102 #[(0, .agg (keyV k).toArray), (1, .int .i64 (n : Int)), (2, .string ⟨s.toArray⟩)]).run Tryz.prog w = .ok (.agg (pieceV (k, n, s)).toArray) w := by
  obtain ⟨j, hi, hz, _, _⟩ := info_parts infoPiece
  have h := built_struct (P := Tryz.prog) hi Tryz.underlying102 hz [keyV (0, zero32, 0), [.int .i64 0], [.string noneS]] rfl (places := [(0, 34), (34, 1), (35, 1)]) (by kernel_rfl) (by kernel_rfl) [(0, .agg (keyV k).toArray), (1, .int .i64 (n : Int)), (2, .string ⟨s.toArray⟩)] (by
    intro q hq
    simp only [List.mem_cons, List.not_mem_nil, or_false] at hq
    rcases hq with rfl | rfl | rfl
    · exact ⟨by show 0 < 3; omega, by show (keyV k).toArray.size = 34; rw [List.size_toArray, keyV_length hk]⟩
    · exact ⟨by show 1 < 3; omega, rfl⟩
    · exact ⟨by show 2 < 3; omega, rfl⟩)
  have h2 := run_build (P := Tryz.prog) w 102 #[(0, .agg (keyV k).toArray), (1, .int .i64 (n : Int)), (2, .string ⟨s.toArray⟩)] _ h
  refine h2.trans ?_
  simp [pieceV, Value.cells]
theorem ex_addS {P : Program} {ρ : Operand → Value} {o : Oper} {w : World} (t t' : TypeId) (x y : Operand) (ho : o.op = .binOp .add t x y t') {a b : ByteArray} (hx : ρ x = .string a) (hy : ρ y = .string b) (hz : a.size + b.size ≤ 9223372036854775807) : (execOp ρ o).run P w = .ok (.value (.string (a ++ b))) w := by
  unfold execOp
  simp [ho, hx, hy, binOp, Result.andThen, eqGuard, Op.stringOp, IntKind.max, IntKind.signed, IntKind.bits]
  rw [if_neg (by omega)]
theorem ex_addI {P : Program} {ρ : Operand → Value} {o : Oper} {w : World} (x y : Operand) (t' : TypeId) (ho : o.op = .binOp .add 3 x y t') {m n r : Int} (hx : ρ x = .int .i64 m) (hy : ρ y = .int .i64 n) (hr : IntKind.i64.wrap (m + n) = r) : (execOp ρ o).run P w = .ok (.value (.int .i64 r)) w := by
  subst hr
  unfold execOp
  simp only [ho, hx, hy]
  rfl
theorem str_app (a b : List UInt8) : (⟨a.toArray⟩ : ByteArray) ++ (⟨b.toArray⟩ : ByteArray) = ⟨(a ++ b).toArray⟩ := by
  apply ByteArray.ext
  rw [ByteArray.data_append]
  simp
set_option maxHeartbeats 4000000 in
set_option maxRecDepth 100000 in
theorem pieces_run (rs : List RunM) (B p : Nat) (v : Value) (w : World) (h : DocRows w B p v rs) (hix : RunIx (rs.map runOf)) (hE : ∀ r ∈ rs, ∀ u ∈ r.2.2.1, EncIs u) (hl : rs.length ≤ 65536) (hs : ∀ r ∈ rs, r.2.2.1.length ≤ 65536) :
    Calls Tryz.prog 41 #[.pointer (some ⟨p, 0, none⟩)] w fun e w' => ∃ v', e = .returned v' ∧ w'.ownsRow w.heap.size 102 36 v' (piecesR (rs.map runOf)).length (rowsV pieceV (piecesR (rs.map runOf))) ∧ (∀ x ∈ piecesR (rs.map runOf), PieceOk x) ∧ Below w.heap.size w w' := by
  have hmf : ∀ (fn : Fn) (first cap : Array Value) (w : World), (Instr.makeFunc fn first cap).run Tryz.prog w = .ok (.func fn first cap) w := fun _ _ _ _ => rfl
  have HD := Lib.hid h; have HE := Lib.hid hE; have HIX := Lib.hid hix; have HS := Lib.hid hs
  have hlt := h.lt
  obtain ⟨A, c, rfl⟩ := own_form h.own
  have c0 : w.cell? ⟨p, 0, none⟩ = some (.slice A rs.length c) := by
    obtain ⟨s, t, hb⟩ := h.box
    exact cells_at0 hb 0
  clear h hE hix hs
  go_enter Tryz.func41, Tryz.ntmps41
  go_upto_region 6 with fail
  obtain ⟨zb, hzb⟩ : ∃ x, w.heap.size = x := ⟨_, rfl⟩
  have HZB := Lib.hid hzb
  have hal : Below w.heap.size w (w.alloc (.cells #[.slice none 0 0] 99)) := (qB _ _).alloc (qR _) _
  have hpc : PcAt (w.alloc (.cells #[.slice none 0 0] 99)) zb zb [] := ⟨.slice none 0 0, by rw [← hzb]; exact heap_alloc_new _ _, World.ownsRow_nil _ _ _ _⟩
  have c1 := (hal.cell (p := ⟨p, 0, none⟩) hlt).trans c0
  have HAL := Lib.hid hal; have HPC := Lib.hid hpc
  clear hal hpc c0
  rw [hzb]
  generalize w.alloc (.cells #[.slice none 0 0] 99) = W1 at *
  go_upto_region 7 with fail
  go_loopw [5, 19] (fun t5 t19 wr => ∃ i : Nat, i ≤ rs.length ∧ t5 = .bool (pcSt rs i).2 ∧ t19 = .int .i64 (i : Int) ∧ Hid (Below w.heap.size w wr) ∧ Hid (PcAt wr zb zb (pcSt rs i).1) ∧ Hid (PcOk (pcSt rs i) i)) (fun _ t19 _ => rs.length - (intOf t19).toNat)
  case atStart => exact ⟨0, Nat.zero_le _, rfl, rfl, HAL, HPC, Lib.hid ⟨fun x hx => (by cases hx), Nat.le_refl _, (by show (textP []).length ≤ _; simp [textP])⟩⟩
  case round =>
    obtain ⟨i, hi, rfl, rfl, HBR, HPR, HOK⟩ := hrel
    by_cases hlt2 : i < rs.length
    · have hiw : (i : Int) < (rs.length : Int) := by omega
      have i0 : (0 : Int) ≤ (i : Int) := by omega
      obtain ⟨g, c', hgv, hrow, hgl, hgB⟩ := HD.out.row hlt2
      injection hgv with hA _ hc'
      subst hA hc'
      have HNX := Lib.hid (pcSt_next hlt2)
      have HR := Lib.hid (HD.out.ins _ (List.getElem_mem hlt2))
      have HRX := Lib.hid (HIX.out (runOf rs[i]) (List.mem_map_of_mem (List.getElem_mem hlt2)))
      have HRS : Hid (rs[i].2.2.1.length ≤ 65536) := Lib.hid (HS.out _ (List.getElem_mem hlt2))
      have HEX := Lib.hid (HE.out _ (List.getElem_mem hlt2))
      have HROW := Lib.hid (show wr.rangeAt g (i * 36) (runV rs[i]) from fun j u hj => (HBR.out.cell (p := ⟨g, i * 36 + j, none⟩) hgl).trans (hrow j u hj))
      clear hrow hgB
      generalize rs[i] = r at *
      have HOK2 : Hid (PcOk (stepP (pcSt rs i) (runOf r)) (i + 1)) := Lib.hid (HOK.out.step HR.out.1 HRX.out.1 HRX.out.2 HRS.out)
      generalize pcSt rs i = st at *
      have hrl := runV_length HR.out
      have HRL := Lib.hid hrl
      have HR1 := Lib.hid (runV_one r HR.out.2.1.one)
      have HRW := Lib.hid (HR.out.keep (KeepR.below (HBR.out.mono (Nat.le_refl _))))
      obtain ⟨gr, off, cap, cur, fr, hrv, hrc, hrm, _, _⟩ := HR.out.2.1
      obtain ⟨_, _, _, p3, p4, p5⟩ := run_cells HR.out.1
      have P3 := Lib.hid (p3.trans (congrArg some hrv)); have P4 := Lib.hid p4; have P5 := Lib.hid p5
      have HRV := Lib.hid hrv
      clear p3 p4 p5 hrv hrl
      go_upto_region 9 with (first
        | (with_reducible refine at_load ?_
           refine wp_loadN rfl 177 _ rfl g _ rfl (runV r) _ HROW.out Tryz.underlying177 rfl (by rw [HRL.out]; exact sizeRun) ?_)
        | (with_reducible refine at_alloc ?_
           refine wp_allocM (by rfl) 177 rfl runZ (runZ_run _) ?_
           intro W6 hb6 hy6 hs6
           have HB6 := Lib.hid hb6; have HY6 := Lib.hid hy6; have HS6 := Lib.hid hs6
           clear hb6 hy6 hs6)
        | (with_reducible refine at_store ?_
           refine wp_storeM (by rfl) 177 _ _ rfl wr.heap.size 0 [] runZ [] (runV r) 177 _ rfl rfl rfl rfl (by simpa using HY6.out) (by rw [HRL.out]; rfl) (by rw [HRL.out]; exact sizeRun) HR1.out ?_
           intro W7 hb7 hy7 hs7
           have HB7 := Lib.hid hb7
           have HY7 : Hid (W7.heap[wr.heap.size]? = some (.cells (runV r).toArray 177 (0, 0))) := Lib.hid (by simpa using hy7)
           clear hb7 hy7 hs7))
      have HBR7 : Hid (Below wr.heap.size wr W7) := Lib.hid (HB6.out.trans (HB7.out.below (by have := HS6.out; omega) (fun k hk e => by omega)))
      obtain ⟨b7, hb7⟩ : ∃ x, wr.heap.size = x := ⟨_, rfl⟩
      rw [hb7] at HY7 ⊢
      have HB7L := Lib.hid hb7
      have HBW7 : Hid (Below w.heap.size w W7) := Lib.hid (HBR.out.trans (HBR7.out.mono HBR.out.size))
      have HPC7 := Lib.hid (HPR.out.keep HBR7.out)
      have HR7 := Lib.hid (HRW.out.keep (KeepR.below HBR7.out))
      have c35 : W7.cell? ⟨b7, 35, none⟩ = some (.bool r.2.2.2) := (cells_at0 HY7.out 35).trans P4.out
      clear HB6 HY6 HS6 HB7 HROW HRW hb7
      cases hdd : r.2.2.2
      · rw [hdd] at c35
        have HDD := Lib.hid hdd
        have c34 : W7.cell? ⟨b7, 34, none⟩ = some (.slice (some ⟨gr, off, none⟩) r.2.2.1.length cap) := (cells_at0 HY7.out 34).trans P3.out
        have HRN : Hid (RuneAt W7 (.slice (some ⟨gr, off, none⟩) r.2.2.1.length cap) r.2.2.1) := Lib.hid (by rw [← HRV.out]; exact HR7.out.2.1)
        clear hdd
        go_upto_region 12 with (first
          | (go_at_call 81; refine (utext_any _ gr off cap W7 HRN.out HEX.out (by have := HRS.out; omega)).mono ?_
             rintro e W8 ⟨hb8, rfl⟩
             have HB8 := Lib.hid hb8
             clear hb8))
        clear c34 c35
        have HBW8 : Hid (Below w.heap.size w W8) := Lib.hid (HBW7.out.trans (HB8.out.mono HBW7.out.size))
        have HPC8 := Lib.hid (HPC7.out.keep HB8.out)
        have HY8 := Lib.hid ((HB8.out.block b7 (qX HY7.out)).trans HY7.out)
        have HRK8 := Lib.hid (show W8.rangeAt b7 0 (keyV r.1) from fun j u hj => (cells_at0 HY8.out (0 + j)).trans (P5.out j u hj))
        clear HPC7 HY7 HB8 HR7 HRN
        cases hbr : st.2
        · have HBK := Lib.hid hbr
          clear hbr
          cases hfo : followsB st.1 r.1
          · have HST : Hid (stepP st (runOf r) = (st.1 ++ [(r.1, r.2.2.1.length, bytesU r.2.2.1)], false)) := Lib.hid (by
              unfold stepP
              rw [if_neg (by show ¬ r.2.2.2 = true; rw [HDD.out]; exact Bool.false_ne_true), if_neg (by show ¬ (!st.2 && followsB st.1 r.1) = true; rw [HBK.out, hfo]; exact Bool.false_ne_true)]
              rfl)
            have HFO := Lib.hid hfo
            clear hfo
            go_upto_region 15 with (first
              | (refine wp_val (by rfl) (ldK HR.out.1 HRK8.out) ?_)
              | (go_at_call 88; refine (follows_any st.1 r.1 zb zb W8 HPC8.out HR.out.1 HOK.out.1 (by have := HOK.out.2.1; omega)).mono ?_
                 rintro e W9 ⟨hb9, rfl⟩
                 rw [HFO.out]
                 have HB9 := Lib.hid hb9
                 clear hb9))
            have HBW9 : Hid (Below w.heap.size w W9) := Lib.hid (HBW8.out.trans (HB9.out.mono HBW8.out.size))
            have HPC9 := Lib.hid (HPC8.out.keep HB9.out)
            have HY9 := Lib.hid ((HB9.out.block b7 (qX HY8.out)).trans HY8.out)
            have HRK9 := Lib.hid (show W9.rangeAt b7 0 (keyV r.1) from fun j u hj => (cells_at0 HY9.out (0 + j)).trans (P5.out j u hj))
            clear HFO
            obtain ⟨v9, hbx9, ho9⟩ := HPC9.out
            have HBX9 := Lib.hid hbx9; have HO9 := Lib.hid ho9
            have c90 : W9.cell? ⟨zb, 0, none⟩ = some v9 := cells_at0 hbx9 0
            have c34 : W9.cell? ⟨b7, 34, none⟩ = some (.slice (some ⟨gr, off, none⟩) r.2.2.1.length cap) := (cells_at0 HY9.out 34).trans P3.out
            have HPO : Hid (PieceOk (r.1, r.2.2.1.length, bytesU r.2.2.1)) := Lib.hid ⟨HR.out.1, HRX.out.1, HRX.out.2⟩
            have hpl := pieceV_length HPO.out
            have hst := HOK.out.2.1
            have HZW := Lib.hid (show zb ≤ W9.heap.size by have := HBW9.out.size; have := HZB.out; omega)
            have HOA := Lib.hid (fun (u : World) (hu : Below W9.heap.size W9 u) => (But.of_below (X := NoB) hu).own HO9.out fun _ _ q => q)
            have HNE := Lib.hid (show v9.ownBlock ≠ some zb from fun e => by
              obtain ⟨cc, hcc⟩ := own_tagged HO9.out e
              exact ne_tag hcc HBX9.out (by decide) rfl)
            obtain ⟨A9, c9, hv9⟩ := own_form ho9
            clear hbx9 ho9
            subst hv9
            go_wp2_with (first
              | (refine wp_val (by rfl) (ldK HR.out.1 HRK9.out) ?_)
              | (with_reducible refine at_build ?_
                 refine wp_val (by rfl) (ex_build 102 _ rfl (by simp only [List.map_toArray, List.map_cons, List.map_nil]; exact piece_built r.1 HR.out.1 _ _ _)) ?_)
              | (refine wp_buildSlice1 (by rfl) 99 _ rfl 102 Tryz.underlying99 (.agg pieceZ.toArray) 36 72 infoPiece rfl (by decide) (by decide) (pieceV (r.1, r.2.2.1.length, bytesU r.2.2.1)) hpl rfl ?_)
              | (at_builtin; go_loud (refine wp_appS_w (by rfl) _ _ 99 rfl zb 102 (.agg pieceZ.toArray) 36 72 Tryz.underlying99 infoPiece rfl (by decide) (.slice A9 st.1.length c9) st.1.length (rowsV pieceV st.1) rfl (HOA.out _ ((qB _ _).alloc (qR _) _)) ⟨W9.heap.size, 0, none⟩ 1 1 (pieceV (r.1, r.2.2.1.length, bytesU r.2.2.1)) rfl (by rw [hpl]) (news_cells W9 _ _) (pieceV_one _) (by unfold maxLen; omega) (by omega) (by have := HZW.out; simp; omega) ?_)
                 intro v1 w1 ho1 hg1 hw1
                 have HP1 := Lib.hid ((hg1.block zb (by simpa using Nat.lt_succ_of_lt (qX HBX9.out)) (fun e => HNE.out e.symm)).trans ((heap_alloc_old W9 _ (qX HBX9.out)).trans HBX9.out))
                 have HB1 := Lib.hid (((qB zb W9).alloc HZW.out _).grown hg1 (by have := HZW.out; simp; omega) fun k e => (HO9.out.lt k e).1)
                 have HO1 := Lib.hid ho1
                 obtain ⟨A1, c1', rfl⟩ := own_form ho1
                 clear ho1 hg1 hw1)
              | (with_reducible refine at_store ?_
                 refine wp_storeM (by rfl) 99 _ _ rfl zb 0 [] [.slice A9 st.1.length c9] [] [.slice A1 (st.1.length + 1) c1'] 99 (.slice A1 (st.1.length + 1) c1') rfl rfl rfl rfl HP1.out rfl (by kernel_rfl) (by intro u hu; rw [List.mem_singleton.1 hu]; rfl) ?_
                 intro w2 hb2 hy2 hs2
                 have HB2 := Lib.hid hb2; have HY2 := Lib.hid hy2
                 clear hb2 hy2))
            go_roundw
            case rel =>
              have hB2 : Below zb w1 w2 := HB2.out.below (qT HZW.out HB1.out.size) (fun k hk e => by omega)
              have hpc : PcAt w2 zb zb (st.1 ++ [(r.1, r.2.2.1.length, bytesU r.2.2.1)]) := by
                refine ⟨.slice A1 (st.1.length + 1) c1', by simpa using HY2.out, ?_⟩
                rw [rowsV_snocP, List.length_append, List.length_singleton]
                refine HB2.out.own HO1.out fun k hk e => ?_
                obtain ⟨cc, hcc⟩ := own_tagged HO1.out hk
                exact ne_tag hcc HP1.out (by decide) e
              rw [HST.out] at HNX HOK2
              refine ⟨i + 1, by omega, by rw [HNX.out], by go_num, Lib.hid ?_, Lib.hid (by rw [HNX.out]; exact hpc), Lib.hid (by rw [HNX.out]; exact HOK2.out)⟩
              rw [HZB.out]
              have h9 := HBW9.out
              rw [HZB.out] at h9
              exact h9.trans (HB1.out.trans hB2)
            case measure => (simp [intOf]) <;> omega
          · have HST : Hid (stepP st (runOf r) = (moreP st.1 r.2.2.1.length (bytesU r.2.2.1), false)) := Lib.hid (by
              unfold stepP
              rw [if_neg (by show ¬ r.2.2.2 = true; rw [HDD.out]; exact Bool.false_ne_true), if_pos (by show (!st.2 && followsB st.1 r.1) = true; rw [HBK.out, hfo]; rfl)]
              rfl)
            have HFO := Lib.hid hfo
            clear hfo
            go_upto_region 13 with (first
              | (refine wp_val (by rfl) (ldK HR.out.1 HRK8.out) ?_)
              | (go_at_call 88; refine (follows_any st.1 r.1 zb zb W8 HPC8.out HR.out.1 HOK.out.1 (by have := HOK.out.2.1; omega)).mono ?_
                 rintro e W9 ⟨hb9, rfl⟩
                 rw [HFO.out]
                 have HB9 := Lib.hid hb9
                 clear hb9))
            have HBW9 : Hid (Below w.heap.size w W9) := Lib.hid (HBW8.out.trans (HB9.out.mono HBW8.out.size))
            have HPC9 := Lib.hid (HPC8.out.keep HB9.out)
            have HY9 := Lib.hid ((HB9.out.block b7 (qX HY8.out)).trans HY8.out)
            have HRK9 := Lib.hid (show W9.rangeAt b7 0 (keyV r.1) from fun j u hj => (cells_at0 HY9.out (0 + j)).trans (P5.out j u hj))
            clear HRK8
            obtain ⟨l2, q, hlq⟩ : ∃ l2 q, st.1 = l2 ++ [q] := by
              rcases List.eq_nil_or_concat st.1 with h0 | ⟨l2, q, h0⟩
              · have := HFO.out
                rw [h0] at this
                cases this
              · exact ⟨l2, q, by rw [h0, List.concat_eq_append]⟩
            have HLQ := Lib.hid hlq
            have HMO : Hid (moreP st.1 r.2.2.1.length (bytesU r.2.2.1) = l2 ++ [(q.1, q.2.1 + r.2.2.1.length, q.2.2 ++ bytesU r.2.2.1)]) := Lib.hid (by
              unfold moreP
              rw [hlq, List.getLast?_concat, List.dropLast_concat])
            obtain ⟨v9, hbx9, ho9⟩ := HPC9.out
            have hok9 := HOK.out.1
            rw [hlq] at ho9 hok9
            obtain ⟨g9, c9, tail9, rfl, hB9, hg9, hc9, hm9, ht9, hrl9, hql9⟩ := piece_last ho9 hok9
            have HBX9 := Lib.hid hbx9; have HG9 := Lib.hid hg9; have HOK9 := Lib.hid hok9
            have HT9 := Lib.hid ht9
            have hq2 := (hok9 q (by simp)).2.2
            have hq1 := (hok9 q (by simp)).2.1
            have hqs : q.2.2.length ≤ i * 262144 := Nat.le_trans (textP_mem (by rw [hlq]; simp)) HOK.out.2.2
            have hbl := bytesU_len r.2.2.1
            have hrs := HRS.out
            have c90 : W9.cell? ⟨zb, 0, none⟩ = some (.slice (some ⟨g9, 0, none⟩) (l2.length + 1) c9) := cells_at0 hbx9 0
            have hll : l2.length ≤ 65536 := by have := HOK.out.2.1; rw [hlq, List.length_append, List.length_singleton] at this; omega
            have ewl : wrap64 ((l2.length : Int) + 1 - 1) = (l2.length : Int) := by unfold wrap64; omega
            clear ho9 hok9 hg9 ht9 hbx9 hlq
            have m0 : (0 : Int) ≤ (l2.length : Int) := by omega
            have m1 : (l2.length : Int) < (l2.length : Int) + 1 := by omega
            go_upto_region 14 with fail
            clear c90 ewl
            have HC34 := Lib.hid (show ∀ u : World, Below W9.heap.size W9 u → u.cell? ⟨b7, 34, none⟩ = some (.slice (some ⟨gr, off, none⟩) r.2.2.1.length cap) from fun u hu => (cells_at0 ((hu.block b7 (qX HY9.out)).trans HY9.out) 34).trans P3.out)
            have HCN := Lib.hid (show ∀ u : World, Below W9.heap.size W9 u → u.cell? ⟨g9, l2.length * 36 + 34, none⟩ = some (.int .i64 (q.2.1 : Int)) ∧ u.cell? ⟨g9, l2.length * 36 + 35, none⟩ = some (.string ⟨q.2.2.toArray⟩) from fun u hu => by
              have h2 := (hu.block g9 (qX HG9.out)).trans HG9.out
              refine ⟨(cells_at0 h2 _).trans ?_, (cells_at0 h2 _).trans ?_⟩
              · rw [List.getElem?_append_right (by omega), List.getElem?_append_right (by omega)]
                rw [show l2.length * 36 + 34 - (rowsV pieceV l2).length - (keyV q.1).length = 0 by omega]
                rfl
              · rw [List.getElem?_append_right (by omega), List.getElem?_append_right (by omega)]
                rw [show l2.length * 36 + 35 - (rowsV pieceV l2).length - (keyV q.1).length = 1 by omega]
                rfl)
            have HG9b : Hid (W9.heap[g9]? = some (.cells ((rowsV pieceV l2 ++ keyV q.1) ++ ([Value.int .i64 (q.2.1 : Int)] ++ ([Value.string ⟨q.2.2.toArray⟩] ++ tail9))).toArray 102 (0, 0))) := Lib.hid (by rw [List.append_assoc]; exact HG9.out)
            have hpre : (rowsV pieceV l2 ++ keyV q.1).length = l2.length * 36 + 34 := by rw [List.length_append, hrl9, hql9]
            have hadd : IntKind.i64.wrap ((q.2.1 : Int) + (r.2.2.1.length : Int)) = ((q.2.1 + r.2.2.1.length : Nat) : Int) := by rw [IntWalk.i64_in _ (by omega)]; omega
            refine rN 18 (fun u => Below W9.heap.size W9 u) (qD _ _) fun hF0 => ?_
            refine tw 0 (.pointer (some ⟨g9, l2.length * 36, none⟩)) ?_
            go_frame
            refine tw 1 (.pointer (some ⟨g9, l2.length * 36, none⟩)) ?_
            go_frame
            refine tw 2 (.pointer (some ⟨g9, l2.length * 36, none⟩)) ?_
            go_frame
            refine tw 3 (.pointer (some ⟨g9, l2.length * 36, none⟩)) ?_
            go_frame
            refine tw 4 (.pointer (some ⟨g9, l2.length * 36 + 34, none⟩)) ?_
            go_frame
            refine tl 5 (.int .i64 (q.2.1 : Int)) rfl hF0 (fun w' hw' => l1 Tryz.underlying3 (HCN.out w' hw').1) ?_
            go_frame
            refine tw 6 (.pointer (some ⟨b7, 34, none⟩)) ?_
            go_frame
            refine tl 7 (.slice (some ⟨gr, off, none⟩) r.2.2.1.length cap) rfl hF0 (fun w' hw' => l1 Tryz.underlying175 (HC34.out w' hw')) ?_
            go_frame
            refine tk 8 (.int .i64 (r.2.2.1.length : Int)) rfl (fun w' hw' => ex_len 175 _ rfl rfl Tryz.underlying175) ?_
            go_frame
            refine tk 9 (.int .i64 ((q.2.1 + r.2.2.1.length : Nat) : Int)) rfl (fun w' hw' => ex_addI _ _ _ rfl rfl rfl hadd) ?_
            go_frame
            refine tw 10 (.pointer (some ⟨g9, l2.length * 36, none⟩)) ?_
            go_frame
            refine tw 11 (.pointer (some ⟨g9, l2.length * 36, none⟩)) ?_
            go_frame
            refine tw 12 (.pointer (some ⟨g9, l2.length * 36 + 35, none⟩)) ?_
            go_frame
            refine tl 13 (.string ⟨q.2.2.toArray⟩) rfl hF0 (fun w' hw' => l1 Tryz.underlying9 (HCN.out w' hw').2) ?_
            go_frame
            refine tw 14 (.string ⟨(bytesU r.2.2.1).toArray⟩) ?_
            go_frame
            refine tk 15 (.string ⟨(q.2.2 ++ bytesU r.2.2.1).toArray⟩) rfl (fun w' hw' => (ex_addS 9 _ _ _ rfl rfl rfl (by rw [size_mk, size_mk]; omega)).trans (by rw [str_app])) ?_
            go_frame
            refine tw 16 (.pointer (some ⟨g9, l2.length * 36, none⟩)) ?_
            go_frame
            refine tw 17 (.pointer (some ⟨g9, l2.length * 36 + 34, none⟩)) ?_
            go_frame
            refine ta 18 ?_
            refine wpOp_storeM _ rfl (by kernel_rfl) 3 _ _ rfl g9 (l2.length * 36 + 34) (rowsV pieceV l2 ++ keyV q.1) [.int .i64 (q.2.1 : Int)] ([Value.string ⟨q.2.2.toArray⟩] ++ tail9) [.int .i64 ((q.2.1 + r.2.2.1.length : Nat) : Int)] 102 (.int .i64 ((q.2.1 + r.2.2.1.length : Nat) : Int)) rfl hpre.symm rfl rfl HG9b.out rfl (by kernel_rfl) (by intro u hu; rw [List.mem_singleton.1 hu]; rfl) ?_
            intro WA hbA hyA hsA
            have HBA := Lib.hid hbA
            have HYA : Hid (WA.heap[g9]? = some (.cells ((rowsV pieceV l2 ++ keyV q.1 ++ [Value.int .i64 ((q.2.1 + r.2.2.1.length : Nat) : Int)]) ++ ([Value.string ⟨q.2.2.toArray⟩] ++ tail9)).toArray 102 (0, 0))) := Lib.hid (by rw [hyA]; simp)
            clear hbA hyA hsA
            refine ⟨fun h => absurd h (by decide), ?_⟩
            go_frame
            refine tw 19 (.pointer (some ⟨g9, l2.length * 36, none⟩)) ?_
            go_frame
            refine tw 20 (.pointer (some ⟨g9, l2.length * 36 + 35, none⟩)) ?_
            go_frame
            refine ta 21 ?_
            refine wpOp_storeM _ rfl (by kernel_rfl) 9 _ _ rfl g9 (l2.length * 36 + 35) (rowsV pieceV l2 ++ keyV q.1 ++ [Value.int .i64 ((q.2.1 + r.2.2.1.length : Nat) : Int)]) [.string ⟨q.2.2.toArray⟩] tail9 [.string ⟨(q.2.2 ++ bytesU r.2.2.1).toArray⟩] 102 (.string ⟨(q.2.2 ++ bytesU r.2.2.1).toArray⟩) rfl (by rw [List.length_append, hpre]; rfl) rfl rfl HYA.out rfl (by kernel_rfl) (by intro u hu; rw [List.mem_singleton.1 hu]; rfl) ?_
            intro WC hbC hyC hsC
            have HBC := Lib.hid hbC; have HYC := Lib.hid hyC
            clear hbC hyC hsC
            refine ⟨fun h => absurd h (by decide), ?_⟩
            go_frame
            refine wpAnyN_done (by kernel_rfl) ?_ _
            go_wp2_with fail
            go_roundw
            case rel =>
              have hbt : But (fun k => k = g9) W9 WC := ((But.refl _ W9).drew.trans HBA.out fun k _ e => e).trans HBC.out fun k _ e => e
              have hne : zb ≠ g9 := ne_tag HBX9.out HG9.out (by decide)
              have hpc : PcAt WC zb zb (l2 ++ [(q.1, q.2.1 + r.2.2.1.length, q.2.2 ++ bytesU r.2.2.1)]) := by
                refine ⟨.slice (some ⟨g9, 0, none⟩) (l2.length + 1) c9, (hbt.block zb (qX HBX9.out) hne).trans HBX9.out, ?_⟩
                rw [List.length_append, List.length_singleton]
                refine own_shut (tail := tail9) ?_ hB9 ?_ hc9 hm9 HT9.out
                · rw [rowsV_snocP, List.length_append, hrl9]
                  simp [pieceV, hql9]
                  omega
                · rw [HYC.out, rowsV_snocP]
                  simp [pieceV]
              rw [HST.out] at HNX HOK2
              rw [HMO.out] at HNX HOK2
              refine ⟨i + 1, by omega, by rw [HNX.out], by go_num, Lib.hid ?_, Lib.hid (by rw [HNX.out]; exact hpc), Lib.hid (by rw [HNX.out]; exact HOK2.out)⟩
              have h9 := HBW9.out
              rw [HZB.out] at h9 ⊢
              exact h9.trans (hbt.below (by have := h9.size; have := HZB.out; omega) fun k hk e => by
                subst e
                omega)
            case measure => (simp [intOf]) <;> omega
        · have HBK := Lib.hid hbr
          have HST : Hid (stepP st (runOf r) = (st.1 ++ [(r.1, r.2.2.1.length, bytesU r.2.2.1)], false)) := Lib.hid (by
            unfold stepP
            rw [if_neg (by show ¬ r.2.2.2 = true; rw [HDD.out]; exact Bool.false_ne_true), if_neg (by show ¬ (!st.2 && followsB st.1 r.1) = true; rw [HBK.out]; exact Bool.false_ne_true)]
            rfl)
          clear hbr
          go_upto_region 15 with fail
          obtain ⟨W9, hW9⟩ : ∃ x, W8 = x := ⟨_, rfl⟩
          have HBW9 : Hid (Below w.heap.size w W9) := Lib.hid (by rw [← hW9]; exact HBW8.out)
          have HPC9 : Hid (PcAt W9 zb zb st.1) := Lib.hid (by rw [← hW9]; exact HPC8.out)
          have HY9 : Hid (W9.heap[b7]? = some (.cells (runV r).toArray 177 (0, 0))) := Lib.hid (by rw [← hW9]; exact HY8.out)
          have HRK9 : Hid (W9.rangeAt b7 0 (keyV r.1)) := Lib.hid (by rw [← hW9]; exact HRK8.out)
          rw [hW9]
          clear hW9 HRK8 HPC8 HBW8 HY8
          obtain ⟨v9, hbx9, ho9⟩ := HPC9.out
          have HBX9 := Lib.hid hbx9; have HO9 := Lib.hid ho9
          have c90 : W9.cell? ⟨zb, 0, none⟩ = some v9 := cells_at0 hbx9 0
          have c34 : W9.cell? ⟨b7, 34, none⟩ = some (.slice (some ⟨gr, off, none⟩) r.2.2.1.length cap) := (cells_at0 HY9.out 34).trans P3.out
          have HPO : Hid (PieceOk (r.1, r.2.2.1.length, bytesU r.2.2.1)) := Lib.hid ⟨HR.out.1, HRX.out.1, HRX.out.2⟩
          have hpl := pieceV_length HPO.out
          have hst := HOK.out.2.1
          have HZW := Lib.hid (show zb ≤ W9.heap.size by have := HBW9.out.size; have := HZB.out; omega)
          have HOA := Lib.hid (fun (u : World) (hu : Below W9.heap.size W9 u) => (But.of_below (X := NoB) hu).own HO9.out fun _ _ q => q)
          have HNE := Lib.hid (show v9.ownBlock ≠ some zb from fun e => by
            obtain ⟨cc, hcc⟩ := own_tagged HO9.out e
            exact ne_tag hcc HBX9.out (by decide) rfl)
          obtain ⟨A9, c9, hv9⟩ := own_form ho9
          clear hbx9 ho9
          subst hv9
          go_wp2_with (first
            | (refine wp_val (by rfl) (ldK HR.out.1 HRK9.out) ?_)
            | (with_reducible refine at_build ?_
               refine wp_val (by rfl) (ex_build 102 _ rfl (by simp only [List.map_toArray, List.map_cons, List.map_nil]; exact piece_built r.1 HR.out.1 _ _ _)) ?_)
            | (refine wp_buildSlice1 (by rfl) 99 _ rfl 102 Tryz.underlying99 (.agg pieceZ.toArray) 36 72 infoPiece rfl (by decide) (by decide) (pieceV (r.1, r.2.2.1.length, bytesU r.2.2.1)) hpl rfl ?_)
            | (at_builtin; go_loud (refine wp_appS_w (by rfl) _ _ 99 rfl zb 102 (.agg pieceZ.toArray) 36 72 Tryz.underlying99 infoPiece rfl (by decide) (.slice A9 st.1.length c9) st.1.length (rowsV pieceV st.1) rfl (HOA.out _ ((qB _ _).alloc (qR _) _)) ⟨W9.heap.size, 0, none⟩ 1 1 (pieceV (r.1, r.2.2.1.length, bytesU r.2.2.1)) rfl (by rw [hpl]) (news_cells W9 _ _) (pieceV_one _) (by unfold maxLen; omega) (by omega) (by have := HZW.out; simp; omega) ?_)
               intro v1 w1 ho1 hg1 hw1
               have HP1 := Lib.hid ((hg1.block zb (by simpa using Nat.lt_succ_of_lt (qX HBX9.out)) (fun e => HNE.out e.symm)).trans ((heap_alloc_old W9 _ (qX HBX9.out)).trans HBX9.out))
               have HB1 := Lib.hid (((qB zb W9).alloc HZW.out _).grown hg1 (by have := HZW.out; simp; omega) fun k e => (HO9.out.lt k e).1)
               have HO1 := Lib.hid ho1
               obtain ⟨A1, c1', rfl⟩ := own_form ho1
               clear ho1 hg1 hw1)
            | (with_reducible refine at_store ?_
               refine wp_storeM (by rfl) 99 _ _ rfl zb 0 [] [.slice A9 st.1.length c9] [] [.slice A1 (st.1.length + 1) c1'] 99 (.slice A1 (st.1.length + 1) c1') rfl rfl rfl rfl HP1.out rfl (by kernel_rfl) (by intro u hu; rw [List.mem_singleton.1 hu]; rfl) ?_
               intro w2 hb2 hy2 hs2
               have HB2 := Lib.hid hb2; have HY2 := Lib.hid hy2
               clear hb2 hy2))
          go_roundw
          case rel =>
            have hB2 : Below zb w1 w2 := HB2.out.below (qT HZW.out HB1.out.size) (fun k hk e => by omega)
            have hpc : PcAt w2 zb zb (st.1 ++ [(r.1, r.2.2.1.length, bytesU r.2.2.1)]) := by
              refine ⟨.slice A1 (st.1.length + 1) c1', by simpa using HY2.out, ?_⟩
              rw [rowsV_snocP, List.length_append, List.length_singleton]
              refine HB2.out.own HO1.out fun k hk e => ?_
              obtain ⟨cc, hcc⟩ := own_tagged HO1.out hk
              exact ne_tag hcc HP1.out (by decide) e
            rw [HST.out] at HNX HOK2
            refine ⟨i + 1, by omega, by rw [HNX.out], by go_num, Lib.hid ?_, Lib.hid (by rw [HNX.out]; exact hpc), Lib.hid (by rw [HNX.out]; exact HOK2.out)⟩
            rw [HZB.out]
            have h9 := HBW9.out
            rw [HZB.out] at h9
            exact h9.trans (HB1.out.trans hB2)
          case measure => (simp [intOf]) <;> omega
      · rw [hdd] at c35
        have HST : Hid (stepP st (runOf r) = (st.1, true)) := Lib.hid (by
          unfold stepP
          rw [if_pos (by show r.2.2.2 = true; exact hdd)])
        clear hdd
        go_wp2_with fail
        go_roundw
        case rel =>
          rw [HST.out] at HNX HOK2
          exact ⟨i + 1, by omega, by rw [HNX.out], by go_num, HBW7, Lib.hid (by rw [HNX.out]; exact HPC7.out), Lib.hid (by rw [HNX.out]; exact HOK2.out)⟩
        case measure => (simp [intOf]) <;> omega
    · have e : pcSt rs i = ((rs.map runOf).foldl stepP ([], true)) := by unfold pcSt; rw [List.take_of_length_le (by omega)]
      obtain ⟨v9, hb9, ho9⟩ := HPR.out
      have c9 : wr.cell? ⟨zb, 0, none⟩ = some v9 := cells_at0 hb9 0
      have HO9 := Lib.hid ho9
      have HOK9 := Lib.hid HOK.out.1
      rw [e] at HO9 HOK9
      clear hb9 ho9
      obtain ⟨A9, c9', rfl⟩ := own_form HO9.out
      go_wp2_with fail
      go_ret
      exact ⟨_, rfl, by rw [HZB.out]; exact HO9.out, HOK9.out, HBR.out⟩
end Go.Proofs.YtdgbjhfkmembdaaGreatDoor
