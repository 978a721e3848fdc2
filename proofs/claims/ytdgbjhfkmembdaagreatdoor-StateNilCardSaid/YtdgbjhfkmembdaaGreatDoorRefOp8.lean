/-
  What the document's op gives. Conditions: ids of 32 bytes; at most 2^40 of them; the changes hung on are a set; what was made lies in a row of the call's own.
-/
import Derived.Test.YtdgbjhfkmembdaaGreatDoorShort0
import Derived.Test.YtdgbjhfkmembdaaGreatDoorShort9
import Derived.Test.YtdgbjhfkmembdaaGreatDoorShort8
import Derived.Test.YtdgbjhfkmembdaaGreatDoorRefDoc8
import Derived.Test.YtdgbjhfkmembdaaGreatDoorRefIn8
import Derived.Test.YtdgbjhfkmembdaaGreatDoorObjAbsent
import Derived.Test.YtdgbjhfkmembdaaGreatDoorParts
import Derived.Test.YtdgbjhfkmembdaaGreatDoorRunes
import Derived.Test.YtdgbjhfkmembdaaGreatDoorBuild
import Derived.Test.YtdgbjhfkmembdaaGreatDoorRight08S
import Derived.Test.YtdgbjhfkmembdaaGreatDoorObjRight1
namespace Go.Proofs.YtdgbjhfkmembdaaGreatDoor
open Go.RowKit Go.Maps
set_option linter.unusedVariables false
set_option linter.unusedSimpArgs false

theorem sizeOp70' : (Tryz.prog.info? 112).map (·.size) = some 70 := by kernel_rfl
theorem zeroRef_run8 (w : World) : (zeroValue 110).run Tryz.prog w = .ok (.agg (refV zeroRef).toArray) w := by kernel_rfl
theorem zeroRef_built8 (w : World) : (Instr.build 110 #[]).run Tryz.prog w = .ok (.agg (refV zeroRef).toArray) w := by kernel_rfl
theorem infoMade8 : (Tryz.prog.info? 383).map (fun i => (i.zero, i.size, i.bytes)) = some (some (.agg (madeV (false, zeroRef)).toArray), 34, 48) := by kernel_rfl
theorem madeDoc_built8 (w : World) : (Instr.build 383 #[(0, .bool true)]).run Tryz.prog w = .ok (.agg (madeV (true, zeroRef)).toArray) w := by kernel_rfl
theorem made_built8 {d : RefD} (hd : RefOk d) (w : World) : (Instr.build 383 #[(1, .agg (refV d).toArray)]).run Tryz.prog w = .ok (.agg (madeV (false, d)).toArray) w := by
  obtain ⟨i, hi, hz, _, _⟩ := info_parts infoMade8
  have hk : (refV zeroRef).length = 33 := rfl
  have h := built_struct (P := Tryz.prog) hi Tryz.underlying383 hz [[.bool false], refV zeroRef] rfl (places := [(0, 1), (1, 33)]) (by kernel_rfl) (by kernel_rfl) [(1, .agg (refV d).toArray)] (by
    intro q hq
    simp only [List.mem_cons, List.not_mem_nil, or_false] at hq
    subst hq
    exact ⟨by show 1 < 2; omega, by show (refV d).toArray.size = 33; rw [List.size_toArray, refV_length hd]⟩)
  have h2 := run_build (P := Tryz.prog) w 383 #[(1, .agg (refV d).toArray)] _ h
  refine h2.trans ?_
  simp [madeV, Value.cells]
theorem bytesS_ok {t : ByteArray} (h : fileB t = true) : bytesS t = 0 := by
  unfold fileB at h
  simp only [Bool.and_eq_true, decide_eq_true_eq] at h
  unfold bytesS
  rw [if_neg (by omega), if_pos h.2]
theorem bytesS_no {t : ByteArray} (h : fileB t = false) : ∃ fb, bytesS t = fb ∧ fb ≠ 0 := by
  refine ⟨_, rfl, ?_⟩
  unfold fileB at h
  unfold bytesS
  split
  · decide
  · rename_i hs
    rw [dT (show t.size ≤ 4096 by omega), Bool.true_and] at h
    rw [if_neg (by rw [h]; decide)]
    decide
theorem runes_ok {t : ByteArray} (h : fileB t = true) : runesOf t ≠ none := by
  unfold fileB at h
  simp only [Bool.and_eq_true] at h
  intro hn
  have h2 := h.2
  unfold isText at h2
  rw [hn] at h2
  exact absurd h2 (by simp)
/-- What the document's op gives. -/
def OpGives (base : Nat) (deps : List (List UInt8)) (mk : List MadeD) (x : OpD) (w : World) (e : Ending) (w' : World) : Prop :=
  Below base w w' ∧ (opB deps mk x = false → ∃ v, e = .returned (.tuple #[v, .bool false])) ∧
  (opB deps mk x = true → ∃ A c, e = .returned (.tuple #[.slice A (mk.length + (madeB x).length) c, .bool true]) ∧ w'.ownsRow base 383 34 (.slice A (mk.length + (madeB x).length) c) (mk.length + (madeB x).length) (rowsV madeV (mk ++ madeB x)))
set_option maxHeartbeats 4000000 in
set_option maxRecDepth 100000 in
theorem refOp_all (base : Nat) (deps : List (List UInt8)) (mk : List MadeD) (k : UInt8) (d a : RefD) (t : ByteArray) (n : Int) (q : ByteArray) (A : Option Addr) (c : Nat) (Am : Option Addr) (cm : Nat) (w : World) (hn : deps.length ≤ 1099511627776) (hmn : mk.length ≤ 1000000000) (ho : IdsOk deps) (hm : ∀ m ∈ mk, MadeOk m) (hx : OpIn (k, d, a, t, n, q)) (hset : isSetB deps = true) (hs : Sl w w.heap.size A deps.length 32 (idsV deps)) (how : w.ownsRow base 383 34 (.slice Am mk.length cm) mk.length (rowsV madeV mk)) (hbs : base ≤ w.heap.size) :
    Calls Tryz.prog 237 #[.slice A deps.length c, .slice Am mk.length cm, .agg (opV (k, d, a, t, n, q)).toArray] w (OpGives base deps mk (k, d, a, t, n, q) w) := by
  have HO := Lib.hid ho; have HS := Lib.hid hs; have HM := Lib.hid hm; have HX := Lib.hid hx; have HOW := Lib.hid how; have HSM := Lib.hid (Sl.of_own how)
  have hmn : mk.length ≤ 1099511627776 := by omega
  clear ho hs hm hx how
  go_enter Tryz.func237, Tryz.ntmps237
  go_upto_region 2 with (first
    | (with_reducible refine at_box ?_
       refine wp_boxM (by rfl) 112 _ rfl (opV (k, d, a, t, n, q)) _ rfl rfl (by rw [opV_length HX.out]; exact sizeOp70) ?_
       intro W0 hb0 hy0 hs0
       have HB0 := Lib.hid hb0; have HY0 := Lib.hid hy0
       clear hb0 hy0 hs0)
    | (with_reducible refine at_build ?_
       refine wp_val (by rfl) (ex_build 110 #[] rfl (zeroRef_built8 _)) ?_)
    | (with_reducible refine at_alloc ?_
       refine wp_allocM (by rfl) 110 rfl (refV zeroRef) (zeroRef_run8 _) ?_
       intro Wa hba hya hsa
       have HBa := Lib.hid hba; have HYa := Lib.hid hya
       clear hba hya hsa)
    | (with_reducible refine at_store ?_
       refine wp_storeM (by rfl) 110 _ _ rfl W0.heap.size 0 [] (refV zeroRef) [] (refV zeroRef) 110 _ rfl rfl rfl rfl (by simpa using HYa.out) rfl (by kernel_rfl) (refV_one _) ?_
       intro W1 hbb hyb hsb
       have HB1 := Lib.hid (HBa.out.trans (hbb.below HBa.out.size (fun k hk e => by have e' : k = W0.heap.size := e; omega)))
       have HY1 : Hid (W1.heap[W0.heap.size]? = some (.cells (refV zeroRef).toArray 110 (0, 0))) := Lib.hid (by simpa using hyb)
       clear hbb hyb hsb))
  obtain ⟨zx, hzx⟩ : ∃ z, w.heap.size = z := ⟨_, rfl⟩
  obtain ⟨z8, hz8⟩ : ∃ z, W0.heap.size = z := ⟨_, rfl⟩
  have l0 := (qX HY0.out)
  have HYX := Lib.hid ((HB1.out.block _ l0).trans HY0.out)
  have HLX := Lib.hid (show zx < W1.heap.size by rw [← hzx]; exact qL l0 HB1.out.size)
  have HL8 := Lib.hid (show z8 < W1.heap.size by rw [← hz8]; exact (qX HY1.out))
  have HBW := Lib.hid (HB0.out.trans (HB1.out.mono HB0.out.size))
  rw [hzx] at HYX ⊢
  rw [hz8] at HY1 ⊢
  try simp only [Act.put, List.setIfInBounds_toArray, List.set_cons_zero, List.set_cons_succ]
  have hzxw : Hid (w.heap.size = zx) := Lib.hid hzx
  clear hzx hz8 l0 HY0 HB0 HB1 HBa HYa
  have HCELL := Lib.hid (fun (u : World) (hu : Below W1.heap.size W1 u) => (show u.cell? ⟨zx, 0, none⟩ = some (.int .u8 (k.toNat : Int)) ∧ u.cell? ⟨zx, 67, none⟩ = some (.string t) ∧ u.cell? ⟨zx, 68, none⟩ = some (.int .i64 n) ∧ u.cell? ⟨zx, 69, none⟩ = some (.string q) from
    ⟨(hu.cell (p := ⟨zx, 0, none⟩) HLX.out).trans (cells_at0 HYX.out 0), (hu.cell (p := ⟨zx, 67, none⟩) HLX.out).trans ((cells_at0 HYX.out 67).trans (op_cells HX.out).2.2.2.1), (hu.cell (p := ⟨zx, 68, none⟩) HLX.out).trans ((cells_at0 HYX.out 68).trans (op_cells HX.out).2.2.2.2.1), (hu.cell (p := ⟨zx, 69, none⟩) HLX.out).trans ((cells_at0 HYX.out 69).trans (op_cells HX.out).2.2.2.2.2)⟩))
  have HD1 := Lib.hid (fun (u : World) (hu : Below W1.heap.size W1 u) => (show u.rangeAt zx 1 (refV d) from fun j v hj => (hu.cell (p := ⟨zx, 1 + j, none⟩) HLX.out).trans ((cells_at0 HYX.out (1 + j)).trans ((op_cells HX.out).2.1 j v hj))))
  have HA34 := Lib.hid (fun (u : World) (hu : Below W1.heap.size W1 u) => (show u.rangeAt zx 34 (refV a) from fun j v hj => (hu.cell (p := ⟨zx, 34 + j, none⟩) HLX.out).trans ((cells_at0 HYX.out (34 + j)).trans ((op_cells HX.out).2.2.1 j v hj))))
  have HZ8 := Lib.hid (fun (u : World) (hu : Below W1.heap.size W1 u) => (show u.rangeAt z8 0 (refV zeroRef) from fun j v hj => by rw [qZ]; exact ((hu.cell (p := ⟨z8, j, none⟩) HL8.out).trans (cells_at0 HY1.out j)).trans hj))
  have HSD := Lib.hid (fun (u : World) (hu : Below W1.heap.size W1 u) => (HS.out.keep (HBW.out.trans (hu.mono HBW.out.size))).more (qT HBW.out.size hu.size))
  have HSK := Lib.hid (fun (u : World) (hu : Below W1.heap.size W1 u) => (HSM.out.keep (HBW.out.trans (hu.mono HBW.out.size))).more (qT HBW.out.size hu.size))
  have HC := Lib.hid (qB W1.heap.size W1)
  obtain ⟨y0, y3, y4, y5⟩ := HCELL.out _ HC.out
  clear HYX HY1
  by_cases h5 : k = 5
  · subst h5
    have HCELL : Hid (∀ (u : World), Below W1.heap.size W1 u → (u.cell? ⟨zx, 0, none⟩ = some (.int .u8 (5 : Int)) ∧ u.cell? ⟨zx, 67, none⟩ = some (.string t) ∧ u.cell? ⟨zx, 68, none⟩ = some (.int .i64 n) ∧ u.cell? ⟨zx, 69, none⟩ = some (.string q))) := Lib.hid HCELL.out
    obtain ⟨y0, y3, y4, y5⟩ := HCELL.out _ HC.out
    by_cases hdoc : docB deps mk d = true
    rotate_left
    focus
      have HDOC := Lib.hid (Bool.eq_false_iff.2 hdoc)
      have HE : Hid (opB deps mk (5, d, a, t, n, q) = false) := Lib.hid (by unfold opB; rw [show partsOf (5 : UInt8) = some (true, false, false, false, false) from rfl]; simp [absentB, hdoc])
      clear hdoc
    rotate_right
    have HDOC := Lib.hid hdoc
    by_cases ht : t = noneS
    rotate_left
    focus
      have et : t.toList.isEmpty = false := by rw [isEmpty8]; exact dF ht
      have HE : Hid (opB deps mk (5, d, a, t, n, q) = false) := Lib.hid (by unfold opB; rw [show partsOf (5 : UInt8) = some (true, false, false, false, false) from rfl]; simp [absentB, hdoc, ht])
      clear hdoc ht
    rotate_right
    have et : t.toList.isEmpty = true := by rw [isEmpty8]; exact dT ht
    by_cases hc : n = 0
    rotate_left
    focus
      have ec : (n != 0) = true := by simpa [bne, beq_eq_false_iff_ne] using hc
      have HE : Hid (opB deps mk (5, d, a, t, n, q) = false) := Lib.hid (by unfold opB; rw [show partsOf (5 : UInt8) = some (true, false, false, false, false) from rfl]; simp [absentB, hdoc, ht, hc])
      clear hdoc ht hc
    rotate_right
    have ec : (n != 0) = false := by rw [hc]; rfl
    by_cases haz : a = zeroRef
    rotate_left
    focus
      have EQA := Lib.hid (fun (u : World) => (run_eqRef HX.out.1.2.1 zeroRef_ok u).trans (by rw [dF haz]))
      have HE : Hid (opB deps mk (5, d, a, t, n, q) = false) := Lib.hid (by unfold opB; rw [show partsOf (5 : UInt8) = some (true, false, false, false, false) from rfl]; simp [absentB, hdoc, ht, hc, haz])
      clear hdoc ht hc haz
    rotate_right
    have EQA := Lib.hid (fun (u : World) => (run_eqRef HX.out.1.2.1 zeroRef_ok u).trans (by rw [dT haz]))
    by_cases hq : q = noneS
    rotate_left
    focus
      have eq : q.toList.isEmpty = false := by rw [isEmpty8]; exact dF hq
      have HE : Hid (opB deps mk (5, d, a, t, n, q) = false) := Lib.hid (by unfold opB; rw [show partsOf (5 : UInt8) = some (true, false, false, false, false) from rfl]; simp [absentB, hdoc, ht, hc, haz, hq])
      clear hdoc ht hc haz hq
    rotate_right
    have eq : q.toList.isEmpty = true := by rw [isEmpty8]; exact dT hq
    · have HE : Hid (opB deps mk (5, d, a, t, n, q) = true) := Lib.hid (by unfold opB; rw [show partsOf (5 : UInt8) = some (true, false, false, false, false) from rfl]; simp [absentB, hdoc, ht, hc, haz, hq])
      clear hdoc ht hc haz hq
      go_upto_region 22 with (first
        | (with_reducible refine at_load ?_
           refine wp_val (by rfl) (ldR HX.out.1.1 (HD1.out _ HC.out)) ?_)
        | (with_reducible refine at_load ?_
           refine wp_val (by rfl) (ldR HX.out.1.2.1 (HA34.out _ HC.out)) ?_)
        | (with_reducible refine at_load ?_
           refine wp_val (by rfl) (ldR zeroRef_ok (HZ8.out _ HC.out)) ?_)
        | (go_at_call 261; refine (refDoc_any deps mk d A c Am cm _ hn hmn HO.out HM.out HX.out.1.1 hset (HSD.out _ HC.out) (HSK.out _ HC.out)).mono ?_; rintro e w2 ⟨hb2, rfl⟩
           rw [HDOC.out]
           have HC := Lib.hid (HC.out.trans (hb2.mono HC.out.size))
           obtain ⟨y0, y3, y4, y5⟩ := HCELL.out _ HC.out
           clear hb2)
        | (with_reducible refine at_binOp ?_
           refine wp_val (by rfl) (ex_neq 110 _ _ _ rfl (xs := (refV a).toArray) (ys := (refV zeroRef).toArray) rfl rfl (r := true) eqRef.noGuard (EQA.out _)) ?_
           go_frame; try simp only [nTF]))
      have y0w := Wg.cell y0 (qL HLX.out HC.out.size)
      clear y0 y3 y4 y5
      try simp only [Act.put, List.setIfInBounds_toArray, List.set_cons_zero, List.set_cons_succ]
      refine wp_region_wr (by kernel_rfl) (by kernel_rfl) ?_
      repeat (first
        | go_big_quiet_skip
        | (go_big_quiet_want
           first
             | (go_big_quiet_op
                first
                  | go_big_quiet_on
                  | go_big_quiet_call (first | (fail)))))
      refine wpQuiet_nil ?_
      rintro w' ⟨kk, rfl⟩
      have hk9 := kk.2
      generalize kk.val = w9 at *
      clear kk
      have HC := Lib.hid (HC.out.trans (hk9.below.mono HC.out.size))
      clear hk9
      go_wp2_with fail
      go_ret2
      have HMLN : Hid (madeB (5, d, a, t, n, q) = []) := Lib.hid rfl
      have HML : Hid (mk.length + (madeB (5, d, a, t, n, q)).length = mk.length) := Lib.hid rfl
      exact ⟨(HBW.out.mono hbs).trans (HC.out.mono (qT hbs HBW.out.size)), fun h => absurd (HE.out.symm.trans h) (by decide), fun _ => ⟨Am, cm, by rw [HML.out]; rfl, by rw [HML.out, HMLN.out, List.append_nil]; exact (But.of_below (X := NoB) (HBW.out.trans (HC.out.mono HBW.out.size))).own HOW.out fun _ _ q => q⟩⟩
    all_goals
      go_wp2_with (first
        | (with_reducible refine at_load ?_
           refine wp_val (by rfl) (ldR HX.out.1.1 (HD1.out _ HC.out)) ?_)
        | (with_reducible refine at_load ?_
           refine wp_val (by rfl) (ldR HX.out.1.2.1 (HA34.out _ HC.out)) ?_)
        | (with_reducible refine at_load ?_
           refine wp_val (by rfl) (ldR zeroRef_ok (HZ8.out _ HC.out)) ?_)
        | (go_at_call 261; refine (refDoc_any deps mk d A c Am cm _ hn hmn HO.out HM.out HX.out.1.1 hset (HSD.out _ HC.out) (HSK.out _ HC.out)).mono ?_; rintro e w2 ⟨hb2, rfl⟩
           rw [HDOC.out]
           have HC := Lib.hid (HC.out.trans (hb2.mono HC.out.size))
           obtain ⟨y0, y3, y4, y5⟩ := HCELL.out _ HC.out
           clear hb2)
        | (with_reducible refine at_binOp ?_
           refine wp_val (by rfl) (ex_neq 110 _ _ _ rfl (xs := (refV a).toArray) (ys := (refV zeroRef).toArray) rfl rfl (r := _) eqRef.noGuard (EQA.out _)) ?_
           go_frame; try simp only [nTF]))
      go_ret2
      exact ⟨(HBW.out.mono hbs).trans (HC.out.mono (qT hbs HBW.out.size)), fun _ => ⟨_, rfl⟩, fun h => absurd (HE.out.symm.trans h) (by decide)⟩
  by_cases h4 : k = 4
  · subst h4
    have HCELL : Hid (∀ (u : World), Below W1.heap.size W1 u → (u.cell? ⟨zx, 0, none⟩ = some (.int .u8 (4 : Int)) ∧ u.cell? ⟨zx, 67, none⟩ = some (.string t) ∧ u.cell? ⟨zx, 68, none⟩ = some (.int .i64 n) ∧ u.cell? ⟨zx, 69, none⟩ = some (.string q))) := Lib.hid HCELL.out
    obtain ⟨y0, y3, y4, y5⟩ := HCELL.out _ HC.out
    by_cases hdoc : docB deps mk d = true
    rotate_left
    focus
      have HDOC := Lib.hid (Bool.eq_false_iff.2 hdoc)
      have HE : Hid (opB deps mk (4, d, a, t, n, q) = false) := Lib.hid (by unfold opB; rw [show partsOf (4 : UInt8) = some (true, false, false, false, true) from rfl]; simp [absentB, hdoc])
      clear hdoc
    rotate_right
    have HDOC := Lib.hid hdoc
    by_cases ht : t = noneS
    rotate_left
    focus
      have et : t.toList.isEmpty = false := by rw [isEmpty8]; exact dF ht
      have HE : Hid (opB deps mk (4, d, a, t, n, q) = false) := Lib.hid (by unfold opB; rw [show partsOf (4 : UInt8) = some (true, false, false, false, true) from rfl]; simp [absentB, hdoc, ht])
      clear hdoc ht
    rotate_right
    have et : t.toList.isEmpty = true := by rw [isEmpty8]; exact dT ht
    by_cases hc : n = 0
    rotate_left
    focus
      have ec : (n != 0) = true := by simpa [bne, beq_eq_false_iff_ne] using hc
      have HE : Hid (opB deps mk (4, d, a, t, n, q) = false) := Lib.hid (by unfold opB; rw [show partsOf (4 : UInt8) = some (true, false, false, false, true) from rfl]; simp [absentB, hdoc, ht, hc])
      clear hdoc ht hc
    rotate_right
    have ec : (n != 0) = false := by rw [hc]; rfl
    by_cases haz : a = zeroRef
    rotate_left
    focus
      have EQA := Lib.hid (fun (u : World) => (run_eqRef HX.out.1.2.1 zeroRef_ok u).trans (by rw [dF haz]))
      have HE : Hid (opB deps mk (4, d, a, t, n, q) = false) := Lib.hid (by unfold opB; rw [show partsOf (4 : UInt8) = some (true, false, false, false, true) from rfl]; simp [absentB, hdoc, ht, hc, haz])
      clear hdoc ht hc haz
    rotate_right
    have EQA := Lib.hid (fun (u : World) => (run_eqRef HX.out.1.2.1 zeroRef_ok u).trans (by rw [dT haz]))
    by_cases hpath : pathB q = true
    rotate_left
    focus
      have HPATH := Lib.hid (Bool.eq_false_iff.2 hpath)
      have HE : Hid (opB deps mk (4, d, a, t, n, q) = false) := Lib.hid (by unfold opB; rw [show partsOf (4 : UInt8) = some (true, false, false, false, true) from rfl]; simp [absentB, hdoc, ht, hc, haz, hpath])
      clear hdoc ht hc haz hpath
    rotate_right
    have HPATH := Lib.hid hpath
    · have HE : Hid (opB deps mk (4, d, a, t, n, q) = true) := Lib.hid (by unfold opB; rw [show partsOf (4 : UInt8) = some (true, false, false, false, true) from rfl]; simp [absentB, hdoc, ht, hc, haz, hpath])
      clear hdoc ht hc haz hpath
      go_upto_region 22 with (first
        | (with_reducible refine at_load ?_
           refine wp_val (by rfl) (ldR HX.out.1.1 (HD1.out _ HC.out)) ?_)
        | (with_reducible refine at_load ?_
           refine wp_val (by rfl) (ldR HX.out.1.2.1 (HA34.out _ HC.out)) ?_)
        | (with_reducible refine at_load ?_
           refine wp_val (by rfl) (ldR zeroRef_ok (HZ8.out _ HC.out)) ?_)
        | (go_at_call 261; refine (refDoc_any deps mk d A c Am cm _ hn hmn HO.out HM.out HX.out.1.1 hset (HSD.out _ HC.out) (HSK.out _ HC.out)).mono ?_; rintro e w2 ⟨hb2, rfl⟩
           rw [HDOC.out]
           have HC := Lib.hid (HC.out.trans (hb2.mono HC.out.size))
           obtain ⟨y0, y3, y4, y5⟩ := HCELL.out _ HC.out
           clear hb2)
        | (with_reducible refine at_binOp ?_
           refine wp_val (by rfl) (ex_neq 110 _ _ _ rfl (xs := (refV a).toArray) (ys := (refV zeroRef).toArray) rfl rfl (r := true) eqRef.noGuard (EQA.out _)) ?_
           go_frame; try simp only [nTF])
        | (go_at_call 262; refine (refPath_any q _ HX.out.2.2).mono ?_; rintro e w4 ⟨hb4, rfl⟩
           rw [HPATH.out]
           have HC := Lib.hid (HC.out.trans (hb4.mono HC.out.size))
           obtain ⟨y0, y3, y4, y5⟩ := HCELL.out _ HC.out
           clear hb4))
      have y0w := Wg.cell y0 (qL HLX.out HC.out.size)
      clear y0 y3 y4 y5
      try simp only [Act.put, List.setIfInBounds_toArray, List.set_cons_zero, List.set_cons_succ]
      refine wp_region_wr (by kernel_rfl) (by kernel_rfl) ?_
      repeat (first
        | go_big_quiet_skip
        | (go_big_quiet_want
           first
             | (go_big_quiet_op
                first
                  | go_big_quiet_on
                  | go_big_quiet_call (first | (fail)))))
      refine wpQuiet_nil ?_
      rintro w' ⟨kk, rfl⟩
      have hk9 := kk.2
      generalize kk.val = w9 at *
      clear kk
      have HC := Lib.hid (HC.out.trans (hk9.below.mono HC.out.size))
      clear hk9
      go_wp2_with fail
      go_ret2
      have HMLN : Hid (madeB (4, d, a, t, n, q) = []) := Lib.hid rfl
      have HML : Hid (mk.length + (madeB (4, d, a, t, n, q)).length = mk.length) := Lib.hid rfl
      exact ⟨(HBW.out.mono hbs).trans (HC.out.mono (qT hbs HBW.out.size)), fun h => absurd (HE.out.symm.trans h) (by decide), fun _ => ⟨Am, cm, by rw [HML.out]; rfl, by rw [HML.out, HMLN.out, List.append_nil]; exact (But.of_below (X := NoB) (HBW.out.trans (HC.out.mono HBW.out.size))).own HOW.out fun _ _ q => q⟩⟩
    all_goals
      go_wp2_with (first
        | (with_reducible refine at_load ?_
           refine wp_val (by rfl) (ldR HX.out.1.1 (HD1.out _ HC.out)) ?_)
        | (with_reducible refine at_load ?_
           refine wp_val (by rfl) (ldR HX.out.1.2.1 (HA34.out _ HC.out)) ?_)
        | (with_reducible refine at_load ?_
           refine wp_val (by rfl) (ldR zeroRef_ok (HZ8.out _ HC.out)) ?_)
        | (go_at_call 261; refine (refDoc_any deps mk d A c Am cm _ hn hmn HO.out HM.out HX.out.1.1 hset (HSD.out _ HC.out) (HSK.out _ HC.out)).mono ?_; rintro e w2 ⟨hb2, rfl⟩
           rw [HDOC.out]
           have HC := Lib.hid (HC.out.trans (hb2.mono HC.out.size))
           obtain ⟨y0, y3, y4, y5⟩ := HCELL.out _ HC.out
           clear hb2)
        | (with_reducible refine at_binOp ?_
           refine wp_val (by rfl) (ex_neq 110 _ _ _ rfl (xs := (refV a).toArray) (ys := (refV zeroRef).toArray) rfl rfl (r := _) eqRef.noGuard (EQA.out _)) ?_
           go_frame; try simp only [nTF])
        | (go_at_call 262; refine (refPath_any q _ HX.out.2.2).mono ?_; rintro e w4 ⟨hb4, rfl⟩
           rw [HPATH.out]
           have HC := Lib.hid (HC.out.trans (hb4.mono HC.out.size))
           obtain ⟨y0, y3, y4, y5⟩ := HCELL.out _ HC.out
           clear hb4))
      go_ret2
      exact ⟨(HBW.out.mono hbs).trans (HC.out.mono (qT hbs HBW.out.size)), fun _ => ⟨_, rfl⟩, fun h => absurd (HE.out.symm.trans h) (by decide)⟩
  by_cases h3 : k = 3
  · subst h3
    have HCELL : Hid (∀ (u : World), Below W1.heap.size W1 u → (u.cell? ⟨zx, 0, none⟩ = some (.int .u8 (3 : Int)) ∧ u.cell? ⟨zx, 67, none⟩ = some (.string t) ∧ u.cell? ⟨zx, 68, none⟩ = some (.int .i64 n) ∧ u.cell? ⟨zx, 69, none⟩ = some (.string q))) := Lib.hid HCELL.out
    obtain ⟨y0, y3, y4, y5⟩ := HCELL.out _ HC.out
    by_cases hdz : d = zeroRef
    rotate_left
    focus
      have EQD := Lib.hid (fun (u : World) => (run_eqRef HX.out.1.1 zeroRef_ok u).trans (by rw [dF hdz]))
      have HE : Hid (opB deps mk (3, d, a, t, n, q) = false) := Lib.hid (by unfold opB; rw [show partsOf (3 : UInt8) = some (false, false, false, false, true) from rfl]; simp [absentB, hdz])
      clear hdz
    rotate_right
    have EQD := Lib.hid (fun (u : World) => (run_eqRef HX.out.1.1 zeroRef_ok u).trans (by rw [dT hdz]))
    by_cases ht : t = noneS
    rotate_left
    focus
      have et : t.toList.isEmpty = false := by rw [isEmpty8]; exact dF ht
      have HE : Hid (opB deps mk (3, d, a, t, n, q) = false) := Lib.hid (by unfold opB; rw [show partsOf (3 : UInt8) = some (false, false, false, false, true) from rfl]; simp [absentB, hdz, ht])
      clear hdz ht
    rotate_right
    have et : t.toList.isEmpty = true := by rw [isEmpty8]; exact dT ht
    by_cases hc : n = 0
    rotate_left
    focus
      have ec : (n != 0) = true := by simpa [bne, beq_eq_false_iff_ne] using hc
      have HE : Hid (opB deps mk (3, d, a, t, n, q) = false) := Lib.hid (by unfold opB; rw [show partsOf (3 : UInt8) = some (false, false, false, false, true) from rfl]; simp [absentB, hdz, ht, hc])
      clear hdz ht hc
    rotate_right
    have ec : (n != 0) = false := by rw [hc]; rfl
    by_cases haz : a = zeroRef
    rotate_left
    focus
      have EQA := Lib.hid (fun (u : World) => (run_eqRef HX.out.1.2.1 zeroRef_ok u).trans (by rw [dF haz]))
      have HE : Hid (opB deps mk (3, d, a, t, n, q) = false) := Lib.hid (by unfold opB; rw [show partsOf (3 : UInt8) = some (false, false, false, false, true) from rfl]; simp [absentB, hdz, ht, hc, haz])
      clear hdz ht hc haz
    rotate_right
    have EQA := Lib.hid (fun (u : World) => (run_eqRef HX.out.1.2.1 zeroRef_ok u).trans (by rw [dT haz]))
    by_cases hpath : pathB q = true
    rotate_left
    focus
      have HPATH := Lib.hid (Bool.eq_false_iff.2 hpath)
      have HE : Hid (opB deps mk (3, d, a, t, n, q) = false) := Lib.hid (by unfold opB; rw [show partsOf (3 : UInt8) = some (false, false, false, false, true) from rfl]; simp [absentB, hdz, ht, hc, haz, hpath])
      clear hdz ht hc haz hpath
    rotate_right
    have HPATH := Lib.hid hpath
    · have HE : Hid (opB deps mk (3, d, a, t, n, q) = true) := Lib.hid (by unfold opB; rw [show partsOf (3 : UInt8) = some (false, false, false, false, true) from rfl]; simp [absentB, hdz, ht, hc, haz, hpath])
      clear hdz ht hc haz hpath
      go_wp2_with (first
        | (with_reducible refine at_load ?_
           refine wp_val (by rfl) (ldR HX.out.1.1 (HD1.out _ HC.out)) ?_)
        | (with_reducible refine at_load ?_
           refine wp_val (by rfl) (ldR HX.out.1.2.1 (HA34.out _ HC.out)) ?_)
        | (with_reducible refine at_load ?_
           refine wp_val (by rfl) (ldR zeroRef_ok (HZ8.out _ HC.out)) ?_)
        | (with_reducible refine at_binOp ?_
           refine wp_val (by rfl) (ex_neq 110 _ _ _ rfl (xs := (refV d).toArray) (ys := (refV zeroRef).toArray) rfl rfl (r := true) eqRef.noGuard (EQD.out _)) ?_
           go_frame; try simp only [nTF])
        | (with_reducible refine at_binOp ?_
           refine wp_val (by rfl) (ex_neq 110 _ _ _ rfl (xs := (refV a).toArray) (ys := (refV zeroRef).toArray) rfl rfl (r := true) eqRef.noGuard (EQA.out _)) ?_
           go_frame; try simp only [nTF])
        | (go_at_call 262; refine (refPath_any q _ HX.out.2.2).mono ?_; rintro e w4 ⟨hb4, rfl⟩
           rw [HPATH.out]
           have HC := Lib.hid (HC.out.trans (hb4.mono HC.out.size))
           obtain ⟨y0, y3, y4, y5⟩ := HCELL.out _ HC.out
           clear hb4)
        | (with_reducible refine at_build ?_
           refine wp_val (by rfl) (ex_build 383 #[(0, .const (.bool true))] rfl (madeDoc_built8 _)) ?_)
        | (refine wp_buildSlice1 (by rfl) 358 _ rfl 383 Tryz.underlying358 (.agg (madeV (false, zeroRef)).toArray) 34 48 infoMade8 rfl (by decide) (by decide) (madeV (true, zeroRef)) rfl rfl ?_)
        | (at_builtin; refine wp_appN rfl _ _ 358 rfl base 383 (.agg (madeV (false, zeroRef)).toArray) 34 48 Tryz.underlying358 infoMade8 rfl (by decide) (.slice Am mk.length cm) mk.length (rowsV madeV mk) rfl ((But.of_below (X := NoB) (HBW.out.trans (HC.out.mono HBW.out.size))).own HOW.out fun _ _ q => q) (madeV (true, zeroRef)) 383 rfl rfl (madeV_one _) (by unfold maxLen; omega) (by omega) (qT hbs (qT HBW.out.size HC.out.size)) ?_
           intro v9 w9 ho9 hgr9
           obtain ⟨A9, c9, rfl⟩ := own_form' ho9
           have HO9 := Lib.hid ho9
           have HB9 := Lib.hid (hgr9 base w (qR _) ((HBW.out.mono hbs).trans (HC.out.mono (qT hbs HBW.out.size))))
           clear ho9 hgr9))
      go_ret2
      exact ⟨HB9.out, fun h => absurd (HE.out.symm.trans h) (by decide), fun _ => ⟨A9, c9, rfl, by
        rw [show madeB (3, d, a, t, n, q) = [(true, zeroRef)] from rfl, rowsV_app]
        exact HO9.out⟩⟩
    all_goals
      go_wp2_with (first
        | (with_reducible refine at_load ?_
           refine wp_val (by rfl) (ldR HX.out.1.1 (HD1.out _ HC.out)) ?_)
        | (with_reducible refine at_load ?_
           refine wp_val (by rfl) (ldR HX.out.1.2.1 (HA34.out _ HC.out)) ?_)
        | (with_reducible refine at_load ?_
           refine wp_val (by rfl) (ldR zeroRef_ok (HZ8.out _ HC.out)) ?_)
        | (with_reducible refine at_binOp ?_
           refine wp_val (by rfl) (ex_neq 110 _ _ _ rfl (xs := (refV d).toArray) (ys := (refV zeroRef).toArray) rfl rfl (r := _) eqRef.noGuard (EQD.out _)) ?_
           go_frame; try simp only [nTF])
        | (with_reducible refine at_binOp ?_
           refine wp_val (by rfl) (ex_neq 110 _ _ _ rfl (xs := (refV a).toArray) (ys := (refV zeroRef).toArray) rfl rfl (r := _) eqRef.noGuard (EQA.out _)) ?_
           go_frame; try simp only [nTF])
        | (go_at_call 262; refine (refPath_any q _ HX.out.2.2).mono ?_; rintro e w4 ⟨hb4, rfl⟩
           rw [HPATH.out]
           have HC := Lib.hid (HC.out.trans (hb4.mono HC.out.size))
           obtain ⟨y0, y3, y4, y5⟩ := HCELL.out _ HC.out
           clear hb4))
      go_ret2
      exact ⟨(HBW.out.mono hbs).trans (HC.out.mono (qT hbs HBW.out.size)), fun _ => ⟨_, rfl⟩, fun h => absurd (HE.out.symm.trans h) (by decide)⟩
  by_cases h2 : k = 2
  · subst h2
    have HCELL : Hid (∀ (u : World), Below W1.heap.size W1 u → (u.cell? ⟨zx, 0, none⟩ = some (.int .u8 (2 : Int)) ∧ u.cell? ⟨zx, 67, none⟩ = some (.string t) ∧ u.cell? ⟨zx, 68, none⟩ = some (.int .i64 n) ∧ u.cell? ⟨zx, 69, none⟩ = some (.string q))) := Lib.hid HCELL.out
    obtain ⟨y0, y3, y4, y5⟩ := HCELL.out _ HC.out
    by_cases hdoc : docB deps mk d = true
    rotate_left
    focus
      have HDOC := Lib.hid (Bool.eq_false_iff.2 hdoc)
      have HE : Hid (opB deps mk (2, d, a, t, n, q) = false) := Lib.hid (by unfold opB; rw [show partsOf (2 : UInt8) = some (true, true, false, true, false) from rfl]; simp [absentB, hdoc])
      clear hdoc
    rotate_right
    have HDOC := Lib.hid hdoc
    by_cases ht : t = noneS
    rotate_left
    focus
      have et : t.toList.isEmpty = false := by rw [isEmpty8]; exact dF ht
      have HE : Hid (opB deps mk (2, d, a, t, n, q) = false) := Lib.hid (by unfold opB; rw [show partsOf (2 : UInt8) = some (true, true, false, true, false) from rfl]; simp [absentB, hdoc, ht])
      clear hdoc ht
    rotate_right
    have et : t.toList.isEmpty = true := by rw [isEmpty8]; exact dT ht
    by_cases hq : q = noneS
    rotate_left
    focus
      have eq : q.toList.isEmpty = false := by rw [isEmpty8]; exact dF hq
      have HE : Hid (opB deps mk (2, d, a, t, n, q) = false) := Lib.hid (by unfold opB; rw [show partsOf (2 : UInt8) = some (true, true, false, true, false) from rfl]; simp [absentB, hdoc, ht, hq])
      clear hdoc ht hq
    rotate_right
    have eq : q.toList.isEmpty = true := by rw [isEmpty8]; exact dT hq
    by_cases hc1 : 1 ≤ n
    rotate_left
    focus
      have ec1 : decide (1 ≤ n) = false := dF hc1
      have HE : Hid (opB deps mk (2, d, a, t, n, q) = false) := Lib.hid (by unfold opB; rw [show partsOf (2 : UInt8) = some (true, true, false, true, false) from rfl]; simp [absentB, hdoc, ht, hq, hc1])
      clear hdoc ht hq hc1
    rotate_right
    have ec1 : decide (1 ≤ n) = true := dT hc1
    by_cases hc2 : n ≤ 4096
    rotate_left
    focus
      have ec2 : decide (n ≤ 4096) = false := dF hc2
      have HE : Hid (opB deps mk (2, d, a, t, n, q) = false) := Lib.hid (by unfold opB; rw [show partsOf (2 : UInt8) = some (true, true, false, true, false) from rfl]; simp [absentB, hdoc, ht, hq, hc1, hc2])
      clear hdoc ht hq hc1 hc2
    rotate_right
    have ec2 : decide (n ≤ 4096) = true := dT hc2
    by_cases hel : elemsB deps mk a d n = true
    rotate_left
    focus
      have HEL := Lib.hid (Bool.eq_false_iff.2 hel)
      have HELC := Lib.hid (fun (u : World) (g1 : Sl u u.heap.size A deps.length 32 (idsV deps)) (g2 : Sl u u.heap.size Am mk.length 34 (rowsV madeV mk)) => (show Calls Tryz.prog 263 #[.slice A deps.length c, .slice Am mk.length cm, .agg (refV a).toArray, .agg (refV d).toArray, .int .i64 n] u fun e w' => Below u.heap.size u w' ∧ e = .returned (.bool (elemsB deps mk a d n)) from by
        obtain ⟨n', hnn⟩ : ∃ n' : Nat, n = (n' : Int) := ⟨n.toNat, by omega⟩
        rw [hnn]
        exact refElems_any deps mk a d n' A c Am cm u (by omega) (by omega) hn hmn HO.out HM.out HX.out.1.2.1 HX.out.1.1 hset g1 g2))
      have HE : Hid (opB deps mk (2, d, a, t, n, q) = false) := Lib.hid (by unfold opB; rw [show partsOf (2 : UInt8) = some (true, true, false, true, false) from rfl]; simp [absentB, hdoc, ht, hq, hc1, hc2, hel])
      clear hdoc ht hq hc1 hc2 hel
    rotate_right
    have HEL := Lib.hid hel
    · have HE : Hid (opB deps mk (2, d, a, t, n, q) = true) := Lib.hid (by unfold opB; rw [show partsOf (2 : UInt8) = some (true, true, false, true, false) from rfl]; simp [absentB, hdoc, ht, hq, hc1, hc2, hel])
      have HELC := Lib.hid (fun (u : World) (g1 : Sl u u.heap.size A deps.length 32 (idsV deps)) (g2 : Sl u u.heap.size Am mk.length 34 (rowsV madeV mk)) => (show Calls Tryz.prog 263 #[.slice A deps.length c, .slice Am mk.length cm, .agg (refV a).toArray, .agg (refV d).toArray, .int .i64 n] u fun e w' => Below u.heap.size u w' ∧ e = .returned (.bool (elemsB deps mk a d n)) from by
        obtain ⟨n', hnn⟩ : ∃ n' : Nat, n = (n' : Int) := ⟨n.toNat, by omega⟩
        rw [hnn]
        exact refElems_any deps mk a d n' A c Am cm u (by omega) (by omega) hn hmn HO.out HM.out HX.out.1.2.1 HX.out.1.1 hset g1 g2))
      clear hdoc ht hq hc1 hc2 hel
      go_wp2_with (first
        | (with_reducible refine at_load ?_
           refine wp_val (by rfl) (ldR HX.out.1.1 (HD1.out _ HC.out)) ?_)
        | (with_reducible refine at_load ?_
           refine wp_val (by rfl) (ldR HX.out.1.2.1 (HA34.out _ HC.out)) ?_)
        | (with_reducible refine at_load ?_
           refine wp_val (by rfl) (ldR zeroRef_ok (HZ8.out _ HC.out)) ?_)
        | (go_at_call 261; refine (refDoc_any deps mk d A c Am cm _ hn hmn HO.out HM.out HX.out.1.1 hset (HSD.out _ HC.out) (HSK.out _ HC.out)).mono ?_; rintro e w2 ⟨hb2, rfl⟩
           rw [HDOC.out]
           have HC := Lib.hid (HC.out.trans (hb2.mono HC.out.size))
           obtain ⟨y0, y3, y4, y5⟩ := HCELL.out _ HC.out
           clear hb2)
        | (go_at_call 263; refine (HELC.out _ (HSD.out _ HC.out) (HSK.out _ HC.out)).mono ?_; rintro e w3 ⟨hb3, rfl⟩
           rw [HEL.out]
           have HC := Lib.hid (HC.out.trans (hb3.mono HC.out.size))
           obtain ⟨y0, y3, y4, y5⟩ := HCELL.out _ HC.out
           clear hb3))
      go_ret2
      have HMLN : Hid (madeB (2, d, a, t, n, q) = []) := Lib.hid rfl
      have HML : Hid (mk.length + (madeB (2, d, a, t, n, q)).length = mk.length) := Lib.hid rfl
      exact ⟨(HBW.out.mono hbs).trans (HC.out.mono (qT hbs HBW.out.size)), fun h => absurd (HE.out.symm.trans h) (by decide), fun _ => ⟨Am, cm, by rw [HML.out]; rfl, by rw [HML.out, HMLN.out, List.append_nil]; exact (But.of_below (X := NoB) (HBW.out.trans (HC.out.mono HBW.out.size))).own HOW.out fun _ _ q => q⟩⟩
    all_goals
      go_wp2_with (first
        | (with_reducible refine at_load ?_
           refine wp_val (by rfl) (ldR HX.out.1.1 (HD1.out _ HC.out)) ?_)
        | (with_reducible refine at_load ?_
           refine wp_val (by rfl) (ldR HX.out.1.2.1 (HA34.out _ HC.out)) ?_)
        | (with_reducible refine at_load ?_
           refine wp_val (by rfl) (ldR zeroRef_ok (HZ8.out _ HC.out)) ?_)
        | (go_at_call 261; refine (refDoc_any deps mk d A c Am cm _ hn hmn HO.out HM.out HX.out.1.1 hset (HSD.out _ HC.out) (HSK.out _ HC.out)).mono ?_; rintro e w2 ⟨hb2, rfl⟩
           rw [HDOC.out]
           have HC := Lib.hid (HC.out.trans (hb2.mono HC.out.size))
           obtain ⟨y0, y3, y4, y5⟩ := HCELL.out _ HC.out
           clear hb2)
        | (go_at_call 263; refine (HELC.out _ (HSD.out _ HC.out) (HSK.out _ HC.out)).mono ?_; rintro e w3 ⟨hb3, rfl⟩
           rw [HEL.out]
           have HC := Lib.hid (HC.out.trans (hb3.mono HC.out.size))
           obtain ⟨y0, y3, y4, y5⟩ := HCELL.out _ HC.out
           clear hb3))
      go_ret2
      exact ⟨(HBW.out.mono hbs).trans (HC.out.mono (qT hbs HBW.out.size)), fun _ => ⟨_, rfl⟩, fun h => absurd (HE.out.symm.trans h) (by decide)⟩
  by_cases h1 : k = 1
  · subst h1
    have HCELL : Hid (∀ (u : World), Below W1.heap.size W1 u → (u.cell? ⟨zx, 0, none⟩ = some (.int .u8 (1 : Int)) ∧ u.cell? ⟨zx, 67, none⟩ = some (.string t) ∧ u.cell? ⟨zx, 68, none⟩ = some (.int .i64 n) ∧ u.cell? ⟨zx, 69, none⟩ = some (.string q))) := Lib.hid HCELL.out
    obtain ⟨y0, y3, y4, y5⟩ := HCELL.out _ HC.out
    by_cases hdoc : docB deps mk d = true
    · by_cases hc : n = 0
      · have HDOC := Lib.hid hdoc
        have ec : (n != 0) = false := by rw [hc]; rfl
        by_cases hq : q = noneS
        · have eq : q.toList.isEmpty = true := by rw [isEmpty8]; exact dT hq
          by_cases had : a = d
          · have EQAD := Lib.hid (fun (u : World) => (run_eqRef HX.out.1.2.1 HX.out.1.1 u).trans (by rw [dT had]))
            by_cases ht : t = noneS
            · have et : t.toList.isEmpty = true := by rw [isEmpty8]; exact dT ht
              have HE : Hid (opB deps mk (1, d, a, t, n, q) = false) := Lib.hid (by unfold opB; rw [show partsOf (1 : UInt8) = some (true, true, true, false, false) from rfl]; simp [absentB, hdoc, hc, hq, had, ht])
              clear hdoc hc hq had ht
              go_wp2_with (first
                | (with_reducible refine at_load ?_
                   refine wp_val (by rfl) (ldR HX.out.1.1 (HD1.out _ HC.out)) ?_)
                | (with_reducible refine at_load ?_
                   refine wp_val (by rfl) (ldR HX.out.1.2.1 (HA34.out _ HC.out)) ?_)
                | (with_reducible refine at_load ?_
                   refine wp_val (by rfl) (ldR zeroRef_ok (HZ8.out _ HC.out)) ?_)
                | (go_at_call 261; refine (refDoc_any deps mk d A c Am cm _ hn hmn HO.out HM.out HX.out.1.1 hset (HSD.out _ HC.out) (HSK.out _ HC.out)).mono ?_; rintro e w2 ⟨hb2, rfl⟩
                   rw [HDOC.out]
                   have HC := Lib.hid (HC.out.trans (hb2.mono HC.out.size))
                   obtain ⟨y0, y3, y4, y5⟩ := HCELL.out _ HC.out
                   clear hb2)
                | (with_reducible refine at_binOp ?_
                   refine wp_val (by rfl) (ex_neq 110 _ _ _ rfl (xs := (refV a).toArray) (ys := (refV d).toArray) rfl rfl (r := true) eqRef.noGuard (EQAD.out _)) ?_
                   go_frame; try simp only [nTF]))
              go_ret2
              exact ⟨(HBW.out.mono hbs).trans (HC.out.mono (qT hbs HBW.out.size)), fun _ => ⟨_, rfl⟩, fun h => absurd (HE.out.symm.trans h) (by decide)⟩
            · have et : t.toList.isEmpty = false := by rw [isEmpty8]; exact dF ht
              by_cases hfile : fileB t = true
              · have HFILE := Lib.hid (bytesS_ok hfile)
                have hts : t.size ≤ 1099511627776 := by have := fileB_size hfile; omega
                have HRN := Lib.hid (show runesOf t ≠ none from runes_ok hfile)
                have HRZ := Lib.hid (fileB_size hfile)
                have HE : Hid (opB deps mk (1, d, a, t, n, q) = true) := Lib.hid (by unfold opB; rw [show partsOf (1 : UInt8) = some (true, true, true, false, false) from rfl]; simp [absentB, hdoc, hc, hq, had, ht, hfile])
                clear hdoc hc hq had ht hfile
                go_upto_region 13 with (first
                  | (with_reducible refine at_load ?_
                     refine wp_val (by rfl) (ldR HX.out.1.1 (HD1.out _ HC.out)) ?_)
                  | (with_reducible refine at_load ?_
                     refine wp_val (by rfl) (ldR HX.out.1.2.1 (HA34.out _ HC.out)) ?_)
                  | (with_reducible refine at_load ?_
                     refine wp_val (by rfl) (ldR zeroRef_ok (HZ8.out _ HC.out)) ?_)
                  | (go_at_call 261; refine (refDoc_any deps mk d A c Am cm _ hn hmn HO.out HM.out HX.out.1.1 hset (HSD.out _ HC.out) (HSK.out _ HC.out)).mono ?_; rintro e w2 ⟨hb2, rfl⟩
                     rw [HDOC.out]
                     have HC := Lib.hid (HC.out.trans (hb2.mono HC.out.size))
                     obtain ⟨y0, y3, y4, y5⟩ := HCELL.out _ HC.out
                     clear hb2)
                  | (with_reducible refine at_binOp ?_
                     refine wp_val (by rfl) (ex_neq 110 _ _ _ rfl (xs := (refV a).toArray) (ys := (refV d).toArray) rfl rfl (r := true) eqRef.noGuard (EQAD.out _)) ?_
                     go_frame; try simp only [nTF])
                  | (go_at_call 264; refine (refFileBytes_any t _).mono ?_; rintro e w5 ⟨hb5, rfl⟩
                     rw [HFILE.out]
                     have HC := Lib.hid (HC.out.trans (hb5.mono HC.out.size))
                     obtain ⟨y0, y3, y4, y5⟩ := HCELL.out _ HC.out
                     clear hb5)
                  | (go_at_call 119; refine (runes_any t _ hts).mono ?_; rintro e w6 ⟨hb6, hr6⟩
                     rcases hr6 with ⟨rl, Ar, cr, hr6, rfl, -⟩ | ⟨hr6, -⟩
                     rotate_left
                     · exact absurd hr6 HRN.out
                     have HRL := Lib.hid hr6
                     clear hr6
                     have HC := Lib.hid (HC.out.trans (hb6.mono HC.out.size))
                     obtain ⟨y0, y3, y4, y5⟩ := HCELL.out _ HC.out
                     clear hb6))
                have HRLN := Lib.hid (show rl.length = runesN t by unfold runesN; rw [HRL.out])
                have hrl : rl.length ≤ 4096 := by have := runesN_le t; have := HRLN.out; have := HRZ.out; omega
                have HZXW := hzxw
                go_wp2_with fail
                go_loopw [1, 12] (fun t1 t12 wr => ∃ (i : Nat) (Ai : Option Addr) (ci : Nat), i ≤ rl.length ∧ t12 = .int .i64 (i : Int) ∧ t1 = .slice Ai (mk.length + i) ci ∧ Hid (wr.ownsRow base 383 34 (.slice Ai (mk.length + i) ci) (mk.length + i) (rowsV madeV (mk ++ List.replicate i (false, d)))) ∧ Hid (Below base w wr) ∧ Hid (wr.rangeAt zx 1 (refV d)) ∧ Hid (∀ b, (Value.slice Ai (mk.length + i) ci).ownBlock = some b → b ≠ zx) ∧ Hid (zx < wr.heap.size)) (fun _ t12 _ => rl.length - (intOf t12).toNat)
                case atStart =>
                  refine ⟨0, Am, cm, Nat.zero_le _, rfl, rfl, Lib.hid ?_, Lib.hid ((HBW.out.mono hbs).trans (HC.out.mono (qT hbs HBW.out.size))), Lib.hid (HD1.out _ HC.out), Lib.hid (fun b e h => by have h9 := (HOW.out.lt b e).2; rw [h, ← HZXW.out] at h9; omega), Lib.hid (qL HLX.out HC.out.size)⟩
                  rw [List.replicate_zero, List.append_nil]
                  exact (But.of_below (X := NoB) (HBW.out.trans (HC.out.mono HBW.out.size))).own HOW.out fun _ _ q => q
                case round =>
                  obtain ⟨i, Ai, ci, hi, rfl, rfl, HOI, HBI, HDI, HNI, HLI⟩ := hrel
                  by_cases hlt : i < rl.length
                  · have i1 : (i : Int) < (rl.length : Int) := by omega
                    have HBAL := Lib.hid (show Below wr.heap.size wr (wr.alloc (.cells (madeV (false, d)).toArray 383)) from (qB _ _).alloc (qR _) _)
                    have HOA := Lib.hid ((But.of_below (X := NoB) HBAL.out).own HOI.out fun _ _ q => q)
                    have HBZ := Lib.hid (show base ≤ (wr.alloc (.cells (madeV (false, d)).toArray 383)).heap.size from qT hbs (qT (qT (show w.heap.size ≤ wr.heap.size from HBI.out.size) (qR _)) HBAL.out.size))
                    have HNW := Lib.hid (show ∀ j u, (madeV (false, d))[j]? = some u → (wr.alloc (.cells (madeV (false, d)).toArray 383)).cell? ((⟨wr.heap.size, 0, none⟩ : Addr).add j) = some u from fun j u hj => by
                      have e1 : (⟨wr.heap.size, 0, none⟩ : Addr).add j = ⟨wr.heap.size, j, none⟩ := by unfold Addr.add; split <;> simp_all
                      rw [e1]
                      exact (cells_at0 (heap_alloc_new _ _) j).trans hj)
                    go_wp2_with (first
                      | (with_reducible refine at_load ?_
                         refine wp_val (by rfl) (ldR HX.out.1.1 HDI.out) ?_)
                      | (with_reducible refine at_build ?_
                         refine wp_val (by rfl) (ex_build 383 #[(1, .tmp 148)] rfl (by simp only [List.map_toArray, List.map_cons, List.map_nil]; exact made_built8 (d := d) HX.out.1.1 _)) ?_)
                      | (refine wp_buildSlice1 (by rfl) 358 _ rfl 383 Tryz.underlying358 (.agg (madeV (false, zeroRef)).toArray) 34 48 infoMade8 rfl (by decide) (by decide) (madeV (false, d)) (madeV_length (m := (false, d)) HX.out.1.1) rfl ?_)
                      | (at_builtin; refine wp_appS_w (by rfl) _ _ 358 rfl base 383 (.agg (madeV (false, zeroRef)).toArray) 34 48 Tryz.underlying358 infoMade8 rfl (by decide) (.slice Ai (mk.length + i) ci) (mk.length + i) (rowsV madeV (mk ++ List.replicate i (false, d))) rfl (HOA.out) ⟨wr.heap.size, 0, none⟩ 1 1 (madeV (false, d)) rfl (by rw [Nat.one_mul]; exact madeV_length (m := (false, d)) HX.out.1.1) HNW.out (madeV_one _) (by unfold maxLen; omega) (by omega) HBZ.out ?_
                         intro v9 w9 ho9 hg9 hw9
                         obtain ⟨A9, c9, rfl⟩ := own_form' ho9
                         have HO9 := Lib.hid ho9
                         have HG9 := Lib.hid hg9; have HW9 := Lib.hid hw9
                         clear ho9 hg9 hw9))
                    have HN9 := Lib.hid (show ∀ b, (Value.slice A9 (mk.length + i + 1) c9).ownBlock = some b → b ≠ zx from fun b e h => by
                      rcases HW9.out with q | ⟨g, q, hz⟩
                      · exact HNI.out b (by rw [← q]; exact e) h
                      · rw [q] at e
                        have h2 : g = b := Option.some.inj e
                        have h3 := HLI.out
                        have h4 := HBAL.out.size
                        omega)
                    have HD9 := Lib.hid (show w9.rangeAt zx 1 (refV d) from fun j v hj => by
                      have h1 := HDI.out j v hj
                      have h2 := (HBAL.out.cell (p := ⟨zx, 1 + j, none⟩) HLI.out).trans h1
                      unfold World.cell? at h2 ⊢
                      rw [HG9.out.block zx (qL HLI.out HBAL.out.size) (fun e => HNI.out zx e.symm rfl)]
                      exact h2)
                    have HB9 := Lib.hid (show Below base w w9 from (HBI.out.trans (HBAL.out.mono (qT hbs HBI.out.size))).grown HG9.out (qT hbs (qT HBI.out.size HBAL.out.size)) (fun k e => (HOI.out.lt k e).1))
                    have HL9 := Lib.hid (show zx < w9.heap.size from qL HLI.out (qT HBAL.out.size HG9.out.size))
                    go_roundw
                    case rel => exact ⟨i + 1, A9, c9, by omega, by go_num, rfl, Lib.hid (by rw [List.replicate_succ', ← List.append_assoc, rowsV_app, ← Nat.add_assoc]; simpa [rowsV] using HO9.out), HB9, HD9, HN9, HL9⟩
                    case measure => (simp [intOf]) <;> omega
                  · have i1 : ¬ (i : Int) < (rl.length : Int) := by omega
                    have HIL := Lib.hid (show i = runesN t by rw [← HRLN.out]; omega)
                    have HMB := Lib.hid (show madeB (1, d, a, t, n, q) = List.replicate (runesN t) (false, d) from rfl)
                    go_wp2_with fail
                    go_ret2
                    exact ⟨HBI.out, fun h => absurd (HE.out.symm.trans h) (by decide), fun _ => ⟨Ai, ci, by rw [HMB.out, List.length_replicate, ← HIL.out]; rfl, by rw [HMB.out, List.length_replicate, ← HIL.out]; exact HOI.out⟩⟩
              · obtain ⟨fb, hfb, hfn⟩ := bytesS_no (Bool.eq_false_iff.2 hfile)
                have HFILE := Lib.hid hfb
                have efb : (fb != 0) = true := by simpa [bne, beq_eq_false_iff_ne] using hfn
                clear hfb hfn
                have HE : Hid (opB deps mk (1, d, a, t, n, q) = false) := Lib.hid (by unfold opB; rw [show partsOf (1 : UInt8) = some (true, true, true, false, false) from rfl]; simp [absentB, hdoc, hc, hq, had, ht, hfile])
                clear hdoc hc hq had ht hfile
                go_wp2_with (first
                  | (with_reducible refine at_load ?_
                     refine wp_val (by rfl) (ldR HX.out.1.1 (HD1.out _ HC.out)) ?_)
                  | (with_reducible refine at_load ?_
                     refine wp_val (by rfl) (ldR HX.out.1.2.1 (HA34.out _ HC.out)) ?_)
                  | (with_reducible refine at_load ?_
                     refine wp_val (by rfl) (ldR zeroRef_ok (HZ8.out _ HC.out)) ?_)
                  | (go_at_call 261; refine (refDoc_any deps mk d A c Am cm _ hn hmn HO.out HM.out HX.out.1.1 hset (HSD.out _ HC.out) (HSK.out _ HC.out)).mono ?_; rintro e w2 ⟨hb2, rfl⟩
                     rw [HDOC.out]
                     have HC := Lib.hid (HC.out.trans (hb2.mono HC.out.size))
                     obtain ⟨y0, y3, y4, y5⟩ := HCELL.out _ HC.out
                     clear hb2)
                  | (with_reducible refine at_binOp ?_
                     refine wp_val (by rfl) (ex_neq 110 _ _ _ rfl (xs := (refV a).toArray) (ys := (refV d).toArray) rfl rfl (r := true) eqRef.noGuard (EQAD.out _)) ?_
                     go_frame; try simp only [nTF])
                  | (go_at_call 264; refine (refFileBytes_any t _).mono ?_; rintro e w5 ⟨hb5, rfl⟩
                     rw [HFILE.out]
                     have HC := Lib.hid (HC.out.trans (hb5.mono HC.out.size))
                     obtain ⟨y0, y3, y4, y5⟩ := HCELL.out _ HC.out
                     clear hb5))
                go_ret2
                exact ⟨(HBW.out.mono hbs).trans (HC.out.mono (qT hbs HBW.out.size)), fun _ => ⟨_, rfl⟩, fun h => absurd (HE.out.symm.trans h) (by decide)⟩
          · have EQAD := Lib.hid (fun (u : World) => (run_eqRef HX.out.1.2.1 HX.out.1.1 u).trans (by rw [dF had]))
            have HELC := Lib.hid (fun (u : World) (g1 : Sl u u.heap.size A deps.length 32 (idsV deps)) (g2 : Sl u u.heap.size Am mk.length 34 (rowsV madeV mk)) => (show Calls Tryz.prog 263 #[.slice A deps.length c, .slice Am mk.length cm, .agg (refV a).toArray, .agg (refV d).toArray, .int .i64 1] u fun e w' => Below u.heap.size u w' ∧ e = .returned (.bool (elemsB deps mk a d 1)) from
              refElems_any deps mk a d 1 A c Am cm u (by omega) (by omega) hn hmn HO.out HM.out HX.out.1.2.1 HX.out.1.1 hset g1 g2))
            by_cases hel1 : elemsB deps mk a d 1 = true
            · have HEL := Lib.hid hel1
              by_cases ht : t = noneS
              · have et : t.toList.isEmpty = true := by rw [isEmpty8]; exact dT ht
                have HE : Hid (opB deps mk (1, d, a, t, n, q) = false) := Lib.hid (by unfold opB; rw [show partsOf (1 : UInt8) = some (true, true, true, false, false) from rfl]; simp [absentB, hdoc, hc, hq, had, hel1, ht])
                clear hdoc hc hq had hel1 ht
                go_wp2_with (first
                  | (with_reducible refine at_load ?_
                     refine wp_val (by rfl) (ldR HX.out.1.1 (HD1.out _ HC.out)) ?_)
                  | (with_reducible refine at_load ?_
                     refine wp_val (by rfl) (ldR HX.out.1.2.1 (HA34.out _ HC.out)) ?_)
                  | (with_reducible refine at_load ?_
                     refine wp_val (by rfl) (ldR zeroRef_ok (HZ8.out _ HC.out)) ?_)
                  | (go_at_call 261; refine (refDoc_any deps mk d A c Am cm _ hn hmn HO.out HM.out HX.out.1.1 hset (HSD.out _ HC.out) (HSK.out _ HC.out)).mono ?_; rintro e w2 ⟨hb2, rfl⟩
                     rw [HDOC.out]
                     have HC := Lib.hid (HC.out.trans (hb2.mono HC.out.size))
                     obtain ⟨y0, y3, y4, y5⟩ := HCELL.out _ HC.out
                     clear hb2)
                  | (with_reducible refine at_binOp ?_
                     refine wp_val (by rfl) (ex_neq 110 _ _ _ rfl (xs := (refV a).toArray) (ys := (refV d).toArray) rfl rfl (r := false) eqRef.noGuard (EQAD.out _)) ?_
                     go_frame; try simp only [nTF])
                  | (go_at_call 263; refine (HELC.out _ (HSD.out _ HC.out) (HSK.out _ HC.out)).mono ?_; rintro e w3 ⟨hb3, rfl⟩
                     rw [HEL.out]
                     have HC := Lib.hid (HC.out.trans (hb3.mono HC.out.size))
                     obtain ⟨y0, y3, y4, y5⟩ := HCELL.out _ HC.out
                     clear hb3))
                go_ret2
                exact ⟨(HBW.out.mono hbs).trans (HC.out.mono (qT hbs HBW.out.size)), fun _ => ⟨_, rfl⟩, fun h => absurd (HE.out.symm.trans h) (by decide)⟩
              · have et : t.toList.isEmpty = false := by rw [isEmpty8]; exact dF ht
                by_cases hfile : fileB t = true
                · have HFILE := Lib.hid (bytesS_ok hfile)
                  have hts : t.size ≤ 1099511627776 := by have := fileB_size hfile; omega
                  have HRN := Lib.hid (show runesOf t ≠ none from runes_ok hfile)
                  have HRZ := Lib.hid (fileB_size hfile)
                  have HE : Hid (opB deps mk (1, d, a, t, n, q) = true) := Lib.hid (by unfold opB; rw [show partsOf (1 : UInt8) = some (true, true, true, false, false) from rfl]; simp [absentB, hdoc, hc, hq, had, hel1, ht, hfile])
                  clear hdoc hc hq had hel1 ht hfile
                  go_upto_region 13 with (first
                    | (with_reducible refine at_load ?_
                       refine wp_val (by rfl) (ldR HX.out.1.1 (HD1.out _ HC.out)) ?_)
                    | (with_reducible refine at_load ?_
                       refine wp_val (by rfl) (ldR HX.out.1.2.1 (HA34.out _ HC.out)) ?_)
                    | (with_reducible refine at_load ?_
                       refine wp_val (by rfl) (ldR zeroRef_ok (HZ8.out _ HC.out)) ?_)
                    | (go_at_call 261; refine (refDoc_any deps mk d A c Am cm _ hn hmn HO.out HM.out HX.out.1.1 hset (HSD.out _ HC.out) (HSK.out _ HC.out)).mono ?_; rintro e w2 ⟨hb2, rfl⟩
                       rw [HDOC.out]
                       have HC := Lib.hid (HC.out.trans (hb2.mono HC.out.size))
                       obtain ⟨y0, y3, y4, y5⟩ := HCELL.out _ HC.out
                       clear hb2)
                    | (with_reducible refine at_binOp ?_
                       refine wp_val (by rfl) (ex_neq 110 _ _ _ rfl (xs := (refV a).toArray) (ys := (refV d).toArray) rfl rfl (r := false) eqRef.noGuard (EQAD.out _)) ?_
                       go_frame; try simp only [nTF])
                    | (go_at_call 263; refine (HELC.out _ (HSD.out _ HC.out) (HSK.out _ HC.out)).mono ?_; rintro e w3 ⟨hb3, rfl⟩
                       rw [HEL.out]
                       have HC := Lib.hid (HC.out.trans (hb3.mono HC.out.size))
                       obtain ⟨y0, y3, y4, y5⟩ := HCELL.out _ HC.out
                       clear hb3)
                    | (go_at_call 264; refine (refFileBytes_any t _).mono ?_; rintro e w5 ⟨hb5, rfl⟩
                       rw [HFILE.out]
                       have HC := Lib.hid (HC.out.trans (hb5.mono HC.out.size))
                       obtain ⟨y0, y3, y4, y5⟩ := HCELL.out _ HC.out
                       clear hb5)
                    | (go_at_call 119; refine (runes_any t _ hts).mono ?_; rintro e w6 ⟨hb6, hr6⟩
                       rcases hr6 with ⟨rl, Ar, cr, hr6, rfl, -⟩ | ⟨hr6, -⟩
                       rotate_left
                       · exact absurd hr6 HRN.out
                       have HRL := Lib.hid hr6
                       clear hr6
                       have HC := Lib.hid (HC.out.trans (hb6.mono HC.out.size))
                       obtain ⟨y0, y3, y4, y5⟩ := HCELL.out _ HC.out
                       clear hb6))
                  have HRLN := Lib.hid (show rl.length = runesN t by unfold runesN; rw [HRL.out])
                  have hrl : rl.length ≤ 4096 := by have := runesN_le t; have := HRLN.out; have := HRZ.out; omega
                  have HZXW := hzxw
                  go_wp2_with fail
                  go_loopw [1, 12] (fun t1 t12 wr => ∃ (i : Nat) (Ai : Option Addr) (ci : Nat), i ≤ rl.length ∧ t12 = .int .i64 (i : Int) ∧ t1 = .slice Ai (mk.length + i) ci ∧ Hid (wr.ownsRow base 383 34 (.slice Ai (mk.length + i) ci) (mk.length + i) (rowsV madeV (mk ++ List.replicate i (false, d)))) ∧ Hid (Below base w wr) ∧ Hid (wr.rangeAt zx 1 (refV d)) ∧ Hid (∀ b, (Value.slice Ai (mk.length + i) ci).ownBlock = some b → b ≠ zx) ∧ Hid (zx < wr.heap.size)) (fun _ t12 _ => rl.length - (intOf t12).toNat)
                  case atStart =>
                    refine ⟨0, Am, cm, Nat.zero_le _, rfl, rfl, Lib.hid ?_, Lib.hid ((HBW.out.mono hbs).trans (HC.out.mono (qT hbs HBW.out.size))), Lib.hid (HD1.out _ HC.out), Lib.hid (fun b e h => by have h9 := (HOW.out.lt b e).2; rw [h, ← HZXW.out] at h9; omega), Lib.hid (qL HLX.out HC.out.size)⟩
                    rw [List.replicate_zero, List.append_nil]
                    exact (But.of_below (X := NoB) (HBW.out.trans (HC.out.mono HBW.out.size))).own HOW.out fun _ _ q => q
                  case round =>
                    obtain ⟨i, Ai, ci, hi, rfl, rfl, HOI, HBI, HDI, HNI, HLI⟩ := hrel
                    by_cases hlt : i < rl.length
                    · have i1 : (i : Int) < (rl.length : Int) := by omega
                      have HBAL := Lib.hid (show Below wr.heap.size wr (wr.alloc (.cells (madeV (false, d)).toArray 383)) from (qB _ _).alloc (qR _) _)
                      have HOA := Lib.hid ((But.of_below (X := NoB) HBAL.out).own HOI.out fun _ _ q => q)
                      have HBZ := Lib.hid (show base ≤ (wr.alloc (.cells (madeV (false, d)).toArray 383)).heap.size from qT hbs (qT (qT (show w.heap.size ≤ wr.heap.size from HBI.out.size) (qR _)) HBAL.out.size))
                      have HNW := Lib.hid (show ∀ j u, (madeV (false, d))[j]? = some u → (wr.alloc (.cells (madeV (false, d)).toArray 383)).cell? ((⟨wr.heap.size, 0, none⟩ : Addr).add j) = some u from fun j u hj => by
                        have e1 : (⟨wr.heap.size, 0, none⟩ : Addr).add j = ⟨wr.heap.size, j, none⟩ := by unfold Addr.add; split <;> simp_all
                        rw [e1]
                        exact (cells_at0 (heap_alloc_new _ _) j).trans hj)
                      go_wp2_with (first
                        | (with_reducible refine at_load ?_
                           refine wp_val (by rfl) (ldR HX.out.1.1 HDI.out) ?_)
                        | (with_reducible refine at_build ?_
                           refine wp_val (by rfl) (ex_build 383 #[(1, .tmp 148)] rfl (by simp only [List.map_toArray, List.map_cons, List.map_nil]; exact made_built8 (d := d) HX.out.1.1 _)) ?_)
                        | (refine wp_buildSlice1 (by rfl) 358 _ rfl 383 Tryz.underlying358 (.agg (madeV (false, zeroRef)).toArray) 34 48 infoMade8 rfl (by decide) (by decide) (madeV (false, d)) (madeV_length (m := (false, d)) HX.out.1.1) rfl ?_)
                        | (at_builtin; refine wp_appS_w (by rfl) _ _ 358 rfl base 383 (.agg (madeV (false, zeroRef)).toArray) 34 48 Tryz.underlying358 infoMade8 rfl (by decide) (.slice Ai (mk.length + i) ci) (mk.length + i) (rowsV madeV (mk ++ List.replicate i (false, d))) rfl (HOA.out) ⟨wr.heap.size, 0, none⟩ 1 1 (madeV (false, d)) rfl (by rw [Nat.one_mul]; exact madeV_length (m := (false, d)) HX.out.1.1) HNW.out (madeV_one _) (by unfold maxLen; omega) (by omega) HBZ.out ?_
                           intro v9 w9 ho9 hg9 hw9
                           obtain ⟨A9, c9, rfl⟩ := own_form' ho9
                           have HO9 := Lib.hid ho9
                           have HG9 := Lib.hid hg9; have HW9 := Lib.hid hw9
                           clear ho9 hg9 hw9))
                      have HN9 := Lib.hid (show ∀ b, (Value.slice A9 (mk.length + i + 1) c9).ownBlock = some b → b ≠ zx from fun b e h => by
                        rcases HW9.out with q | ⟨g, q, hz⟩
                        · exact HNI.out b (by rw [← q]; exact e) h
                        · rw [q] at e
                          have h2 : g = b := Option.some.inj e
                          have h3 := HLI.out
                          have h4 := HBAL.out.size
                          omega)
                      have HD9 := Lib.hid (show w9.rangeAt zx 1 (refV d) from fun j v hj => by
                        have h1 := HDI.out j v hj
                        have h2 := (HBAL.out.cell (p := ⟨zx, 1 + j, none⟩) HLI.out).trans h1
                        unfold World.cell? at h2 ⊢
                        rw [HG9.out.block zx (qL HLI.out HBAL.out.size) (fun e => HNI.out zx e.symm rfl)]
                        exact h2)
                      have HB9 := Lib.hid (show Below base w w9 from (HBI.out.trans (HBAL.out.mono (qT hbs HBI.out.size))).grown HG9.out (qT hbs (qT HBI.out.size HBAL.out.size)) (fun k e => (HOI.out.lt k e).1))
                      have HL9 := Lib.hid (show zx < w9.heap.size from qL HLI.out (qT HBAL.out.size HG9.out.size))
                      go_roundw
                      case rel => exact ⟨i + 1, A9, c9, by omega, by go_num, rfl, Lib.hid (by rw [List.replicate_succ', ← List.append_assoc, rowsV_app, ← Nat.add_assoc]; simpa [rowsV] using HO9.out), HB9, HD9, HN9, HL9⟩
                      case measure => (simp [intOf]) <;> omega
                    · have i1 : ¬ (i : Int) < (rl.length : Int) := by omega
                      have HIL := Lib.hid (show i = runesN t by rw [← HRLN.out]; omega)
                      have HMB := Lib.hid (show madeB (1, d, a, t, n, q) = List.replicate (runesN t) (false, d) from rfl)
                      go_wp2_with fail
                      go_ret2
                      exact ⟨HBI.out, fun h => absurd (HE.out.symm.trans h) (by decide), fun _ => ⟨Ai, ci, by rw [HMB.out, List.length_replicate, ← HIL.out]; rfl, by rw [HMB.out, List.length_replicate, ← HIL.out]; exact HOI.out⟩⟩
                · obtain ⟨fb, hfb, hfn⟩ := bytesS_no (Bool.eq_false_iff.2 hfile)
                  have HFILE := Lib.hid hfb
                  have efb : (fb != 0) = true := by simpa [bne, beq_eq_false_iff_ne] using hfn
                  clear hfb hfn
                  have HE : Hid (opB deps mk (1, d, a, t, n, q) = false) := Lib.hid (by unfold opB; rw [show partsOf (1 : UInt8) = some (true, true, true, false, false) from rfl]; simp [absentB, hdoc, hc, hq, had, hel1, ht, hfile])
                  clear hdoc hc hq had hel1 ht hfile
                  go_wp2_with (first
                    | (with_reducible refine at_load ?_
                       refine wp_val (by rfl) (ldR HX.out.1.1 (HD1.out _ HC.out)) ?_)
                    | (with_reducible refine at_load ?_
                       refine wp_val (by rfl) (ldR HX.out.1.2.1 (HA34.out _ HC.out)) ?_)
                    | (with_reducible refine at_load ?_
                       refine wp_val (by rfl) (ldR zeroRef_ok (HZ8.out _ HC.out)) ?_)
                    | (go_at_call 261; refine (refDoc_any deps mk d A c Am cm _ hn hmn HO.out HM.out HX.out.1.1 hset (HSD.out _ HC.out) (HSK.out _ HC.out)).mono ?_; rintro e w2 ⟨hb2, rfl⟩
                       rw [HDOC.out]
                       have HC := Lib.hid (HC.out.trans (hb2.mono HC.out.size))
                       obtain ⟨y0, y3, y4, y5⟩ := HCELL.out _ HC.out
                       clear hb2)
                    | (with_reducible refine at_binOp ?_
                       refine wp_val (by rfl) (ex_neq 110 _ _ _ rfl (xs := (refV a).toArray) (ys := (refV d).toArray) rfl rfl (r := false) eqRef.noGuard (EQAD.out _)) ?_
                       go_frame; try simp only [nTF])
                    | (go_at_call 263; refine (HELC.out _ (HSD.out _ HC.out) (HSK.out _ HC.out)).mono ?_; rintro e w3 ⟨hb3, rfl⟩
                       rw [HEL.out]
                       have HC := Lib.hid (HC.out.trans (hb3.mono HC.out.size))
                       obtain ⟨y0, y3, y4, y5⟩ := HCELL.out _ HC.out
                       clear hb3)
                    | (go_at_call 264; refine (refFileBytes_any t _).mono ?_; rintro e w5 ⟨hb5, rfl⟩
                       rw [HFILE.out]
                       have HC := Lib.hid (HC.out.trans (hb5.mono HC.out.size))
                       obtain ⟨y0, y3, y4, y5⟩ := HCELL.out _ HC.out
                       clear hb5))
                  go_ret2
                  exact ⟨(HBW.out.mono hbs).trans (HC.out.mono (qT hbs HBW.out.size)), fun _ => ⟨_, rfl⟩, fun h => absurd (HE.out.symm.trans h) (by decide)⟩
            · have HEL := Lib.hid (Bool.eq_false_iff.2 hel1)
              have HE : Hid (opB deps mk (1, d, a, t, n, q) = false) := Lib.hid (by unfold opB; rw [show partsOf (1 : UInt8) = some (true, true, true, false, false) from rfl]; simp [absentB, hdoc, hc, hq, had, hel1])
              clear hdoc hc hq had hel1
              go_wp2_with (first
                | (with_reducible refine at_load ?_
                   refine wp_val (by rfl) (ldR HX.out.1.1 (HD1.out _ HC.out)) ?_)
                | (with_reducible refine at_load ?_
                   refine wp_val (by rfl) (ldR HX.out.1.2.1 (HA34.out _ HC.out)) ?_)
                | (with_reducible refine at_load ?_
                   refine wp_val (by rfl) (ldR zeroRef_ok (HZ8.out _ HC.out)) ?_)
                | (go_at_call 261; refine (refDoc_any deps mk d A c Am cm _ hn hmn HO.out HM.out HX.out.1.1 hset (HSD.out _ HC.out) (HSK.out _ HC.out)).mono ?_; rintro e w2 ⟨hb2, rfl⟩
                   rw [HDOC.out]
                   have HC := Lib.hid (HC.out.trans (hb2.mono HC.out.size))
                   obtain ⟨y0, y3, y4, y5⟩ := HCELL.out _ HC.out
                   clear hb2)
                | (with_reducible refine at_binOp ?_
                   refine wp_val (by rfl) (ex_neq 110 _ _ _ rfl (xs := (refV a).toArray) (ys := (refV d).toArray) rfl rfl (r := false) eqRef.noGuard (EQAD.out _)) ?_
                   go_frame; try simp only [nTF])
                | (go_at_call 263; refine (HELC.out _ (HSD.out _ HC.out) (HSK.out _ HC.out)).mono ?_; rintro e w3 ⟨hb3, rfl⟩
                   rw [HEL.out]
                   have HC := Lib.hid (HC.out.trans (hb3.mono HC.out.size))
                   obtain ⟨y0, y3, y4, y5⟩ := HCELL.out _ HC.out
                   clear hb3))
              go_ret2
              exact ⟨(HBW.out.mono hbs).trans (HC.out.mono (qT hbs HBW.out.size)), fun _ => ⟨_, rfl⟩, fun h => absurd (HE.out.symm.trans h) (by decide)⟩
        · have eq : q.toList.isEmpty = false := by rw [isEmpty8]; exact dF hq
          have HE : Hid (opB deps mk (1, d, a, t, n, q) = false) := Lib.hid (by unfold opB; rw [show partsOf (1 : UInt8) = some (true, true, true, false, false) from rfl]; simp [absentB, hdoc, hc, hq])
          clear hdoc hc hq
          go_wp2_with (first
            | (with_reducible refine at_load ?_
               refine wp_val (by rfl) (ldR HX.out.1.1 (HD1.out _ HC.out)) ?_)
            | (with_reducible refine at_load ?_
               refine wp_val (by rfl) (ldR HX.out.1.2.1 (HA34.out _ HC.out)) ?_)
            | (with_reducible refine at_load ?_
               refine wp_val (by rfl) (ldR zeroRef_ok (HZ8.out _ HC.out)) ?_)
            | (go_at_call 261; refine (refDoc_any deps mk d A c Am cm _ hn hmn HO.out HM.out HX.out.1.1 hset (HSD.out _ HC.out) (HSK.out _ HC.out)).mono ?_; rintro e w2 ⟨hb2, rfl⟩
               rw [HDOC.out]
               have HC := Lib.hid (HC.out.trans (hb2.mono HC.out.size))
               obtain ⟨y0, y3, y4, y5⟩ := HCELL.out _ HC.out
               clear hb2))
          go_ret2
          exact ⟨(HBW.out.mono hbs).trans (HC.out.mono (qT hbs HBW.out.size)), fun _ => ⟨_, rfl⟩, fun h => absurd (HE.out.symm.trans h) (by decide)⟩
      · have HDOC := Lib.hid hdoc
        have ec : (n != 0) = true := by simpa [bne, beq_eq_false_iff_ne] using hc
        have HE : Hid (opB deps mk (1, d, a, t, n, q) = false) := Lib.hid (by unfold opB; rw [show partsOf (1 : UInt8) = some (true, true, true, false, false) from rfl]; simp [absentB, hdoc, hc])
        clear hdoc hc
        go_wp2_with (first
          | (with_reducible refine at_load ?_
             refine wp_val (by rfl) (ldR HX.out.1.1 (HD1.out _ HC.out)) ?_)
          | (with_reducible refine at_load ?_
             refine wp_val (by rfl) (ldR HX.out.1.2.1 (HA34.out _ HC.out)) ?_)
          | (with_reducible refine at_load ?_
             refine wp_val (by rfl) (ldR zeroRef_ok (HZ8.out _ HC.out)) ?_)
          | (go_at_call 261; refine (refDoc_any deps mk d A c Am cm _ hn hmn HO.out HM.out HX.out.1.1 hset (HSD.out _ HC.out) (HSK.out _ HC.out)).mono ?_; rintro e w2 ⟨hb2, rfl⟩
             rw [HDOC.out]
             have HC := Lib.hid (HC.out.trans (hb2.mono HC.out.size))
             obtain ⟨y0, y3, y4, y5⟩ := HCELL.out _ HC.out
             clear hb2))
        go_ret2
        exact ⟨(HBW.out.mono hbs).trans (HC.out.mono (qT hbs HBW.out.size)), fun _ => ⟨_, rfl⟩, fun h => absurd (HE.out.symm.trans h) (by decide)⟩
    · have HDOC := Lib.hid (Bool.eq_false_iff.2 hdoc)
      have HE : Hid (opB deps mk (1, d, a, t, n, q) = false) := Lib.hid (by unfold opB; rw [show partsOf (1 : UInt8) = some (true, true, true, false, false) from rfl]; simp [absentB, hdoc])
      clear hdoc
      go_wp2_with (first
        | (with_reducible refine at_load ?_
           refine wp_val (by rfl) (ldR HX.out.1.1 (HD1.out _ HC.out)) ?_)
        | (with_reducible refine at_load ?_
           refine wp_val (by rfl) (ldR HX.out.1.2.1 (HA34.out _ HC.out)) ?_)
        | (with_reducible refine at_load ?_
           refine wp_val (by rfl) (ldR zeroRef_ok (HZ8.out _ HC.out)) ?_)
        | (go_at_call 261; refine (refDoc_any deps mk d A c Am cm _ hn hmn HO.out HM.out HX.out.1.1 hset (HSD.out _ HC.out) (HSK.out _ HC.out)).mono ?_; rintro e w2 ⟨hb2, rfl⟩
           rw [HDOC.out]
           have HC := Lib.hid (HC.out.trans (hb2.mono HC.out.size))
           obtain ⟨y0, y3, y4, y5⟩ := HCELL.out _ HC.out
           clear hb2))
      go_ret2
      exact ⟨(HBW.out.mono hbs).trans (HC.out.mono (qT hbs HBW.out.size)), fun _ => ⟨_, rfl⟩, fun h => absurd (HE.out.symm.trans h) (by decide)⟩
  have HPN := Lib.hid (show partsOf k = none by unfold partsOf; simp [h1, h2, h3, h4, h5])
  have ek1 : ((k.toNat : Int) == 1) = false := by rw [beq_eq_false_iff_ne]; intro h; exact h1 (by apply UInt8.toNat_inj.1; show k.toNat = 1; omega)
  have en1 : ((k.toNat : Int) != 1) = true := by simp only [bne, ek1, Bool.not_false]
  have ek2 : ((k.toNat : Int) == 2) = false := by rw [beq_eq_false_iff_ne]; intro h; exact h2 (by apply UInt8.toNat_inj.1; show k.toNat = 2; omega)
  have en2 : ((k.toNat : Int) != 2) = true := by simp only [bne, ek2, Bool.not_false]
  have ek3 : ((k.toNat : Int) == 3) = false := by rw [beq_eq_false_iff_ne]; intro h; exact h3 (by apply UInt8.toNat_inj.1; show k.toNat = 3; omega)
  have en3 : ((k.toNat : Int) != 3) = true := by simp only [bne, ek3, Bool.not_false]
  have ek4 : ((k.toNat : Int) == 4) = false := by rw [beq_eq_false_iff_ne]; intro h; exact h4 (by apply UInt8.toNat_inj.1; show k.toNat = 4; omega)
  have en4 : ((k.toNat : Int) != 4) = true := by simp only [bne, ek4, Bool.not_false]
  have ek5 : ((k.toNat : Int) == 5) = false := by rw [beq_eq_false_iff_ne]; intro h; exact h5 (by apply UInt8.toNat_inj.1; show k.toNat = 5; omega)
  have en5 : ((k.toNat : Int) != 5) = true := by simp only [bne, ek5, Bool.not_false]
  clear h1 h2 h3 h4 h5
  by_cases hdoc : docB deps mk d = true
  rotate_left
  focus
    have HDOC := Lib.hid (Bool.eq_false_iff.2 hdoc)
    have HE : Hid (opB deps mk (k, d, a, t, n, q) = false) := Lib.hid (by unfold opB; rw [HPN.out])
    clear hdoc
  rotate_right
  have HDOC := Lib.hid hdoc
  by_cases ht : t = noneS
  rotate_left
  focus
    have et : t.toList.isEmpty = false := by rw [isEmpty8]; exact dF ht
    have HE : Hid (opB deps mk (k, d, a, t, n, q) = false) := Lib.hid (by unfold opB; rw [HPN.out])
    clear hdoc ht
  rotate_right
  have et : t.toList.isEmpty = true := by rw [isEmpty8]; exact dT ht
  by_cases hc : n = 0
  rotate_left
  focus
    have ec : (n != 0) = true := by simpa [bne, beq_eq_false_iff_ne] using hc
    have HE : Hid (opB deps mk (k, d, a, t, n, q) = false) := Lib.hid (by unfold opB; rw [HPN.out])
    clear hdoc ht hc
  rotate_right
  have ec : (n != 0) = false := by rw [hc]; rfl
  by_cases haz : a = zeroRef
  rotate_left
  focus
    have EQA := Lib.hid (fun (u : World) => (run_eqRef HX.out.1.2.1 zeroRef_ok u).trans (by rw [dF haz]))
    have HE : Hid (opB deps mk (k, d, a, t, n, q) = false) := Lib.hid (by unfold opB; rw [HPN.out])
    clear hdoc ht hc haz
  rotate_right
  have EQA := Lib.hid (fun (u : World) => (run_eqRef HX.out.1.2.1 zeroRef_ok u).trans (by rw [dT haz]))
  by_cases hq : q = noneS
  rotate_left
  focus
    have eq : q.toList.isEmpty = false := by rw [isEmpty8]; exact dF hq
    have HE : Hid (opB deps mk (k, d, a, t, n, q) = false) := Lib.hid (by unfold opB; rw [HPN.out])
    clear hdoc ht hc haz hq
  rotate_right
  have eq : q.toList.isEmpty = true := by rw [isEmpty8]; exact dT hq
  · have HE : Hid (opB deps mk (k, d, a, t, n, q) = false) := Lib.hid (by unfold opB; rw [HPN.out])
    clear hdoc ht hc haz hq
    go_upto_region 22 with (first
      | (with_reducible refine at_load ?_
         refine wp_val (by rfl) (ldR HX.out.1.1 (HD1.out _ HC.out)) ?_)
      | (with_reducible refine at_load ?_
         refine wp_val (by rfl) (ldR HX.out.1.2.1 (HA34.out _ HC.out)) ?_)
      | (with_reducible refine at_load ?_
         refine wp_val (by rfl) (ldR zeroRef_ok (HZ8.out _ HC.out)) ?_)
      | (go_at_call 261; refine (refDoc_any deps mk d A c Am cm _ hn hmn HO.out HM.out HX.out.1.1 hset (HSD.out _ HC.out) (HSK.out _ HC.out)).mono ?_; rintro e w2 ⟨hb2, rfl⟩
         rw [HDOC.out]
         have HC := Lib.hid (HC.out.trans (hb2.mono HC.out.size))
         obtain ⟨y0, y3, y4, y5⟩ := HCELL.out _ HC.out
         clear hb2)
      | (with_reducible refine at_binOp ?_
         refine wp_val (by rfl) (ex_neq 110 _ _ _ rfl (xs := (refV a).toArray) (ys := (refV zeroRef).toArray) rfl rfl (r := true) eqRef.noGuard (EQA.out _)) ?_
         go_frame; try simp only [nTF]))
    have y0w := Wg.cell y0 (qL HLX.out HC.out.size)
    clear y0 y3 y4 y5
    try simp only [Act.put, List.setIfInBounds_toArray, List.set_cons_zero, List.set_cons_succ]
    refine wp_region_wr (by kernel_rfl) (by kernel_rfl) ?_
    repeat (first
      | go_big_quiet_skip
      | (go_big_quiet_want
         first
           | (go_big_quiet_op
              first
                | go_big_quiet_on
                | go_big_quiet_call (first | (fail)))))
    refine wpQuiet_nil ?_
    rintro w' ⟨kk, rfl⟩
    have hk9 := kk.2
    generalize kk.val = w9 at *
    clear kk
    have HC := Lib.hid (HC.out.trans (hk9.below.mono HC.out.size))
    clear hk9
    go_wp2_with fail
    go_ret2
    exact ⟨(HBW.out.mono hbs).trans (HC.out.mono (qT hbs HBW.out.size)), fun _ => ⟨_, rfl⟩, fun h => absurd (HE.out.symm.trans h) (by decide)⟩
  all_goals
    go_wp2_with (first
      | (with_reducible refine at_load ?_
         refine wp_val (by rfl) (ldR HX.out.1.1 (HD1.out _ HC.out)) ?_)
      | (with_reducible refine at_load ?_
         refine wp_val (by rfl) (ldR HX.out.1.2.1 (HA34.out _ HC.out)) ?_)
      | (with_reducible refine at_load ?_
         refine wp_val (by rfl) (ldR zeroRef_ok (HZ8.out _ HC.out)) ?_)
      | (go_at_call 261; refine (refDoc_any deps mk d A c Am cm _ hn hmn HO.out HM.out HX.out.1.1 hset (HSD.out _ HC.out) (HSK.out _ HC.out)).mono ?_; rintro e w2 ⟨hb2, rfl⟩
         rw [HDOC.out]
         have HC := Lib.hid (HC.out.trans (hb2.mono HC.out.size))
         obtain ⟨y0, y3, y4, y5⟩ := HCELL.out _ HC.out
         clear hb2)
      | (with_reducible refine at_binOp ?_
         refine wp_val (by rfl) (ex_neq 110 _ _ _ rfl (xs := (refV a).toArray) (ys := (refV zeroRef).toArray) rfl rfl (r := _) eqRef.noGuard (EQA.out _)) ?_
         go_frame; try simp only [nTF]))
    go_ret2
    exact ⟨(HBW.out.mono hbs).trans (HC.out.mono (qT hbs HBW.out.size)), fun _ => ⟨_, rfl⟩, fun h => absurd (HE.out.symm.trans h) (by decide)⟩
theorem refOp_any (base : Nat) (deps : List (List UInt8)) (mk : List MadeD) (x : OpD) (A : Option Addr) (c : Nat) (Am : Option Addr) (cm : Nat) (w : World) (hn : deps.length ≤ 1099511627776) (hmn : mk.length ≤ 1000000000) (ho : IdsOk deps) (hm : ∀ m ∈ mk, MadeOk m) (hx : OpIn x) (hset : isSetB deps = true) (hs : Sl w w.heap.size A deps.length 32 (idsV deps)) (how : w.ownsRow base 383 34 (.slice Am mk.length cm) mk.length (rowsV madeV mk)) (hbs : base ≤ w.heap.size) :
    Calls Tryz.prog 237 #[.slice A deps.length c, .slice Am mk.length cm, .agg (opV x).toArray] w (OpGives base deps mk x w) := by
  obtain ⟨k, d, a, t, n, q⟩ := x
  exact refOp_all base deps mk k d a t n q A c Am cm w hn hmn ho hm hx hset hs how hbs
end Go.Proofs.YtdgbjhfkmembdaaGreatDoor
