/-
  What the document's op gives: inserts. Conditions: ids of 32 bytes; at most 2^40 of them; the changes hung on are a set; what was made lies in a row of the call's own.
-/
import Derived.Test.YthjaepmfkgejkaaGreatDoorRefDoc8
import Derived.Test.YthjaepmfkgejkaaGreatDoorRefIn8
import Derived.Test.YthjaepmfkgejkaaGreatDoorObjAbsent
import Derived.Test.YthjaepmfkgejkaaGreatDoorParts
import Derived.Test.YthjaepmfkgejkaaGreatDoorRunes
import Derived.Test.YthjaepmfkgejkaaGreatDoorBuild
import Derived.Test.YthjaepmfkgejkaaGreatDoorRight08S
import Derived.Test.YthjaepmfkgejkaaGreatDoorObjRight1
namespace Go.Proofs.YthjaepmfkgejkaaGreatDoor
open Go.RowKit Go.Maps
set_option linter.unusedVariables false
set_option linter.unusedSimpArgs false

theorem zeroRef_run8 (w : World) : (zeroValue 68).run Tryz.prog w = .ok (.agg (refV zeroRef).toArray) w := by kernel_rfl
theorem zeroRef_built8 (w : World) : (Instr.build 68 #[]).run Tryz.prog w = .ok (.agg (refV zeroRef).toArray) w := by kernel_rfl
theorem infoMade8 : (Tryz.prog.info? 166).map (fun i => (i.zero, i.size, i.bytes)) = some (some (.agg (madeV (false, zeroRef)).toArray), 34, 48) := by kernel_rfl
theorem madeDoc_built8 (w : World) : (Instr.build 166 #[(0, .bool true)]).run Tryz.prog w = .ok (.agg (madeV (true, zeroRef)).toArray) w := by kernel_rfl
theorem made_built8 {d : RefD} (hd : RefOk d) (w : World) : (Instr.build 166 #[(1, .agg (refV d).toArray)]).run Tryz.prog w = .ok (.agg (madeV (false, d)).toArray) w := by
  obtain ⟨i, hi, hz, _, _⟩ := info_parts infoMade8
  have hk : (refV zeroRef).length = 33 := rfl
  have h := built_struct (P := Tryz.prog) hi Tryz.underlying166 hz [[.bool false], refV zeroRef] rfl (places := [(0, 1), (1, 33)]) (by kernel_rfl) (by kernel_rfl) [(1, .agg (refV d).toArray)] (by
    intro q hq
    simp only [List.mem_cons, List.not_mem_nil, or_false] at hq
    subst hq
    exact ⟨by show 1 < 2; omega, by show (refV d).toArray.size = 33; rw [List.size_toArray, refV_length hd]⟩)
  have h2 := run_build (P := Tryz.prog) w 166 #[(1, .agg (refV d).toArray)] _ h
  refine h2.trans ?_
  simp [madeV, Value.cells]
theorem bytesS_ok {t : ByteArray} (h : fileB t = true) : bytesS t = 0 := by
  unfold fileB at h
  simp only [Bool.and_eq_true, decide_eq_true_eq] at h
  unfold bytesS
  rw [if_neg (by omega), if_pos h.2]
theorem bytesS_no {t : ByteArray} (h : fileB t = false) : ∃ fb, bytesS t = fb ∧ fb ≠ 0 := by
  refine ⟨_, rfl, ?_⟩
  unfold fileB at h
  unfold bytesS
  split
  · decide
  · rename_i hs
    rw [decide_eq_true (show t.size ≤ 4096 by omega), Bool.true_and] at h
    rw [if_neg (by rw [h]; decide)]
    decide
theorem runes_ok {t : ByteArray} (h : fileB t = true) : runesOf t ≠ none := by
  unfold fileB at h
  simp only [Bool.and_eq_true] at h
  intro hn
  have h2 := h.2
  unfold isText at h2
  rw [hn] at h2
  exact absurd h2 (by simp)
/-- What the document's op gives. -/
def OpGives (base : Nat) (deps : List (List UInt8)) (mk : List MadeD) (x : OpD) (w : World) (e : Ending) (w' : World) : Prop :=
  Below base w w' ∧ (opB deps mk x = false → ∃ v, e = .returned (.tuple #[v, .bool false])) ∧
  (opB deps mk x = true → ∃ A c, e = .returned (.tuple #[.slice A (mk.length + (madeB x).length) c, .bool true]) ∧ w'.ownsRow base 166 34 (.slice A (mk.length + (madeB x).length) c) (mk.length + (madeB x).length) (rowsV madeV (mk ++ madeB x)))
set_option maxHeartbeats 4000000 in
set_option maxRecDepth 100000 in
theorem refOp_1 (base : Nat) (deps : List (List UInt8)) (mk : List MadeD) (d a : RefD) (t : ByteArray) (n : Int) (q : ByteArray) (A : Option Addr) (c : Nat) (Am : Option Addr) (cm : Nat) (w : World) (hn : deps.length ≤ 1099511627776) (hmn : mk.length ≤ 1000000000) (ho : IdsOk deps) (hm : ∀ m ∈ mk, MadeOk m) (hx : OpIn (1, d, a, t, n, q)) (hset : isSetB deps = true) (hs : Sl w w.heap.size A deps.length 32 (idsV deps)) (how : w.ownsRow base 166 34 (.slice Am mk.length cm) mk.length (rowsV madeV mk)) (hbs : base ≤ w.heap.size) :
    Calls Tryz.prog 80 #[.slice A deps.length c, .slice Am mk.length cm, .agg (opV (1, d, a, t, n, q)).toArray] w (OpGives base deps mk (1, d, a, t, n, q) w) := by
  have HO := Lib.hid ho; have HS := Lib.hid hs; have HM := Lib.hid hm; have HX := Lib.hid hx; have HOW := Lib.hid how; have HSM := Lib.hid (Sl.of_own how)
  have hmn : mk.length ≤ 1099511627776 := by omega
  clear ho hs hm hx how
  go_enter Tryz.func80, Tryz.ntmps80
  go_upto_region 2 with (first
    | (with_reducible refine at_box ?_
       refine wp_boxM (by rfl) 70 _ rfl (opV (1, d, a, t, n, q)) _ rfl rfl (by rw [opV_length HX.out]; exact sizeOp70) ?_
       intro W0 hb0 hy0 hs0
       have HB0 := Lib.hid hb0; have HY0 := Lib.hid hy0
       clear hb0 hy0 hs0)
    | (with_reducible refine at_build ?_
       refine wp_val (by rfl) (ex_build 68 #[] rfl (zeroRef_built8 _)) ?_)
    | (with_reducible refine at_alloc ?_
       refine wp_allocM (by rfl) 68 rfl (refV zeroRef) (zeroRef_run8 _) ?_
       intro Wa hba hya hsa
       have HBa := Lib.hid hba; have HYa := Lib.hid hya
       clear hba hya hsa)
    | (with_reducible refine at_store ?_
       refine wp_storeM (by rfl) 68 _ _ rfl W0.heap.size 0 [] (refV zeroRef) [] (refV zeroRef) 68 _ rfl rfl rfl rfl (by simpa using HYa.out) rfl (by kernel_rfl) (refV_one _) ?_
       intro W1 hbb hyb hsb
       have HB1 := Lib.hid (HBa.out.trans (hbb.below HBa.out.size (fun k hk e => by have e' : k = W0.heap.size := e; omega)))
       have HY1 : Hid (W1.heap[W0.heap.size]? = some (.cells (refV zeroRef).toArray 68 (0, 0))) := Lib.hid (by simpa using hyb)
       clear hbb hyb hsb))
  obtain ⟨zx, hzx⟩ : ∃ z, w.heap.size = z := ⟨_, rfl⟩
  obtain ⟨z8, hz8⟩ : ∃ z, W0.heap.size = z := ⟨_, rfl⟩
  have l0 := (Array.getElem?_eq_some_iff.1 HY0.out).1
  have HYX := Lib.hid ((HB1.out.block _ l0).trans HY0.out)
  have HLX := Lib.hid (show zx < W1.heap.size by rw [← hzx]; exact Nat.lt_of_lt_of_le l0 HB1.out.size)
  have HL8 := Lib.hid (show z8 < W1.heap.size by rw [← hz8]; exact (Array.getElem?_eq_some_iff.1 HY1.out).1)
  have HBW := Lib.hid (HB0.out.trans (HB1.out.mono HB0.out.size))
  rw [hzx] at HYX ⊢
  rw [hz8] at HY1 ⊢
  try simp only [Act.put, List.setIfInBounds_toArray, List.set_cons_zero, List.set_cons_succ]
  have hzxw : Hid (w.heap.size = zx) := Lib.hid hzx
  clear hzx hz8 l0 HY0 HB0 HB1 HBa HYa
  have HCELL := Lib.hid (fun (u : World) (hu : Below W1.heap.size W1 u) => (show u.cell? ⟨zx, 0, none⟩ = some (.int .u8 (1 : Int)) ∧ u.cell? ⟨zx, 67, none⟩ = some (.string t) ∧ u.cell? ⟨zx, 68, none⟩ = some (.int .i64 n) ∧ u.cell? ⟨zx, 69, none⟩ = some (.string q) from
    ⟨(hu.cell (p := ⟨zx, 0, none⟩) HLX.out).trans (cells_at0 HYX.out 0), (hu.cell (p := ⟨zx, 67, none⟩) HLX.out).trans ((cells_at0 HYX.out 67).trans (op_cells HX.out).2.2.2.1), (hu.cell (p := ⟨zx, 68, none⟩) HLX.out).trans ((cells_at0 HYX.out 68).trans (op_cells HX.out).2.2.2.2.1), (hu.cell (p := ⟨zx, 69, none⟩) HLX.out).trans ((cells_at0 HYX.out 69).trans (op_cells HX.out).2.2.2.2.2)⟩))
  have HD1 := Lib.hid (fun (u : World) (hu : Below W1.heap.size W1 u) => (show u.rangeAt zx 1 (refV d) from fun j v hj => (hu.cell (p := ⟨zx, 1 + j, none⟩) HLX.out).trans ((cells_at0 HYX.out (1 + j)).trans ((op_cells HX.out).2.1 j v hj))))
  have HA34 := Lib.hid (fun (u : World) (hu : Below W1.heap.size W1 u) => (show u.rangeAt zx 34 (refV a) from fun j v hj => (hu.cell (p := ⟨zx, 34 + j, none⟩) HLX.out).trans ((cells_at0 HYX.out (34 + j)).trans ((op_cells HX.out).2.2.1 j v hj))))
  have HZ8 := Lib.hid (fun (u : World) (hu : Below W1.heap.size W1 u) => (show u.rangeAt z8 0 (refV zeroRef) from fun j v hj => by rw [Nat.zero_add]; exact ((hu.cell (p := ⟨z8, j, none⟩) HL8.out).trans (cells_at0 HY1.out j)).trans hj))
  have HSD := Lib.hid (fun (u : World) (hu : Below W1.heap.size W1 u) => (HS.out.keep (HBW.out.trans (hu.mono HBW.out.size))).more (Nat.le_trans HBW.out.size hu.size))
  have HSK := Lib.hid (fun (u : World) (hu : Below W1.heap.size W1 u) => (HSM.out.keep (HBW.out.trans (hu.mono HBW.out.size))).more (Nat.le_trans HBW.out.size hu.size))
  have HC := Lib.hid (Below.refl W1.heap.size W1)
  obtain ⟨y0, y3, y4, y5⟩ := HCELL.out _ HC.out
  clear HYX HY1
  by_cases hdoc : docB deps mk d = true
  · by_cases hc : n = 0
    · by_cases hq : q = noneS
      · by_cases had : a = d
        · by_cases ht : t = noneS
          · have HDOC := Lib.hid hdoc
            have ec : (n != 0) = false := by rw [hc]; rfl
            have eq : q.toList.isEmpty = true := by rw [isEmpty8]; exact decide_eq_true hq
            have EQAD := Lib.hid (fun (u : World) => (run_eqRef HX.out.1.2.1 HX.out.1.1 u).trans (by rw [decide_eq_true had]))
            have et : t.toList.isEmpty = true := by rw [isEmpty8]; exact decide_eq_true ht
            have HE : Hid (opB deps mk (1, d, a, t, n, q) = false) := Lib.hid (by unfold opB; rw [show partsOf (1 : UInt8) = some (true, true, true, false, false) from rfl]; simp [absentB, hdoc, hc, hq, had, ht])
            clear hdoc hc hq had ht
            go_wp2_with (first
              | (with_reducible refine at_load ?_
                 refine wp_val (by rfl) (ex_load 68 _ rfl (p := ⟨zx, 1, none⟩) rfl (run_loadVar_mid _ _ _ _ (refV d) _ (HD1.out _ HC.out) Tryz.underlying68 rfl (by rw [refV_length HX.out.1.1]; exact sizeRef8))) ?_)
              | (with_reducible refine at_load ?_
                 refine wp_val (by rfl) (ex_load 68 _ rfl (p := ⟨zx, 34, none⟩) rfl (run_loadVar_mid _ _ _ _ (refV a) _ (HA34.out _ HC.out) Tryz.underlying68 rfl (by rw [refV_length HX.out.1.2.1]; exact sizeRef8))) ?_)
              | (with_reducible refine at_load ?_
                 refine wp_val (by rfl) (ex_load 68 _ rfl (p := ⟨z8, 0, none⟩) rfl (run_loadVar_mid _ _ _ _ (refV zeroRef) _ (HZ8.out _ HC.out) Tryz.underlying68 rfl (by rw [refV_length zeroRef_ok]; exact sizeRef8))) ?_)
              | (go_at_call 107; refine (refDoc_any deps mk d A c Am cm _ hn hmn HO.out HM.out HX.out.1.1 hset (HSD.out _ HC.out) (HSK.out _ HC.out)).mono ?_; rintro e w2 ⟨hb2, rfl⟩
                 rw [HDOC.out]
                 have HC := Lib.hid (HC.out.trans (hb2.mono HC.out.size))
                 obtain ⟨y0, y3, y4, y5⟩ := HCELL.out _ HC.out
                 clear hb2)
              | (with_reducible refine at_binOp ?_
                 refine wp_val (by rfl) (ex_neq 68 _ _ _ rfl (xs := (refV a).toArray) (ys := (refV d).toArray) rfl rfl (r := true) eqRef.noGuard (EQAD.out _)) ?_
                 simp only [Act.put, List.setIfInBounds_toArray, List.set_cons_zero, List.set_cons_succ, Bool.not_true, Bool.not_false]))
            go_ret2
            exact ⟨(HBW.out.mono hbs).trans (HC.out.mono (Nat.le_trans hbs HBW.out.size)), fun _ => ⟨_, rfl⟩, fun h => absurd (HE.out.symm.trans h) (by decide)⟩
          · by_cases hfile : fileB t = true
            all_goals
              have HDOC := Lib.hid hdoc
              have ec : (n != 0) = false := by rw [hc]; rfl
              have eq : q.toList.isEmpty = true := by rw [isEmpty8]; exact decide_eq_true hq
              have EQAD := Lib.hid (fun (u : World) => (run_eqRef HX.out.1.2.1 HX.out.1.1 u).trans (by rw [decide_eq_true had]))
              have et : t.toList.isEmpty = false := by rw [isEmpty8]; exact decide_eq_false ht
            · have HFILE := Lib.hid (bytesS_ok hfile)
              have hts : t.size ≤ 1099511627776 := by have := fileB_size hfile; omega
              have HRN := Lib.hid (show runesOf t ≠ none from runes_ok hfile)
              have HRZ := Lib.hid (fileB_size hfile)
              have HE : Hid (opB deps mk (1, d, a, t, n, q) = true) := Lib.hid (by unfold opB; rw [show partsOf (1 : UInt8) = some (true, true, true, false, false) from rfl]; simp [absentB, hdoc, hc, hq, had, ht, hfile])
              clear hdoc hc hq had ht hfile
              go_upto_region 13 with (first
                | (with_reducible refine at_load ?_
                   refine wp_val (by rfl) (ex_load 68 _ rfl (p := ⟨zx, 1, none⟩) rfl (run_loadVar_mid _ _ _ _ (refV d) _ (HD1.out _ HC.out) Tryz.underlying68 rfl (by rw [refV_length HX.out.1.1]; exact sizeRef8))) ?_)
                | (with_reducible refine at_load ?_
                   refine wp_val (by rfl) (ex_load 68 _ rfl (p := ⟨zx, 34, none⟩) rfl (run_loadVar_mid _ _ _ _ (refV a) _ (HA34.out _ HC.out) Tryz.underlying68 rfl (by rw [refV_length HX.out.1.2.1]; exact sizeRef8))) ?_)
                | (with_reducible refine at_load ?_
                   refine wp_val (by rfl) (ex_load 68 _ rfl (p := ⟨z8, 0, none⟩) rfl (run_loadVar_mid _ _ _ _ (refV zeroRef) _ (HZ8.out _ HC.out) Tryz.underlying68 rfl (by rw [refV_length zeroRef_ok]; exact sizeRef8))) ?_)
                | (go_at_call 107; refine (refDoc_any deps mk d A c Am cm _ hn hmn HO.out HM.out HX.out.1.1 hset (HSD.out _ HC.out) (HSK.out _ HC.out)).mono ?_; rintro e w2 ⟨hb2, rfl⟩
                   rw [HDOC.out]
                   have HC := Lib.hid (HC.out.trans (hb2.mono HC.out.size))
                   obtain ⟨y0, y3, y4, y5⟩ := HCELL.out _ HC.out
                   clear hb2)
                | (with_reducible refine at_binOp ?_
                   refine wp_val (by rfl) (ex_neq 68 _ _ _ rfl (xs := (refV a).toArray) (ys := (refV d).toArray) rfl rfl (r := true) eqRef.noGuard (EQAD.out _)) ?_
                   simp only [Act.put, List.setIfInBounds_toArray, List.set_cons_zero, List.set_cons_succ, Bool.not_true, Bool.not_false])
                | (go_at_call 110; refine (refFileBytes_any t _).mono ?_; rintro e w5 ⟨hb5, rfl⟩
                   rw [HFILE.out]
                   have HC := Lib.hid (HC.out.trans (hb5.mono HC.out.size))
                   obtain ⟨y0, y3, y4, y5⟩ := HCELL.out _ HC.out
                   clear hb5)
                | (go_at_call 45; refine (runes_any t _ hts).mono ?_; rintro e w6 ⟨hb6, hr6⟩
                   rcases hr6 with ⟨rl, Ar, cr, hr6, rfl, -⟩ | ⟨hr6, -⟩
                   rotate_left
                   · exact absurd hr6 HRN.out
                   have HRL := Lib.hid hr6
                   clear hr6
                   have HC := Lib.hid (HC.out.trans (hb6.mono HC.out.size))
                   obtain ⟨y0, y3, y4, y5⟩ := HCELL.out _ HC.out
                   clear hb6))
              have HRLN := Lib.hid (show rl.length = runesN t by unfold runesN; rw [HRL.out])
              have hrl : rl.length ≤ 4096 := by have := runesN_le t; have := HRLN.out; have := HRZ.out; omega
              have HZXW := hzxw
              go_wp2_with fail
              go_loopw [1, 12] (fun t1 t12 wr => ∃ (i : Nat) (Ai : Option Addr) (ci : Nat), i ≤ rl.length ∧ t12 = .int .i64 (i : Int) ∧ t1 = .slice Ai (mk.length + i) ci ∧ Hid (wr.ownsRow base 166 34 (.slice Ai (mk.length + i) ci) (mk.length + i) (rowsV madeV (mk ++ List.replicate i (false, d)))) ∧ Hid (Below base w wr) ∧ Hid (wr.rangeAt zx 1 (refV d)) ∧ Hid (∀ b, (Value.slice Ai (mk.length + i) ci).ownBlock = some b → b ≠ zx) ∧ Hid (zx < wr.heap.size)) (fun _ t12 _ => rl.length - (intOf t12).toNat)
              case atStart =>
                refine ⟨0, Am, cm, Nat.zero_le _, rfl, rfl, Lib.hid ?_, Lib.hid ((HBW.out.mono hbs).trans (HC.out.mono (Nat.le_trans hbs HBW.out.size))), Lib.hid (HD1.out _ HC.out), Lib.hid (fun b e h => by have h9 := (HOW.out.lt b e).2; rw [h, ← HZXW.out] at h9; omega), Lib.hid (Nat.lt_of_lt_of_le HLX.out HC.out.size)⟩
                rw [List.replicate_zero, List.append_nil]
                exact (But.of_below (X := NoB) (HBW.out.trans (HC.out.mono HBW.out.size))).own HOW.out fun _ _ q => q
              case round =>
                obtain ⟨i, Ai, ci, hi, rfl, rfl, HOI, HBI, HDI, HNI, HLI⟩ := hrel
                by_cases hlt : i < rl.length
                · have i1 : (i : Int) < (rl.length : Int) := by omega
                  have HBAL := Lib.hid (show Below wr.heap.size wr (wr.alloc (.cells (madeV (false, d)).toArray 166)) from (Below.refl _ _).alloc (Nat.le_refl _) _)
                  have HOA := Lib.hid ((But.of_below (X := NoB) HBAL.out).own HOI.out fun _ _ q => q)
                  have HBZ := Lib.hid (show base ≤ (wr.alloc (.cells (madeV (false, d)).toArray 166)).heap.size from Nat.le_trans hbs (Nat.le_trans (Nat.le_trans (show w.heap.size ≤ wr.heap.size from HBI.out.size) (Nat.le_refl _)) HBAL.out.size))
                  have HNW := Lib.hid (show ∀ j u, (madeV (false, d))[j]? = some u → (wr.alloc (.cells (madeV (false, d)).toArray 166)).cell? ((⟨wr.heap.size, 0, none⟩ : Addr).add j) = some u from fun j u hj => by
                    have e1 : (⟨wr.heap.size, 0, none⟩ : Addr).add j = ⟨wr.heap.size, j, none⟩ := by unfold Addr.add; split <;> simp_all
                    rw [e1]
                    exact (cells_at0 (heap_alloc_new _ _) j).trans hj)
                  go_wp2_with (first
                    | (with_reducible refine at_load ?_
                       refine wp_val (by rfl) (ex_load 68 _ rfl (p := ⟨zx, 1, none⟩) rfl (run_loadVar_mid _ _ _ _ (refV d) _ HDI.out Tryz.underlying68 rfl (by rw [refV_length HX.out.1.1]; exact sizeRef8))) ?_)
                    | (with_reducible refine at_build ?_
                       refine wp_val (by rfl) (ex_build 166 #[(1, .tmp 148)] rfl (by simp only [List.map_toArray, List.map_cons, List.map_nil]; exact made_built8 (d := d) HX.out.1.1 _)) ?_)
                    | (refine wp_buildSlice1 (by rfl) 131 _ rfl 166 Tryz.underlying131 (.agg (madeV (false, zeroRef)).toArray) 34 48 infoMade8 rfl (by decide) (by decide) (madeV (false, d)) (madeV_length (m := (false, d)) HX.out.1.1) rfl ?_)
                    | (at_builtin; refine wp_appS_w (by rfl) _ _ 131 rfl base 166 (.agg (madeV (false, zeroRef)).toArray) 34 48 Tryz.underlying131 infoMade8 rfl (by decide) (.slice Ai (mk.length + i) ci) (mk.length + i) (rowsV madeV (mk ++ List.replicate i (false, d))) rfl (HOA.out) ⟨wr.heap.size, 0, none⟩ 1 1 (madeV (false, d)) rfl (by rw [Nat.one_mul]; exact madeV_length (m := (false, d)) HX.out.1.1) HNW.out (madeV_one _) (by unfold maxLen; omega) (by omega) HBZ.out ?_
                       intro v9 w9 ho9 hg9 hw9
                       obtain ⟨A9, c9, rfl⟩ := own_form' ho9
                       have HO9 := Lib.hid ho9
                       have HG9 := Lib.hid hg9; have HW9 := Lib.hid hw9
                       clear ho9 hg9 hw9))
                  have HN9 := Lib.hid (show ∀ b, (Value.slice A9 (mk.length + i + 1) c9).ownBlock = some b → b ≠ zx from fun b e h => by
                    rcases HW9.out with q | ⟨g, q, hz⟩
                    · exact HNI.out b (by rw [← q]; exact e) h
                    · rw [q] at e
                      have h2 : g = b := Option.some.inj e
                      have h3 := HLI.out
                      have h4 := HBAL.out.size
                      omega)
                  have HD9 := Lib.hid (show w9.rangeAt zx 1 (refV d) from fun j v hj => by
                    have h1 := HDI.out j v hj
                    have h2 := (HBAL.out.cell (p := ⟨zx, 1 + j, none⟩) HLI.out).trans h1
                    unfold World.cell? at h2 ⊢
                    rw [HG9.out.block zx (Nat.lt_of_lt_of_le HLI.out HBAL.out.size) (fun e => HNI.out zx e.symm rfl)]
                    exact h2)
                  have HB9 := Lib.hid (show Below base w w9 from (HBI.out.trans (HBAL.out.mono (Nat.le_trans hbs HBI.out.size))).grown HG9.out (Nat.le_trans hbs (Nat.le_trans HBI.out.size HBAL.out.size)) (fun k e => (HOI.out.lt k e).1))
                  have HL9 := Lib.hid (show zx < w9.heap.size from Nat.lt_of_lt_of_le HLI.out (Nat.le_trans HBAL.out.size HG9.out.size))
                  go_roundw
                  case rel => exact ⟨i + 1, A9, c9, by omega, by go_num, rfl, Lib.hid (by rw [List.replicate_succ', ← List.append_assoc, rowsV_app, ← Nat.add_assoc]; simpa [rowsV] using HO9.out), HB9, HD9, HN9, HL9⟩
                  case measure => (simp [intOf]) <;> omega
                · have i1 : ¬ (i : Int) < (rl.length : Int) := by omega
                  have HIL := Lib.hid (show i = runesN t by rw [← HRLN.out]; omega)
                  have HMB := Lib.hid (show madeB (1, d, a, t, n, q) = List.replicate (runesN t) (false, d) from rfl)
                  go_wp2_with fail
                  go_ret2
                  exact ⟨HBI.out, fun h => absurd (HE.out.symm.trans h) (by decide), fun _ => ⟨Ai, ci, by rw [HMB.out, List.length_replicate, ← HIL.out]; rfl, by rw [HMB.out, List.length_replicate, ← HIL.out]; exact HOI.out⟩⟩
            · obtain ⟨fb, hfb, hfn⟩ := bytesS_no (Bool.eq_false_iff.2 hfile)
              have HFILE := Lib.hid hfb
              have efb : (fb != 0) = true := by simpa [bne, beq_eq_false_iff_ne] using hfn
              clear hfb hfn
              have HE : Hid (opB deps mk (1, d, a, t, n, q) = false) := Lib.hid (by unfold opB; rw [show partsOf (1 : UInt8) = some (true, true, true, false, false) from rfl]; simp [absentB, hdoc, hc, hq, had, ht, hfile])
              clear hdoc hc hq had ht hfile
              go_wp2_with (first
                | (with_reducible refine at_load ?_
                   refine wp_val (by rfl) (ex_load 68 _ rfl (p := ⟨zx, 1, none⟩) rfl (run_loadVar_mid _ _ _ _ (refV d) _ (HD1.out _ HC.out) Tryz.underlying68 rfl (by rw [refV_length HX.out.1.1]; exact sizeRef8))) ?_)
                | (with_reducible refine at_load ?_
                   refine wp_val (by rfl) (ex_load 68 _ rfl (p := ⟨zx, 34, none⟩) rfl (run_loadVar_mid _ _ _ _ (refV a) _ (HA34.out _ HC.out) Tryz.underlying68 rfl (by rw [refV_length HX.out.1.2.1]; exact sizeRef8))) ?_)
                | (with_reducible refine at_load ?_
                   refine wp_val (by rfl) (ex_load 68 _ rfl (p := ⟨z8, 0, none⟩) rfl (run_loadVar_mid _ _ _ _ (refV zeroRef) _ (HZ8.out _ HC.out) Tryz.underlying68 rfl (by rw [refV_length zeroRef_ok]; exact sizeRef8))) ?_)
                | (go_at_call 107; refine (refDoc_any deps mk d A c Am cm _ hn hmn HO.out HM.out HX.out.1.1 hset (HSD.out _ HC.out) (HSK.out _ HC.out)).mono ?_; rintro e w2 ⟨hb2, rfl⟩
                   rw [HDOC.out]
                   have HC := Lib.hid (HC.out.trans (hb2.mono HC.out.size))
                   obtain ⟨y0, y3, y4, y5⟩ := HCELL.out _ HC.out
                   clear hb2)
                | (with_reducible refine at_binOp ?_
                   refine wp_val (by rfl) (ex_neq 68 _ _ _ rfl (xs := (refV a).toArray) (ys := (refV d).toArray) rfl rfl (r := true) eqRef.noGuard (EQAD.out _)) ?_
                   simp only [Act.put, List.setIfInBounds_toArray, List.set_cons_zero, List.set_cons_succ, Bool.not_true, Bool.not_false])
                | (go_at_call 110; refine (refFileBytes_any t _).mono ?_; rintro e w5 ⟨hb5, rfl⟩
                   rw [HFILE.out]
                   have HC := Lib.hid (HC.out.trans (hb5.mono HC.out.size))
                   obtain ⟨y0, y3, y4, y5⟩ := HCELL.out _ HC.out
                   clear hb5))
              go_ret2
              exact ⟨(HBW.out.mono hbs).trans (HC.out.mono (Nat.le_trans hbs HBW.out.size)), fun _ => ⟨_, rfl⟩, fun h => absurd (HE.out.symm.trans h) (by decide)⟩
        · by_cases hel1 : elemsB deps mk a d 1 = true
          · by_cases ht : t = noneS
            · have HDOC := Lib.hid hdoc
              have ec : (n != 0) = false := by rw [hc]; rfl
              have eq : q.toList.isEmpty = true := by rw [isEmpty8]; exact decide_eq_true hq
              have EQAD := Lib.hid (fun (u : World) => (run_eqRef HX.out.1.2.1 HX.out.1.1 u).trans (by rw [decide_eq_false had]))
              have HEL := Lib.hid hel1
              have et : t.toList.isEmpty = true := by rw [isEmpty8]; exact decide_eq_true ht
              have HE : Hid (opB deps mk (1, d, a, t, n, q) = false) := Lib.hid (by unfold opB; rw [show partsOf (1 : UInt8) = some (true, true, true, false, false) from rfl]; simp [absentB, hdoc, hc, hq, had, hel1, ht])
              have HELC := Lib.hid (fun (u : World) (g1 : Sl u u.heap.size A deps.length 32 (idsV deps)) (g2 : Sl u u.heap.size Am mk.length 34 (rowsV madeV mk)) => (show Calls Tryz.prog 109 #[.slice A deps.length c, .slice Am mk.length cm, .agg (refV a).toArray, .agg (refV d).toArray, .int .i64 1] u fun e w' => Below u.heap.size u w' ∧ e = .returned (.bool (elemsB deps mk a d 1)) from
                refElems_any deps mk a d 1 A c Am cm u (by omega) (by omega) hn hmn HO.out HM.out HX.out.1.2.1 HX.out.1.1 hset g1 g2))
              clear hdoc hc hq had hel1 ht
              go_wp2_with (first
                | (with_reducible refine at_load ?_
                   refine wp_val (by rfl) (ex_load 68 _ rfl (p := ⟨zx, 1, none⟩) rfl (run_loadVar_mid _ _ _ _ (refV d) _ (HD1.out _ HC.out) Tryz.underlying68 rfl (by rw [refV_length HX.out.1.1]; exact sizeRef8))) ?_)
                | (with_reducible refine at_load ?_
                   refine wp_val (by rfl) (ex_load 68 _ rfl (p := ⟨zx, 34, none⟩) rfl (run_loadVar_mid _ _ _ _ (refV a) _ (HA34.out _ HC.out) Tryz.underlying68 rfl (by rw [refV_length HX.out.1.2.1]; exact sizeRef8))) ?_)
                | (with_reducible refine at_load ?_
                   refine wp_val (by rfl) (ex_load 68 _ rfl (p := ⟨z8, 0, none⟩) rfl (run_loadVar_mid _ _ _ _ (refV zeroRef) _ (HZ8.out _ HC.out) Tryz.underlying68 rfl (by rw [refV_length zeroRef_ok]; exact sizeRef8))) ?_)
                | (go_at_call 107; refine (refDoc_any deps mk d A c Am cm _ hn hmn HO.out HM.out HX.out.1.1 hset (HSD.out _ HC.out) (HSK.out _ HC.out)).mono ?_; rintro e w2 ⟨hb2, rfl⟩
                   rw [HDOC.out]
                   have HC := Lib.hid (HC.out.trans (hb2.mono HC.out.size))
                   obtain ⟨y0, y3, y4, y5⟩ := HCELL.out _ HC.out
                   clear hb2)
                | (with_reducible refine at_binOp ?_
                   refine wp_val (by rfl) (ex_neq 68 _ _ _ rfl (xs := (refV a).toArray) (ys := (refV d).toArray) rfl rfl (r := false) eqRef.noGuard (EQAD.out _)) ?_
                   simp only [Act.put, List.setIfInBounds_toArray, List.set_cons_zero, List.set_cons_succ, Bool.not_true, Bool.not_false])
                | (go_at_call 109; refine (HELC.out _ (HSD.out _ HC.out) (HSK.out _ HC.out)).mono ?_; rintro e w3 ⟨hb3, rfl⟩
                   rw [HEL.out]
                   have HC := Lib.hid (HC.out.trans (hb3.mono HC.out.size))
                   obtain ⟨y0, y3, y4, y5⟩ := HCELL.out _ HC.out
                   clear hb3))
              go_ret2
              exact ⟨(HBW.out.mono hbs).trans (HC.out.mono (Nat.le_trans hbs HBW.out.size)), fun _ => ⟨_, rfl⟩, fun h => absurd (HE.out.symm.trans h) (by decide)⟩
            · by_cases hfile : fileB t = true
              all_goals
                have HDOC := Lib.hid hdoc
                have ec : (n != 0) = false := by rw [hc]; rfl
                have eq : q.toList.isEmpty = true := by rw [isEmpty8]; exact decide_eq_true hq
                have EQAD := Lib.hid (fun (u : World) => (run_eqRef HX.out.1.2.1 HX.out.1.1 u).trans (by rw [decide_eq_false had]))
                have HEL := Lib.hid hel1
                have et : t.toList.isEmpty = false := by rw [isEmpty8]; exact decide_eq_false ht
              · have HFILE := Lib.hid (bytesS_ok hfile)
                have hts : t.size ≤ 1099511627776 := by have := fileB_size hfile; omega
                have HRN := Lib.hid (show runesOf t ≠ none from runes_ok hfile)
                have HRZ := Lib.hid (fileB_size hfile)
                have HE : Hid (opB deps mk (1, d, a, t, n, q) = true) := Lib.hid (by unfold opB; rw [show partsOf (1 : UInt8) = some (true, true, true, false, false) from rfl]; simp [absentB, hdoc, hc, hq, had, hel1, ht, hfile])
                have HELC := Lib.hid (fun (u : World) (g1 : Sl u u.heap.size A deps.length 32 (idsV deps)) (g2 : Sl u u.heap.size Am mk.length 34 (rowsV madeV mk)) => (show Calls Tryz.prog 109 #[.slice A deps.length c, .slice Am mk.length cm, .agg (refV a).toArray, .agg (refV d).toArray, .int .i64 1] u fun e w' => Below u.heap.size u w' ∧ e = .returned (.bool (elemsB deps mk a d 1)) from
                  refElems_any deps mk a d 1 A c Am cm u (by omega) (by omega) hn hmn HO.out HM.out HX.out.1.2.1 HX.out.1.1 hset g1 g2))
                clear hdoc hc hq had hel1 ht hfile
                go_upto_region 13 with (first
                  | (with_reducible refine at_load ?_
                     refine wp_val (by rfl) (ex_load 68 _ rfl (p := ⟨zx, 1, none⟩) rfl (run_loadVar_mid _ _ _ _ (refV d) _ (HD1.out _ HC.out) Tryz.underlying68 rfl (by rw [refV_length HX.out.1.1]; exact sizeRef8))) ?_)
                  | (with_reducible refine at_load ?_
                     refine wp_val (by rfl) (ex_load 68 _ rfl (p := ⟨zx, 34, none⟩) rfl (run_loadVar_mid _ _ _ _ (refV a) _ (HA34.out _ HC.out) Tryz.underlying68 rfl (by rw [refV_length HX.out.1.2.1]; exact sizeRef8))) ?_)
                  | (with_reducible refine at_load ?_
                     refine wp_val (by rfl) (ex_load 68 _ rfl (p := ⟨z8, 0, none⟩) rfl (run_loadVar_mid _ _ _ _ (refV zeroRef) _ (HZ8.out _ HC.out) Tryz.underlying68 rfl (by rw [refV_length zeroRef_ok]; exact sizeRef8))) ?_)
                  | (go_at_call 107; refine (refDoc_any deps mk d A c Am cm _ hn hmn HO.out HM.out HX.out.1.1 hset (HSD.out _ HC.out) (HSK.out _ HC.out)).mono ?_; rintro e w2 ⟨hb2, rfl⟩
                     rw [HDOC.out]
                     have HC := Lib.hid (HC.out.trans (hb2.mono HC.out.size))
                     obtain ⟨y0, y3, y4, y5⟩ := HCELL.out _ HC.out
                     clear hb2)
                  | (with_reducible refine at_binOp ?_
                     refine wp_val (by rfl) (ex_neq 68 _ _ _ rfl (xs := (refV a).toArray) (ys := (refV d).toArray) rfl rfl (r := false) eqRef.noGuard (EQAD.out _)) ?_
                     simp only [Act.put, List.setIfInBounds_toArray, List.set_cons_zero, List.set_cons_succ, Bool.not_true, Bool.not_false])
                  | (go_at_call 109; refine (HELC.out _ (HSD.out _ HC.out) (HSK.out _ HC.out)).mono ?_; rintro e w3 ⟨hb3, rfl⟩
                     rw [HEL.out]
                     have HC := Lib.hid (HC.out.trans (hb3.mono HC.out.size))
                     obtain ⟨y0, y3, y4, y5⟩ := HCELL.out _ HC.out
                     clear hb3)
                  | (go_at_call 110; refine (refFileBytes_any t _).mono ?_; rintro e w5 ⟨hb5, rfl⟩
                     rw [HFILE.out]
                     have HC := Lib.hid (HC.out.trans (hb5.mono HC.out.size))
                     obtain ⟨y0, y3, y4, y5⟩ := HCELL.out _ HC.out
                     clear hb5)
                  | (go_at_call 45; refine (runes_any t _ hts).mono ?_; rintro e w6 ⟨hb6, hr6⟩
                     rcases hr6 with ⟨rl, Ar, cr, hr6, rfl, -⟩ | ⟨hr6, -⟩
                     rotate_left
                     · exact absurd hr6 HRN.out
                     have HRL := Lib.hid hr6
                     clear hr6
                     have HC := Lib.hid (HC.out.trans (hb6.mono HC.out.size))
                     obtain ⟨y0, y3, y4, y5⟩ := HCELL.out _ HC.out
                     clear hb6))
                have HRLN := Lib.hid (show rl.length = runesN t by unfold runesN; rw [HRL.out])
                have hrl : rl.length ≤ 4096 := by have := runesN_le t; have := HRLN.out; have := HRZ.out; omega
                have HZXW := hzxw
                go_wp2_with fail
                go_loopw [1, 12] (fun t1 t12 wr => ∃ (i : Nat) (Ai : Option Addr) (ci : Nat), i ≤ rl.length ∧ t12 = .int .i64 (i : Int) ∧ t1 = .slice Ai (mk.length + i) ci ∧ Hid (wr.ownsRow base 166 34 (.slice Ai (mk.length + i) ci) (mk.length + i) (rowsV madeV (mk ++ List.replicate i (false, d)))) ∧ Hid (Below base w wr) ∧ Hid (wr.rangeAt zx 1 (refV d)) ∧ Hid (∀ b, (Value.slice Ai (mk.length + i) ci).ownBlock = some b → b ≠ zx) ∧ Hid (zx < wr.heap.size)) (fun _ t12 _ => rl.length - (intOf t12).toNat)
                case atStart =>
                  refine ⟨0, Am, cm, Nat.zero_le _, rfl, rfl, Lib.hid ?_, Lib.hid ((HBW.out.mono hbs).trans (HC.out.mono (Nat.le_trans hbs HBW.out.size))), Lib.hid (HD1.out _ HC.out), Lib.hid (fun b e h => by have h9 := (HOW.out.lt b e).2; rw [h, ← HZXW.out] at h9; omega), Lib.hid (Nat.lt_of_lt_of_le HLX.out HC.out.size)⟩
                  rw [List.replicate_zero, List.append_nil]
                  exact (But.of_below (X := NoB) (HBW.out.trans (HC.out.mono HBW.out.size))).own HOW.out fun _ _ q => q
                case round =>
                  obtain ⟨i, Ai, ci, hi, rfl, rfl, HOI, HBI, HDI, HNI, HLI⟩ := hrel
                  by_cases hlt : i < rl.length
                  · have i1 : (i : Int) < (rl.length : Int) := by omega
                    have HBAL := Lib.hid (show Below wr.heap.size wr (wr.alloc (.cells (madeV (false, d)).toArray 166)) from (Below.refl _ _).alloc (Nat.le_refl _) _)
                    have HOA := Lib.hid ((But.of_below (X := NoB) HBAL.out).own HOI.out fun _ _ q => q)
                    have HBZ := Lib.hid (show base ≤ (wr.alloc (.cells (madeV (false, d)).toArray 166)).heap.size from Nat.le_trans hbs (Nat.le_trans (Nat.le_trans (show w.heap.size ≤ wr.heap.size from HBI.out.size) (Nat.le_refl _)) HBAL.out.size))
                    have HNW := Lib.hid (show ∀ j u, (madeV (false, d))[j]? = some u → (wr.alloc (.cells (madeV (false, d)).toArray 166)).cell? ((⟨wr.heap.size, 0, none⟩ : Addr).add j) = some u from fun j u hj => by
                      have e1 : (⟨wr.heap.size, 0, none⟩ : Addr).add j = ⟨wr.heap.size, j, none⟩ := by unfold Addr.add; split <;> simp_all
                      rw [e1]
                      exact (cells_at0 (heap_alloc_new _ _) j).trans hj)
                    go_wp2_with (first
                      | (with_reducible refine at_load ?_
                         refine wp_val (by rfl) (ex_load 68 _ rfl (p := ⟨zx, 1, none⟩) rfl (run_loadVar_mid _ _ _ _ (refV d) _ HDI.out Tryz.underlying68 rfl (by rw [refV_length HX.out.1.1]; exact sizeRef8))) ?_)
                      | (with_reducible refine at_build ?_
                         refine wp_val (by rfl) (ex_build 166 #[(1, .tmp 148)] rfl (by simp only [List.map_toArray, List.map_cons, List.map_nil]; exact made_built8 (d := d) HX.out.1.1 _)) ?_)
                      | (refine wp_buildSlice1 (by rfl) 131 _ rfl 166 Tryz.underlying131 (.agg (madeV (false, zeroRef)).toArray) 34 48 infoMade8 rfl (by decide) (by decide) (madeV (false, d)) (madeV_length (m := (false, d)) HX.out.1.1) rfl ?_)
                      | (at_builtin; refine wp_appS_w (by rfl) _ _ 131 rfl base 166 (.agg (madeV (false, zeroRef)).toArray) 34 48 Tryz.underlying131 infoMade8 rfl (by decide) (.slice Ai (mk.length + i) ci) (mk.length + i) (rowsV madeV (mk ++ List.replicate i (false, d))) rfl (HOA.out) ⟨wr.heap.size, 0, none⟩ 1 1 (madeV (false, d)) rfl (by rw [Nat.one_mul]; exact madeV_length (m := (false, d)) HX.out.1.1) HNW.out (madeV_one _) (by unfold maxLen; omega) (by omega) HBZ.out ?_
                         intro v9 w9 ho9 hg9 hw9
                         obtain ⟨A9, c9, rfl⟩ := own_form' ho9
                         have HO9 := Lib.hid ho9
                         have HG9 := Lib.hid hg9; have HW9 := Lib.hid hw9
                         clear ho9 hg9 hw9))
                    have HN9 := Lib.hid (show ∀ b, (Value.slice A9 (mk.length + i + 1) c9).ownBlock = some b → b ≠ zx from fun b e h => by
                      rcases HW9.out with q | ⟨g, q, hz⟩
                      · exact HNI.out b (by rw [← q]; exact e) h
                      · rw [q] at e
                        have h2 : g = b := Option.some.inj e
                        have h3 := HLI.out
                        have h4 := HBAL.out.size
                        omega)
                    have HD9 := Lib.hid (show w9.rangeAt zx 1 (refV d) from fun j v hj => by
                      have h1 := HDI.out j v hj
                      have h2 := (HBAL.out.cell (p := ⟨zx, 1 + j, none⟩) HLI.out).trans h1
                      unfold World.cell? at h2 ⊢
                      rw [HG9.out.block zx (Nat.lt_of_lt_of_le HLI.out HBAL.out.size) (fun e => HNI.out zx e.symm rfl)]
                      exact h2)
                    have HB9 := Lib.hid (show Below base w w9 from (HBI.out.trans (HBAL.out.mono (Nat.le_trans hbs HBI.out.size))).grown HG9.out (Nat.le_trans hbs (Nat.le_trans HBI.out.size HBAL.out.size)) (fun k e => (HOI.out.lt k e).1))
                    have HL9 := Lib.hid (show zx < w9.heap.size from Nat.lt_of_lt_of_le HLI.out (Nat.le_trans HBAL.out.size HG9.out.size))
                    go_roundw
                    case rel => exact ⟨i + 1, A9, c9, by omega, by go_num, rfl, Lib.hid (by rw [List.replicate_succ', ← List.append_assoc, rowsV_app, ← Nat.add_assoc]; simpa [rowsV] using HO9.out), HB9, HD9, HN9, HL9⟩
                    case measure => (simp [intOf]) <;> omega
                  · have i1 : ¬ (i : Int) < (rl.length : Int) := by omega
                    have HIL := Lib.hid (show i = runesN t by rw [← HRLN.out]; omega)
                    have HMB := Lib.hid (show madeB (1, d, a, t, n, q) = List.replicate (runesN t) (false, d) from rfl)
                    go_wp2_with fail
                    go_ret2
                    exact ⟨HBI.out, fun h => absurd (HE.out.symm.trans h) (by decide), fun _ => ⟨Ai, ci, by rw [HMB.out, List.length_replicate, ← HIL.out]; rfl, by rw [HMB.out, List.length_replicate, ← HIL.out]; exact HOI.out⟩⟩
              · obtain ⟨fb, hfb, hfn⟩ := bytesS_no (Bool.eq_false_iff.2 hfile)
                have HFILE := Lib.hid hfb
                have efb : (fb != 0) = true := by simpa [bne, beq_eq_false_iff_ne] using hfn
                clear hfb hfn
                have HE : Hid (opB deps mk (1, d, a, t, n, q) = false) := Lib.hid (by unfold opB; rw [show partsOf (1 : UInt8) = some (true, true, true, false, false) from rfl]; simp [absentB, hdoc, hc, hq, had, hel1, ht, hfile])
                have HELC := Lib.hid (fun (u : World) (g1 : Sl u u.heap.size A deps.length 32 (idsV deps)) (g2 : Sl u u.heap.size Am mk.length 34 (rowsV madeV mk)) => (show Calls Tryz.prog 109 #[.slice A deps.length c, .slice Am mk.length cm, .agg (refV a).toArray, .agg (refV d).toArray, .int .i64 1] u fun e w' => Below u.heap.size u w' ∧ e = .returned (.bool (elemsB deps mk a d 1)) from
                  refElems_any deps mk a d 1 A c Am cm u (by omega) (by omega) hn hmn HO.out HM.out HX.out.1.2.1 HX.out.1.1 hset g1 g2))
                clear hdoc hc hq had hel1 ht hfile
                go_wp2_with (first
                  | (with_reducible refine at_load ?_
                     refine wp_val (by rfl) (ex_load 68 _ rfl (p := ⟨zx, 1, none⟩) rfl (run_loadVar_mid _ _ _ _ (refV d) _ (HD1.out _ HC.out) Tryz.underlying68 rfl (by rw [refV_length HX.out.1.1]; exact sizeRef8))) ?_)
                  | (with_reducible refine at_load ?_
                     refine wp_val (by rfl) (ex_load 68 _ rfl (p := ⟨zx, 34, none⟩) rfl (run_loadVar_mid _ _ _ _ (refV a) _ (HA34.out _ HC.out) Tryz.underlying68 rfl (by rw [refV_length HX.out.1.2.1]; exact sizeRef8))) ?_)
                  | (with_reducible refine at_load ?_
                     refine wp_val (by rfl) (ex_load 68 _ rfl (p := ⟨z8, 0, none⟩) rfl (run_loadVar_mid _ _ _ _ (refV zeroRef) _ (HZ8.out _ HC.out) Tryz.underlying68 rfl (by rw [refV_length zeroRef_ok]; exact sizeRef8))) ?_)
                  | (go_at_call 107; refine (refDoc_any deps mk d A c Am cm _ hn hmn HO.out HM.out HX.out.1.1 hset (HSD.out _ HC.out) (HSK.out _ HC.out)).mono ?_; rintro e w2 ⟨hb2, rfl⟩
                     rw [HDOC.out]
                     have HC := Lib.hid (HC.out.trans (hb2.mono HC.out.size))
                     obtain ⟨y0, y3, y4, y5⟩ := HCELL.out _ HC.out
                     clear hb2)
                  | (with_reducible refine at_binOp ?_
                     refine wp_val (by rfl) (ex_neq 68 _ _ _ rfl (xs := (refV a).toArray) (ys := (refV d).toArray) rfl rfl (r := false) eqRef.noGuard (EQAD.out _)) ?_
                     simp only [Act.put, List.setIfInBounds_toArray, List.set_cons_zero, List.set_cons_succ, Bool.not_true, Bool.not_false])
                  | (go_at_call 109; refine (HELC.out _ (HSD.out _ HC.out) (HSK.out _ HC.out)).mono ?_; rintro e w3 ⟨hb3, rfl⟩
                     rw [HEL.out]
                     have HC := Lib.hid (HC.out.trans (hb3.mono HC.out.size))
                     obtain ⟨y0, y3, y4, y5⟩ := HCELL.out _ HC.out
                     clear hb3)
                  | (go_at_call 110; refine (refFileBytes_any t _).mono ?_; rintro e w5 ⟨hb5, rfl⟩
                     rw [HFILE.out]
                     have HC := Lib.hid (HC.out.trans (hb5.mono HC.out.size))
                     obtain ⟨y0, y3, y4, y5⟩ := HCELL.out _ HC.out
                     clear hb5))
                go_ret2
                exact ⟨(HBW.out.mono hbs).trans (HC.out.mono (Nat.le_trans hbs HBW.out.size)), fun _ => ⟨_, rfl⟩, fun h => absurd (HE.out.symm.trans h) (by decide)⟩
          · have HDOC := Lib.hid hdoc
            have ec : (n != 0) = false := by rw [hc]; rfl
            have eq : q.toList.isEmpty = true := by rw [isEmpty8]; exact decide_eq_true hq
            have EQAD := Lib.hid (fun (u : World) => (run_eqRef HX.out.1.2.1 HX.out.1.1 u).trans (by rw [decide_eq_false had]))
            have HEL := Lib.hid (Bool.eq_false_iff.2 hel1)
            have HE : Hid (opB deps mk (1, d, a, t, n, q) = false) := Lib.hid (by unfold opB; rw [show partsOf (1 : UInt8) = some (true, true, true, false, false) from rfl]; simp [absentB, hdoc, hc, hq, had, hel1])
            have HELC := Lib.hid (fun (u : World) (g1 : Sl u u.heap.size A deps.length 32 (idsV deps)) (g2 : Sl u u.heap.size Am mk.length 34 (rowsV madeV mk)) => (show Calls Tryz.prog 109 #[.slice A deps.length c, .slice Am mk.length cm, .agg (refV a).toArray, .agg (refV d).toArray, .int .i64 1] u fun e w' => Below u.heap.size u w' ∧ e = .returned (.bool (elemsB deps mk a d 1)) from
              refElems_any deps mk a d 1 A c Am cm u (by omega) (by omega) hn hmn HO.out HM.out HX.out.1.2.1 HX.out.1.1 hset g1 g2))
            clear hdoc hc hq had hel1
            go_wp2_with (first
              | (with_reducible refine at_load ?_
                 refine wp_val (by rfl) (ex_load 68 _ rfl (p := ⟨zx, 1, none⟩) rfl (run_loadVar_mid _ _ _ _ (refV d) _ (HD1.out _ HC.out) Tryz.underlying68 rfl (by rw [refV_length HX.out.1.1]; exact sizeRef8))) ?_)
              | (with_reducible refine at_load ?_
                 refine wp_val (by rfl) (ex_load 68 _ rfl (p := ⟨zx, 34, none⟩) rfl (run_loadVar_mid _ _ _ _ (refV a) _ (HA34.out _ HC.out) Tryz.underlying68 rfl (by rw [refV_length HX.out.1.2.1]; exact sizeRef8))) ?_)
              | (with_reducible refine at_load ?_
                 refine wp_val (by rfl) (ex_load 68 _ rfl (p := ⟨z8, 0, none⟩) rfl (run_loadVar_mid _ _ _ _ (refV zeroRef) _ (HZ8.out _ HC.out) Tryz.underlying68 rfl (by rw [refV_length zeroRef_ok]; exact sizeRef8))) ?_)
              | (go_at_call 107; refine (refDoc_any deps mk d A c Am cm _ hn hmn HO.out HM.out HX.out.1.1 hset (HSD.out _ HC.out) (HSK.out _ HC.out)).mono ?_; rintro e w2 ⟨hb2, rfl⟩
                 rw [HDOC.out]
                 have HC := Lib.hid (HC.out.trans (hb2.mono HC.out.size))
                 obtain ⟨y0, y3, y4, y5⟩ := HCELL.out _ HC.out
                 clear hb2)
              | (with_reducible refine at_binOp ?_
                 refine wp_val (by rfl) (ex_neq 68 _ _ _ rfl (xs := (refV a).toArray) (ys := (refV d).toArray) rfl rfl (r := false) eqRef.noGuard (EQAD.out _)) ?_
                 simp only [Act.put, List.setIfInBounds_toArray, List.set_cons_zero, List.set_cons_succ, Bool.not_true, Bool.not_false])
              | (go_at_call 109; refine (HELC.out _ (HSD.out _ HC.out) (HSK.out _ HC.out)).mono ?_; rintro e w3 ⟨hb3, rfl⟩
                 rw [HEL.out]
                 have HC := Lib.hid (HC.out.trans (hb3.mono HC.out.size))
                 obtain ⟨y0, y3, y4, y5⟩ := HCELL.out _ HC.out
                 clear hb3))
            go_ret2
            exact ⟨(HBW.out.mono hbs).trans (HC.out.mono (Nat.le_trans hbs HBW.out.size)), fun _ => ⟨_, rfl⟩, fun h => absurd (HE.out.symm.trans h) (by decide)⟩
      · have HDOC := Lib.hid hdoc
        have ec : (n != 0) = false := by rw [hc]; rfl
        have eq : q.toList.isEmpty = false := by rw [isEmpty8]; exact decide_eq_false hq
        have HE : Hid (opB deps mk (1, d, a, t, n, q) = false) := Lib.hid (by unfold opB; rw [show partsOf (1 : UInt8) = some (true, true, true, false, false) from rfl]; simp [absentB, hdoc, hc, hq])
        clear hdoc hc hq
        go_wp2_with (first
          | (with_reducible refine at_load ?_
             refine wp_val (by rfl) (ex_load 68 _ rfl (p := ⟨zx, 1, none⟩) rfl (run_loadVar_mid _ _ _ _ (refV d) _ (HD1.out _ HC.out) Tryz.underlying68 rfl (by rw [refV_length HX.out.1.1]; exact sizeRef8))) ?_)
          | (with_reducible refine at_load ?_
             refine wp_val (by rfl) (ex_load 68 _ rfl (p := ⟨zx, 34, none⟩) rfl (run_loadVar_mid _ _ _ _ (refV a) _ (HA34.out _ HC.out) Tryz.underlying68 rfl (by rw [refV_length HX.out.1.2.1]; exact sizeRef8))) ?_)
          | (with_reducible refine at_load ?_
             refine wp_val (by rfl) (ex_load 68 _ rfl (p := ⟨z8, 0, none⟩) rfl (run_loadVar_mid _ _ _ _ (refV zeroRef) _ (HZ8.out _ HC.out) Tryz.underlying68 rfl (by rw [refV_length zeroRef_ok]; exact sizeRef8))) ?_)
          | (go_at_call 107; refine (refDoc_any deps mk d A c Am cm _ hn hmn HO.out HM.out HX.out.1.1 hset (HSD.out _ HC.out) (HSK.out _ HC.out)).mono ?_; rintro e w2 ⟨hb2, rfl⟩
             rw [HDOC.out]
             have HC := Lib.hid (HC.out.trans (hb2.mono HC.out.size))
             obtain ⟨y0, y3, y4, y5⟩ := HCELL.out _ HC.out
             clear hb2))
        go_ret2
        exact ⟨(HBW.out.mono hbs).trans (HC.out.mono (Nat.le_trans hbs HBW.out.size)), fun _ => ⟨_, rfl⟩, fun h => absurd (HE.out.symm.trans h) (by decide)⟩
    · have HDOC := Lib.hid hdoc
      have ec : (n != 0) = true := by simpa [bne, beq_eq_false_iff_ne] using hc
      have HE : Hid (opB deps mk (1, d, a, t, n, q) = false) := Lib.hid (by unfold opB; rw [show partsOf (1 : UInt8) = some (true, true, true, false, false) from rfl]; simp [absentB, hdoc, hc])
      clear hdoc hc
      go_wp2_with (first
        | (with_reducible refine at_load ?_
           refine wp_val (by rfl) (ex_load 68 _ rfl (p := ⟨zx, 1, none⟩) rfl (run_loadVar_mid _ _ _ _ (refV d) _ (HD1.out _ HC.out) Tryz.underlying68 rfl (by rw [refV_length HX.out.1.1]; exact sizeRef8))) ?_)
        | (with_reducible refine at_load ?_
           refine wp_val (by rfl) (ex_load 68 _ rfl (p := ⟨zx, 34, none⟩) rfl (run_loadVar_mid _ _ _ _ (refV a) _ (HA34.out _ HC.out) Tryz.underlying68 rfl (by rw [refV_length HX.out.1.2.1]; exact sizeRef8))) ?_)
        | (with_reducible refine at_load ?_
           refine wp_val (by rfl) (ex_load 68 _ rfl (p := ⟨z8, 0, none⟩) rfl (run_loadVar_mid _ _ _ _ (refV zeroRef) _ (HZ8.out _ HC.out) Tryz.underlying68 rfl (by rw [refV_length zeroRef_ok]; exact sizeRef8))) ?_)
        | (go_at_call 107; refine (refDoc_any deps mk d A c Am cm _ hn hmn HO.out HM.out HX.out.1.1 hset (HSD.out _ HC.out) (HSK.out _ HC.out)).mono ?_; rintro e w2 ⟨hb2, rfl⟩
           rw [HDOC.out]
           have HC := Lib.hid (HC.out.trans (hb2.mono HC.out.size))
           obtain ⟨y0, y3, y4, y5⟩ := HCELL.out _ HC.out
           clear hb2))
      go_ret2
      exact ⟨(HBW.out.mono hbs).trans (HC.out.mono (Nat.le_trans hbs HBW.out.size)), fun _ => ⟨_, rfl⟩, fun h => absurd (HE.out.symm.trans h) (by decide)⟩
  · have HDOC := Lib.hid (Bool.eq_false_iff.2 hdoc)
    have HE : Hid (opB deps mk (1, d, a, t, n, q) = false) := Lib.hid (by unfold opB; rw [show partsOf (1 : UInt8) = some (true, true, true, false, false) from rfl]; simp [absentB, hdoc])
    clear hdoc
    go_wp2_with (first
      | (with_reducible refine at_load ?_
         refine wp_val (by rfl) (ex_load 68 _ rfl (p := ⟨zx, 1, none⟩) rfl (run_loadVar_mid _ _ _ _ (refV d) _ (HD1.out _ HC.out) Tryz.underlying68 rfl (by rw [refV_length HX.out.1.1]; exact sizeRef8))) ?_)
      | (with_reducible refine at_load ?_
         refine wp_val (by rfl) (ex_load 68 _ rfl (p := ⟨zx, 34, none⟩) rfl (run_loadVar_mid _ _ _ _ (refV a) _ (HA34.out _ HC.out) Tryz.underlying68 rfl (by rw [refV_length HX.out.1.2.1]; exact sizeRef8))) ?_)
      | (with_reducible refine at_load ?_
         refine wp_val (by rfl) (ex_load 68 _ rfl (p := ⟨z8, 0, none⟩) rfl (run_loadVar_mid _ _ _ _ (refV zeroRef) _ (HZ8.out _ HC.out) Tryz.underlying68 rfl (by rw [refV_length zeroRef_ok]; exact sizeRef8))) ?_)
      | (go_at_call 107; refine (refDoc_any deps mk d A c Am cm _ hn hmn HO.out HM.out HX.out.1.1 hset (HSD.out _ HC.out) (HSK.out _ HC.out)).mono ?_; rintro e w2 ⟨hb2, rfl⟩
         rw [HDOC.out]
         have HC := Lib.hid (HC.out.trans (hb2.mono HC.out.size))
         obtain ⟨y0, y3, y4, y5⟩ := HCELL.out _ HC.out
         clear hb2))
    go_ret2
    exact ⟨(HBW.out.mono hbs).trans (HC.out.mono (Nat.le_trans hbs HBW.out.size)), fun _ => ⟨_, rfl⟩, fun h => absurd (HE.out.symm.trans h) (by decide)⟩
end Go.Proofs.YthjaepmfkgejkaaGreatDoor
