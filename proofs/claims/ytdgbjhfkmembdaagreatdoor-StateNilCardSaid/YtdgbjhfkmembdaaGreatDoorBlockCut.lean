/-
  A run is cut in two. Conditions: the document lies in memory, its indexes are small; at most 2^30 runs.
-/
import Derived.Test.YtdgbjhfkmembdaaGreatDoorBlockPut
import Derived.Test.YtdgbjhfkmembdaaGreatDoorCutMem
namespace Go.Proofs.YtdgbjhfkmembdaaGreatDoor
open Go.RowKit Go.Maps
set_option linter.unusedVariables false
set_option linter.unusedSimpArgs false

/-- What a turning of a document leaves. -/
def DTurn (w : World) (B p : Nat) (v : Value) (d : List RunD) (w' : World) : Prop := ∃ v', DocAt w' B p v' d ∧ But (DocX p v) w w' ∧ Newer w v v'
theorem DTurn.same {w w' : World} {B p : Nat} {v : Value} {d : List RunD} (h : DocAt w B p v d) (hb : Below w.heap.size w w') : DTurn w B p v d w' := ⟨v, h.keep hb, But.of_below hb, Newer.refl _ _⟩
theorem DTurn.trans {w w' w2 : World} {B p : Nat} {v v' : Value} {d' : List RunD} (h1 : But (DocX p v) w w') (h2 : Newer w v v') (hs : w.heap.size ≤ w'.heap.size) (k : DTurn w' B p v' d' w2) : DTurn w B p v d' w2 := by
  obtain ⟨v2, k1, k2, k3⟩ := k
  exact ⟨v2, k1, h1.trans k2 fun j hj hx => DocX.of h2 hj hx, h2.trans k3 hs⟩
/-- A run is turned in its place. -/
theorem DocRows.set {w w' : World} {B p : Nat} {rs : List RunM} {i : Nat} {x : RunM} {g c : Nat} {tail : List Value} (h : DocRows w B p (.slice (some ⟨g, 0, none⟩) rs.length c) rs) (hi : i < rs.length) (hx : RunIn w x) (hB : B ≤ g) (hc : rs.length ≤ c) (hm : c ≤ maxLen) (ht : tail.length = (c - rs.length) * 36)
    (hg : w'.heap[g]? = some (.cells (rowsV runV (rs.take i) ++ (runV x ++ (rowsV runV (rs.drop (i + 1)) ++ tail))).toArray 177 (0, 0))) {cur : Array Value} (hgw : w.heap[g]? = some (.cells cur 177 (0, 0))) (hb : But (fun k => k = g) w w') :
    DocRows w' B p (.slice (some ⟨g, 0, none⟩) (rs.take i ++ x :: rs.drop (i + 1)).length c) (rs.take i ++ x :: rs.drop (i + 1)) := by
  obtain ⟨s, t, hbx⟩ := h.box
  have hne : p ≠ g := ne_tag hbx hgw (by decide)
  have hlen : (rs.take i ++ x :: rs.drop (i + 1)).length = rs.length := by simp; omega
  have hK : KeepR w w' := KeepR.but hb fun k hk cu ty fr hty hcc => by
    subst hk
    rw [hgw] at hcc
    injection hcc with hcc
    injection hcc with _ hcc
    subst hcc
    exact absurd hty (by decide)
  have hin : ∀ r ∈ rs.take i ++ x :: rs.drop (i + 1), RunIn w r := fun r hr => by
    rcases List.mem_append.1 hr with hr | hr
    · exact h.ins r (List.mem_of_mem_take hr)
    · rcases List.mem_cons.1 hr with rfl | hr
      · exact hx
      · exact h.ins r (List.mem_of_mem_drop hr)
  refine ⟨⟨s, t, by rw [hlen]; exact (hb.block p (qX hbx) hne).trans hbx⟩, h.low, fun r hr => (hin r hr).keep hK, ?_⟩
  rw [hlen]
  refine own_shut (by rw [rowsV_length (runV_len hin), hlen]) hB ?_ hc hm ht
  rw [hg]
  simp [rowsV]
theorem ex_slice_hm {P : Program} {ρ : Operand → Value} {o : Oper} {w : World} (t : TypeId) (x hi mx : Operand) (ho : o.op = .slice t x none (some hi) (some mx)) {A : Option Addr} {n c h m : Nat} {kh km : IntKind} (hx : ρ x = .slice A n c) (hh : ρ hi = .int kh (h : Int)) (hm : ρ mx = .int km (m : Int))
    (ht : P.underlying t = some (.slice (P.elem t))) {size : Nat} (hs : (P.info? (P.elem t)).map (·.size) = some size) (h1 : h ≤ m) (h2 : m ≤ c) {V : Value} (hV : sliced A 0 h m size = V) :
    (execOp ρ o).run P w = .ok (.value V) w := by
  subst hV
  have hr := run_slice_hm (w := w) t A n c ht kh km (h : Int) (m : Int) (by omega) (by omega) (by omega)
  rw [sizeOf_run hs] at hr
  simp only [Result.andThen, Int.toNat_natCast] at hr
  have ha := run_sliceAt_slice w t (.slice A n c) none (some (.int kh (h : Int))) (some (.int km (m : Int))) ht
  rw [hr] at ha
  unfold execOp
  simp only [ho, hx, hh, hm, Option.map_some, Option.map_none, Sem.run_bind, ha, Result.andThen_ok, Sem.run_pure]
theorem infoI32 : (Tryz.prog.info? 21).map (·.size) = some 1 := by kernel_rfl
set_option maxHeartbeats 4000000 in
set_option maxRecDepth 100000 in
theorem run_built (k : KeyD) (hk : KeyOk k) (x : Value) (hx : x.oneCell' = true) (d : Bool) (w : World) : (Instr.build 177 #[(0, .agg (keyV k).toArray), (1, x), (2, .bool d)]).run Tryz.prog w = .ok (.agg (keyV k ++ ([x] ++ [Value.bool d])).toArray) w := by
  obtain ⟨j, hi, hz, _, _⟩ := info_parts infoRun
  have hc : x.cells = #[x] := by cases x <;> first | rfl | cases hx
  have h := built_struct (P := Tryz.prog) hi Tryz.underlying177 hz [keyV (0, zero32, 0), [.slice none 0 0], [.bool false]] rfl (places := [(0, 34), (34, 1), (35, 1)]) (by kernel_rfl) (by kernel_rfl) [(0, .agg (keyV k).toArray), (1, x), (2, .bool d)] (by
    intro q hq
    simp only [List.mem_cons, List.not_mem_nil, or_false] at hq
    rcases hq with rfl | rfl | rfl
    · exact ⟨by show 0 < 3; omega, by show (keyV k).toArray.size = 34; rw [List.size_toArray, keyV_length hk]⟩
    · exact ⟨by show 1 < 3; omega, by show x.cells.size = 1; rw [hc]; rfl⟩
    · exact ⟨by show 2 < 3; omega, rfl⟩)
  have h2 := run_build (P := Tryz.prog) w 177 #[(0, .agg (keyV k).toArray), (1, x), (2, .bool d)] _ h
  refine h2.trans ?_
  have e1 : (Value.agg (keyV k).toArray).cells = (keyV k).toArray := rfl
  have e2 : (Value.bool d).cells = #[.bool d] := rfl
  simp [e1, e2, hc]
set_option maxHeartbeats 4000000 in
set_option maxRecDepth 100000 in
theorem dcut_mid (rs : List RunM) (i m : Nat) (B p : Nat) (v : Value) (w : World) (h : DocRows w B p v rs) (hi : i < rs.length) (h0 : 0 < m) (hm : m < rs[i].2.2.1.length) (hx : 0 ≤ rs[i].1.2.2) (hy : rs[i].1.2.2 + (rs[i].2.2.1.length : Int) ≤ 2147483648) (hl : rs.length ≤ 1073741823) :
    Calls Tryz.prog 158 #[.pointer (some ⟨p, 0, none⟩), .int .i64 (i : Int), .int .i64 (m : Int)] w fun e w' => e = .returned (.tuple #[]) ∧ DTurn w B p v (cutR (rs.map runOf) i m) w' := by
  have HD := Lib.hid h
  have hlt := h.lt
  have HMAP := Lib.hid fun g off cap => cutM_map (rs := rs) (i := i) (n := m) hi h0 hm g off cap
  have HGE := Lib.hid (List.getElem?_eq_getElem hi)
  obtain ⟨g, c', hgv, hrow, hgl, hgB⟩ := h.row hi
  have HR := Lib.hid (h.ins _ (List.getElem_mem hi))
  have HROW := Lib.hid hrow
  clear h hrow hgB
  generalize rs[i] = r at *
  subst hgv
  have hrl := runV_length HR.out
  have HR1 := Lib.hid (runV_one r HR.out.2.1.one)
  obtain ⟨gr, off, cap, cur, fr, hrv, hrc, hrm, _, _⟩ := HR.out.2.1
  have HK : Hid (KeyOk r.1) := Lib.hid HR.out.1
  have HTL : Hid (RunIn w (tailM r gr off cap m)) := Lib.hid (HR.out.tail hrv hm hx hy)
  have HHD : Hid (RunIn w (headM r gr off m)) := Lib.hid (HR.out.head hrv h0 hm)
  obtain ⟨p0, p1, p2, p3, p4, p5⟩ := run_cells HR.out.1
  have P3 := Lib.hid (p3.trans (congrArg some hrv)); have P4 := Lib.hid p4; have P5 := Lib.hid p5
  have HVS := Lib.hid hrv
  have HLA := Lib.hid (fun w => later_any r.1 (m : Int) w HR.out.1 (by unfold Ix; omega) (by unfold Ix; omega))
  clear p0 p1 p2 p3 p4 p5 hrv hx hy
  have i0 : (0 : Int) ≤ (i : Int) := by omega
  have i1 : (i : Int) < (rs.length : Int) := by omega
  have c0 : w.cell? ⟨p, 0, none⟩ = some (.slice (some ⟨g, 0, none⟩) rs.length c') := by
    obtain ⟨s, t, hb⟩ := HD.out.box
    exact cells_at0 hb 0
  go_enter Tryz.func158, Tryz.ntmps158
  go_upto_region 1 with (first
    | (with_reducible refine at_load ?_
       refine wp_loadN rfl 177 _ rfl g _ rfl (runV r) _ HROW.out Tryz.underlying177 rfl (by rw [hrl]; exact sizeRun) ?_)
    | (with_reducible refine at_alloc ?_
       refine wp_allocM (by rfl) 177 rfl runZ (runZ_run _) ?_
       intro W6 hb6 hy6 hs6
       have HB6 := Lib.hid hb6; have HY6 := Lib.hid hy6; have HS6 := Lib.hid hs6
       clear hb6 hy6 hs6)
    | (with_reducible refine at_store ?_
       refine wp_storeM (by rfl) 177 _ _ rfl w.heap.size 0 [] runZ [] (runV r) 177 _ rfl rfl rfl rfl (by simpa using HY6.out) (by rw [hrl]; rfl) (by rw [hrl]; exact sizeRun) HR1.out ?_
       intro W7 hb7 hy7 hs7
       have HB7 := Lib.hid hb7
       have HY7 : Hid (W7.heap[w.heap.size]? = some (.cells (runV r).toArray 177 (0, 0))) := Lib.hid (by simpa using hy7)
       clear hb7 hy7 hs7))
  have HBW : Hid (Below w.heap.size w W7) := Lib.hid (HB6.out.trans (HB7.out.below (by have := HS6.out; omega) (fun k hk e => by omega)))
  obtain ⟨b6, hb6⟩ : ∃ b6, w.heap.size = b6 := ⟨_, rfl⟩
  have HLW := Lib.hid (show w.heap.size ≤ W7.heap.size from HBW.out.size)
  rw [hb6] at HY7 ⊢
  clear c0 HB6 HY6 HS6 HB7
  have c34 : W7.cell? ⟨b6, 34, none⟩ = some (.slice (some ⟨gr, off, none⟩) r.2.2.1.length cap) := (cells_at0 HY7.out 34).trans P3.out
  have j0 : ¬ m = 0 := by omega
  have j1 : ¬ r.2.2.1.length ≤ m := by omega
  go_upto_region 2 with fail
  clear c34
  have HF : Hid (∀ u : World, Below W7.heap.size W7 u → u.rangeAt b6 0 (keyV r.1) ∧ u.cell? ⟨b6, 34, none⟩ = some (.slice (some ⟨gr, off, none⟩) r.2.2.1.length cap) ∧ u.cell? ⟨b6, 35, none⟩ = some (.bool r.2.2.2)) := Lib.hid fun u hu => by
    have hZ := (hu.block b6 (qX HY7.out)).trans HY7.out
    exact ⟨fun j u2 hj => (cells_at0 hZ (0 + j)).trans (P5.out j u2 hj), (cells_at0 hZ 34).trans P3.out, (cells_at0 hZ 35).trans P4.out⟩
  refine rN 11 (fun u => Below W7.heap.size W7 u) (qD _ _) fun hF0 => ?_
  refine tw 0 (.pointer (some ⟨b6, 0, none⟩)) ?_
  go_frame
  refine tl 1 (.agg (keyV r.1).toArray) rfl hF0 (fun w' hw' => ldK HK.out (HF.out w' hw').1) ?_
  go_frame
  refine tw 2 (.pointer (some ⟨b6, 34, none⟩)) ?_
  go_frame
  refine tl 3 (.slice (some ⟨gr, off, none⟩) r.2.2.1.length cap) rfl hF0 (fun w' hw' => l1 Tryz.underlying175 (HF.out w' hw').2.1) ?_
  go_frame
  refine tw 4 (.int .i64 (m : Int)) ?_
  go_frame
  refine tw 5 (.int .i64 (m : Int)) ?_
  go_frame
  refine tk 6 (.slice (some ⟨gr, off, none⟩) m m) rfl (fun w' hw' => ex_slice_hm 175 _ _ _ rfl rfl rfl rfl Tryz.underlying175 infoI32 (qR _) (by omega) (by simp [sliced, Addr.add])) ?_
  go_frame
  refine tw 7 (.pointer (some ⟨b6, 35, none⟩)) ?_
  go_frame
  refine tl 8 (.bool r.2.2.2) rfl hF0 (fun w' hw' => l1 Tryz.underlying4 (HF.out w' hw').2.2) ?_
  go_frame
  refine tk 9 (.agg (runV (headM r gr off m)).toArray) rfl (fun w' hw' => ex_build 177 _ rfl (by simp only [List.map_toArray, List.map_cons, List.map_nil]; exact run_built r.1 HK.out _ rfl _ _)) ?_
  go_frame
  refine ta 10 ?_
  refine wpOp_allocM _ rfl (by kernel_rfl) 177 rfl runZ (runZ_run _) ?_
  intro W8 hb8 hy8 hs8
  have HB8 := Lib.hid hb8; have HY8 := Lib.hid hy8; have HS8 := Lib.hid hs8
  clear hb8 hy8 hs8
  refine ⟨fun _ _ => (qD W7.heap.size W7).trans (HB8.out.mono (qD W7.heap.size W7).size), ?_⟩
  go_frame
  refine ta 11 ?_
  have hhl := runV_length HHD.out
  have HH1 := Lib.hid (runV_one _ HHD.out.2.1.one)
  refine wpOp_storeM _ rfl (by kernel_rfl) 177 _ _ rfl W7.drew.heap.size 0 [] runZ [] (runV (headM r gr off m)) 177 (.agg (runV (headM r gr off m)).toArray) rfl rfl rfl rfl (by simpa using HY8.out) (by rw [hhl]; rfl) (by rw [hhl]; exact sizeRun) HH1.out ?_
  intro W9 hb9 hy9 hs9
  have HB9 := Lib.hid (((qD W7.heap.size W7).trans (HB8.out.mono (qD W7.heap.size W7).size)).trans (hb9.below (B := W7.heap.size) (qT (qD W7.heap.size W7).size HB8.out.size) (fun k hk e => by
    have e2 : k = W7.drew.heap.size := e
    have e3 : W7.drew.heap.size = W7.heap.size := rfl
    omega)))
  have HY9 : Hid (W9.heap[W7.drew.heap.size]? = some (.cells (runV (headM r gr off m)).toArray 177 (0, 0))) := Lib.hid (by simpa using hy9)
  clear hb9 hy9 hs9
  refine ⟨fun h => absurd h (by decide), ?_⟩
  go_frame
  refine wpAnyN_done (by kernel_rfl) ?_ _
  obtain ⟨b8, hb8⟩ : ∃ b8, W7.drew.heap.size = b8 := ⟨_, rfl⟩
  rw [hb8] at HY9 ⊢
  have HF9 := Lib.hid fun u (hu : Below W9.heap.size W9 u) => HF.out u (HB9.out.trans (hu.mono HB9.out.size))
  clear HB8 HY8 HS8 hF0
  go_upto_region 3 with fail
  have hE1 := enE Tryz.func89 rfl
  have htl := runV_length HTL.out
  have HT1 := Lib.hid (runV_one _ HTL.out.2.1.one)
  have HBU := Lib.hid (qD W9.heap.size W9)
  go_cut [8] from 35 to 45 (fun t8 wx => ∃ b10, t8 = .pointer (some ⟨b10, 0, none⟩) ∧ Hid (Below W9.heap.size W9 wx) ∧ Hid (wx.heap[b10]? = some (.cells (runV (tailM r gr off cap m)).toArray 177 (0, 0))))
  case first =>
    refine rN 12 (fun u => Below W9.heap.size W9 u) HBU.out fun hF0 => ?_
    refine tw 0 (.pointer (some ⟨b6, 0, none⟩)) ?_
    go_frame
    refine tl 1 (.agg (keyV r.1).toArray) rfl hF0 (fun w' hw' => ldK HK.out (HF9.out w' hw').1) ?_
    go_frame
    refine tw 2 (.int .i64 (m : Int)) ?_
    go_frame
    refine tw 4 (.pointer (some ⟨b6, 34, none⟩)) ?_
    go_frame
    refine tl 5 (.slice (some ⟨gr, off, none⟩) r.2.2.1.length cap) rfl hF0 (fun w' hw' => l1 Tryz.underlying175 (HF9.out w' hw').2.1) ?_
    go_frame
    refine tw 6 (.int .i64 (m : Int)) ?_
    go_frame
    refine tk 7 (.slice (some ⟨gr, off + m, none⟩) (r.2.2.1.length - m) (cap - m)) rfl (fun w' hw' => ex_slice_l 175 _ _ rfl rfl rfl Tryz.underlying175 infoI32 (by omega) (by rw [sliced, if_neg (show ¬ cap = m by omega)]; simp [Addr.add]; omega)) ?_
    go_frame
    refine tw 8 (.pointer (some ⟨b6, 35, none⟩)) ?_
    go_frame
    refine tl 9 (.bool r.2.2.2) rfl hF0 (fun w' hw' => l1 Tryz.underlying4 (HF9.out w' hw').2.2) ?_
    go_frame
    refine wpAnyN_all (rs := [3, 11]) (by kernel_rfl) (by simp) ?_
    intro q hq
    simp only [List.mem_cons, List.not_mem_nil, or_false] at hq
    rcases hq with rfl | rfl
    · refine tc #[.agg (keyV r.1).toArray, .int .i64 (m : Int)] hE1 rfl ?_
      refine (HLA.out _).mono ?_
      rintro e u3 ⟨hb3, rfl⟩
      have HB3 := Lib.hid (HBU.out.trans (hb3.mono HBU.out.size))
      clear hb3
      refine ⟨_, rfl, fun _ _ => HB3.out, ?_⟩
      go_frame
      refine tk 10 (.agg (runV (tailM r gr off cap m)).toArray) rfl (fun w' hw' => ex_build 177 _ rfl (by simp only [List.map_toArray, List.map_cons, List.map_nil]; exact run_built _ HTL.out.1 _ rfl _ _)) ?_
      go_frame
      refine ta 11 ?_
      refine wpOp_allocM _ rfl (by kernel_rfl) 177 rfl runZ (runZ_run _) ?_
      intro W10 hb10 hy10 hs10
      have HB10 := Lib.hid (HB3.out.trans (hb10.mono HB3.out.size)); have HY10 := Lib.hid hy10
      have HS10 := Lib.hid (show u3.heap.size < W10.heap.size by omega)
      clear hb10 hy10 hs10
      refine ⟨fun _ _ => HB10.out, ?_⟩
      go_frame
      have HLB := Lib.hid (show W9.heap.size ≤ u3.heap.size from HB3.out.size)
      refine ta 12 ?_
      refine wpOp_storeM _ rfl (by kernel_rfl) 177 _ _ rfl u3.heap.size 0 [] runZ [] (runV (tailM r gr off cap m)) 177 (.agg (runV (tailM r gr off cap m)).toArray) rfl rfl rfl rfl (by simpa using HY10.out) (by rw [htl]; rfl) (by rw [htl]; exact sizeRun) HT1.out ?_
      intro W11 hb11 hy11 hs11
      have HB11 := Lib.hid (HB10.out.trans (hb11.below (B := W9.heap.size) HB10.out.size (fun k hk e => by
        have e2 : k = u3.heap.size := e
        have h1 := HLB.out
        omega)))
      have HY11 : Hid (W11.heap[u3.heap.size]? = some (.cells (runV (tailM r gr off cap m)).toArray 177 (0, 0))) := Lib.hid (by simpa using hy11)
      clear hb11 hy11 hs11
      refine ⟨fun h => absurd h (by decide), ?_⟩
      go_frame
      refine wpAnyN_done (by kernel_rfl) ?_ _
      go_wp2_with fail
      go_meet
      case rel => exact ⟨_, rfl, HB11, HY11⟩
    · refine wpOp_allocM _ rfl (by kernel_rfl) 177 rfl runZ (runZ_run _) ?_
      intro W10 hb10 hy10 hs10
      have HB10 := Lib.hid (HBU.out.trans (hb10.mono HBU.out.size)); have HY10 := Lib.hid hy10
      have HS10 := Lib.hid (show W9.drew.heap.size < W10.heap.size by omega)
      clear hb10 hy10 hs10
      refine ⟨fun _ _ => HB10.out, ?_⟩
      go_frame
      have HLB := Lib.hid (show W9.heap.size ≤ W9.drew.heap.size from HBU.out.size)
      refine ta 3 ?_
      refine tc #[.agg (keyV r.1).toArray, .int .i64 (m : Int)] hE1 rfl ?_
      refine (HLA.out _).mono ?_
      rintro e u3 ⟨hb3, rfl⟩
      have HY3 := Lib.hid ((hb3.block W9.drew.heap.size HS10.out).trans HY10.out)
      have HB3 := Lib.hid (HB10.out.trans (hb3.mono HB10.out.size))
      clear hb3
      refine ⟨_, rfl, fun _ _ => HB3.out, ?_⟩
      go_frame
      refine tk 10 (.agg (runV (tailM r gr off cap m)).toArray) rfl (fun w' hw' => ex_build 177 _ rfl (by simp only [List.map_toArray, List.map_cons, List.map_nil]; exact run_built _ HTL.out.1 _ rfl _ _)) ?_
      go_frame
      refine ta 12 ?_
      refine wpOp_storeM _ rfl (by kernel_rfl) 177 _ _ rfl W9.drew.heap.size 0 [] runZ [] (runV (tailM r gr off cap m)) 177 (.agg (runV (tailM r gr off cap m)).toArray) rfl rfl rfl rfl (by simpa using HY3.out) (by rw [htl]; rfl) (by rw [htl]; exact sizeRun) HT1.out ?_
      intro W11 hb11 hy11 hs11
      have HB11 := Lib.hid (HB3.out.trans (hb11.below (B := W9.heap.size) HB3.out.size (fun k hk e => by
        have e2 : k = W9.drew.heap.size := e
        have h1 := HLB.out
        omega)))
      have HY11 : Hid (W11.heap[W9.drew.heap.size]? = some (.cells (runV (tailM r gr off cap m)).toArray 177 (0, 0))) := Lib.hid (by simpa using hy11)
      clear hb11 hy11 hs11
      refine ⟨fun h => absurd h (by decide), ?_⟩
      go_frame
      refine wpAnyN_done (by kernel_rfl) ?_ _
      go_wp2_with fail
      go_meet
      case rel => exact ⟨_, rfl, HB11, HY11⟩
  case rest =>
    obtain ⟨b10, rfl, HB11, HY11⟩ := hcut
    have HY9b := Lib.hid ((HB11.out.block b8 (qX HY9.out)).trans HY9.out)
    have HBA : Hid (Below w.heap.size w wc) := Lib.hid (HBW.out.trans ((HB9.out.trans (HB11.out.mono HB9.out.size)).mono HBW.out.size))
    have HDW := Lib.hid (HD.out.keep HBA.out)
    have HTW : Hid (RunIn wc (tailM r gr off cap m)) := Lib.hid (HTL.out.keep (KeepR.below HBA.out))
    have HRG : Hid (wc.rangeAt b10 0 (runV (tailM r gr off cap m))) := Lib.hid fun j u hj => by rw [qZ]; exact (cells_at0 HY11.out j).trans hj
    have ew : IntKind.i64.wrap ((i : Int) + 1) = ((i + 1 : Nat) : Int) := by rw [IntWalk.i64_in _ (by omega)]; omega
    clear HF HF9 HROW HY7 HB11 HB9 HY9
    have HNB := Lib.hid (show ¬ DocX p (.slice (some ⟨g, 0, none⟩) rs.length c') b8 from fun q => by
      have h1 := HLW.out
      have h2 : W7.drew.heap.size = W7.heap.size := rfl
      rcases q with q | q
      · omega
      · have : g = b8 := by simpa [Value.ownBlock] using q
        omega)
    have hhl2 := hhl
    go_upto_region 5 with (first
      | (refine wp_val (by rfl) (ldU htl HRG.out) ?_)
      | (go_at_call 159; refine (put_run rs (i + 1) _ B p _ wc HDW.out HTW.out (by omega) (by omega)).mono ?_
         rintro e W12 ⟨rfl, v', hdr, hbt, hnw⟩
         have HDR := Lib.hid hdr; have HBT := Lib.hid hbt; have HNW := Lib.hid hnw
         clear hdr hbt hnw))
    have HY12 := Lib.hid ((HBT.out.block b8 (qX HY9b.out) HNB.out).trans HY9b.out)
    have HHW : Hid (RunIn W12 (headM r gr off m)) := Lib.hid ((HHD.out.keep (KeepR.below HBA.out)).keep (KeepR.but HBT.out HDW.out.at.noRunes))
    obtain ⟨rs2, hrs2⟩ : ∃ x, rs.take (i + 1) ++ tailM r gr off cap m :: rs.drop (i + 1) = x := ⟨_, rfl⟩
    have hlen2 : rs2.length = rs.length + 1 := by rw [← hrs2]; simp; omega
    have HMM : Hid ((rs2.take i ++ headM r gr off m :: rs2.drop (i + 1)).map runOf = cutR (rs.map runOf) i m) := Lib.hid (by
      rw [← hrs2, put_set hi]
      exact HMAP.out gr off cap)
    rw [hrs2] at HDR
    obtain ⟨g1, c1, tail1, rfl, hB1, hgc1, hc1, hm1, ht1⟩ := own_open HDR.out.own (by omega)
    have hi2 : i < rs2.length := by omega
    rw [(rows_set (enc := runV) (runV_len HDR.out.ins) hi2 (r := headM r gr off m)).1] at hgc1
    simp only [List.append_assoc] at hgc1
    have HGC := Lib.hid hgc1
    have hol := runV_length (HDR.out.ins _ (List.getElem_mem hi2))
    have hrw := rowsV_length (enc := runV) (sz := 36) (l := rs2.take i) (runV_len fun x hx => HDR.out.ins x (List.mem_of_mem_take hx))
    rw [List.length_take, Nat.min_eq_left (by omega)] at hrw
    clear hgc1 hrs2 HMAP
    obtain ⟨s12, t12, hbx12⟩ := HDR.out.box
    have HRG8 : Hid (W12.rangeAt b8 0 (runV (headM r gr off m))) := Lib.hid fun j u hj => by rw [qZ]; exact (cells_at0 HY12.out j).trans hj
    have HPN := Lib.hid (cells_at0 hbx12 0)
    clear hbx12
    refine rN 7 (fun u => u.cell? ⟨p, 0, none⟩ = some (.slice (some ⟨g1, 0, none⟩) rs2.length c1) ∧ u.rangeAt b8 0 (runV (headM r gr off m))) ⟨HPN.out, HRG8.out⟩ fun hF1 => ?_
    refine tw 0 (.pointer (some ⟨p, 0, none⟩)) ?_
    go_frame
    refine tw 1 (.pointer (some ⟨p, 0, none⟩)) ?_
    go_frame
    refine tw 2 (.pointer (some ⟨p, 0, none⟩)) ?_
    go_frame
    refine tl 3 (.slice (some ⟨g1, 0, none⟩) rs2.length c1) rfl hF1 (fun w' hw' => l1 Tryz.underlying190 hw'.1) ?_
    go_frame
    refine tw 4 (.int .i64 (i : Int)) ?_
    go_frame
    refine tl 5 (.agg (runV (headM r gr off m)).toArray) rfl hF1 (fun w' hw' => ldU hhl2 hw'.2) ?_
    go_frame
    refine tk 6 (.pointer (some ⟨g1, 0 + i * 36, none⟩)) rfl (fun w' hw' => ex_indexG 190 _ _ rfl (b := g1) (off := 0) (q := i) (n := rs2.length) (c := c1) rfl rfl hi2 Tryz.underlying190 sizeRun) ?_
    go_frame
    refine ta 7 ?_
    refine wpOp_storeM _ rfl (by kernel_rfl) 177 _ _ rfl g1 (0 + i * 36) (rowsV runV (rs2.take i)) (runV rs2[i]) (rowsV runV (rs2.drop (i + 1)) ++ tail1) (runV (headM r gr off m)) 177 (.agg (runV (headM r gr off m)).toArray) rfl (by rw [hrw, Nat.zero_add]) rfl rfl HGC.out (by rw [hol, hhl2]) (by rw [hhl2]; exact sizeRun) HH1.out ?_
    intro W13 hb13 hy13 hs13
    have HB13 := Lib.hid hb13; have HY13 := Lib.hid hy13
    clear hb13 hy13 hs13
    refine ⟨fun h => absurd h (by decide), ?_⟩
    go_frame
    refine wpAnyN_done (by kernel_rfl) ?_ _
    go_wp2_with fail
    go_end0
    have hb13 : But (fun k => k = g1) W12 W13 := (But.refl _ W12).drew.trans HB13.out fun k _ q => q
    have hset := HDR.out.set hi2 HHW.out hB1 hc1 hm1 ht1 HY13.out HGC.out hb13
    have hd : DocAt W13 B p (.slice (some ⟨g1, 0, none⟩) (rs2.take i ++ headM r gr off m :: rs2.drop (i + 1)).length c1) (cutR (rs.map runOf) i m) := by rw [← HMM.out]; exact hset.at
    have hbt : But (DocX p (.slice (some ⟨g, 0, none⟩) rs.length c')) wc W13 := HBT.out.trans hb13 fun k hk e => by
      subst e
      rcases HNW.out k rfl with q | q
      · exact .inr q
      · omega
    exact ⟨rfl, DTurn.trans (But.of_below HBA.out) (Newer.refl _ _) HBA.out.size ⟨_, hd, hbt, fun k hk => HNW.out k (by simpa [Value.ownBlock] using hk)⟩⟩
set_option maxHeartbeats 4000000 in
set_option maxRecDepth 100000 in
theorem cut_same_run (rs : List RunM) (i m : Nat) (B p : Nat) (v : Value) (w : World) (h : DocRows w B p v rs) (hi : i < rs.length) (hm : m = 0 ∨ rs[i].2.2.1.length ≤ m) (hl : rs.length ≤ 1073741823) :
    Calls Tryz.prog 158 #[.pointer (some ⟨p, 0, none⟩), .int .i64 (i : Int), .int .i64 (m : Int)] w fun e w' => e = .returned (.tuple #[]) ∧ Below w.heap.size w w' := by
  have HD := Lib.hid h
  have hlt := h.lt
  obtain ⟨g, c', hgv, hrow, hgl, hgB⟩ := h.row hi
  have HR := Lib.hid (h.ins _ (List.getElem_mem hi))
  have HROW := Lib.hid hrow
  clear h hrow hgB
  generalize rs[i] = r at *
  subst hgv
  have hrl := runV_length HR.out
  have HR1 := Lib.hid (runV_one r HR.out.2.1.one)
  obtain ⟨gr, off, cap, cur, fr, hrv, hrc, hrm, _, _⟩ := HR.out.2.1
  obtain ⟨p0, p1, p2, p3, p4, p5⟩ := run_cells HR.out.1
  have P3 := Lib.hid (p3.trans (congrArg some hrv))
  clear p0 p1 p2 p3 p4 p5 hrv
  have i0 : (0 : Int) ≤ (i : Int) := by omega
  have i1 : (i : Int) < (rs.length : Int) := by omega
  have c0 : w.cell? ⟨p, 0, none⟩ = some (.slice (some ⟨g, 0, none⟩) rs.length c') := by
    obtain ⟨s, t, hb⟩ := HD.out.box
    exact cells_at0 hb 0
  go_enter Tryz.func158, Tryz.ntmps158
  go_upto_region 1 with (first
    | (with_reducible refine at_load ?_
       refine wp_loadN rfl 177 _ rfl g _ rfl (runV r) _ HROW.out Tryz.underlying177 rfl (by rw [hrl]; exact sizeRun) ?_)
    | (with_reducible refine at_alloc ?_
       refine wp_allocM (by rfl) 177 rfl runZ (runZ_run _) ?_
       intro W6 hb6 hy6 hs6
       have HB6 := Lib.hid hb6; have HY6 := Lib.hid hy6; have HS6 := Lib.hid hs6
       clear hb6 hy6 hs6)
    | (with_reducible refine at_store ?_
       refine wp_storeM (by rfl) 177 _ _ rfl w.heap.size 0 [] runZ [] (runV r) 177 _ rfl rfl rfl rfl (by simpa using HY6.out) (by rw [hrl]; rfl) (by rw [hrl]; exact sizeRun) HR1.out ?_
       intro W7 hb7 hy7 hs7
       have HB7 := Lib.hid hb7
       have HY7 : Hid (W7.heap[w.heap.size]? = some (.cells (runV r).toArray 177 (0, 0))) := Lib.hid (by simpa using hy7)
       clear hb7 hy7 hs7))
  have HBW : Hid (Below w.heap.size w W7) := Lib.hid (HB6.out.trans (HB7.out.below (by have := HS6.out; omega) (fun k hk e => by omega)))
  obtain ⟨b6, hb6⟩ : ∃ b6, w.heap.size = b6 := ⟨_, rfl⟩
  rw [hb6] at HY7 ⊢
  clear c0 HB6 HY6 HS6 HB7
  have c34 : W7.cell? ⟨b6, 34, none⟩ = some (.slice (some ⟨gr, off, none⟩) r.2.2.1.length cap) := (cells_at0 HY7.out 34).trans P3.out
  by_cases h0 : m = 0
  · clear hm
    subst h0
    go_wp2_with fail
    refine bodyPost_ret (results_none (by kernel_rfl) _ _ _) rfl ?_
    exact ⟨rfl, HBW.out⟩
  · have j1 : r.2.2.1.length ≤ m := by omega
    clear hm
    go_wp2_with fail
    refine bodyPost_ret (results_none (by kernel_rfl) _ _ _) rfl ?_
    exact ⟨rfl, HBW.out⟩
/-- A cut, whatever it comes to. -/
theorem cut_any (d : List RunD) (i m : Nat) (B p : Nat) (v : Value) (w : World) (h : DocAt w B p v d) (hi : i < d.length) (hx : RunIx d) (hl : d.length ≤ 1073741823) :
    Calls Tryz.prog 158 #[.pointer (some ⟨p, 0, none⟩), .int .i64 (i : Int), .int .i64 (m : Int)] w fun e w' => e = .returned (.tuple #[]) ∧ DTurn w B p v (cutR d i m) w' := by
  obtain ⟨rs, rfl, hr⟩ := h.runs
  rw [List.length_map] at hi hl
  obtain ⟨g1, g2⟩ := hx (runOf rs[i]) (List.mem_map_of_mem (List.getElem_mem hi))
  by_cases hm : 0 < m ∧ m < rs[i].2.2.1.length
  · exact dcut_mid rs i m B p v w hr hi hm.1 hm.2 g1 g2 hl
  · have e : cutR (rs.map runOf) i m = rs.map runOf := cut_same (r := runOf rs[i]) (by rw [List.getElem?_map, List.getElem?_eq_getElem hi]; rfl) (by show m = 0 ∨ rs[i].2.2.1.length ≤ m; omega)
    rw [e]
    exact (cut_same_run rs i m B p v w hr hi (by omega) hl).mono fun e w' ⟨h1, h2⟩ => ⟨h1, DTurn.same h h2⟩
end Go.Proofs.YtdgbjhfkmembdaaGreatDoor
