/-
  An operation of a change that is added is done. Conditions: the state, the adder lie in memory; the operation is well formed.
-/
import Derived.Test.YtdgbjhfkmembdaaGreatDoorStateFit
import Derived.Test.YtdgbjhfkmembdaaGreatDoorBlockInsert
import Derived.Test.YtdgbjhfkmembdaaGreatDoorBlockNew
namespace Go.Proofs.YtdgbjhfkmembdaaGreatDoor
open Go.RowKit Go.Maps
set_option linter.unusedVariables false
set_option linter.unusedSimpArgs false

section
variable {P : Program} {K : TypeId} {κ : Type} {ok : κ → Prop} {val : κ → Value} {kl : κ → Lit} {w : World} {b n : Nat} {m : κ → Option Value}
theorem op_mapPut {o : Oper} {a : Act} {K' : Act → World → Prop} {Q : Exit → Act → World → Prop} [DecidableEq κ] (mo x v : Operand) (t : TypeId) (hop : o.op = Op.mapUpdate t mo x v)
    (e : TypeId) (E : KeyEnc P K ok val kl) (ht : P.underlying t = some (.map K e)) (hm : a.eval mo = .map (some b)) (hown : MapV w P K ok kl b n m) (hn : n < maxLen) (k0 : κ) (hk : ok k0) (hx : a.eval x = val k0) (v0 : Value) (hv : a.eval v = v0)
    (h : ∀ w', MapV w' P K ok kl b (n + 1) (fun k => if k = k0 then some v0 else m k) → w.grownBy w' (some b) → K' (a.put o.dst undef) w') : o.wp P a w K' Q := by
  obtain ⟨D, h1, h2, h3, h4⟩ := hown
  obtain ⟨w', hrun, r1, r2⟩ := h1.update (d := .held v0) (ps := []) E.keyed ht hn (E.of k0 hk) (show Rv v0 = some (.held v0, []) from rfl)
  obtain ⟨g1, g2, g3⟩ := put_view E h2 h3 h4 hk v0
  unfold Oper.wp
  simp [execOp, hop, hm, hx, hv, hrun, Result.andThen]
  exact h w' ⟨_, r1, g1, g2, g3⟩ r2
end
theorem infoRef15 : (Tryz.prog.info? 110).map (fun i => (i.zero, i.size, i.bytes)) = some (some (.agg (refV (zero32, 0)).toArray), 33, 40) := by kernel_rfl
theorem ref_built15 (n : Int) (w : World) : (Instr.build 110 #[(1, .int .i64 n)]).run Tryz.prog w = .ok (.agg (refV (zero32, n)).toArray) w := by kernel_rfl
theorem infoClaimB : (Tryz.prog.info? 135).map (fun i => (i.zero, i.size, i.bytes)) = some (some (.agg claimZ.toArray), 70, 120) := infoClaim15
theorem claim_built15 (k d : KeyD) (hk : KeyOk k) (hd : KeyOk d) (n : Nat) (s : ByteArray) (w : World) : (Instr.build 135 #[(0, .agg (keyV k).toArray), (1, .agg (keyV d).toArray), (2, .int .u8 (n : Int)), (3, .string s)]).run Tryz.prog w = .ok (.agg (claimV (k, d, n, s)).toArray) w := by
  obtain ⟨j, hi, hz, _, _⟩ := info_parts infoClaim15
  have h := built_struct (P := Tryz.prog) hi Tryz.underlying135 hz [keyV (0, zero32, 0), keyV (0, zero32, 0), [.int .u8 0], [.string noneS]] rfl (places := [(0, 34), (34, 34), (68, 1), (69, 1)]) (by kernel_rfl) (by kernel_rfl) [(0, .agg (keyV k).toArray), (1, .agg (keyV d).toArray), (2, .int .u8 (n : Int)), (3, .string s)] (by
    intro q hq
    simp only [List.mem_cons, List.not_mem_nil, or_false] at hq
    rcases hq with rfl | rfl | rfl | rfl
    · exact ⟨by show 0 < 4; omega, by show (keyV k).toArray.size = 34; rw [List.size_toArray, keyV_length hk]⟩
    · exact ⟨by show 1 < 4; omega, by show (keyV d).toArray.size = 34; rw [List.size_toArray, keyV_length hd]⟩
    · exact ⟨by show 2 < 4; omega, rfl⟩
    · exact ⟨by show 3 < 4; omega, rfl⟩)
  have h2 := run_build (P := Tryz.prog) w 135 #[(0, .agg (keyV k).toArray), (1, .agg (keyV d).toArray), (2, .int .u8 (n : Int)), (3, .string s)] _ h
  refine h2.trans ?_
  simp [claimV, Value.cells]
/-- What doing leaves. -/
def DoGives (w : World) (B s : Nat) (S S' : StateD) (q : StateL) (e : Ending) (w' : World) : Prop := e = .returned (.tuple #[]) ∧ ∃ q', StateAt w' B s S' q' ∧ But (StX s S q) w w' ∧ NewerX w s S S' q q' ∧ q'.nd ≤ q.nd + 1
theorem StateAt.notAd {w : World} {B s : Nat} {S : StateD} {q : StateL} (h : StateAt w B s S q) {k : Nat} {cur : Array Value} {t : TypeId} {fr : Nat × Nat} (hc : w.heap[k]? = some (.cells cur t fr)) (ht : stTag t = false) : ¬ StX s S q k := h.notX hc ht
set_option maxHeartbeats 4000000 in
set_option maxRecDepth 100000 in
theorem do_claim (B a s : Nat) (S : StateD) (q : StateL) (i : List UInt8) (c : ChangeD) (dv ov vm : Value) (place next : Nat) (x : OpD) (w : World) (h : StateAt w B s S q) (hA : AdderAt w a s i c dv ov vm) (hx : OpIn x) (htm : (Lit.int .i64 c.1).wf = true) (hpl : place ≤ 1073741824) (hnx : next ≤ 1099511627776) (hk : x.1 = 4 ∨ x.1 = 5) (hcl : S.2.1.length ≤ 1073741824) (hps : x.2.2.2.2.2.size ≤ maxLen) :
    Calls Tryz.prog 53 #[.pointer (some ⟨a, 0, none⟩), .int .i64 (place : Int), .int .i64 (next : Int), .agg (opV x).toArray] w (DoGives w B s S (doAt S i c.1 place next x) q) := by
  have HS := Lib.hid h; have HX := Lib.hid hx; have HA := Lib.hid hA
  have hol := opV_length hx
  have HID : Hid (IdOk i) := Lib.hid hA.id
  clear h hx hA
  have HKO : Hid (KeyOk (c.1, i, (place : Int))) := Lib.hid ⟨htm, HID.out, by
    show (Lit.int .i64 (place : Int)).wf = true
    simp only [Lit.wf, IntKind.min, IntKind.max, IntKind.signed, IntKind.bits, Bool.and_eq_true]
    simp
    omega⟩
  have HKD := Lib.hid (keyAt_ok (t := c.1) (r := x.2.1) HS.out HID.out htm HX.out.1.1)
  go_enter Tryz.func53, Tryz.ntmps53
  go_upto_region 1 with (first
    | (with_reducible refine at_box ?_
       refine wp_boxM (by rfl) 112 _ rfl (opV x) _ rfl rfl (by rw [hol]; kernel_rfl) ?_
       intro W1 hb1 hy1 hs1
       have HB1 := Lib.hid hb1; have HY1 := Lib.hid hy1
       clear hb1 hy1 hs1))
  obtain ⟨b7, hb7⟩ : ∃ z, w.heap.size = z := ⟨_, rfl⟩
  rw [hb7] at HY1 ⊢
  clear hb7
  have HS1 := Lib.hid (HS.out.keep HB1.out)
  have HA1 := Lib.hid (HA.out.keep HB1.out)
  have HF1 := Lib.hid (show ∀ u : World, Below W1.heap.size W1 u → u.cell? ⟨a, 33, none⟩ = some (.int .i64 c.1) ∧ u.rangeAt a 1 (idV i) from fun u hu => ⟨(HA1.out.keep hu).rest 0, (HA1.out.keep hu).idAt⟩)
  refine rN 12 (fun u => Below W1.heap.size W1 u) (qD _ _) fun hF0 => ?_
  refine tw 0 (.pointer (some ⟨a, 0, none⟩)) ?_
  go_frame
  refine tw 1 (.pointer (some ⟨a, 0, none⟩)) ?_
  go_frame
  refine tw 2 (.pointer (some ⟨a, 33, none⟩)) ?_
  go_frame
  refine tw 3 (.pointer (some ⟨a, 33, none⟩)) ?_
  go_frame
  refine tl 4 (.int .i64 c.1) rfl hF0 (fun w' hw' => l1 Tryz.underlying3 (HF1.out w' hw').1) ?_
  go_frame
  refine tw 5 (.pointer (some ⟨a, 0, none⟩)) ?_
  go_frame
  refine tw 6 (.pointer (some ⟨a, 0, none⟩)) ?_
  go_frame
  refine tw 7 (.pointer (some ⟨a, 1, none⟩)) ?_
  go_frame
  refine tl 8 (.agg (idV i).toArray) rfl hF0 (fun w' hw' => ldD HID.out (HF1.out w' hw').2) ?_
  go_frame
  refine tw 9 (.int .i64 (place : Int)) ?_
  go_frame
  refine tk 10 (.agg (keyV (c.1, i, (place : Int))).toArray) rfl (fun w' hw' => ex_build 89 _ rfl (by simp only [List.map_toArray, List.map_cons, List.map_nil]; exact key_built15 (t := c.1) (x := (place : Int)) HID.out _)) ?_
  go_frame
  refine ta 11 ?_
  refine wpOp_allocM _ rfl (by kernel_rfl) 89 rfl (keyV (0, zero32, 0)) (keyZ_run _) ?_
  intro W2 hb2 hy2 hs2
  have HB2 := Lib.hid ((qD W1.heap.size W1).trans (hb2.mono (qD W1.heap.size W1).size)); have HY2 := Lib.hid hy2
  clear hb2 hy2 hs2
  refine ⟨fun _ _ => HB2.out, ?_⟩
  go_frame
  refine ta 12 ?_
  have hkl := keyV_length HKO.out
  refine wpOp_storeM _ rfl (by kernel_rfl) 89 _ _ rfl W1.drew.heap.size 0 [] (keyV (0, zero32, 0)) [] (keyV (c.1, i, (place : Int))) 89 (.agg (keyV (c.1, i, (place : Int))).toArray) rfl rfl rfl rfl (by simpa using HY2.out) (by rw [hkl]; rfl) (by rw [hkl]; kernel_rfl) (keyV_one _) ?_
  intro W3 hb3 hy3 hs3
  have HB3 := Lib.hid (HB2.out.trans (hb3.below (B := W1.heap.size) HB2.out.size (fun k hk e => by
    have e2 : k = W1.drew.heap.size := e
    have e3 : W1.drew.heap.size = W1.heap.size := rfl
    omega)))
  have HY3 : Hid (W3.heap[W1.drew.heap.size]? = some (.cells (keyV (c.1, i, (place : Int))).toArray 89 (0, 0))) := Lib.hid (by simpa using hy3)
  clear hb3 hy3 hs3
  refine ⟨fun h => absurd h (by decide), ?_⟩
  go_frame
  refine wpAnyN_done (by kernel_rfl) ?_ _
  obtain ⟨b8, hb8⟩ : ∃ z, W1.drew.heap.size = z := ⟨_, rfl⟩
  rw [hb8] at HY3 ⊢
  clear hb8 HB2 HY2 hF0 HF1
  have HS3 := Lib.hid (HS1.out.keep HB3.out)
  have HA3 := Lib.hid (HA1.out.keep HB3.out)
  have HBW3 : Hid (Below w.heap.size w W3) := Lib.hid (HB1.out.trans (HB3.out.mono HB1.out.size))
  have HO3 := Lib.hid ((HB3.out.block b7 (qX HY1.out)).trans HY1.out)
  clear HS1 HA1 HB1 HB3 HY1
  have HRD := Lib.hid (show W3.rangeAt b7 1 (refV x.2.1) from fun j u hj => (cells_at0 HO3.out (1 + j)).trans ((op_cells HX.out).2.1 j u hj))
  have hkd := keyV_length HKD.out
  go_upto_region 3 with (first
    | (with_reducible refine at_load ?_
       refine wp_val (by rfl) (ex_load 110 _ rfl (p := ⟨b7, 1, none⟩) rfl (qV _ b7 1 _ (refV x.2.1) _ HRD.out Tryz.underlying110 rfl (by rw [refV_length HX.out.1.1]; kernel_rfl))) ?_)
    | (go_at_call 97; refine (skey_any B a s S q i c dv ov vm x.2.1 W3 HS3.out HA3.out HX.out.1.1).mono ?_
       rintro e w4 ⟨hb4, rfl⟩
       have HB4 := Lib.hid hb4
       clear hb4)
    | (with_reducible refine at_alloc ?_
       refine wp_allocM (by rfl) 89 rfl (keyV (0, zero32, 0)) (keyZ_run _) ?_
       intro W5 hb5 hy5 hs5
       have HB5 := Lib.hid hb5; have HY5 := Lib.hid hy5
       clear hb5 hy5 hs5)
    | (with_reducible refine at_store ?_
       refine wp_storeM (by rfl) 89 _ _ rfl w4.heap.size 0 [] (keyV (0, zero32, 0)) [] (keyV (keyAt S i c.1 x.2.1)) 89 (.agg (keyV (keyAt S i c.1 x.2.1)).toArray) rfl rfl rfl rfl (by simpa using HY5.out) (by rw [hkd]; rfl) (by rw [hkd]; kernel_rfl) (keyV_one _) ?_
       intro W6 hb6 hy6 hs6
       have HB6 := Lib.hid (HB4.out.trans ((HB5.out.trans (hb6.below (B := w4.heap.size) HB5.out.size (fun k hk e => by have e2 : k = w4.heap.size := e; omega))).mono HB4.out.size))
       have HY6 : Hid (W6.heap[w4.heap.size]? = some (.cells (keyV (keyAt S i c.1 x.2.1)).toArray 89 (0, 0))) := Lib.hid (by simpa using hy6)
       clear hb6 hy6 hs6))
  obtain ⟨b9, hb9⟩ : ∃ z, w4.heap.size = z := ⟨_, rfl⟩
  have HL9 := Lib.hid (show w.heap.size ≤ b9 by have := HBW3.out.size; have := HB4.out.size; omega)
  have HN89 := Lib.hid (show b8 < b9 by have h1 := qX HY3.out; have := HB4.out.size; omega)
  rw [hb9] at HY6 ⊢
  clear HB4 HB5 HY5 hb9 HRD
  have HS6 := Lib.hid (HS3.out.keep HB6.out)
  have HA6 := Lib.hid (HA3.out.keep HB6.out)
  have HBW6 : Hid (Below w.heap.size w W6) := Lib.hid (HBW3.out.trans (HB6.out.mono HBW3.out.size))
  have HO6 := Lib.hid ((HB6.out.block b7 (qX HO3.out)).trans HO3.out)
  have HOWN6 := Lib.hid ((HB6.out.block b8 (qX HY3.out)).trans HY3.out)
  clear HS3 HA3 HBW3 HB6 HO3 HY3
  have k0 : W6.cell? ⟨b7, 0, none⟩ = some (.int .u8 (x.1.toNat : Int)) := (cells_at0 HO6.out 0).trans (op_cells HX.out).1
  have HCO : Hid (ClaimOk ((c.1, i, (place : Int)), keyAt S i c.1 x.2.1, x.1.toNat, x.2.2.2.2.2)) := Lib.hid ⟨HKO.out, HKD.out, (by show x.1.toNat < 256; exact x.1.toNat_lt), hps⟩
  have HDO : Hid (doAt S i c.1 place next x = (S.1, S.2.1 ++ [((c.1, i, (place : Int)), keyAt S i c.1 x.2.1, x.1.toNat, x.2.2.2.2.2)], S.2.2)) := Lib.hid (by
    unfold doAt
    rw [if_neg (by rcases hk with e | e <;> rw [e] <;> decide), if_pos hk])
  have EK : Hid ((x.1.toNat : Int) = (x.1.toNat : Int)) := Lib.hid rfl
  generalize keyAt S i c.1 x.2.1 = kd at *
  have hcases : ((x.1.toNat : Int) == 3) = false ∧ (((x.1.toNat : Int) == 4) = true ∨ (((x.1.toNat : Int) == 4) = false ∧ ((x.1.toNat : Int) == 5) = true)) := by rcases hk with e | e <;> rw [e] <;> decide
  obtain ⟨e3, e4⟩ := hcases
  have HFIN : Hid (∀ w8 v', But (fun j => j = s ∨ q.vc.ownBlock = some j) W6.drew w8 → StateAt w8 B s (S.1, S.2.1 ++ [((c.1, i, (place : Int)), kd, x.1.toNat, x.2.2.2.2.2)], S.2.2) { q with vc := v' } → Newer W6 q.vc v' → DoGives w B s S (doAt S i c.1 place next x) q (.returned (.tuple #[])) w8) := Lib.hid fun w8 v' hbt hst hnw => by
    rw [HDO.out]
    refine ⟨rfl, _, hst, (But.of_below HBW6.out).trans ((But.refl _ W6).drew.trans hbt fun k _ hx => hx) fun k hk hx => ?_, fun j hj => ?_, Nat.le_succ _⟩
    · rcases hx with hx | hx
      · exact .inl hx
      · exact .inr (.inr (.inr (.inl hx)))
    · rcases hj with hj | hj | hj | hj | hj
      · exact .inl (.inl hj)
      · exact .inl (.inr (.inl hj))
      · exact .inl (.inr (.inr (.inl hj)))
      · rcases hnw j hj with g | g
        · exact .inl (.inr (.inr (.inr (.inl g))))
        · exact .inr (qT HBW6.out.size g)
      · exact .inl (.inr (.inr (.inr (.inr hj))))
  rcases e4 with e4 | ⟨e4, e5⟩
  · go_upto_region 10 with fail
    clear k0
    have HFC := Lib.hid (show ∀ u : World, Below W6.heap.size W6 u → u.cell? ⟨a, 0, none⟩ = some (.pointer (some ⟨s, 0, none⟩)) ∧ u.rangeAt b8 0 (keyV (c.1, i, (place : Int))) ∧ u.rangeAt b9 0 (keyV (kd)) ∧ u.cell? ⟨b7, 0, none⟩ = some (.int .u8 (x.1.toNat : Int)) ∧ u.cell? ⟨b7, 69, none⟩ = some (.string x.2.2.2.2.2) from fun u hu => by
      have hZ := (hu.block b7 (qX HO6.out)).trans HO6.out
      refine ⟨(HA6.out.keep hu).st, fun j v hj => ?_, fun j v hj => ?_, ?_, (cells_at0 hZ 69).trans (op_cells HX.out).2.2.2.2.2⟩
      · rw [qZ]; exact (cells_at0 ((hu.block b8 (qX HOWN6.out)).trans HOWN6.out) j).trans hj
      · rw [qZ]; exact (cells_at0 ((hu.block b9 (qX HY6.out)).trans HY6.out) j).trans hj
      · rw [cells_at0 hZ 0, (op_cells HX.out).1, EK.out])
    have hEC := enE Tryz.func100 rfl
    refine rN 13 (fun u => Below W6.heap.size W6 u) (qD _ _) fun hF0 => ?_
    refine tw 0 (.pointer (some ⟨a, 0, none⟩)) ?_
    go_frame
    refine tw 1 (.pointer (some ⟨a, 0, none⟩)) ?_
    go_frame
    refine tw 2 (.pointer (some ⟨a, 0, none⟩)) ?_
    go_frame
    refine tl 3 (.pointer (some ⟨s, 0, none⟩)) rfl hF0 (fun w' hw' => l1 Tryz.underlying24 (HFC.out w' hw').1) ?_
    go_frame
    refine tw 4 (.pointer (some ⟨s, 0, none⟩)) ?_
    go_frame
    refine tw 5 (.pointer (some ⟨s, 0, none⟩)) ?_
    go_frame
    refine tl 6 (.agg (keyV (c.1, i, (place : Int))).toArray) rfl hF0 (fun w' hw' => ldK HKO.out (HFC.out w' hw').2.1) ?_
    go_frame
    refine tl 7 (.agg (keyV (kd)).toArray) rfl hF0 (fun w' hw' => ldK HKD.out (HFC.out w' hw').2.2.1) ?_
    go_frame
    refine tw 8 (.pointer (some ⟨b7, 0, none⟩)) ?_
    go_frame
    refine tl 9 (.int .u8 (x.1.toNat : Int)) rfl hF0 (fun w' hw' => l1 Tryz.underlying5 (HFC.out w' hw').2.2.2.1) ?_
    go_frame
    refine tw 10 (.pointer (some ⟨b7, 69, none⟩)) ?_
    go_frame
    refine tl 11 (.string x.2.2.2.2.2) rfl hF0 (fun w' hw' => l1 Tryz.underlying9 (HFC.out w' hw').2.2.2.2) ?_
    go_frame
    refine tk 12 (.agg (claimV ((c.1, i, (place : Int)), kd, (x.1.toNat), x.2.2.2.2.2)).toArray) rfl (fun w' hw' => ex_build 135 _ rfl (by simp only [List.map_toArray, List.map_cons, List.map_nil]; exact claim_built15 _ _ HKO.out HKD.out _ _ _)) ?_
    go_frame
    refine ta 13 ?_
    refine tc #[.pointer (some ⟨s, 0, none⟩), .agg (claimV ((c.1, i, (place : Int)), kd, (x.1.toNat), x.2.2.2.2.2)).toArray] hEC rfl ?_
    refine (claim_any B s S q ((c.1, i, (place : Int)), kd, (x.1.toNat), x.2.2.2.2.2) W6.drew (HS6.out.keep (qD _ _)) HCO.out hcl).mono ?_
    rintro e w8 ⟨rfl, hbt, v', hst, hnv⟩
    have HBT := Lib.hid hbt; have HST := Lib.hid hst; have HNV := Lib.hid hnv
    clear hbt hst hnv
    refine ⟨_, rfl, fun h => absurd h (by decide), ?_⟩
    go_frame
    refine wpAnyN_done (by kernel_rfl) ?_ _
    go_wp2_with fail
    go_end0
    exact HFIN.out _ _ HBT.out HST.out HNV.out
  · go_upto_region 10 with fail
    clear k0
    have HFC := Lib.hid (show ∀ u : World, Below W6.heap.size W6 u → u.cell? ⟨a, 0, none⟩ = some (.pointer (some ⟨s, 0, none⟩)) ∧ u.rangeAt b8 0 (keyV (c.1, i, (place : Int))) ∧ u.rangeAt b9 0 (keyV (kd)) ∧ u.cell? ⟨b7, 0, none⟩ = some (.int .u8 (x.1.toNat : Int)) ∧ u.cell? ⟨b7, 69, none⟩ = some (.string x.2.2.2.2.2) from fun u hu => by
      have hZ := (hu.block b7 (qX HO6.out)).trans HO6.out
      refine ⟨(HA6.out.keep hu).st, fun j v hj => ?_, fun j v hj => ?_, ?_, (cells_at0 hZ 69).trans (op_cells HX.out).2.2.2.2.2⟩
      · rw [qZ]; exact (cells_at0 ((hu.block b8 (qX HOWN6.out)).trans HOWN6.out) j).trans hj
      · rw [qZ]; exact (cells_at0 ((hu.block b9 (qX HY6.out)).trans HY6.out) j).trans hj
      · rw [cells_at0 hZ 0, (op_cells HX.out).1, EK.out])
    have hEC := enE Tryz.func100 rfl
    refine rN 13 (fun u => Below W6.heap.size W6 u) (qD _ _) fun hF0 => ?_
    refine tw 0 (.pointer (some ⟨a, 0, none⟩)) ?_
    go_frame
    refine tw 1 (.pointer (some ⟨a, 0, none⟩)) ?_
    go_frame
    refine tw 2 (.pointer (some ⟨a, 0, none⟩)) ?_
    go_frame
    refine tl 3 (.pointer (some ⟨s, 0, none⟩)) rfl hF0 (fun w' hw' => l1 Tryz.underlying24 (HFC.out w' hw').1) ?_
    go_frame
    refine tw 4 (.pointer (some ⟨s, 0, none⟩)) ?_
    go_frame
    refine tw 5 (.pointer (some ⟨s, 0, none⟩)) ?_
    go_frame
    refine tl 6 (.agg (keyV (c.1, i, (place : Int))).toArray) rfl hF0 (fun w' hw' => ldK HKO.out (HFC.out w' hw').2.1) ?_
    go_frame
    refine tl 7 (.agg (keyV (kd)).toArray) rfl hF0 (fun w' hw' => ldK HKD.out (HFC.out w' hw').2.2.1) ?_
    go_frame
    refine tw 8 (.pointer (some ⟨b7, 0, none⟩)) ?_
    go_frame
    refine tl 9 (.int .u8 (x.1.toNat : Int)) rfl hF0 (fun w' hw' => l1 Tryz.underlying5 (HFC.out w' hw').2.2.2.1) ?_
    go_frame
    refine tw 10 (.pointer (some ⟨b7, 69, none⟩)) ?_
    go_frame
    refine tl 11 (.string x.2.2.2.2.2) rfl hF0 (fun w' hw' => l1 Tryz.underlying9 (HFC.out w' hw').2.2.2.2) ?_
    go_frame
    refine tk 12 (.agg (claimV ((c.1, i, (place : Int)), kd, (x.1.toNat), x.2.2.2.2.2)).toArray) rfl (fun w' hw' => ex_build 135 _ rfl (by simp only [List.map_toArray, List.map_cons, List.map_nil]; exact claim_built15 _ _ HKO.out HKD.out _ _ _)) ?_
    go_frame
    refine ta 13 ?_
    refine tc #[.pointer (some ⟨s, 0, none⟩), .agg (claimV ((c.1, i, (place : Int)), kd, (x.1.toNat), x.2.2.2.2.2)).toArray] hEC rfl ?_
    refine (claim_any B s S q ((c.1, i, (place : Int)), kd, (x.1.toNat), x.2.2.2.2.2) W6.drew (HS6.out.keep (qD _ _)) HCO.out hcl).mono ?_
    rintro e w8 ⟨rfl, hbt, v', hst, hnv⟩
    have HBT := Lib.hid hbt; have HST := Lib.hid hst; have HNV := Lib.hid hnv
    clear hbt hst hnv
    refine ⟨_, rfl, fun h => absurd h (by decide), ?_⟩
    go_frame
    refine wpAnyN_done (by kernel_rfl) ?_ _
    go_wp2_with fail
    go_end0
    exact HFIN.out _ _ HBT.out HST.out HNV.out
set_option maxHeartbeats 4000000 in
set_option maxRecDepth 100000 in
theorem do_create (B a s : Nat) (S : StateD) (q : StateL) (i : List UInt8) (c : ChangeD) (dv ov vm : Value) (place next : Nat) (x : OpD) (w : World) (h : StateAt w B s S q) (hA : AdderAt w a s i c dv ov vm) (hx : OpIn x) (htm : (Lit.int .i64 c.1).wf = true) (hpl : place ≤ 1073741824) (hnx : next ≤ 1099511627776) (hk : x.1 = 3) (hcl : S.2.1.length ≤ 1073741824) (hps : x.2.2.2.2.2.size ≤ maxLen) (hnd : q.nd ≤ 1073741824) :
    Calls Tryz.prog 53 #[.pointer (some ⟨a, 0, none⟩), .int .i64 (place : Int), .int .i64 (next : Int), .agg (opV x).toArray] w (DoGives w B s S (doAt S i c.1 place next x) q) := by
  have HS := Lib.hid h; have HX := Lib.hid hx; have HA := Lib.hid hA
  have hol := opV_length hx
  have HID : Hid (IdOk i) := Lib.hid hA.id
  clear h hx hA
  have HKO : Hid (KeyOk (c.1, i, (place : Int))) := Lib.hid ⟨htm, HID.out, by
    show (Lit.int .i64 (place : Int)).wf = true
    simp only [Lit.wf, IntKind.min, IntKind.max, IntKind.signed, IntKind.bits, Bool.and_eq_true]
    simp
    omega⟩
  have HKD := Lib.hid (keyAt_ok (t := c.1) (r := x.2.1) HS.out HID.out htm HX.out.1.1)
  go_enter Tryz.func53, Tryz.ntmps53
  go_upto_region 1 with (first
    | (with_reducible refine at_box ?_
       refine wp_boxM (by rfl) 112 _ rfl (opV x) _ rfl rfl (by rw [hol]; kernel_rfl) ?_
       intro W1 hb1 hy1 hs1
       have HB1 := Lib.hid hb1; have HY1 := Lib.hid hy1
       clear hb1 hy1 hs1))
  obtain ⟨b7, hb7⟩ : ∃ z, w.heap.size = z := ⟨_, rfl⟩
  rw [hb7] at HY1 ⊢
  clear hb7
  have HS1 := Lib.hid (HS.out.keep HB1.out)
  have HA1 := Lib.hid (HA.out.keep HB1.out)
  have HF1 := Lib.hid (show ∀ u : World, Below W1.heap.size W1 u → u.cell? ⟨a, 33, none⟩ = some (.int .i64 c.1) ∧ u.rangeAt a 1 (idV i) from fun u hu => ⟨(HA1.out.keep hu).rest 0, (HA1.out.keep hu).idAt⟩)
  refine rN 12 (fun u => Below W1.heap.size W1 u) (qD _ _) fun hF0 => ?_
  refine tw 0 (.pointer (some ⟨a, 0, none⟩)) ?_
  go_frame
  refine tw 1 (.pointer (some ⟨a, 0, none⟩)) ?_
  go_frame
  refine tw 2 (.pointer (some ⟨a, 33, none⟩)) ?_
  go_frame
  refine tw 3 (.pointer (some ⟨a, 33, none⟩)) ?_
  go_frame
  refine tl 4 (.int .i64 c.1) rfl hF0 (fun w' hw' => l1 Tryz.underlying3 (HF1.out w' hw').1) ?_
  go_frame
  refine tw 5 (.pointer (some ⟨a, 0, none⟩)) ?_
  go_frame
  refine tw 6 (.pointer (some ⟨a, 0, none⟩)) ?_
  go_frame
  refine tw 7 (.pointer (some ⟨a, 1, none⟩)) ?_
  go_frame
  refine tl 8 (.agg (idV i).toArray) rfl hF0 (fun w' hw' => ldD HID.out (HF1.out w' hw').2) ?_
  go_frame
  refine tw 9 (.int .i64 (place : Int)) ?_
  go_frame
  refine tk 10 (.agg (keyV (c.1, i, (place : Int))).toArray) rfl (fun w' hw' => ex_build 89 _ rfl (by simp only [List.map_toArray, List.map_cons, List.map_nil]; exact key_built15 (t := c.1) (x := (place : Int)) HID.out _)) ?_
  go_frame
  refine ta 11 ?_
  refine wpOp_allocM _ rfl (by kernel_rfl) 89 rfl (keyV (0, zero32, 0)) (keyZ_run _) ?_
  intro W2 hb2 hy2 hs2
  have HB2 := Lib.hid ((qD W1.heap.size W1).trans (hb2.mono (qD W1.heap.size W1).size)); have HY2 := Lib.hid hy2
  clear hb2 hy2 hs2
  refine ⟨fun _ _ => HB2.out, ?_⟩
  go_frame
  refine ta 12 ?_
  have hkl := keyV_length HKO.out
  refine wpOp_storeM _ rfl (by kernel_rfl) 89 _ _ rfl W1.drew.heap.size 0 [] (keyV (0, zero32, 0)) [] (keyV (c.1, i, (place : Int))) 89 (.agg (keyV (c.1, i, (place : Int))).toArray) rfl rfl rfl rfl (by simpa using HY2.out) (by rw [hkl]; rfl) (by rw [hkl]; kernel_rfl) (keyV_one _) ?_
  intro W3 hb3 hy3 hs3
  have HB3 := Lib.hid (HB2.out.trans (hb3.below (B := W1.heap.size) HB2.out.size (fun k hk e => by
    have e2 : k = W1.drew.heap.size := e
    have e3 : W1.drew.heap.size = W1.heap.size := rfl
    omega)))
  have HY3 : Hid (W3.heap[W1.drew.heap.size]? = some (.cells (keyV (c.1, i, (place : Int))).toArray 89 (0, 0))) := Lib.hid (by simpa using hy3)
  clear hb3 hy3 hs3
  refine ⟨fun h => absurd h (by decide), ?_⟩
  go_frame
  refine wpAnyN_done (by kernel_rfl) ?_ _
  obtain ⟨b8, hb8⟩ : ∃ z, W1.drew.heap.size = z := ⟨_, rfl⟩
  rw [hb8] at HY3 ⊢
  clear hb8 HB2 HY2 hF0 HF1
  have HS3 := Lib.hid (HS1.out.keep HB3.out)
  have HA3 := Lib.hid (HA1.out.keep HB3.out)
  have HBW3 : Hid (Below w.heap.size w W3) := Lib.hid (HB1.out.trans (HB3.out.mono HB1.out.size))
  have HO3 := Lib.hid ((HB3.out.block b7 (qX HY1.out)).trans HY1.out)
  clear HS1 HA1 HB1 HB3 HY1
  have HRD := Lib.hid (show W3.rangeAt b7 1 (refV x.2.1) from fun j u hj => (cells_at0 HO3.out (1 + j)).trans ((op_cells HX.out).2.1 j u hj))
  have hkd := keyV_length HKD.out
  go_upto_region 3 with (first
    | (with_reducible refine at_load ?_
       refine wp_val (by rfl) (ex_load 110 _ rfl (p := ⟨b7, 1, none⟩) rfl (qV _ b7 1 _ (refV x.2.1) _ HRD.out Tryz.underlying110 rfl (by rw [refV_length HX.out.1.1]; kernel_rfl))) ?_)
    | (go_at_call 97; refine (skey_any B a s S q i c dv ov vm x.2.1 W3 HS3.out HA3.out HX.out.1.1).mono ?_
       rintro e w4 ⟨hb4, rfl⟩
       have HB4 := Lib.hid hb4
       clear hb4)
    | (with_reducible refine at_alloc ?_
       refine wp_allocM (by rfl) 89 rfl (keyV (0, zero32, 0)) (keyZ_run _) ?_
       intro W5 hb5 hy5 hs5
       have HB5 := Lib.hid hb5; have HY5 := Lib.hid hy5
       clear hb5 hy5 hs5)
    | (with_reducible refine at_store ?_
       refine wp_storeM (by rfl) 89 _ _ rfl w4.heap.size 0 [] (keyV (0, zero32, 0)) [] (keyV (keyAt S i c.1 x.2.1)) 89 (.agg (keyV (keyAt S i c.1 x.2.1)).toArray) rfl rfl rfl rfl (by simpa using HY5.out) (by rw [hkd]; rfl) (by rw [hkd]; kernel_rfl) (keyV_one _) ?_
       intro W6 hb6 hy6 hs6
       have HB6 := Lib.hid (HB4.out.trans ((HB5.out.trans (hb6.below (B := w4.heap.size) HB5.out.size (fun k hk e => by have e2 : k = w4.heap.size := e; omega))).mono HB4.out.size))
       have HY6 : Hid (W6.heap[w4.heap.size]? = some (.cells (keyV (keyAt S i c.1 x.2.1)).toArray 89 (0, 0))) := Lib.hid (by simpa using hy6)
       clear hb6 hy6 hs6))
  obtain ⟨b9, hb9⟩ : ∃ z, w4.heap.size = z := ⟨_, rfl⟩
  have HL9 := Lib.hid (show w.heap.size ≤ b9 by have := HBW3.out.size; have := HB4.out.size; omega)
  have HN89 := Lib.hid (show b8 < b9 by have h1 := qX HY3.out; have := HB4.out.size; omega)
  rw [hb9] at HY6 ⊢
  clear HB4 HB5 HY5 hb9 HRD
  have HS6 := Lib.hid (HS3.out.keep HB6.out)
  have HA6 := Lib.hid (HA3.out.keep HB6.out)
  have HBW6 : Hid (Below w.heap.size w W6) := Lib.hid (HBW3.out.trans (HB6.out.mono HBW3.out.size))
  have HO6 := Lib.hid ((HB6.out.block b7 (qX HO3.out)).trans HO3.out)
  have HOWN6 := Lib.hid ((HB6.out.block b8 (qX HY3.out)).trans HY3.out)
  clear HS3 HA3 HBW3 HB6 HO3 HY3
  have k0 : W6.cell? ⟨b7, 0, none⟩ = some (.int .u8 (x.1.toNat : Int)) := (cells_at0 HO6.out 0).trans (op_cells HX.out).1
  have HKN : Hid (KeyOk (c.1, i, (next : Int))) := Lib.hid ⟨htm, HID.out, by
    show (Lit.int .i64 (next : Int)).wf = true
    simp only [Lit.wf, IntKind.min, IntKind.max, IntKind.signed, IntKind.bits, Bool.and_eq_true]
    simp
    omega⟩
  have HCO : Hid (ClaimOk ((c.1, i, (place : Int)), (c.1, i, (next : Int)), 3, x.2.2.2.2.2)) := Lib.hid ⟨HKO.out, HKN.out, (by show 3 < 256; omega), hps⟩
  have HDO : Hid (doAt S i c.1 place next x = (setDoc S.1 (c.1, i, (next : Int)) [], S.2.1 ++ [((c.1, i, (place : Int)), (c.1, i, (next : Int)), 3, x.2.2.2.2.2)], S.2.2)) := Lib.hid (by
    unfold doAt
    rw [if_pos hk])
  have EK : Hid ((x.1.toNat : Int) = 3) := Lib.hid (by rw [hk]; rfl)
  have ek := EK.out
  rw [ek] at k0
  have hkn := keyV_length HKN.out
  have hroK : RefOk (zero32, (next : Int)) := ⟨zero32_ok, HKN.out.2.2⟩
  have HSK := Lib.hid (skey_any B a s S q i c dv ov vm (zero32, (next : Int)) W6 HS6.out HA6.out hroK)
  clear ek hroK hk
  go_upto_region 6 with (first
    | (with_reducible refine at_build ?_
       refine wp_val (by rfl) (ex_build 110 _ rfl (by simp only [List.map_toArray, List.map_cons, List.map_nil]; exact ref_built15 _ _)) ?_)
    | (go_at_call 97; refine HSK.out.mono ?_
       rintro e w7 ⟨hb7, rfl⟩
       rw [show keyAt S i c.1 (zero32, (next : Int)) = (c.1, i, (next : Int)) from by unfold keyAt; rw [if_pos rfl]]
       have HB7 := Lib.hid hb7
       have HY7 := Lib.hid ((hb7.block b9 (qX HY6.out)).trans HY6.out)
       clear hb7)
    | (with_reducible refine at_store ?_
       refine wp_storeM (by rfl) 89 _ _ rfl b9 0 [] (keyV (keyAt S i c.1 x.2.1)) [] (keyV (c.1, i, (next : Int))) 89 (.agg (keyV (c.1, i, (next : Int))).toArray) rfl rfl rfl rfl (by simpa using HY7.out) (by rw [hkn, hkd]) (by rw [hkn]; kernel_rfl) (keyV_one _) ?_
       intro W8 hb8 hy8 hs8
       have HB8 : Hid (But (fun k => k = b9) W6 W8) := Lib.hid ((But.of_below HB7.out).trans hb8 fun k hk e => e)
       have HY8 : Hid (W8.heap[b9]? = some (.cells (keyV (c.1, i, (next : Int))).toArray 89 (0, 0))) := Lib.hid (by simpa using hy8)
       clear hb8 hy8 hs8))
  clear k0
  have HB8S := Lib.hid (show W6.heap.size ≤ W8.heap.size from HB8.out.size)
  have HBW8 : Hid (Below w.heap.size w W8) := Lib.hid (HBW6.out.trans (HB8.out.below HBW6.out.size fun k hk e => by have := HL9.out; omega))
  have HS8 := Lib.hid (HS.out.keep HBW8.out)
  have HA8 := Lib.hid (HA.out.keep HBW8.out)
  have HO8 := Lib.hid ((HB8.out.block b7 (qX HO6.out) (ne_tag HO6.out HY6.out (by decide))).trans HO6.out)
  have HOWN8 := Lib.hid ((HB8.out.block b8 (qX HOWN6.out) (fun e => by have := HN89.out; omega)).trans HOWN6.out)
  have HBA : Hid (B ≤ W8.heap.size) := Lib.hid (qT HS6.out.low.1 (Nat.le_of_lt (qL (qX HS6.out.box) HB8S.out)))
  have HFU := Lib.hid (show ∀ u : World, Below W8.heap.size W8 u → u.cell? ⟨a, 0, none⟩ = some (.pointer (some ⟨s, 0, none⟩)) ∧ u.cell? ⟨s, 0, none⟩ = some (.map (some q.bd)) ∧ u.rangeAt b9 0 (keyV (c.1, i, (next : Int))) from fun u hu => ⟨(HA8.out.keep hu).st, cells_at0 (HS8.out.keep hu).box 0, fun j v hj => by rw [qZ]; exact (cells_at0 ((hu.block b9 (qX HY8.out)).trans HY8.out) j).trans hj⟩)
  have hEN := enE Tryz.func99 rfl
  refine rN 10 (fun u => Below W8.heap.size W8 u) (qD _ _) fun hF0 => ?_
  refine tw 0 (.pointer (some ⟨a, 0, none⟩)) ?_
  go_frame
  refine tw 1 (.pointer (some ⟨a, 0, none⟩)) ?_
  go_frame
  refine tw 2 (.pointer (some ⟨a, 0, none⟩)) ?_
  go_frame
  refine tl 3 (.pointer (some ⟨s, 0, none⟩)) rfl hF0 (fun w' hw' => l1 Tryz.underlying24 (HFU.out w' hw').1) ?_
  go_frame
  refine tw 4 (.pointer (some ⟨s, 0, none⟩)) ?_
  go_frame
  refine tw 5 (.pointer (some ⟨s, 0, none⟩)) ?_
  go_frame
  refine tw 6 (.pointer (some ⟨s, 0, none⟩)) ?_
  go_frame
  refine tl 7 (.map (some q.bd)) rfl hF0 (fun w' hw' => l1 Tryz.underlying81 (HFU.out w' hw').2.1) ?_
  go_frame
  refine tl 8 (.agg (keyV (c.1, i, (next : Int))).toArray) rfl hF0 (fun w' hw' => ldK HKN.out (HFU.out w' hw').2.2) ?_
  go_frame
  refine ta 9 ?_
  refine tc #[] hEN rfl ?_ (ha := by simp)
  refine (docNew_any B W8.drew HBA.out).mono ?_
  rintro e w9 ⟨rfl, hb9, hd9⟩
  have HB9 := Lib.hid ((qD W8.heap.size W8).trans (hb9.mono (qD W8.heap.size W8).size)); have HD9 := Lib.hid hd9
  clear hb9 hd9
  refine ⟨_, rfl, fun _ _ => HB9.out, ?_⟩
  go_frame
  obtain ⟨p9, hp9⟩ : ∃ z, W8.drew.heap.size = z := ⟨_, rfl⟩
  rw [hp9] at HD9 ⊢
  have HP9 := Lib.hid (show p9 = W8.heap.size from hp9.symm)
  have HS9 := Lib.hid (HS8.out.keep HB9.out)
  refine ta 10 ?_
  refine wpOp_wp _ rfl (by kernel_rfl) ?_
  refine op_mapPut _ _ _ 81 rfl 92 keyEnc Tryz.underlying81 rfl HS9.out.mapD (by unfold maxLen; omega) (c.1, i, (next : Int)) HKN.out rfl (.pointer (some ⟨p9, 0, none⟩)) rfl ?_
  intro wA hmA hgA
  have HMA := Lib.hid hmA
  have HGA : Hid (But (fun j => j = q.bd) w9 wA) := Lib.hid ((But.refl _ w9).grown hgA fun k e _ => (Option.some.inj e).symm)
  clear hmA hgA
  refine ⟨fun h => absurd h (by decide), ?_⟩
  go_frame
  refine wpAnyN_done (by kernel_rfl) ?_ _
  have hfr : ∀ z, (docAt S z).isSome = true → ¬ DocX (q.ptr z) (q.row z) p9 := fun z hz hx => by
    have h1 := (HS8.out.apartDoc hz hx).1
    have h2 := HP9.out
    omega
  have hst := HS9.out.putDoc HKN.out HD9.out.at hfr HMA.out HGA.out
  obtain ⟨qA, hqA⟩ : ∃ z : StateL, z = { q with nd := q.nd + 1, ptr := fun z => if z = (c.1, i, (next : Int)) then p9 else q.ptr z, row := fun z => if z = (c.1, i, (next : Int)) then .slice none 0 0 else q.row z } := ⟨_, rfl⟩
  rw [← hqA] at hst
  have HST0 := Lib.hid hst; have HQA := Lib.hid hqA
  have HNB : ∀ {k : Nat} {cur : Array Value} {t : TypeId} {fr : Nat × Nat}, w9.heap[k]? = some (.cells cur t fr) → wA.heap[k]? = some (.cells cur t fr) := fun {k cur t fr} hc => (HGA.out.block k (qX hc) (ne_map hc HS9.out.mapD_obj)).trans hc
  have HAA := Lib.hid (AdderAt.mk (dv := dv) (ov := ov) (vm := vm) (c := c) (s := s) (HNB ((HA8.out.keep HB9.out).box)) HID.out)
  have HOA := Lib.hid (HNB ((HB9.out.block b7 (qX HO8.out)).trans HO8.out))
  have HWA := Lib.hid (HNB ((HB9.out.block b8 (qX HOWN8.out)).trans HOWN8.out))
  have HYA := Lib.hid (HNB ((HB9.out.block b9 (qX HY8.out)).trans HY8.out))
  have HBWA : Hid (But (StX s S q) w wA) := Lib.hid ((But.of_below (HBW8.out.trans (HB9.out.mono HBW8.out.size))).trans HGA.out fun k hk e => .inr (.inl e))
  have HSZA := Lib.hid (show w.heap.size ≤ wA.heap.size ∧ w.heap.size ≤ p9 from by
    have h1 := HBW8.out.size; have h2 := HB9.out.size; have h3 := HGA.out.size; have h4 := HP9.out
    omega)
  have hcl2 : (setDoc S.1 (c.1, i, (next : Int)) [], S.2).2.1.length ≤ 1073741824 := hcl
  clear hst hqA HMA HGA HB9 HD9 HNB hfr
  go_upto_region 7 with fail
  have HFC := Lib.hid (show ∀ u : World, Below wA.heap.size wA u → u.cell? ⟨a, 0, none⟩ = some (.pointer (some ⟨s, 0, none⟩)) ∧ u.rangeAt b8 0 (keyV (c.1, i, (place : Int))) ∧ u.rangeAt b9 0 (keyV ((c.1, i, (next : Int)))) ∧ u.cell? ⟨b7, 0, none⟩ = some (.int .u8 (3 : Int)) ∧ u.cell? ⟨b7, 69, none⟩ = some (.string x.2.2.2.2.2) from fun u hu => by
    have hZ := (hu.block b7 (qX HOA.out)).trans HOA.out
    refine ⟨(HAA.out.keep hu).st, fun j v hj => ?_, fun j v hj => ?_, ?_, (cells_at0 hZ 69).trans (op_cells HX.out).2.2.2.2.2⟩
    · rw [qZ]; exact (cells_at0 ((hu.block b8 (qX HWA.out)).trans HWA.out) j).trans hj
    · rw [qZ]; exact (cells_at0 ((hu.block b9 (qX HYA.out)).trans HYA.out) j).trans hj
    · rw [cells_at0 hZ 0, (op_cells HX.out).1, EK.out])
  have hEC := enE Tryz.func100 rfl
  refine rN 13 (fun u => Below wA.heap.size wA u) (qD _ _) fun hF0 => ?_
  refine tw 0 (.pointer (some ⟨a, 0, none⟩)) ?_
  go_frame
  refine tw 1 (.pointer (some ⟨a, 0, none⟩)) ?_
  go_frame
  refine tw 2 (.pointer (some ⟨a, 0, none⟩)) ?_
  go_frame
  refine tl 3 (.pointer (some ⟨s, 0, none⟩)) rfl hF0 (fun w' hw' => l1 Tryz.underlying24 (HFC.out w' hw').1) ?_
  go_frame
  refine tw 4 (.pointer (some ⟨s, 0, none⟩)) ?_
  go_frame
  refine tw 5 (.pointer (some ⟨s, 0, none⟩)) ?_
  go_frame
  refine tl 6 (.agg (keyV (c.1, i, (place : Int))).toArray) rfl hF0 (fun w' hw' => ldK HKO.out (HFC.out w' hw').2.1) ?_
  go_frame
  refine tl 7 (.agg (keyV ((c.1, i, (next : Int)))).toArray) rfl hF0 (fun w' hw' => ldK HKN.out (HFC.out w' hw').2.2.1) ?_
  go_frame
  refine tw 8 (.pointer (some ⟨b7, 0, none⟩)) ?_
  go_frame
  refine tl 9 (.int .u8 (3 : Int)) rfl hF0 (fun w' hw' => l1 Tryz.underlying5 (HFC.out w' hw').2.2.2.1) ?_
  go_frame
  refine tw 10 (.pointer (some ⟨b7, 69, none⟩)) ?_
  go_frame
  refine tl 11 (.string x.2.2.2.2.2) rfl hF0 (fun w' hw' => l1 Tryz.underlying9 (HFC.out w' hw').2.2.2.2) ?_
  go_frame
  refine tk 12 (.agg (claimV ((c.1, i, (place : Int)), (c.1, i, (next : Int)), (3), x.2.2.2.2.2)).toArray) rfl (fun w' hw' => ex_build 135 _ rfl (by simp only [List.map_toArray, List.map_cons, List.map_nil]; exact claim_built15 _ _ HKO.out HKN.out _ _ _)) ?_
  go_frame
  refine ta 13 ?_
  refine tc #[.pointer (some ⟨s, 0, none⟩), .agg (claimV ((c.1, i, (place : Int)), (c.1, i, (next : Int)), (3), x.2.2.2.2.2)).toArray] hEC rfl ?_
  refine (claim_any B s (setDoc S.1 (c.1, i, (next : Int)) [], S.2) qA ((c.1, i, (place : Int)), (c.1, i, (next : Int)), (3), x.2.2.2.2.2) wA.drew (HST0.out.keep (qD _ _)) HCO.out hcl2).mono ?_
  rintro e w8 ⟨rfl, hbt, v', hst, hnv⟩
  have HBT := Lib.hid hbt; have HST := Lib.hid hst; have HNV := Lib.hid hnv
  clear hbt hst hnv
  refine ⟨_, rfl, fun h => absurd h (by decide), ?_⟩
  go_frame
  refine wpAnyN_done (by kernel_rfl) ?_ _
  go_wp2_with fail
  go_end0
  rw [HDO.out]
  refine ⟨rfl, _, HST.out, HBWA.out.trans ((But.refl _ wA).drew.trans HBT.out fun k _ hx => hx) fun k hk hx => ?_, fun j hj => ?_, ?_⟩
  · rcases hx with hx | hx
    · exact .inl hx
    · rw [HQA.out] at hx
      exact .inr (.inr (.inr (.inl hx)))
  · rcases hj with hj | hj | hj | hj | ⟨k, hk, hj⟩
    · exact .inl (.inl hj)
    · rw [HQA.out] at hj
      exact .inl (.inr (.inl hj))
    · rw [HQA.out] at hj
      exact .inl (.inr (.inr (.inl hj)))
    · rcases HNV.out j hj with g | g
      · rw [HQA.out] at g
        exact .inl (.inr (.inr (.inr (.inl g))))
      · exact .inr (qT HSZA.out.1 g)
    · have hk2 : (docAt (setDoc S.1 (c.1, i, (next : Int)) [], S.2) k).isSome = true := hk
      rw [docAt_set] at hk2
      rw [HQA.out] at hj
      by_cases e : k = (c.1, i, (next : Int))
      · have hj2 : DocX p9 (.slice none 0 0) j := by simpa [e] using hj
        rcases hj2 with rfl | hj2
        · exact .inr HSZA.out.2
        · cases hj2
      · rw [if_neg e] at hk2
        have hj2 : DocX (q.ptr k) (q.row k) j := by simpa [e] using hj
        exact .inl (.inr (.inr (.inr (.inr ⟨k, hk2, hj2⟩))))
  · show qA.nd ≤ q.nd + 1
    rw [HQA.out]
    exact Nat.le_refl _
theorem docPtrZ (w : World) : (zeroValue 92).run Tryz.prog w = .ok (.pointer none) w := by kernel_rfl
set_option maxHeartbeats 4000000 in
set_option maxRecDepth 100000 in
theorem insert_nil (key at' : KeyD) (first : Bool) (s : ByteArray) (l : List Nat) (w : World) (hk : KeyOk key) (ha : KeyOk at') (hs : s.size ≤ 1099511627776) (hr : runesOf s = some l) :
    Calls Tryz.prog 101 #[.pointer none, .agg (keyV key).toArray, .agg (keyV at').toArray, .bool first, .string s] w fun e w' => Below w.heap.size w w' ∧ ∃ n : Int, e = .returned (.int .i64 n) := by
  have HRS := Lib.hid hr
  have hkl := keyV_length hk
  have hal := keyV_length ha
  clear hr hk ha
  go_enter Tryz.func101, Tryz.ntmps101
  go_wp2_with (first
    | (with_reducible refine at_box ?_
       refine wp_boxM (by rfl) 89 _ rfl (keyV key) _ rfl rfl (by rw [hkl]; kernel_rfl) ?_
       intro W0 hb0 hy0 hs0
       have HB0 := Lib.hid hb0
       clear hb0 hy0 hs0)
    | (with_reducible refine at_box ?_
       refine wp_boxM (by rfl) 89 _ rfl (keyV at') _ rfl rfl (by rw [hal]; kernel_rfl) ?_
       intro W1 hb1 hy1 hs1
       have HB1 := Lib.hid hb1
       clear hb1 hy1 hs1)
    | (go_at_call 155; refine (prunes_any s W1 hs).mono ?_
       rintro e W2 ⟨hb2, ⟨l', A, c, hr', rfl, ho'⟩ | ⟨hr', _⟩⟩
       rotate_left
       · exact absurd (HRS.out.symm.trans hr') (by simp)
       have HB2 := Lib.hid hb2
       clear hb2 ho' hr'))
  go_ret
  exact ⟨(HB0.out.trans (HB1.out.mono HB0.out.size)).trans (HB2.out.mono (HB0.out.trans (HB1.out.mono HB0.out.size)).size), _, rfl⟩
set_option maxHeartbeats 4000000 in
set_option maxRecDepth 100000 in
theorem do_insert (B a s : Nat) (S : StateD) (q : StateL) (i : List UInt8) (c : ChangeD) (dv ov vm : Value) (place next : Nat) (x : OpD) (w : World) (h : StateAt w B s S q) (hA : AdderAt w a s i c dv ov vm) (hx : OpIn x) (htm : (Lit.int .i64 c.1).wf = true) (hpl : place ≤ 1073741824) (hnx : next ≤ 1099511627776) (hk : x.1 = 1) (l : List Nat) (hrs : runesOf x.2.2.2.1 = some l) (hln : l.length ≤ 1099511627776) (hts : x.2.2.2.1.size ≤ 1099511627776) (hax : Ix x.2.2.1.2) (hdd : ∀ d, docAt S (keyAt S i c.1 x.2.1) = some d → RunIx d ∧ d.length ≤ 1073741822) :
    Calls Tryz.prog 53 #[.pointer (some ⟨a, 0, none⟩), .int .i64 (place : Int), .int .i64 (next : Int), .agg (opV x).toArray] w (DoGives w B s S (doAt S i c.1 place next x) q) := by
  have HS := Lib.hid h; have HX := Lib.hid hx; have HA := Lib.hid hA
  have hol := opV_length hx
  have HID : Hid (IdOk i) := Lib.hid hA.id
  clear h hx hA
  have HKO : Hid (KeyOk (c.1, i, (place : Int))) := Lib.hid ⟨htm, HID.out, by
    show (Lit.int .i64 (place : Int)).wf = true
    simp only [Lit.wf, IntKind.min, IntKind.max, IntKind.signed, IntKind.bits, Bool.and_eq_true]
    simp
    omega⟩
  have HKD := Lib.hid (keyAt_ok (t := c.1) (r := x.2.1) HS.out HID.out htm HX.out.1.1)
  go_enter Tryz.func53, Tryz.ntmps53
  go_upto_region 1 with (first
    | (with_reducible refine at_box ?_
       refine wp_boxM (by rfl) 112 _ rfl (opV x) _ rfl rfl (by rw [hol]; kernel_rfl) ?_
       intro W1 hb1 hy1 hs1
       have HB1 := Lib.hid hb1; have HY1 := Lib.hid hy1
       clear hb1 hy1 hs1))
  obtain ⟨b7, hb7⟩ : ∃ z, w.heap.size = z := ⟨_, rfl⟩
  rw [hb7] at HY1 ⊢
  clear hb7
  have HS1 := Lib.hid (HS.out.keep HB1.out)
  have HA1 := Lib.hid (HA.out.keep HB1.out)
  have HF1 := Lib.hid (show ∀ u : World, Below W1.heap.size W1 u → u.cell? ⟨a, 33, none⟩ = some (.int .i64 c.1) ∧ u.rangeAt a 1 (idV i) from fun u hu => ⟨(HA1.out.keep hu).rest 0, (HA1.out.keep hu).idAt⟩)
  refine rN 12 (fun u => Below W1.heap.size W1 u) (qD _ _) fun hF0 => ?_
  refine tw 0 (.pointer (some ⟨a, 0, none⟩)) ?_
  go_frame
  refine tw 1 (.pointer (some ⟨a, 0, none⟩)) ?_
  go_frame
  refine tw 2 (.pointer (some ⟨a, 33, none⟩)) ?_
  go_frame
  refine tw 3 (.pointer (some ⟨a, 33, none⟩)) ?_
  go_frame
  refine tl 4 (.int .i64 c.1) rfl hF0 (fun w' hw' => l1 Tryz.underlying3 (HF1.out w' hw').1) ?_
  go_frame
  refine tw 5 (.pointer (some ⟨a, 0, none⟩)) ?_
  go_frame
  refine tw 6 (.pointer (some ⟨a, 0, none⟩)) ?_
  go_frame
  refine tw 7 (.pointer (some ⟨a, 1, none⟩)) ?_
  go_frame
  refine tl 8 (.agg (idV i).toArray) rfl hF0 (fun w' hw' => ldD HID.out (HF1.out w' hw').2) ?_
  go_frame
  refine tw 9 (.int .i64 (place : Int)) ?_
  go_frame
  refine tk 10 (.agg (keyV (c.1, i, (place : Int))).toArray) rfl (fun w' hw' => ex_build 89 _ rfl (by simp only [List.map_toArray, List.map_cons, List.map_nil]; exact key_built15 (t := c.1) (x := (place : Int)) HID.out _)) ?_
  go_frame
  refine ta 11 ?_
  refine wpOp_allocM _ rfl (by kernel_rfl) 89 rfl (keyV (0, zero32, 0)) (keyZ_run _) ?_
  intro W2 hb2 hy2 hs2
  have HB2 := Lib.hid ((qD W1.heap.size W1).trans (hb2.mono (qD W1.heap.size W1).size)); have HY2 := Lib.hid hy2
  clear hb2 hy2 hs2
  refine ⟨fun _ _ => HB2.out, ?_⟩
  go_frame
  refine ta 12 ?_
  have hkl := keyV_length HKO.out
  refine wpOp_storeM _ rfl (by kernel_rfl) 89 _ _ rfl W1.drew.heap.size 0 [] (keyV (0, zero32, 0)) [] (keyV (c.1, i, (place : Int))) 89 (.agg (keyV (c.1, i, (place : Int))).toArray) rfl rfl rfl rfl (by simpa using HY2.out) (by rw [hkl]; rfl) (by rw [hkl]; kernel_rfl) (keyV_one _) ?_
  intro W3 hb3 hy3 hs3
  have HB3 := Lib.hid (HB2.out.trans (hb3.below (B := W1.heap.size) HB2.out.size (fun k hk e => by
    have e2 : k = W1.drew.heap.size := e
    have e3 : W1.drew.heap.size = W1.heap.size := rfl
    omega)))
  have HY3 : Hid (W3.heap[W1.drew.heap.size]? = some (.cells (keyV (c.1, i, (place : Int))).toArray 89 (0, 0))) := Lib.hid (by simpa using hy3)
  clear hb3 hy3 hs3
  refine ⟨fun h => absurd h (by decide), ?_⟩
  go_frame
  refine wpAnyN_done (by kernel_rfl) ?_ _
  obtain ⟨b8, hb8⟩ : ∃ z, W1.drew.heap.size = z := ⟨_, rfl⟩
  rw [hb8] at HY3 ⊢
  clear hb8 HB2 HY2 hF0 HF1
  have HS3 := Lib.hid (HS1.out.keep HB3.out)
  have HA3 := Lib.hid (HA1.out.keep HB3.out)
  have HBW3 : Hid (Below w.heap.size w W3) := Lib.hid (HB1.out.trans (HB3.out.mono HB1.out.size))
  have HO3 := Lib.hid ((HB3.out.block b7 (qX HY1.out)).trans HY1.out)
  clear HS1 HA1 HB1 HB3 HY1
  have HRD := Lib.hid (show W3.rangeAt b7 1 (refV x.2.1) from fun j u hj => (cells_at0 HO3.out (1 + j)).trans ((op_cells HX.out).2.1 j u hj))
  have hkd := keyV_length HKD.out
  go_upto_region 3 with (first
    | (with_reducible refine at_load ?_
       refine wp_val (by rfl) (ex_load 110 _ rfl (p := ⟨b7, 1, none⟩) rfl (qV _ b7 1 _ (refV x.2.1) _ HRD.out Tryz.underlying110 rfl (by rw [refV_length HX.out.1.1]; kernel_rfl))) ?_)
    | (go_at_call 97; refine (skey_any B a s S q i c dv ov vm x.2.1 W3 HS3.out HA3.out HX.out.1.1).mono ?_
       rintro e w4 ⟨hb4, rfl⟩
       have HB4 := Lib.hid hb4
       clear hb4)
    | (with_reducible refine at_alloc ?_
       refine wp_allocM (by rfl) 89 rfl (keyV (0, zero32, 0)) (keyZ_run _) ?_
       intro W5 hb5 hy5 hs5
       have HB5 := Lib.hid hb5; have HY5 := Lib.hid hy5
       clear hb5 hy5 hs5)
    | (with_reducible refine at_store ?_
       refine wp_storeM (by rfl) 89 _ _ rfl w4.heap.size 0 [] (keyV (0, zero32, 0)) [] (keyV (keyAt S i c.1 x.2.1)) 89 (.agg (keyV (keyAt S i c.1 x.2.1)).toArray) rfl rfl rfl rfl (by simpa using HY5.out) (by rw [hkd]; rfl) (by rw [hkd]; kernel_rfl) (keyV_one _) ?_
       intro W6 hb6 hy6 hs6
       have HB6 := Lib.hid (HB4.out.trans ((HB5.out.trans (hb6.below (B := w4.heap.size) HB5.out.size (fun k hk e => by have e2 : k = w4.heap.size := e; omega))).mono HB4.out.size))
       have HY6 : Hid (W6.heap[w4.heap.size]? = some (.cells (keyV (keyAt S i c.1 x.2.1)).toArray 89 (0, 0))) := Lib.hid (by simpa using hy6)
       clear hb6 hy6 hs6))
  obtain ⟨b9, hb9⟩ : ∃ z, w4.heap.size = z := ⟨_, rfl⟩
  have HL9 := Lib.hid (show w.heap.size ≤ b9 by have := HBW3.out.size; have := HB4.out.size; omega)
  have HN89 := Lib.hid (show b8 < b9 by have h1 := qX HY3.out; have := HB4.out.size; omega)
  rw [hb9] at HY6 ⊢
  clear HB4 HB5 HY5 hb9 HRD
  have HS6 := Lib.hid (HS3.out.keep HB6.out)
  have HA6 := Lib.hid (HA3.out.keep HB6.out)
  have HBW6 : Hid (Below w.heap.size w W6) := Lib.hid (HBW3.out.trans (HB6.out.mono HBW3.out.size))
  have HO6 := Lib.hid ((HB6.out.block b7 (qX HO3.out)).trans HO3.out)
  have HOWN6 := Lib.hid ((HB6.out.block b8 (qX HY3.out)).trans HY3.out)
  clear HS3 HA3 HBW3 HB6 HO3 HY3
  have k0 : W6.cell? ⟨b7, 0, none⟩ = some (.int .u8 (x.1.toNat : Int)) := (cells_at0 HO6.out 0).trans (op_cells HX.out).1
  have HKN : Hid (KeyOk (c.1, i, (next : Int))) := Lib.hid ⟨htm, HID.out, by
    show (Lit.int .i64 (next : Int)).wf = true
    simp only [Lit.wf, IntKind.min, IntKind.max, IntKind.signed, IntKind.bits, Bool.and_eq_true]
    simp
    omega⟩
  have EK : Hid ((x.1.toNat : Int) = 1) := Lib.hid (by rw [hk]; rfl)
  have ek := EK.out
  rw [ek] at k0
  have hroK : RefOk (zero32, (next : Int)) := ⟨zero32_ok, HKN.out.2.2⟩
  have HKA := Lib.hid (keyAt_ok (t := c.1) (r := x.2.2.1) HS6.out HID.out htm HX.out.1.2.1)
  have hai : (keyAt S i c.1 x.2.2.1).2.2 = x.2.2.1.2 := by unfold keyAt; split <;> rfl
  have HSK1 := Lib.hid (fun (u : World) (hu : Below W6.heap.size W6 u) => skey_any B a s S q i c dv ov vm (zero32, (next : Int)) u (HS6.out.keep hu) (HA6.out.keep hu) hroK)
  have HSK2 := Lib.hid (fun (u : World) (hu : Below W6.heap.size W6 u) => skey_any B a s S q i c dv ov vm x.2.2.1 u (HS6.out.keep hu) (HA6.out.keep hu) HX.out.1.2.1)
  have HDO := Lib.hid (show doAt S i c.1 place next x = (match docAt S (keyAt S i c.1 x.2.1) with
      | none => S
      | some d => (setDoc S.1 (keyAt S i c.1 x.2.1) (insertR d (c.1, i, (next : Int)) (keyAt S i c.1 x.2.2.1) (decide (x.2.2.1 = x.2.1)) l).1, S.2)) from by
    unfold doAt
    rw [if_neg (by rw [hk]; decide), if_neg (by rw [hk]; decide)]
    split
    · rename_i e; rw [e]
    · rename_i d e
      rw [e]
      dsimp only
      rw [if_pos hk, hrs]
      rfl)
  have HFU := Lib.hid (show ∀ u : World, Below W6.heap.size W6 u → u.cell? ⟨a, 0, none⟩ = some (.pointer (some ⟨s, 0, none⟩)) ∧ u.cell? ⟨s, 0, none⟩ = some (.map (some q.bd)) ∧ u.rangeAt b9 0 (keyV (keyAt S i c.1 x.2.1)) ∧ u.rangeAt b7 34 (refV x.2.2.1) ∧ u.rangeAt b7 1 (refV x.2.1) ∧ u.cell? ⟨b7, 67, none⟩ = some (.string x.2.2.2.1) from fun u hu => by
    have hZ := (hu.block b7 (qX HO6.out)).trans HO6.out
    exact ⟨(HA6.out.keep hu).st, cells_at0 (HS6.out.keep hu).box 0, fun j v hj => by rw [qZ]; exact (cells_at0 ((hu.block b9 (qX HY6.out)).trans HY6.out) j).trans hj, fun j v hj => (cells_at0 hZ (34 + j)).trans ((op_cells HX.out).2.2.1 j v hj), fun j v hj => (cells_at0 hZ (1 + j)).trans ((op_cells HX.out).2.1 j v hj), (cells_at0 hZ 67).trans (op_cells HX.out).2.2.2.1⟩)
  have hE1 := enE Tryz.func97 rfl
  have hE2 := enE Tryz.func101 rfl
  have hkn1 : keyAt S i c.1 (zero32, (next : Int)) = (c.1, i, (next : Int)) := by unfold keyAt; rw [if_pos rfl]
  rw [hkn1] at HSK1
  have EQ := Lib.hid (fun (u : World) => run_eqRef HX.out.1.2.1 HX.out.1.1 u)
  have HDD := Lib.hid hdd
  have HAI := Lib.hid hai
  generalize keyAt S i c.1 x.2.1 = kd at *
  generalize keyAt S i c.1 x.2.2.1 = ka at *
  have HRL := Lib.hid hrs
  clear ek hroK hk hrs hdd hkn1 hai
  cases hdoc : docAt S kd with
  | none =>
    have HDC := Lib.hid hdoc
    have HDN : Hid (doAt S i c.1 place next x = S) := Lib.hid (by rw [HDO.out, hdoc])
    clear hdoc
    go_upto_region 12 with fail
    clear k0
    refine rN 25 (fun u => Below W6.heap.size W6 u) (qD _ _) fun hF0 => ?_
    refine tw 0 (.pointer (some ⟨a, 0, none⟩)) ?_
    go_frame
    refine tw 1 (.pointer (some ⟨a, 0, none⟩)) ?_
    go_frame
    refine tw 2 (.pointer (some ⟨a, 0, none⟩)) ?_
    go_frame
    refine tl 3 (.pointer (some ⟨s, 0, none⟩)) rfl hF0 (fun w' hw' => l1 Tryz.underlying24 (HFU.out w' hw').1) ?_
    go_frame
    refine tw 4 (.pointer (some ⟨s, 0, none⟩)) ?_
    go_frame
    refine tw 5 (.pointer (some ⟨s, 0, none⟩)) ?_
    go_frame
    refine tw 6 (.pointer (some ⟨s, 0, none⟩)) ?_
    go_frame
    refine tl 7 (.map (some q.bd)) rfl hF0 (fun w' hw' => l1 Tryz.underlying81 (HFU.out w' hw').2.1) ?_
    go_frame
    refine tl 8 (.agg (keyV kd).toArray) rfl hF0 (fun w' hw' => ldK HKD.out (HFU.out w' hw').2.2.1) ?_
    go_frame
    refine tl 9 (.pointer none) rfl hF0 (fun w' hw' => ex_mapGet1 keyEnc Tryz.underlying81 (docPtrZ _) (HS6.out.keep hw').mapD HKD.out (by rw [HDC.out]; rfl)) ?_
    go_frame
    refine tw 10 (.pointer (some ⟨a, 0, none⟩)) ?_
    go_frame
    refine tw 11 (.int .i64 (next : Int)) ?_
    go_frame
    refine tk 12 (.agg (refV (zero32, (next : Int))).toArray) rfl (fun w' hw' => ex_build 110 _ rfl (by simp only [List.map_toArray, List.map_cons, List.map_nil]; exact ref_built15 _ _)) ?_
    go_frame
    refine tw 14 (.pointer (some ⟨a, 0, none⟩)) ?_
    go_frame
    refine tw 15 (.pointer (some ⟨b7, 34, none⟩)) ?_
    go_frame
    refine tl 16 (.agg (refV x.2.2.1).toArray) rfl hF0 (fun w' hw' => ex_load 110 _ rfl (p := ⟨b7, 34, none⟩) rfl (qV w' b7 34 _ (refV x.2.2.1) _ (HFU.out w' hw').2.2.2.1 Tryz.underlying110 rfl (by rw [refV_length HX.out.1.2.1]; kernel_rfl))) ?_
    go_frame
    refine tw 18 (.pointer (some ⟨b7, 34, none⟩)) ?_
    go_frame
    refine tl 19 (.agg (refV x.2.2.1).toArray) rfl hF0 (fun w' hw' => ex_load 110 _ rfl (p := ⟨b7, 34, none⟩) rfl (qV w' b7 34 _ (refV x.2.2.1) _ (HFU.out w' hw').2.2.2.1 Tryz.underlying110 rfl (by rw [refV_length HX.out.1.2.1]; kernel_rfl))) ?_
    go_frame
    refine tw 20 (.pointer (some ⟨b7, 1, none⟩)) ?_
    go_frame
    refine tl 21 (.agg (refV x.2.1).toArray) rfl hF0 (fun w' hw' => ex_load 110 _ rfl (p := ⟨b7, 1, none⟩) rfl (qV w' b7 1 _ (refV x.2.1) _ (HFU.out w' hw').2.2.2.2.1 Tryz.underlying110 rfl (by rw [refV_length HX.out.1.1]; kernel_rfl))) ?_
    go_frame
    refine tk 22 (.bool (decide (x.2.2.1 = x.2.1))) rfl (fun w' hw' => ex_eql 110 _ _ _ rfl rfl rfl eqRef.noGuard (EQ.out _)) ?_
    go_frame
    refine tw 23 (.pointer (some ⟨b7, 67, none⟩)) ?_
    go_frame
    refine tl 24 (.string x.2.2.2.1) rfl hF0 (fun w' hw' => l1 Tryz.underlying9 (HFU.out w' hw').2.2.2.2.2) ?_
    go_frame
    refine ta 13 ?_
    refine tc #[.pointer (some ⟨a, 0, none⟩), .agg (refV (zero32, (next : Int))).toArray] hE1 rfl ?_
    refine (HSK1.out _ (qD _ _)).mono ?_
    rintro e u1 ⟨hu1, rfl⟩
    have HU1 := Lib.hid ((qD W6.heap.size W6).trans (hu1.mono (qD W6.heap.size W6).size))
    clear hu1
    refine ⟨_, rfl, fun _ _ => HU1.out, ?_⟩
    go_frame
    refine ta 17 ?_
    refine tc #[.pointer (some ⟨a, 0, none⟩), .agg (refV x.2.2.1).toArray] hE1 rfl ?_
    refine (HSK2.out _ HU1.out).mono ?_
    rintro e u2 ⟨hu2, rfl⟩
    have HU2 := Lib.hid (HU1.out.trans (hu2.mono HU1.out.size))
    clear hu2
    refine ⟨_, rfl, fun _ _ => HU2.out, ?_⟩
    go_frame
    refine ta 25 ?_
    refine tc #[.pointer none, .agg (keyV (c.1, i, (next : Int))).toArray, .agg (keyV ka).toArray, .bool (decide (x.2.2.1 = x.2.1)), .string x.2.2.2.1] hE2 rfl ?_
    refine (insert_nil (c.1, i, (next : Int)) ka _ x.2.2.2.1 l u2 HKN.out HKA.out hts HRL.out).mono ?_
    rintro e w25 ⟨hb25, n25, rfl⟩
    have HB25 := Lib.hid (HU2.out.trans (hb25.mono HU2.out.size))
    clear hb25
    refine ⟨_, rfl, fun h => absurd h (by decide), ?_⟩
    go_frame
    refine wpAnyN_done (by kernel_rfl) ?_ _
    go_wp2_with fail
    go_end0
    rw [HDN.out]
    exact ⟨rfl, q, HS6.out.keep HB25.out, But.of_below (HBW6.out.trans (HB25.out.mono HBW6.out.size)), NewerX.refl _ _ _ _, Nat.le_succ _⟩
  | some d =>
    have HDC := Lib.hid hdoc
    have HDN : Hid (doAt S i c.1 place next x = (setDoc S.1 kd (insertR d (c.1, i, (next : Int)) ka (decide (x.2.2.1 = x.2.1)) l).1, S.2)) := Lib.hid (by rw [HDO.out, hdoc])
    have HDQ := Lib.hid (HDD.out d hdoc)
    clear hdoc
    go_upto_region 12 with fail
    clear k0
    refine rN 25 (fun u => Below W6.heap.size W6 u) (qD _ _) fun hF0 => ?_
    refine tw 0 (.pointer (some ⟨a, 0, none⟩)) ?_
    go_frame
    refine tw 1 (.pointer (some ⟨a, 0, none⟩)) ?_
    go_frame
    refine tw 2 (.pointer (some ⟨a, 0, none⟩)) ?_
    go_frame
    refine tl 3 (.pointer (some ⟨s, 0, none⟩)) rfl hF0 (fun w' hw' => l1 Tryz.underlying24 (HFU.out w' hw').1) ?_
    go_frame
    refine tw 4 (.pointer (some ⟨s, 0, none⟩)) ?_
    go_frame
    refine tw 5 (.pointer (some ⟨s, 0, none⟩)) ?_
    go_frame
    refine tw 6 (.pointer (some ⟨s, 0, none⟩)) ?_
    go_frame
    refine tl 7 (.map (some q.bd)) rfl hF0 (fun w' hw' => l1 Tryz.underlying81 (HFU.out w' hw').2.1) ?_
    go_frame
    refine tl 8 (.agg (keyV kd).toArray) rfl hF0 (fun w' hw' => ldK HKD.out (HFU.out w' hw').2.2.1) ?_
    go_frame
    refine tl 9 (.pointer (some ⟨q.ptr kd, 0, none⟩)) rfl hF0 (fun w' hw' => ex_mapGet1 keyEnc Tryz.underlying81 (docPtrZ _) (HS6.out.keep hw').mapD HKD.out (by rw [HDC.out]; rfl)) ?_
    go_frame
    refine tw 10 (.pointer (some ⟨a, 0, none⟩)) ?_
    go_frame
    refine tw 11 (.int .i64 (next : Int)) ?_
    go_frame
    refine tk 12 (.agg (refV (zero32, (next : Int))).toArray) rfl (fun w' hw' => ex_build 110 _ rfl (by simp only [List.map_toArray, List.map_cons, List.map_nil]; exact ref_built15 _ _)) ?_
    go_frame
    refine tw 14 (.pointer (some ⟨a, 0, none⟩)) ?_
    go_frame
    refine tw 15 (.pointer (some ⟨b7, 34, none⟩)) ?_
    go_frame
    refine tl 16 (.agg (refV x.2.2.1).toArray) rfl hF0 (fun w' hw' => ex_load 110 _ rfl (p := ⟨b7, 34, none⟩) rfl (qV w' b7 34 _ (refV x.2.2.1) _ (HFU.out w' hw').2.2.2.1 Tryz.underlying110 rfl (by rw [refV_length HX.out.1.2.1]; kernel_rfl))) ?_
    go_frame
    refine tw 18 (.pointer (some ⟨b7, 34, none⟩)) ?_
    go_frame
    refine tl 19 (.agg (refV x.2.2.1).toArray) rfl hF0 (fun w' hw' => ex_load 110 _ rfl (p := ⟨b7, 34, none⟩) rfl (qV w' b7 34 _ (refV x.2.2.1) _ (HFU.out w' hw').2.2.2.1 Tryz.underlying110 rfl (by rw [refV_length HX.out.1.2.1]; kernel_rfl))) ?_
    go_frame
    refine tw 20 (.pointer (some ⟨b7, 1, none⟩)) ?_
    go_frame
    refine tl 21 (.agg (refV x.2.1).toArray) rfl hF0 (fun w' hw' => ex_load 110 _ rfl (p := ⟨b7, 1, none⟩) rfl (qV w' b7 1 _ (refV x.2.1) _ (HFU.out w' hw').2.2.2.2.1 Tryz.underlying110 rfl (by rw [refV_length HX.out.1.1]; kernel_rfl))) ?_
    go_frame
    refine tk 22 (.bool (decide (x.2.2.1 = x.2.1))) rfl (fun w' hw' => ex_eql 110 _ _ _ rfl rfl rfl eqRef.noGuard (EQ.out _)) ?_
    go_frame
    refine tw 23 (.pointer (some ⟨b7, 67, none⟩)) ?_
    go_frame
    refine tl 24 (.string x.2.2.2.1) rfl hF0 (fun w' hw' => l1 Tryz.underlying9 (HFU.out w' hw').2.2.2.2.2) ?_
    go_frame
    refine ta 13 ?_
    refine tc #[.pointer (some ⟨a, 0, none⟩), .agg (refV (zero32, (next : Int))).toArray] hE1 rfl ?_
    refine (HSK1.out _ (qD _ _)).mono ?_
    rintro e u1 ⟨hu1, rfl⟩
    have HU1 := Lib.hid ((qD W6.heap.size W6).trans (hu1.mono (qD W6.heap.size W6).size))
    clear hu1
    refine ⟨_, rfl, fun _ _ => HU1.out, ?_⟩
    go_frame
    refine ta 17 ?_
    refine tc #[.pointer (some ⟨a, 0, none⟩), .agg (refV x.2.2.1).toArray] hE1 rfl ?_
    refine (HSK2.out _ HU1.out).mono ?_
    rintro e u2 ⟨hu2, rfl⟩
    have HU2 := Lib.hid (HU1.out.trans (hu2.mono HU1.out.size))
    clear hu2
    refine ⟨_, rfl, fun _ _ => HU2.out, ?_⟩
    go_frame
    refine ta 25 ?_
    refine tc #[.pointer (some ⟨q.ptr kd, 0, none⟩), .agg (keyV (c.1, i, (next : Int))).toArray, .agg (keyV ka).toArray, .bool (decide (x.2.2.1 = x.2.1)), .string x.2.2.2.1] hE2 rfl ?_
    refine (insert_any d (c.1, i, (next : Int)) ka _ x.2.2.2.1 l B (q.ptr kd) (q.row kd) u2 ((HS6.out.keep HU2.out).docs kd d HDC.out).2 HKN.out HKA.out HDQ.out.1 HDQ.out.2 hts HRL.out hln (by show Ix (next : Int); unfold Ix; omega) (by rw [HAI.out]; exact hax)).mono ?_
    rintro e w25 ⟨⟨n25, rfl⟩, v25, hd25, hb25, hn25⟩
    have HD25 := Lib.hid hd25; have HB25 := Lib.hid hb25; have HN25 := Lib.hid hn25
    clear hd25 hb25 hn25
    refine ⟨_, rfl, fun h => absurd h (by decide), ?_⟩
    go_frame
    refine wpAnyN_done (by kernel_rfl) ?_ _
    go_wp2_with fail
    go_end0
    rw [HDN.out]
    have hst := (HS6.out.keep HU2.out).turn HDC.out HB25.out HD25.out HN25.out
    have hbu : Below w.heap.size w u2 := HBW6.out.trans (HU2.out.mono HBW6.out.size)
    have hsm : (docAt S kd).isSome = true := by rw [HDC.out]; rfl
    refine ⟨rfl, _, hst, (But.of_below hbu).trans HB25.out fun k hk hx => .inr (.inr (.inr (.inr ⟨kd, hsm, hx⟩))), fun j hj => ?_, Nat.le_succ _⟩
    rcases hj with hj | hj | hj | hj | ⟨k, hk, hj⟩
    · exact .inl (.inl hj)
    · exact .inl (.inr (.inl hj))
    · exact .inl (.inr (.inr (.inl hj)))
    · exact .inl (.inr (.inr (.inr (.inl hj))))
    · rw [docAt_set] at hk
      by_cases e : k = kd
      · subst e
        have hj2 : DocX (q.ptr k) v25 j := by simpa using hj
        rcases hj2 with hj2 | hj2
        · exact .inl (.inr (.inr (.inr (.inr ⟨k, hsm, .inl hj2⟩))))
        · rcases HN25.out j hj2 with g | g
          · exact .inl (.inr (.inr (.inr (.inr ⟨k, hsm, .inr g⟩))))
          · exact .inr (qT hbu.size g)
      · rw [if_neg e] at hk
        have hj2 : DocX (q.ptr k) (q.row k) j := by simpa [e] using hj
        exact .inl (.inr (.inr (.inr (.inr ⟨k, hk, hj2⟩))))
end Go.Proofs.YtdgbjhfkmembdaaGreatDoor
