/-
  The document that has a path. Conditions: the state lies in memory; at most 90 claims; what is found has a well formed key.
-/
import Derived.Test.YtdgbjhfkmembdaaGreatDoorStateNils
import Derived.Test.YtdgbjhfkmembdaaGreatDoorStateKey
import Derived.Test.YtdgbjhfkmembdaaGreatDoorRegFind
namespace Go.Proofs.YtdgbjhfkmembdaaGreatDoor
open Go.RowKit Go.Maps
set_option linter.unusedVariables false
set_option linter.unusedSimpArgs false

def docPtr (S : StateD) (q : StateL) (k : KeyD) : Value := ((docAt S k).map fun _ => Value.pointer (some ⟨q.ptr k, 0, none⟩)).getD (.pointer none)
theorem docPtrZ15 (w : World) : (zeroValue 92).run Tryz.prog w = .ok (.pointer none) w := by kernel_rfl
set_option maxHeartbeats 4000000 in
set_option maxRecDepth 100000 in
theorem named_any15 (B s : Nat) (S : StateD) (q : StateL) (p : ByteArray) (w : World) (h : StateAt w B s S q) (hl : S.2.1.length ≤ 90) (hsm : ∀ x ∈ S.2.1, x.2.2.2.size ≤ 1073741824) (hg : Glob w) (hk : KeyOk ((findS S.2.1 (L p)).getD zeroKd)) :
    Calls Tryz.prog 87 #[.pointer (some ⟨s, 0, none⟩), .string p] w fun e w' => Below w.heap.size w w' ∧ e = .returned (.tuple #[.agg (keyV ((findS S.2.1 (L p)).getD zeroKd)).toArray, docPtr S q ((findS S.2.1 (L p)).getD zeroKd), .bool (findS S.2.1 (L p)).isSome]) := by
  have HS := Lib.hid h; have HK := Lib.hid hk
  obtain ⟨A, c, hv⟩ := own_form h.claims
  have HFD := Lib.hid (fun (u : World) (hu : Below w.heap.size w u) => find_any14 S.2.1 p A c u hl h.claimsOk hsm (Sl.of_own (by have := (h.keep hu).claims; rw [hv] at this; exact this)) (hg.next hu))
  have c1 : w.cell? ⟨s, 1, none⟩ = some (.slice A S.2.1.length c) := (cells_at0 h.box 1).trans (congrArg some hv)
  clear h hk hsm hg hv
  obtain ⟨k, hkk⟩ : ∃ k, (findS S.2.1 (L p)).getD zeroKd = k := ⟨_, rfl⟩
  obtain ⟨bb, hbb⟩ : ∃ b, (findS S.2.1 (L p)).isSome = b := ⟨_, rfl⟩
  rw [hkk, hbb]
  simp only [hkk, hbb] at HFD
  rw [hkk] at HK
  clear hkk hbb
  have hkl := keyV_length HK.out
  have hb0 : Below w.heap.size w (w.alloc (.cells (keyV (0, zero32, 0)).toArray 89)) := (qB _ _).alloc (qR _) _
  go_enter Tryz.func87, Tryz.ntmps87
  go_upto_region 1 with (first
    | (with_reducible refine at_alloc ?_
       refine wp_allocM (by rfl) 89 rfl (keyV (0, zero32, 0)) (keyZ_run _) ?_
       intro W0 hb0 hy0 hs0
       have HB0 := Lib.hid hb0; have HY0 := Lib.hid hy0
       clear hb0 hy0 hs0))
  obtain ⟨b4, hb4⟩ : ∃ z, w.heap.size = z := ⟨_, rfl⟩
  rw [hb4] at HY0 ⊢
  have HL4 := Lib.hid (show w.heap.size ≤ b4 by omega)
  have c10 : W0.cell? ⟨s, 1, none⟩ = some (.slice A S.2.1.length c) := (HB0.out.cell (p := ⟨s, 1, none⟩) (qX HS.out.box)).trans c1
  clear c1 hb4
  go_upto_region 2 with (first
    | (go_at_call 146; refine (HFD.out W0 HB0.out).mono ?_
       rintro e W1 ⟨hb1, rfl⟩
       have HB1 := Lib.hid hb1
       clear hb1)
    | (with_reducible refine at_alloc ?_
       refine wp_allocM (by rfl) 89 rfl (keyV (0, zero32, 0)) (keyZ_run _) ?_
       intro W2 hb2 hy2 hs2
       have HB2 := Lib.hid hb2; have HY2 := Lib.hid hy2
       clear hb2 hy2 hs2)
    | (with_reducible refine at_store ?_
       refine wp_storeM (by rfl) 89 _ _ rfl W1.heap.size 0 [] (keyV (0, zero32, 0)) [] (keyV k) 89 (.agg (keyV k).toArray) rfl rfl rfl rfl (by simpa using HY2.out) (by rw [hkl]; rfl) (by rw [hkl]; kernel_rfl) (keyV_one _) ?_
       intro W3 hb3 hy3 hs3
       have HB3 := Lib.hid (HB1.out.trans ((HB2.out.trans (hb3.below (B := W1.heap.size) HB2.out.size (fun k hk e => by have e2 : k = W1.heap.size := e; omega))).mono HB1.out.size))
       have HY3 : Hid (W3.heap[W1.heap.size]? = some (.cells (keyV k).toArray 89 (0, 0))) := Lib.hid (by simpa using hy3)
       clear hb3 hy3 hs3))
  clear c10
  obtain ⟨b7, hb7⟩ : ∃ z, W1.heap.size = z := ⟨_, rfl⟩
  have HN := Lib.hid (show b4 ≠ b7 by have := qX HY0.out; have := HB1.out.size; omega)
  rw [hb7] at HY3 ⊢
  have HBW : Hid (Below w.heap.size w W3) := Lib.hid (HB0.out.trans (HB3.out.mono HB0.out.size))
  have HS3 := Lib.hid (HS.out.keep HBW.out)
  have HY4 := Lib.hid ((HB3.out.block b4 (qX HY0.out)).trans HY0.out)
  clear HB1 HB2 HY2 hb7 HFD
  have HFU := Lib.hid (show ∀ u : World, But (fun k => k = b4) W3 u → u.rangeAt b7 0 (keyV k) ∧ u.cell? ⟨s, 0, none⟩ = some (.map (some q.bd)) ∧ MapV u Tryz.prog 89 KeyOk keyL q.bd q.nd (fun k => (docAt S k).map fun _ => .pointer (some ⟨q.ptr k, 0, none⟩)) from fun u hu => ⟨fun j v hj => by rw [qZ]; exact (cells_at0 ((hu.block b7 (qX HY3.out) fun e => HN.out e.symm).trans HY3.out) j).trans hj, cells_at0 ((hu.block s (qX HS3.out.box) (ne_tag HS3.out.box HY4.out (by decide))).trans HS3.out.box) 0, hu.map HS3.out.mapD fun e => ne_map HY4.out HS3.out.mapD_obj e.symm⟩)
  refine rN 11 (fun u => But (fun k => k = b4) W3 u) (But.of_below (qD _ _)) fun hF0 => ?_
  refine tl 0 (.agg (keyV k).toArray) rfl hF0 (fun w' hw' => ldK HK.out (HFU.out w' hw').1) ?_
  go_frame
  refine tw 1 (.pointer (some ⟨s, 0, none⟩)) ?_
  go_frame
  refine tw 2 (.pointer (some ⟨s, 0, none⟩)) ?_
  go_frame
  refine tw 3 (.pointer (some ⟨s, 0, none⟩)) ?_
  go_frame
  refine tl 4 (.map (some q.bd)) rfl hF0 (fun w' hw' => l1 Tryz.underlying81 (HFU.out w' hw').2.1) ?_
  go_frame
  refine tl 5 (.agg (keyV k).toArray) rfl hF0 (fun w' hw' => ldK HK.out (HFU.out w' hw').1) ?_
  go_frame
  refine tl 6 (docPtr S q k) rfl hF0 (fun w' hw' => ex_mapGet1 keyEnc Tryz.underlying81 (docPtrZ15 _) (HFU.out w' hw').2.2 HK.out rfl) ?_
  go_frame
  refine tw 7 (.bool bb) ?_
  go_frame
  refine ta 8 ?_
  refine wpOp_storeM _ rfl (by kernel_rfl) 89 _ _ rfl b4 0 [] (keyV (0, zero32, 0)) [] (keyV k) 89 (.agg (keyV k).toArray) rfl rfl rfl rfl (by simpa using (show W3.drew.heap[b4]? = _ from HY4.out)) (by rw [hkl]; rfl) (by rw [hkl]; kernel_rfl) (keyV_one _) ?_
  intro W4 hb4 hy4 hs4
  have HB4 := Lib.hid (((qD W3.heap.size W3).mono HBW.out.size).trans (hb4.below (B := w.heap.size) HBW.out.size (fun k hk e => by have e2 : k = b4 := e; have := HL4.out; omega)))
  have HF4 : Hid (But (fun k => k = b4) W3 W4) := Lib.hid ((But.refl _ W3).drew.trans hb4 fun k _ e => e)
  have HR4 : Hid (W4.rangeAt b4 0 (keyV k)) := Lib.hid fun j u hj => by rw [qZ]; exact (cells_at0 hy4 j).trans (by simpa using hj)
  clear hb4 hy4 hs4
  refine ⟨fun _ _ => HF4.out, ?_⟩
  go_frame
  refine tw 9 (docPtr S q k) ?_
  go_frame
  refine tw 10 (.bool bb) ?_
  go_frame
  refine wpAnyN_done (by kernel_rfl) ?_ _
  go_wp2_with fail
  refine bodyPost_ret (results_ctt Tryz.results87 _ _ rfl (qV _ b4 0 89 (keyV k) _ HR4.out Tryz.underlying89 rfl (by rw [hkl]; kernel_rfl))) rfl ?_
  exact ⟨HBW.out.trans HB4.out, rfl⟩
/-- What find gives. -/
def FindRes (S : StateD) (q : StateL) (p : ByteArray) : Value := match findS S.2.1 (L p) with
  | none => .tuple #[.agg (keyV (0, zero32, 0)).toArray, .pointer none, .int .i64 4]
  | some k => .tuple #[.agg (keyV k).toArray, docPtr S q k, .int .i64 0]
set_option maxHeartbeats 4000000 in
set_option maxRecDepth 100000 in
theorem sfind_any (B s : Nat) (S : StateD) (q : StateL) (p : ByteArray) (w : World) (h : StateAt w B s S q) (hl : S.2.1.length ≤ 90) (hsm : ∀ x ∈ S.2.1, x.2.2.2.size ≤ 1073741824) (hg : Glob w) (hk : KeyOk ((findS S.2.1 (L p)).getD zeroKd)) :
    Calls Tryz.prog 40 #[.pointer (some ⟨s, 0, none⟩), .string p] w fun e w' => Below w.heap.size w w' ∧ e = .returned (FindRes S q p) := by
  have HK := Lib.hid hk
  have HNM := Lib.hid (fun (u : World) (hu : Below w.heap.size w u) => named_any15 B s S q p u (h.keep hu) hl hsm (hg.next hu) hk)
  clear h hl hsm hg hk
  unfold FindRes
  obtain ⟨o, ho⟩ : ∃ o, findS S.2.1 (L p) = o := ⟨_, rfl⟩
  rw [ho] at HK ⊢
  simp only [ho] at HNM
  clear ho
  have hkl := keyV_length HK.out
  cases o with
  | none =>
    go_enter Tryz.func40, Tryz.ntmps40
    go_wp2_with (first
      | (go_at_call 87; refine (HNM.out _ HB0.out).mono ?_; rintro e W1 ⟨hb1, rfl⟩
         have HB1 := Lib.hid hb1
         have HY1 := Lib.hid ((hb1.block w.heap.size (qX HY0.out)).trans HY0.out)
         clear hb1)
      | (with_reducible refine at_alloc ?_
         first
         | (refine wp_allocM (by rfl) 89 rfl (keyV (0, zero32, 0)) (keyZ_run _) ?_
            intro W2 hb2 hy2 hs2
            have HB2 := Lib.hid (HB1.out.trans (hb2.mono HB1.out.size)); have HY2 := Lib.hid hy2
            have HX2 := Lib.hid ((hb2.block w.heap.size (qX HY1.out)).trans HY1.out)
            clear hb2 hy2 hs2)
         | (refine wp_allocM (by rfl) 89 rfl (keyV (0, zero32, 0)) (keyZ_run _) ?_
            intro W0 hb0 hy0 hs0
            have HB0 := Lib.hid hb0; have HY0 := Lib.hid hy0
            clear hb0 hy0 hs0))
      | (with_reducible refine at_build ?_
         refine wp_val (by rfl) (ex_build 89 _ rfl (keyZ_built _)) ?_)
      | (with_reducible refine at_store ?_
         first
         | (refine wp_storeM (by rfl) 89 _ _ rfl w.heap.size 0 [] (keyV (0, zero32, 0)) [] (keyV (0, zero32, 0)) 89 (.agg (keyV (0, zero32, 0)).toArray) rfl rfl rfl rfl (by simpa using HX3.out) rfl (by kernel_rfl) (keyV_one _) ?_
            intro W4 hb4 hy4 hs4
            have HR4 : Hid (W4.rangeAt w.heap.size 0 (keyV (0, zero32, 0))) := Lib.hid fun j u hj => by rw [qZ]; exact (cells_at0 hy4 j).trans (by simpa using hj)
            have HB4 := Lib.hid (HB3.out.trans (hb4.below (B := w.heap.size) (qT HB0.out.size HB3.out.size) (fun k hk e => by have e2 : k = w.heap.size := e; omega)))
            clear hb4 hy4 hs4)
         | (refine wp_storeM (by rfl) 89 _ _ rfl W1.heap.size 0 [] (keyV (0, zero32, 0)) [] (keyV zeroKd) 89 (.agg (keyV zeroKd).toArray) rfl rfl rfl rfl (by simpa using HY2.out) rfl (by kernel_rfl) (keyV_one _) ?_
            intro W3 hb3 hy3 hs3
            have HB3 := Lib.hid (HB2.out.mono HB0.out.size |>.trans (hb3.below (B := w.heap.size) (qT HB0.out.size HB2.out.size) (fun k hk e => by have e2 : k = W1.heap.size := e; have := HB0.out.size; have := HB1.out.size; omega)))
            have HX3 := Lib.hid ((hb3.block w.heap.size (qX HX2.out) (by have := qX HY0.out; have := HB1.out.size; omega)).trans HX2.out)
            clear hb3 hy3 hs3)))
    refine bodyPost_ret (results_ctt Tryz.results40 _ _ rfl (qV _ w.heap.size 0 89 (keyV (0, zero32, 0)) _ HR4.out Tryz.underlying89 rfl (by kernel_rfl))) rfl ?_
    exact ⟨HB0.out.trans HB4.out, rfl⟩
  | some k =>
    replace HK : Hid (KeyOk k) := HK
    replace hkl : (keyV k).length = 34 := hkl
    simp only [Option.getD_some, Option.isSome_some] at HNM
    go_enter Tryz.func40, Tryz.ntmps40
    go_wp2_with (first
      | (go_at_call 87; refine (HNM.out _ HB0.out).mono ?_; rintro e W1 ⟨hb1, rfl⟩
         have HB1 := Lib.hid hb1
         have HY1 := Lib.hid ((hb1.block w.heap.size (qX HY0.out)).trans HY0.out)
         clear hb1)
      | (with_reducible refine at_alloc ?_
         first
         | (refine wp_allocM (by rfl) 89 rfl (keyV (0, zero32, 0)) (keyZ_run _) ?_
            intro W2 hb2 hy2 hs2
            have HB2 := Lib.hid (HB1.out.trans (hb2.mono HB1.out.size)); have HY2 := Lib.hid hy2
            have HX2 := Lib.hid ((hb2.block w.heap.size (qX HY1.out)).trans HY1.out)
            clear hb2 hy2 hs2)
         | (refine wp_allocM (by rfl) 89 rfl (keyV (0, zero32, 0)) (keyZ_run _) ?_
            intro W0 hb0 hy0 hs0
            have HB0 := Lib.hid hb0; have HY0 := Lib.hid hy0
            clear hb0 hy0 hs0))
      | (with_reducible refine at_load ?_
         refine wp_val (by rfl) (ldK HK.out HR3.out) ?_)
      | (with_reducible refine at_store ?_
         first
         | (refine wp_storeM (by rfl) 89 _ _ rfl w.heap.size 0 [] (keyV (0, zero32, 0)) [] (keyV k) 89 (.agg (keyV k).toArray) rfl rfl rfl rfl (by simpa using HX3.out) (by rw [hkl]; rfl) (by rw [hkl]; kernel_rfl) (keyV_one _) ?_
            intro W4 hb4 hy4 hs4
            have HR4 : Hid (W4.rangeAt w.heap.size 0 (keyV k)) := Lib.hid fun j u hj => by rw [qZ]; exact (cells_at0 hy4 j).trans (by simpa using hj)
            have HB4 := Lib.hid (HB3.out.trans (hb4.below (B := w.heap.size) (qT HB0.out.size HB3.out.size) (fun k hk e => by have e2 : k = w.heap.size := e; omega)))
            clear hb4 hy4 hs4)
         | (refine wp_storeM (by rfl) 89 _ _ rfl W1.heap.size 0 [] (keyV (0, zero32, 0)) [] (keyV k) 89 (.agg (keyV k).toArray) rfl rfl rfl rfl (by simpa using HY2.out) (by rw [hkl]; rfl) (by rw [hkl]; kernel_rfl) (keyV_one _) ?_
            intro W3 hb3 hy3 hs3
            have HB3 := Lib.hid (HB2.out.mono HB0.out.size |>.trans (hb3.below (B := w.heap.size) (qT HB0.out.size HB2.out.size) (fun k hk e => by have e2 : k = W1.heap.size := e; have := HB0.out.size; have := HB1.out.size; omega)))
            have HR3 : Hid (W3.rangeAt W1.heap.size 0 (keyV k)) := Lib.hid fun j u hj => by rw [qZ]; exact (cells_at0 hy3 j).trans (by simpa using hj)
            have HX3 := Lib.hid ((hb3.block w.heap.size (qX HX2.out) (by have := qX HY0.out; have := HB1.out.size; omega)).trans HX2.out)
            clear hb3 hy3 hs3)))
    refine bodyPost_ret (results_ctt Tryz.results40 _ _ rfl (qV _ w.heap.size 0 89 (keyV k) _ HR4.out Tryz.underlying89 rfl (by rw [hkl]; kernel_rfl))) rfl ?_
    exact ⟨HB0.out.trans HB4.out, rfl⟩
end Go.Proofs.YtdgbjhfkmembdaaGreatDoor
