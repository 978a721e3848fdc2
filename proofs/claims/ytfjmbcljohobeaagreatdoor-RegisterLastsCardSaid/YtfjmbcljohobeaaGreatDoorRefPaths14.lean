/-
  What the reference's Paths of layer 14 gives. Conditions: claims well formed, at most 90 of them, each path of at most 2^30 bytes.
-/
import Derived.Test.YtfjmbcljohobeaaGreatDoorRefLast14
import Derived.Test.YtfjmbcljohobeaaGreatDoorRefSort
import Derived.Test.YtfjmbcljohobeaaGreatDoorRefFresh
namespace Go.Proofs.YtfjmbcljohobeaaGreatDoor
open Go.RowKit Go.Maps Go.Shelf
set_option linter.unusedVariables false
set_option linter.unusedSimpArgs false

theorem namedInfoR : (Tryz.prog.info? 53).map (fun i => (i.zero, i.size, i.bytes)) = some (some (.agg (namedV ((0, zero32, 0), ByteArray.empty)).toArray), 35, 64) := by kernel_rfl
theorem keyInfo0 : (Tryz.prog.info? 26).map (fun i => (i.zero, i.size, i.bytes)) = some (some (.agg (keyV zeroKd).toArray), 34, 48) := by kernel_rfl
theorem named_builtR {d : KeyD} (p : ByteArray) (hd : KeyOk d) : Tryz.prog.built 53 [(0, .agg (keyV d).toArray), (1, .string p)] = some (namedV (d, p)).toArray := by
  obtain ⟨i, hi, hz, _, _⟩ := info_parts namedInfoR
  have hk : (keyV (0, zero32, 0)).length = 34 := rfl
  have h := built_struct (P := Tryz.prog) hi Tryz.underlying53 hz [keyV (0, zero32, 0), [.string ByteArray.empty]] rfl (places := [(0, 34), (34, 1)]) (by kernel_rfl) (by kernel_rfl) [(0, .agg (keyV d).toArray), (1, .string p)] (by
    intro q hq
    simp only [List.mem_cons, List.not_mem_nil, or_false] at hq
    rcases hq with rfl | rfl
    · exact ⟨by show 0 < 2; omega, by show (keyV d).toArray.size = 34; rw [List.size_toArray, keyV_length hd]⟩
    · exact ⟨by show 1 < 2; omega, rfl⟩)
  rw [h]
  simp [namedV, Value.cells]
/-- Where the loop of the reference's Paths stands. -/
def PathsAtR (f : KeyD → Option ClaimD) (ms : List KeyD) (base : Nat) (i : Nat) (v5 v6 : Value) (wr : World) : Prop :=
  ∃ r : List NamedD, (r.map fun x => (x.1, L x.2)) = pathsGo f (dd ms i) [] ∧ wr.ownsRow base 53 35 v5 r.length (rowsV namedV r) ∧ wr.ownsRow base 9 1 v6 r.length (strs (r.map (·.2))) ∧
    (∀ x ∈ r, KeyOk x.1 ∧ x.2.size ≤ 1099511627776) ∧ r.length ≤ i
set_option maxHeartbeats 8000000 in
set_option maxRecDepth 100000 in
theorem refPaths14_any (l : List ClaimD) (A : Option Addr) (c : Nat) (w : World) (hl : l.length ≤ 90) (hok : ∀ x ∈ l, ClaimOk x) (hsm : ∀ x ∈ l, x.2.2.2.size ≤ 1073741824) (hsl : Sl w w.heap.size A l.length 70 (rowsV claimV l)) :
    Calls Tryz.prog 17 #[.slice A l.length c] w fun e w' => Below w.heap.size w w' ∧ ∃ A' c' r, e = .returned (.slice A' r.length c') ∧ (r.map fun x : NamedD => (x.1, L x.2)) = pathsGo (lastOf l) (docsS l) [] ∧ (∀ x ∈ r, KeyOk x.1 ∧ x.2.size ≤ 1099511627776) ∧ r.length ≤ l.length ∧ Sl w' w'.heap.size A' r.length 35 (rowsV namedV r) := by
  have HSL := Lib.hid hsl; have HOK := Lib.hid hok; have HSM := Lib.hid hsm
  clear hsl hok hsm
  go_enter Tryz.func17, Tryz.ntmps17
  go_wp2_with fail
  go_loopw [3, 4] (fun v t wr => ∃ i : Nat, i ≤ l.length ∧ t = .int .i64 i ∧ Below w.heap.size w wr ∧ Hid (wr.ownsRow w.heap.size 26 34 v i (rowsV keyV ((l.take i).map (·.2.1))))) (fun _ t _ => l.length - (intOf t).toNat)
  case atStart => exact ⟨0, by omega, rfl, Below.refl _ _, Lib.hid ⟨by simp [rowsV], .inl ⟨rfl, rfl⟩⟩⟩
  case round =>
    obtain ⟨i, hi, rfl, hbr, HO⟩ := hrel
    by_cases hlt : i < l.length
    · obtain ⟨b, off, rfl, hbl, hcl⟩ := (HSL.out.keep hbr).2 (by omega)
      have i0 : (0 : Int) ≤ (i : Int) := by omega
      have i1 : (i : Int) < (l.length : Int) := by omega
      have hrow := Sl.row (fun x hx => claimV_length (HOK.out x hx)) hcl hlt
      have hx := HOK.out _ (List.getElem_mem hlt)
      have hst : (l.take (i + 1)).map (·.2.1) = (l.take i).map (·.2.1) ++ [l[i].2.1] := by rw [List.take_succ_eq_append_getElem hlt, List.map_append]; rfl
      have rD : Hid (∀ j u, (keyV l[i].2.1)[j]? = some u → wr.cell? ⟨b, off + i * 70 + 34 + j, none⟩ = some u) := fun j u hj => by have := hrow (34 + j) u (claim_doc hx j u hj); rwa [← Nat.add_assoc] at this
      have HST := Lib.hid hst
      have hkd := hx.2.1
      have hbrs := hbr.size
      have HBR := Lib.hid hbr
      clear hcl hrow hst hx hbr
      generalize l[i].2.1 = d at *
      have HSD : Hid ((Tryz.prog.info? 26).map (·.size) = some (keyV d).length) := by rw [keyV_length hkd]; exact sizeKey
      have hown := HO.out
      go_wp2_with (first
        | (refine wp_loadN rfl 26 _ rfl b _ rfl (keyV d) _ rD.out Tryz.underlying26 rfl HSD.out ?_)
        | (refine wp_buildSlice1 (by rfl) 56 _ rfl 26 Tryz.underlying56 (.agg (keyV zeroKd).toArray) 34 48 keyInfo0 rfl (by decide) (by decide) (keyV d) (keyV_length hkd) rfl ?_)
        | (at_builtin; refine wp_appN rfl _ _ 56 rfl w.heap.size 26 (.agg (keyV zeroKd).toArray) 34 48 Tryz.underlying56 keyInfo0 rfl (by decide) _ _ _ rfl hown (keyV d) _ (keyV_length hkd) rfl (keyV_one d) (by unfold maxLen; omega) (by omega) hbrs ?_; intro v6 w6 hown6 hbel))
      have hb6 := hbel w.heap.size w (Nat.le_refl _) HBR.out
      go_roundw
      case rel =>
        refine ⟨i + 1, by omega, by go_num, hb6, Lib.hid ?_⟩
        rw [HST.out, rowsV_app, show rowsV keyV [d] = keyV d by simp [rowsV]]
        exact hown6
      case measure => simp [intOf]; omega
    · have hie : i = l.length := by omega
      rw [hie, List.take_length] at HO
      clear hie
      obtain ⟨ks, hks⟩ : ∃ ks, ks = l.map (·.2.1) := ⟨_, rfl⟩
      rw [← hks] at HO
      have hkl : ks.length = l.length := by rw [hks]; simp
      obtain ⟨A3, c3, rfl⟩ := own_shape HO.out
      have hkok : ∀ k ∈ ks, KeyOk k := by
        intro k hk
        rw [hks] at hk
        obtain ⟨x, hx, rfl⟩ := List.mem_map.1 hk
        exact (HOK.out x hx).2.1
      have hss := refSortKeys_any ks A3 c3 wr (by omega) hkok (by rw [hkl]; exact Sl.of_own HO.out)
      rw [hkl] at hss
      have HKOK := Lib.hid hkok; have HKS := Lib.hid hks; have HKL := Lib.hid hkl
      have HS3 := Lib.hid (Sl.of_own HO.out)
      have HBR := Lib.hid hbr
      clear hkok hks hkl hbr
      go_wp2_with (go_at_call 27; refine hss.mono ?_; rintro e w5 ⟨hb5, A5, c5, o, rfl, hp, hle, hs5⟩)
      obtain ⟨ms, hms⟩ : ∃ ms, ms = o.map (keyAt ks) := ⟨_, rfl⟩
      rw [← hms] at hle
      have hol : o.length = l.length := by have := hp.length_eq; rwa [List.length_range] at this
      have hml : ms.length = l.length := by rw [hms, List.length_map, hol]
      have hperm : ms.Perm ks := by rw [hms]; exact map_range_perm (by rw [HKL.out]; exact hp) fun i h => keyAt_eq h
      have hdd : dd ms l.length = docsS l := by
        rw [← hml, dd_sort hle hperm, HKS.out]
        rfl
      have HDD := Lib.hid hdd; have HS5 := Lib.hid hs5; have HP := Lib.hid hp; have HMS := Lib.hid hms; have HOL := Lib.hid hol; have HML := Lib.hid hml
      have HS35 := Lib.hid ((HS3.out.keep hb5).more hb5.size)
      have HB5 := Lib.hid (HBR.out.trans (hb5.mono HBR.out.size))
      obtain ⟨wo, hwo⟩ : ∃ wo : World, wo = wr := ⟨_, rfl⟩
      subst hwo
      clear hdd hs5 hp hms hol hml hperm hle hb5 hss
      go_wp2_with fail
      go_loopw [6, 7, 8] (fun v6 v7 t wr => ∃ i : Nat, i ≤ l.length ∧ t = .int .i64 i ∧ Below w5.heap.size w5 wr ∧ Hid (PathsAtR (lastOf l) ms w5.heap.size i v6 v7 wr)) (fun _ _ t _ => l.length - (intOf t).toNat)
      case atStart => exact ⟨0, by omega, rfl, Below.refl _ _, Lib.hid ⟨[], by simp [pathsGo, dd], ⟨by simp [rowsV], .inl ⟨rfl, rfl⟩⟩, ⟨by simp [strs], .inl ⟨rfl, rfl⟩⟩, fun x hx => absurd hx (by simp), Nat.le_refl _⟩⟩
      case round =>
        obtain ⟨i, hi, rfl, hbr, hP⟩ := hrel
        by_cases hlt : i < l.length
        · obtain ⟨b5, off5, rfl, hbl5, hcl5⟩ := (HS5.out.keep hbr).2 (by omega)
          obtain ⟨b3, off3, rfl, hbl3, hcl3⟩ := (HS35.out.keep hbr).2 (by omega)
          have i0 : (0 : Int) ≤ (i : Int) := by omega
          have i1 : (i : Int) < (l.length : Int) := by omega
          have hol := HOL.out
          have hml := HML.out
          have hkl := HKL.out
          have hoi : i < o.length := by omega
          have hpl : o[i] < l.length := by have := HP.out.mem_iff.1 (List.getElem_mem hoi); rwa [List.mem_range] at this
          have hci : wr.cell? ⟨b5, off5 + i, none⟩ = some (.int .i64 ((o[i] : Nat) : Int)) := hcl5 i _ (by simp [intsV, hoi])
          have hkrow : ∀ j (hj : j < ks.length), wr.rangeAt b3 (off3 + j * 34) (keyV ks[j]) := fun j hj => Sl.row (fun x hx => keyV_length (HKOK.out x hx)) hcl3 hj
          have hmo : ∀ j, ms[j]? = (o[j]?).map (keyAt ks) := fun j => by rw [HMS.out, List.getElem?_map]
          have hprev : 0 < i → ∃ p' d', p' < l.length ∧ wr.cell? ⟨b5, off5 + (i - 1), none⟩ = some (.int .i64 ((p' : Nat) : Int)) ∧ wr.rangeAt b3 (off3 + p' * 34) (keyV d') ∧ KeyOk d' ∧ ms[i - 1]? = some d' := by
            intro h0
            have h1 : i - 1 < o.length := by omega
            have h2 : o[i - 1] < l.length := by have := HP.out.mem_iff.1 (List.getElem_mem h1); rwa [List.mem_range] at this
            refine ⟨o[i - 1], ks[o[i - 1]]'(by omega), h2, hcl5 (i - 1) _ (by simp [intsV, h1]), hkrow _ (by omega), HKOK.out _ (List.getElem_mem _), ?_⟩
            exact (hmo (i - 1)).trans (by rw [List.getElem?_eq_getElem h1, Option.map_some, keyAt_eq (by omega)])
          have hmd : ms[i]'(by omega) = ks[o[i]]'(by omega) := by simp only [HMS.out, List.getElem_map]; exact keyAt_eq (by omega)
          have hrow := hkrow o[i] (by omega)
          have hkd : KeyOk (ks[o[i]]'(by omega)) := HKOK.out _ (List.getElem_mem _)
          have hin : ks[o[i]]'(by omega) ∈ l.map (·.2.1) := by rw [← HKS.out]; exact List.getElem_mem _
          have HROW := Lib.hid hrow; have HPREV := Lib.hid hprev
          clear hcl5 hcl3 hkrow hprev hrow hmo
          obtain ⟨d, hd⟩ : ∃ d, ks[o[i]]'(by omega) = d := ⟨_, rfl⟩
          rw [hd] at hmd hkd hin HROW
          clear hd
          obtain ⟨p, hp⟩ : ∃ p, o[i] = p := ⟨_, rfl⟩
          rw [hp] at hpl hci HROW
          clear hp
          have p0 : (0 : Int) ≤ (p : Int) := by omega
          have p1 : (p : Int) < (l.length : Int) := by omega
          obtain ⟨cl, hcl2⟩ : ∃ cl, lastOf l d = some cl := by
            obtain ⟨x, hx, rfl⟩ := List.mem_map.1 hin
            exact lastOf_some hx rfl
          have HCO : Hid (ClaimOk cl) := HOK.out cl (lastOf_is hcl2).1
          have HCZ : Hid (cl.2.2.2.size ≤ 1073741824) := HSM.out cl (lastOf_is hcl2).1
          have HCL2 := Lib.hid hcl2
          have szc : (Tryz.prog.info? 37).map (·.size) = some (claimV cl).toArray.size := by rw [List.size_toArray, claimV_length HCO.out]; exact sizeClaimR
          obtain ⟨r, hr1, hr2, hr3, hr4, hr5⟩ := hP.out
          obtain ⟨A6, c6, rfl⟩ := own_shape hr2
          obtain ⟨A7, c7, rfl⟩ := own_shape hr3
          have HR1 := Lib.hid hr1; have HR4 := Lib.hid hr4; have HR2 := Lib.hid hr2; have HR3 := Lib.hid hr3
          have HSD : Hid ((Tryz.prog.info? 26).map (·.size) = some (keyV d).length) := by rw [keyV_length hkd]; exact sizeKey
          have hmi : i < ms.length := by omega
          have hmg : ms[i]? = some d := by rw [List.getElem?_eq_getElem hmi, hmd]
          have hb3z : b3 < wr.heap.size := Nat.lt_of_lt_of_le hbl3 hbr.size
          have hb5z : b5 < wr.heap.size := Nat.lt_of_lt_of_le hbl5 hbr.size
          have BWR : Hid (Below w.heap.size w wr) := HB5.out.trans (hbr.mono HB5.out.size)
          have HBR := Lib.hid hbr
          clear hr1 hr2 hr3 hr4 hP hin hcl2 hbr
          go_upto_region 13 with (first
            | (refine wp_loadN rfl 26 _ rfl b3 _ rfl (keyV d) _ HROW.out Tryz.underlying26 rfl HSD.out ?_)
            | (refine wp_storeN (B := wr.heap.size) (w0 := wr) rfl 26 _ _ rfl wr.heap.size _ rfl rfl 26 _ (heap_alloc_new _ _) (keyV_info hkd) (by rw [List.size_toArray, List.size_toArray, keyV_length hkd]; rfl) (by simpa using keyV_one d) ((Below.refl _ _).alloc (Nat.le_refl _) _) (Nat.le_refl _) ?_; intro W2 hbW2 hW2 _))
          simp only [Act.put]
          have K2 : Hid (KeyBox W2 wr.heap.size d) := hW2
          have Z2 : Hid (wr.heap.size < W2.heap.size) := (Array.getElem?_eq_some_iff.1 hW2).1
          have B2 := Lib.hid hbW2
          have rB := Lib.hid (Wg.row (w := W2) (b := wr.heap.size) (o := 0) (cs := keyV d) (fun j u hj => by rw [Nat.zero_add]; exact (cells_box hW2 j).trans (by simpa using hj)) Z2.out)
          clear hbW2 hW2 hci
          by_cases hi0 : 0 < i
          · obtain ⟨p', d', hp'l, hcq, hrq, hkq, hmq⟩ := HPREV.out hi0
            have d1 : decide ((0 : Int) < (i : Int)) = true := by rw [decide_eq_true_iff]; omega
            have d2 : (0 : Int) < (i : Int) := by omega
            have d3 : decide (0 < i) = true := by rw [decide_eq_true_iff]; omega
            obtain ⟨q, hq⟩ : ∃ q, q = i - 1 := ⟨_, rfl⟩
            have e1 : IntKind.i64.wrap ((i : Int) - 1) = (q : Int) := by rw [IntWalk.i64_in _ (by omega)]; omega
            have q0 : (0 : Int) ≤ (q : Int) := by omega
            have q1 : (q : Int) < (l.length : Int) := by omega
            have s0 : (0 : Int) ≤ (p' : Int) := by omega
            have s1 : (p' : Int) < (l.length : Int) := by omega
            rw [← hq] at hcq
            have cq := Wg.cell (w := W2) ((B2.out.cell (p := ⟨b5, off5 + q, none⟩) hb5z).trans hcq) (Nat.lt_trans hb5z Z2.out)
            have rQ := Lib.hid (Wg.row (w := W2) (b := b3) (o := off3 + p' * 34) (cs := keyV d') (fun j u hj => (B2.out.cell (p := ⟨b3, off3 + p' * 34 + j, none⟩) hb3z).trans (hrq j u hj)) (Nat.lt_trans hb3z Z2.out))
            have HSQ : Hid ((Tryz.prog.info? 26).map (·.size) = some (keyV d').length) := by rw [keyV_length hkq]; exact sizeKey
            have heq : ∀ w' : World, (Op.equalIn 10000 26 (.agg (keyV d').toArray) (.agg (keyV d).toArray)).run Tryz.prog w' = .ok (decide (d' = d)) w' := fun w' => run_eqKey hkq hkd w'
            clear hcq hrq hkq hp'l hq
            by_cases hcm : d' = d
            · rw [decide_eq_true hcm] at heq
              have HEQ := Lib.hid heq
              have hdk := dd_skip (ms := ms) hi0 (by rw [hmq, hmg, hcm])
              have HDK := Lib.hid hdk
              clear heq hcm hdk hmq hmg hi0
              go_wp2_with fail
              refine wp_region_wg (by kernel_rfl) (by kernel_rfl) ?_
              repeat (first
                | go_big_quiet_skip
                | (go_big_quiet_want
                   first
                     | (refine quiet_val (fun w' hw' => ex_load 26 _ rfl (p := ⟨b3, off3 + p' * 34, none⟩) rfl (run_loadVar_mid w' _ _ _ (keyV d') _ (rQ.out w' hw') Tryz.underlying26 rfl HSQ.out)) ?_
                        go_big_quiet_on
                        simp only [Act.put, List.setIfInBounds_toArray, List.set_cons_zero, List.set_cons_succ])
                     | (refine quiet_val (fun w' hw' => ex_load 26 _ rfl (p := ⟨wr.heap.size, 0, none⟩) rfl (run_loadVar_mid w' _ _ _ (keyV d) _ (rB.out w' hw') Tryz.underlying26 rfl HSD.out)) ?_
                        go_big_quiet_on
                        simp only [Act.put, List.setIfInBounds_toArray, List.set_cons_zero, List.set_cons_succ])
                     | (refine quiet_val (fun w' hw' => ex_eql 26 _ _ _ rfl (xs := (keyV d').toArray) (ys := (keyV d).toArray) rfl rfl (r := true) eqKey.noGuard (HEQ.out w')) ?_
                        go_big_quiet_on
                        simp only [Act.put, List.setIfInBounds_toArray, List.set_cons_zero, List.set_cons_succ])
                     | (go_big_quiet_op
                        first
                          | go_big_quiet_on)))
              refine wpQuiet_nil ?_
              rintro w' ⟨kk, rfl⟩
              have hkk := kk.2
              generalize kk.val = w11 at *

              have b11 : Below wr.heap.size wr w11 := B2.out.trans (hkk.below.mono (by have := Z2.out; omega))
              have HB11 := Lib.hid b11
              clear hkk kk rQ rB cq b11
              go_wp2_with fail
              go_roundw
              case rel => exact ⟨i + 1, by omega, by go_num, HBR.out.trans (HB11.out.mono HBR.out.size), Lib.hid ⟨r, by rw [HDK.out]; exact HR1.out, own_below' HR2.out HB11.out, own_below' HR3.out HB11.out, HR4.out, by omega⟩⟩
              case measure => simp [intOf]; omega
            · rw [decide_eq_false hcm] at heq
              have HEQ := Lib.hid heq
              have hdn := dd_new hmi (by rw [hmq, hmg]; exact .inr fun e => hcm (Option.some.inj e))
              rw [hmd] at hdn
              have hstep := pathsGo_snoc (lastOf l) d (dd ms i) []
              rw [← hdn] at hstep
              unfold pathStep at hstep
              rw [HCL2.out] at hstep
              simp only [List.nil_append] at hstep
              have HST := Lib.hid hstep
              clear hdn hstep

              clear heq hcm hmq hmg hi0
              go_wp2_with fail
              refine wp_region_wg (by kernel_rfl) (by kernel_rfl) ?_
              repeat (first
                | go_big_quiet_skip
                | (go_big_quiet_want
                   first
                     | (refine quiet_val (fun w' hw' => ex_load 26 _ rfl (p := ⟨b3, off3 + p' * 34, none⟩) rfl (run_loadVar_mid w' _ _ _ (keyV d') _ (rQ.out w' hw') Tryz.underlying26 rfl HSQ.out)) ?_
                        go_big_quiet_on
                        simp only [Act.put, List.setIfInBounds_toArray, List.set_cons_zero, List.set_cons_succ])
                     | (refine quiet_val (fun w' hw' => ex_load 26 _ rfl (p := ⟨wr.heap.size, 0, none⟩) rfl (run_loadVar_mid w' _ _ _ (keyV d) _ (rB.out w' hw') Tryz.underlying26 rfl HSD.out)) ?_
                        go_big_quiet_on
                        simp only [Act.put, List.setIfInBounds_toArray, List.set_cons_zero, List.set_cons_succ])
                     | (refine quiet_val (fun w' hw' => ex_eql 26 _ _ _ rfl (xs := (keyV d').toArray) (ys := (keyV d).toArray) rfl rfl (r := false) eqKey.noGuard (HEQ.out w')) ?_
                        go_big_quiet_on
                        simp only [Act.put, List.setIfInBounds_toArray, List.set_cons_zero, List.set_cons_succ])
                     | (go_big_quiet_op
                        first
                          | go_big_quiet_on)))
              refine wpQuiet_nil ?_
              rintro w' ⟨kk, rfl⟩
              have hkk := kk.2
              generalize kk.val = w11 at *

              clear rQ cq rB d1 d2 d3 e1 q0 q1 s0 s1
              have b11 : Below wr.heap.size wr w11 := B2.out.trans (hkk.below.mono (by have := Z2.out; omega))
              have K11 : Hid (KeyBox w11 wr.heap.size d) := K2.out.below hkk.below
              have Z11 : Hid (wr.heap.size < w11.heap.size) := Nat.lt_of_lt_of_le Z2.out hkk.below.size
              have BW11 : Hid (Below w.heap.size w w11) := BWR.out.trans (b11.mono BWR.out.size)
              have B11 := Lib.hid b11
              have R11 : Hid (∀ j u, (keyV d)[j]? = some u → w11.cell? ⟨wr.heap.size, 0 + j, none⟩ = some u) := fun j u hj => by rw [Nat.zero_add]; exact (cells_box K11.out j).trans (by simpa using hj)
              have hlast := refLast14_any l d A c w11 (by omega) HOK.out hkd ((HSL.out.keep BW11.out).more BW11.out.size)
              rw [HCL2.out] at hlast
              simp only [Option.getD_some, Option.isSome_some] at hlast
              clear hkk kk b11
              go_upto_region 15 with (first
                | (refine wp_loadN rfl 26 _ rfl wr.heap.size 0 rfl (keyV d) _ R11.out Tryz.underlying26 rfl HSD.out ?_)
                | (go_at_call 10; refine hlast.mono ?_; rintro e w12 ⟨hb12, rfl⟩)
                | (refine wp_storeN (B := w12.heap.size) (w0 := w12) rfl 37 _ _ rfl w12.heap.size (claimV cl).toArray rfl rfl 37 _ (heap_alloc_new _ _) szc (by rw [List.size_toArray, List.size_toArray, claimV_length HCO.out]; rfl) (by simpa using claimV_one cl) ((Below.refl _ _).alloc (Nat.le_refl _) _) (Nat.le_refl _) ?_; intro W3 hbW3 hW3 _))
              obtain ⟨k68, k69⟩ := claim_cell HCO.out
              have c68 := (cells_box hW3 68).trans k68
              have c69 := (cells_box hW3 69).trans k69
              have h113 : Below w11.heap.size w11 W3 := hb12.trans (hbW3.mono hb12.size)
              have K3 := Lib.hid (K11.out.below h113)
              have hb3 : Below wr.heap.size wr W3 := B11.out.trans (h113.mono (by have := Z11.out; omega))
              have HB3 := Lib.hid hb3
              have R23 := Lib.hid (own_below' HR2.out hb3); have R33 := Lib.hid (own_below' HR3.out hb3)
              clear k68 k69 hW3 hb3 hbW3 hb12 h113 hlast
              by_cases hk5 : cl.2.2.1 = 5
              · have hst := HST.out
                rw [if_pos hk5] at hst
                have HST2 := Lib.hid hst
                rw [hk5] at c68
                clear hst HST hk5
                go_wp2_with fail
                go_roundw
                case rel => exact ⟨i + 1, by omega, by go_num, HBR.out.trans (HB3.out.mono HBR.out.size), Lib.hid ⟨r, by rw [HR1.out, HST2.out], R23.out, R33.out, HR4.out, by omega⟩⟩
                case measure => simp [intOf]; omega
              · have hst := HST.out
                rw [if_neg hk5] at hst
                have HST2 := Lib.hid hst
                have hne5 : ((cl.2.2.1 : Int) == 5) = false := by rw [beq_eq_false_iff_ne]; omega
                have hls : Ls (r.map (·.2)) = (pathsGo (lastOf l) (dd ms i) []).map (·.2) := by rw [← HR1.out]; simp [Ls]
                have hfr := refFresh_any cl.2.2.2 (r.map (·.2)) A7 c7 W3 (by have := HCZ.out; omega) (by rw [List.length_map]; omega) (fun t ht => by
                  obtain ⟨x, hx, rfl⟩ := List.mem_map.1 ht
                  have := (HR4.out x hx).2; omega) (by rw [List.length_map]; exact (Sl.of_own R33.out))
                have hfl := freshS_length (L cl.2.2.2) (Ls (r.map (·.2))) (by simp [Ls]; omega)
                rw [List.length_map, hls] at hfr
                rw [hls, L_length] at hfl
                have HFL := Lib.hid hfl
                clear hst HST hk5 hls hfl
                go_upto_region 17 with (go_at_call 28; refine hfr.mono ?_; rintro e w13 ⟨hb13, p9, rfl, hp9⟩)
                have hpz : p9.size ≤ 1099511627776 := by have h1 := congrArg List.length hp9; rw [L_length] at h1; have := HFL.out.2; have := HCZ.out; omega
                have R25 := Lib.hid (own_below' R23.out hb13); have R35 := Lib.hid (own_below' R33.out hb13); have K5 := Lib.hid (K3.out.below hb13)
                have B5 : Hid (Below w5.heap.size w5 w13) := (HBR.out.trans (HB3.out.mono HBR.out.size)).trans (hb13.mono (Nat.le_trans HBR.out.size HB3.out.size))
                have HP9 := Lib.hid hp9
                have hz5 := B5.out.size
                clear hp9 hb13 hfr
                obtain ⟨is, hsi, hs0, hs1, hs2⟩ := info_parts strInfo
                obtain ⟨im, hmi, hm0, hm1, hm2⟩ := info_parts namedInfoR
                have q1 : r.length + 1 ≤ maxLen := by unfold maxLen; omega
                have q2 : (r.length + 1) * 16 ≤ 140737488355328 := by omega
                have q3 : (r.length + 1) * 64 ≤ 140737488355328 := by omega
                go_upto_region 18 with (at_builtin; refine wpList_append_own _ rfl _ _ 61 rfl w5.heap.size 9 is (.string ByteArray.empty) 1 16 Tryz.underlying61 hsi hs0 hs1 hs2 rfl (by decide) _ _ _ rfl (own_alloc' R35.out _) ⟨w13.heap.size, 0, none⟩ 1 1 [.string p9] rfl rfl (cell_one_new _ _ _) (by simp [Value.oneCell']) q1 q2 (by simp; omega) ?_; intro v7 w14 hown6 hg6 _)
                have hg6' : (w13.alloc (.cells #[.string p9] 9)).grownBy w14 (Value.slice A7 r.length c7).ownBlock := hg6
                have R26 : Hid (w14.ownsRow w5.heap.size 53 35 (.slice A6 r.length c6) r.length (rowsV namedV r)) := (own_alloc' R25.out (.cells #[.string p9] 9)).kept hg6' (rows_apart (own_alloc' R35.out (.cells #[.string p9] 9)) (own_alloc' R25.out (.cells #[.string p9] 9)) (by decide))
                have K6 : Hid (KeyBox w14 wr.heap.size d) := (K5.out.alloc (.cells #[.string p9] 9)).grown (own_alloc' R35.out (.cells #[.string p9] 9)) (by decide) hg6'
                have B6 : Hid (Below w5.heap.size w5 w14) := (B5.out.alloc B5.out.size _).grown hg6' (by simp; omega) (fun k e => ((own_alloc' R35.out (.cells #[.string p9] 9)).lt k e).1)
                have R36 := Lib.hid hown6
                have hz6 := B6.out.size
                have HBT := Lib.hid (named_builtR p9 hkd)
                have C6 : Hid (∀ j u, (keyV d)[j]? = some u → w14.cell? ⟨wr.heap.size, 0 + j, none⟩ = some u) := fun j u hj => by rw [Nat.zero_add]; exact (cells_box K6.out j).trans (by simpa using hj)
                have hnl : (namedV (d, p9)).length = 35 := namedV_length ⟨hkd, by show p9.size ≤ maxLen; unfold maxLen; omega⟩
                have HNC : Hid (∀ j u, (namedV (d, p9))[j]? = some u → (w14.alloc (.cells (namedV (d, p9)).toArray 53)).cell? ((⟨w14.heap.size, 0, none⟩ : Addr).add j) = some u) := by
                  intro j u hj
                  rw [Addr.add_mid, cells_box (heap_alloc_new _ _)]
                  simpa using hj
                clear hown6 hg6 hg6'
                go_wp2_with (first
                  | (refine wp_loadN rfl 26 _ rfl wr.heap.size 0 rfl (keyV d) _ C6.out Tryz.underlying26 rfl HSD.out ?_)
                  | ((with_reducible refine wpList_buildTo rfl 53 _ rfl _ rfl (namedV (d, p9)).toArray ?_ ?_)
                     · simp only [List.map_toArray, List.map_cons, List.map_nil]; exact HBT.out)
                  | (refine wp_buildSlice1 (by rfl) 51 _ rfl 53 Tryz.underlying51 (.agg (namedV ((0, zero32, 0), ByteArray.empty)).toArray) 35 64 namedInfoR rfl (by decide) (by decide) (namedV (d, p9)) hnl rfl ?_)
                  | (at_builtin; refine wpList_append_own _ rfl _ _ 51 rfl w5.heap.size 53 im (.agg (namedV ((0, zero32, 0), ByteArray.empty)).toArray) 35 64 Tryz.underlying51 hmi hm0 hm1 hm2 rfl (by decide) _ _ _ rfl (own_alloc' R26.out _) ⟨w14.heap.size, 0, none⟩ 1 1 (namedV (d, p9)) rfl (by rw [hnl]) HNC.out (namedV_one (d, p9)) q1 q3 (by simp; omega) ?_; intro v5 w15 hown7 hg7 _))
                have hg7' : (w14.alloc (.cells (namedV (d, p9)).toArray 53)).grownBy w15 (Value.slice A6 r.length c6).ownBlock := hg7
                have R37 := (own_alloc' R36.out (.cells (namedV (d, p9)).toArray 53)).kept hg7' (rows_apart (own_alloc' R26.out (.cells (namedV (d, p9)).toArray 53)) (own_alloc' R36.out (.cells (namedV (d, p9)).toArray 53)) (by decide))
                have B7 : RowKit.Below w5.heap.size w5 w15 := (B6.out.alloc B6.out.size _).grown hg7' (by simp; omega) (fun k e => ((own_alloc' R26.out (.cells (namedV (d, p9)).toArray 53)).lt k e).1)
                go_roundw
                case rel =>
                  refine ⟨i + 1, by omega, by go_num, B7, Lib.hid ⟨r ++ [(d, p9)], ?_, ?_, ?_, ?_, ?_⟩⟩
                  · rw [List.map_append, HR1.out, HST2.out, List.map_cons, List.map_nil, HP9.out]
                  · rw [List.length_append, rowsV_app, show rowsV namedV [(d, p9)] = namedV (d, p9) by simp [rowsV]]; exact hown7
                  · rw [List.length_append, List.map_append, List.map_cons, List.map_nil, strs_app]; exact R37
                  · intro x hx
                    rcases List.mem_append.1 hx with hx | hx
                    · exact HR4.out x hx
                    · rw [List.mem_singleton.1 hx]; exact ⟨hkd, hpz⟩
                  · simp; omega
                case measure => simp [intOf]; omega

          · have d1 : decide ((0 : Int) < (i : Int)) = false := by rw [decide_eq_false_iff_not]; omega
            have d2 : ¬ (0 : Int) < (i : Int) := by omega
            have d3 : decide (0 < i) = false := by rw [decide_eq_false_iff_not]; omega
            have hdn := dd_new hmi (by exact .inl (by omega))
            rw [hmd] at hdn
            have hstep := pathsGo_snoc (lastOf l) d (dd ms i) []
            rw [← hdn] at hstep
            unfold pathStep at hstep
            rw [HCL2.out] at hstep
            simp only [List.nil_append] at hstep
            have HST := Lib.hid hstep
            clear hdn hstep

            clear hmg hi0
            go_wp2_with fail
            refine wp_region_wg (by kernel_rfl) (by kernel_rfl) ?_
            repeat (first
              | go_big_quiet_skip
              | (go_big_quiet_want
                 first
                   | (go_big_quiet_op
                      first
                        | go_big_quiet_on)))
            refine wpQuiet_nil ?_
            rintro w' ⟨kk, rfl⟩
            have hkk := kk.2
            generalize kk.val = w11 at *

            clear rB d1 d2 d3
            have b11 : Below wr.heap.size wr w11 := B2.out.trans (hkk.below.mono (by have := Z2.out; omega))
            have K11 : Hid (KeyBox w11 wr.heap.size d) := K2.out.below hkk.below
            have Z11 : Hid (wr.heap.size < w11.heap.size) := Nat.lt_of_lt_of_le Z2.out hkk.below.size
            have BW11 : Hid (Below w.heap.size w w11) := BWR.out.trans (b11.mono BWR.out.size)
            have B11 := Lib.hid b11
            have R11 : Hid (∀ j u, (keyV d)[j]? = some u → w11.cell? ⟨wr.heap.size, 0 + j, none⟩ = some u) := fun j u hj => by rw [Nat.zero_add]; exact (cells_box K11.out j).trans (by simpa using hj)
            have hlast := refLast14_any l d A c w11 (by omega) HOK.out hkd ((HSL.out.keep BW11.out).more BW11.out.size)
            rw [HCL2.out] at hlast
            simp only [Option.getD_some, Option.isSome_some] at hlast
            clear hkk kk b11
            go_upto_region 15 with (first
              | (refine wp_loadN rfl 26 _ rfl wr.heap.size 0 rfl (keyV d) _ R11.out Tryz.underlying26 rfl HSD.out ?_)
              | (go_at_call 10; refine hlast.mono ?_; rintro e w12 ⟨hb12, rfl⟩)
              | (refine wp_storeN (B := w12.heap.size) (w0 := w12) rfl 37 _ _ rfl w12.heap.size (claimV cl).toArray rfl rfl 37 _ (heap_alloc_new _ _) szc (by rw [List.size_toArray, List.size_toArray, claimV_length HCO.out]; rfl) (by simpa using claimV_one cl) ((Below.refl _ _).alloc (Nat.le_refl _) _) (Nat.le_refl _) ?_; intro W3 hbW3 hW3 _))
            obtain ⟨k68, k69⟩ := claim_cell HCO.out
            have c68 := (cells_box hW3 68).trans k68
            have c69 := (cells_box hW3 69).trans k69
            have h113 : Below w11.heap.size w11 W3 := hb12.trans (hbW3.mono hb12.size)
            have K3 := Lib.hid (K11.out.below h113)
            have hb3 : Below wr.heap.size wr W3 := B11.out.trans (h113.mono (by have := Z11.out; omega))
            have HB3 := Lib.hid hb3
            have R23 := Lib.hid (own_below' HR2.out hb3); have R33 := Lib.hid (own_below' HR3.out hb3)
            clear k68 k69 hW3 hb3 hbW3 hb12 h113 hlast
            by_cases hk5 : cl.2.2.1 = 5
            · have hst := HST.out
              rw [if_pos hk5] at hst
              have HST2 := Lib.hid hst
              rw [hk5] at c68
              clear hst HST hk5
              go_wp2_with fail
              go_roundw
              case rel => exact ⟨i + 1, by omega, by go_num, HBR.out.trans (HB3.out.mono HBR.out.size), Lib.hid ⟨r, by rw [HR1.out, HST2.out], R23.out, R33.out, HR4.out, by omega⟩⟩
              case measure => simp [intOf]; omega
            · have hst := HST.out
              rw [if_neg hk5] at hst
              have HST2 := Lib.hid hst
              have hne5 : ((cl.2.2.1 : Int) == 5) = false := by rw [beq_eq_false_iff_ne]; omega
              have hls : Ls (r.map (·.2)) = (pathsGo (lastOf l) (dd ms i) []).map (·.2) := by rw [← HR1.out]; simp [Ls]
              have hfr := refFresh_any cl.2.2.2 (r.map (·.2)) A7 c7 W3 (by have := HCZ.out; omega) (by rw [List.length_map]; omega) (fun t ht => by
                obtain ⟨x, hx, rfl⟩ := List.mem_map.1 ht
                have := (HR4.out x hx).2; omega) (by rw [List.length_map]; exact (Sl.of_own R33.out))
              have hfl := freshS_length (L cl.2.2.2) (Ls (r.map (·.2))) (by simp [Ls]; omega)
              rw [List.length_map, hls] at hfr
              rw [hls, L_length] at hfl
              have HFL := Lib.hid hfl
              clear hst HST hk5 hls hfl
              go_upto_region 17 with (go_at_call 28; refine hfr.mono ?_; rintro e w13 ⟨hb13, p9, rfl, hp9⟩)
              have hpz : p9.size ≤ 1099511627776 := by have h1 := congrArg List.length hp9; rw [L_length] at h1; have := HFL.out.2; have := HCZ.out; omega
              have R25 := Lib.hid (own_below' R23.out hb13); have R35 := Lib.hid (own_below' R33.out hb13); have K5 := Lib.hid (K3.out.below hb13)
              have B5 : Hid (Below w5.heap.size w5 w13) := (HBR.out.trans (HB3.out.mono HBR.out.size)).trans (hb13.mono (Nat.le_trans HBR.out.size HB3.out.size))
              have HP9 := Lib.hid hp9
              have hz5 := B5.out.size
              clear hp9 hb13 hfr
              obtain ⟨is, hsi, hs0, hs1, hs2⟩ := info_parts strInfo
              obtain ⟨im, hmi, hm0, hm1, hm2⟩ := info_parts namedInfoR
              have q1 : r.length + 1 ≤ maxLen := by unfold maxLen; omega
              have q2 : (r.length + 1) * 16 ≤ 140737488355328 := by omega
              have q3 : (r.length + 1) * 64 ≤ 140737488355328 := by omega
              go_upto_region 18 with (at_builtin; refine wpList_append_own _ rfl _ _ 61 rfl w5.heap.size 9 is (.string ByteArray.empty) 1 16 Tryz.underlying61 hsi hs0 hs1 hs2 rfl (by decide) _ _ _ rfl (own_alloc' R35.out _) ⟨w13.heap.size, 0, none⟩ 1 1 [.string p9] rfl rfl (cell_one_new _ _ _) (by simp [Value.oneCell']) q1 q2 (by simp; omega) ?_; intro v7 w14 hown6 hg6 _)
              have hg6' : (w13.alloc (.cells #[.string p9] 9)).grownBy w14 (Value.slice A7 r.length c7).ownBlock := hg6
              have R26 : Hid (w14.ownsRow w5.heap.size 53 35 (.slice A6 r.length c6) r.length (rowsV namedV r)) := (own_alloc' R25.out (.cells #[.string p9] 9)).kept hg6' (rows_apart (own_alloc' R35.out (.cells #[.string p9] 9)) (own_alloc' R25.out (.cells #[.string p9] 9)) (by decide))
              have K6 : Hid (KeyBox w14 wr.heap.size d) := (K5.out.alloc (.cells #[.string p9] 9)).grown (own_alloc' R35.out (.cells #[.string p9] 9)) (by decide) hg6'
              have B6 : Hid (Below w5.heap.size w5 w14) := (B5.out.alloc B5.out.size _).grown hg6' (by simp; omega) (fun k e => ((own_alloc' R35.out (.cells #[.string p9] 9)).lt k e).1)
              have R36 := Lib.hid hown6
              have hz6 := B6.out.size
              have HBT := Lib.hid (named_builtR p9 hkd)
              have C6 : Hid (∀ j u, (keyV d)[j]? = some u → w14.cell? ⟨wr.heap.size, 0 + j, none⟩ = some u) := fun j u hj => by rw [Nat.zero_add]; exact (cells_box K6.out j).trans (by simpa using hj)
              have hnl : (namedV (d, p9)).length = 35 := namedV_length ⟨hkd, by show p9.size ≤ maxLen; unfold maxLen; omega⟩
              have HNC : Hid (∀ j u, (namedV (d, p9))[j]? = some u → (w14.alloc (.cells (namedV (d, p9)).toArray 53)).cell? ((⟨w14.heap.size, 0, none⟩ : Addr).add j) = some u) := by
                intro j u hj
                rw [Addr.add_mid, cells_box (heap_alloc_new _ _)]
                simpa using hj
              clear hown6 hg6 hg6'
              go_wp2_with (first
                | (refine wp_loadN rfl 26 _ rfl wr.heap.size 0 rfl (keyV d) _ C6.out Tryz.underlying26 rfl HSD.out ?_)
                | ((with_reducible refine wpList_buildTo rfl 53 _ rfl _ rfl (namedV (d, p9)).toArray ?_ ?_)
                   · simp only [List.map_toArray, List.map_cons, List.map_nil]; exact HBT.out)
                | (refine wp_buildSlice1 (by rfl) 51 _ rfl 53 Tryz.underlying51 (.agg (namedV ((0, zero32, 0), ByteArray.empty)).toArray) 35 64 namedInfoR rfl (by decide) (by decide) (namedV (d, p9)) hnl rfl ?_)
                | (at_builtin; refine wpList_append_own _ rfl _ _ 51 rfl w5.heap.size 53 im (.agg (namedV ((0, zero32, 0), ByteArray.empty)).toArray) 35 64 Tryz.underlying51 hmi hm0 hm1 hm2 rfl (by decide) _ _ _ rfl (own_alloc' R26.out _) ⟨w14.heap.size, 0, none⟩ 1 1 (namedV (d, p9)) rfl (by rw [hnl]) HNC.out (namedV_one (d, p9)) q1 q3 (by simp; omega) ?_; intro v5 w15 hown7 hg7 _))
              have hg7' : (w14.alloc (.cells (namedV (d, p9)).toArray 53)).grownBy w15 (Value.slice A6 r.length c6).ownBlock := hg7
              have R37 := (own_alloc' R36.out (.cells (namedV (d, p9)).toArray 53)).kept hg7' (rows_apart (own_alloc' R26.out (.cells (namedV (d, p9)).toArray 53)) (own_alloc' R36.out (.cells (namedV (d, p9)).toArray 53)) (by decide))
              have B7 : RowKit.Below w5.heap.size w5 w15 := (B6.out.alloc B6.out.size _).grown hg7' (by simp; omega) (fun k e => ((own_alloc' R26.out (.cells (namedV (d, p9)).toArray 53)).lt k e).1)
              go_roundw
              case rel =>
                refine ⟨i + 1, by omega, by go_num, B7, Lib.hid ⟨r ++ [(d, p9)], ?_, ?_, ?_, ?_, ?_⟩⟩
                · rw [List.map_append, HR1.out, HST2.out, List.map_cons, List.map_nil, HP9.out]
                · rw [List.length_append, rowsV_app, show rowsV namedV [(d, p9)] = namedV (d, p9) by simp [rowsV]]; exact hown7
                · rw [List.length_append, List.map_append, List.map_cons, List.map_nil, strs_app]; exact R37
                · intro x hx
                  rcases List.mem_append.1 hx with hx | hx
                  · exact HR4.out x hx
                  · rw [List.mem_singleton.1 hx]; exact ⟨hkd, hpz⟩
                · simp; omega
              case measure => simp [intOf]; omega

        · have hie : i = l.length := by omega
          have hP' := hP.out
          rw [hie] at hP'
          obtain ⟨r, hr1, hr2, hr3, hr4, hr5⟩ := hP'
          obtain ⟨A6, c6, rfl⟩ := own_shape hr2
          rw [HDD.out] at hr1
          have HBQ := Lib.hid (HB5.out.trans (hbr.mono HB5.out.size))
          have H1 := Lib.hid hr1; have H2 := Lib.hid hr2; have H4 := Lib.hid hr4; have H5 := Lib.hid hr5
          clear hr1 hr2 hr3 hr4 hr5 hie hbr hP
          go_wp2_with fail
          go_ret
          exact ⟨HBQ.out, A6, c6, r, rfl, H1.out, H4.out, H5.out, Sl.of_own H2.out⟩
end Go.Proofs.YtfjmbcljohobeaaGreatDoor
