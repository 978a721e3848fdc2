/-
  What the register's Paths gives. Conditions: claims well formed, at most 90 of them, each path of at most 2^30 bytes; the library's variable MaxLen holds a number.
-/
import Derived.Test.YtdgbjhfkmembdaaGreatDoorKeySort
import Derived.Test.YtdgbjhfkmembdaaGreatDoorRegRight
import Derived.Test.YtdgbjhfkmembdaaGreatDoorPathsSpec
import Derived.Great.BuildSlice
namespace Go.Proofs.YtdgbjhfkmembdaaGreatDoor
open Go.RowKit Go.Maps Go.Shelf Go.Sort
set_option linter.unusedVariables false
set_option linter.unusedSimpArgs false

theorem namedInfo : (Tryz.prog.info? 91).map (fun i => (i.zero, i.size, i.bytes)) = some (some (.agg (namedV ((0, zero32, 0), ByteArray.empty)).toArray), 35, 64) := by kernel_rfl
theorem strInfo : (Tryz.prog.info? 9).map (fun i => (i.zero, i.size, i.bytes)) = some (some (.string ByteArray.empty), 1, 16) := by kernel_rfl
theorem named_built {d : KeyD} (p : ByteArray) (hd : KeyOk d) : Tryz.prog.built 91 [(0, .agg (keyV d).toArray), (1, .string p)] = some (namedV (d, p)).toArray := by
  obtain ⟨i, hi, hz, _, _⟩ := info_parts namedInfo
  have hk : (keyV (0, zero32, 0)).length = 34 := rfl
  have h := built_struct (P := Tryz.prog) hi Tryz.underlying91 hz [keyV (0, zero32, 0), [.string ByteArray.empty]] rfl (places := [(0, 34), (34, 1)]) (by kernel_rfl) (by kernel_rfl) [(0, .agg (keyV d).toArray), (1, .string p)] (by
    intro q hq
    simp only [List.mem_cons, List.not_mem_nil, or_false] at hq
    rcases hq with rfl | rfl
    · exact ⟨by show 0 < 2; omega, by show (keyV d).toArray.size = 34; rw [List.size_toArray, keyV_length hd]⟩
    · exact ⟨by show 1 < 2; omega, rfl⟩)
  rw [h]
  simp [namedV, Value.cells]

section
variable {w w' : World} {base n k size size2 : Nat} {e e2 : TypeId} {v v2 : Value} {xs ys : List Value}
/-- Rows of unlike elements stand in blocks of their own. -/
theorem rows_apart (h : w.ownsRow base e size v n xs) (h2 : w.ownsRow base e2 size2 v2 k ys) (hne : e ≠ e2) : v2.ownBlock = none ∨ v2.ownBlock ≠ v.ownBlock := by
  rcases h.2 with ⟨rfl, _⟩ | ⟨g, cap, cur, rfl, _, hg, _⟩
  · rcases h2.2 with ⟨rfl, _⟩ | ⟨g2, cap2, cur2, rfl, _⟩
    · exact .inl rfl
    · exact .inr (by simp [Value.ownBlock])
  · rcases h2.2 with ⟨rfl, _⟩ | ⟨g2, cap2, cur2, rfl, _, hg2, _⟩
    · exact .inl rfl
    · refine .inr fun q => ?_
      have : g2 = g := by simpa [Value.ownBlock] using q
      subst this
      rw [hg] at hg2
      simp at hg2
      exact hne hg2.2
end
theorem strs_app (a : List ByteArray) (b : ByteArray) : strs (a ++ [b]) = strs a ++ [.string b] := by simp [strs]
theorem own_below' {w w' : World} {base n size : Nat} {e : TypeId} {v : Value} {xs : List Value} (h : w.ownsRow base e size v n xs) (hb : Below w.heap.size w w') : w'.ownsRow base e size v n xs := by
  refine ⟨h.1, ?_⟩
  rcases h.2 with hn | ⟨g, cap, cur, hv, hbg, hg, rest⟩
  · exact .inl hn
  · exact .inr ⟨g, cap, cur, hv, hbg, (hb.block g (Array.getElem?_eq_some_iff.1 hg).1).trans hg, rest⟩
theorem own_alloc' {w : World} {base n size : Nat} {e : TypeId} {v : Value} {xs : List Value} (h : w.ownsRow base e size v n xs) (o : Obj) : (w.alloc o).ownsRow base e size v n xs := own_below' h ((Below.refl _ _).alloc (Nat.le_refl _) _)
theorem own_shape {w : World} {base n size : Nat} {e : TypeId} {v : Value} {xs : List Value} (h : w.ownsRow base e size v n xs) : ∃ A c, v = .slice A n c := by
  rcases h.2 with ⟨rfl, rfl⟩ | ⟨g, cap, cur, rfl, _⟩
  · exact ⟨_, _, rfl⟩
  · exact ⟨_, _, rfl⟩
theorem KeyBox.below {w w' : World} {B : Nat} {k : KeyD} (h : KeyBox w B k) (hb : Below w.heap.size w w') : KeyBox w' B k := (hb.block B (Array.getElem?_eq_some_iff.1 h).1).trans h
theorem KeyBox.alloc {w : World} {B : Nat} {k : KeyD} (h : KeyBox w B k) (o : Obj) : KeyBox (w.alloc o) B k := h.below ((Below.refl _ _).alloc (Nat.le_refl _) _)
theorem KeyBox.grown {w w' : World} {base B n size : Nat} {e : TypeId} {v : Value} {xs : List Value} {k : KeyD} (h : KeyBox w B k) (hr : w.ownsRow base e size v n xs) (hne : e ≠ 89) (hg : w.grownBy w' v.ownBlock) : KeyBox w' B k := by
  refine (hg.block B (Array.getElem?_eq_some_iff.1 h).1 fun q => ?_).trans h
  rcases hr.2 with ⟨rfl, _⟩ | ⟨g, cap, cur, rfl, _, hgb, _⟩
  · simp [Value.ownBlock] at q
  · have : B = g := by simpa [Value.ownBlock] using q
    subst this
    rw [show w.heap[B]? = _ from h] at hgb
    simp at hgb
    exact hne hgb.2.symm
/-- Where the loop of Paths stands. -/
def PathsAt (f : KeyD → Option ClaimD) (ds : List KeyD) (base : Nat) (i : Nat) (v5 v6 : Value) (wr : World) : Prop :=
  ∃ r : List NamedD, (r.map fun x => (x.1, L x.2)) = pathsGo f (ds.take i) [] ∧ wr.ownsRow base 91 35 v5 r.length (rowsV namedV r) ∧ wr.ownsRow base 9 1 v6 r.length (strs (r.map (·.2))) ∧
    (∀ x ∈ r, KeyOk x.1 ∧ x.2.size ≤ 1099511627776) ∧ r.length ≤ i
theorem docs_sorted {l : List ClaimD} (hok : ∀ x ∈ l, ClaimOk x) {ss : List KeyS} (h : KeysIs (lastM l) ss) : (ordS ss).map (·.1) = docsS l := by
  refine Rising.ext (ordS_rising h.1) (sortK_rising _) fun k => ?_
  unfold docsS
  rw [mem_sortK, List.mem_map]
  constructor
  · rintro ⟨x, hx, rfl⟩
    have := (ordS_mem h x).1 hx
    unfold lastM at this
    rw [Option.isSome_map] at this
    rcases hq : lastOf l x.1 with _ | c
    · rw [hq] at this; cases this
    · obtain ⟨h1, h2, _⟩ := lastOf_is hq
      exact List.mem_map.2 ⟨c, h1, h2⟩
  · intro hk
    obtain ⟨c, hc, rfl⟩ := List.mem_map.1 hk
    refine ⟨⟨c.2.1, (hok c hc).2.1⟩, (ordS_mem h _).2 ?_, rfl⟩
    unfold lastM
    rw [Option.isSome_map]
    obtain ⟨c', hc'⟩ := lastOf_some hc rfl
    rw [hc']; rfl

set_option maxHeartbeats 2000000 in
set_option maxRecDepth 100000 in
theorem paths_any (l : List ClaimD) (A : Option Addr) (c : Nat) (w : World) (hl : l.length ≤ 90) (hok : ∀ x ∈ l, ClaimOk x) (hsm : ∀ x ∈ l, x.2.2.2.size ≤ 1073741824) (hsl : Sl w w.heap.size A l.length 70 (rowsV claimV l)) (hg : Glob w) :
    Calls Tryz.prog 35 #[.slice A l.length c] w fun e w' => Below w.heap.size w w' ∧ ∃ A' c' r, e = .returned (.slice A' r.length c') ∧ (r.map fun x : NamedD => (x.1, L x.2)) = pathsS l ∧ (∀ x ∈ r, KeyOk x.1 ∧ x.2.size ≤ 1099511627776) ∧ Sl w' w'.heap.size A' r.length 35 (rowsV namedV r) := by
  have HSL := Lib.hid hsl; have HOK := Lib.hid hok; have HSM := Lib.hid hsm
  have hright := regRight_any l A c w (by omega) hok hsl hg
  clear hsl hok hsm
  go_enter Tryz.func35, Tryz.ntmps35
  go_wp2_with fail
  refine hright.mono ?_
  rintro e w1 ⟨hb1, rfl⟩
  clear hright
  have HB1 := Lib.hid hb1
  have hlasts := lasts_any l A c w1 (by omega) HOK.out ((HSL.out.keep hb1).more hb1.size)
  have hz1 := hb1.size
  clear hb1
  cases hr : rightC l with
  | false =>
    have HR := Lib.hid hr
    clear hr hlasts
    go_wp2_with fail
    go_ret
    exact ⟨HB1.out, none, 0, [], rfl, by unfold pathsS; rw [HR.out]; rfl, fun x hx => absurd hx (by simp), Sl.nil⟩
  | true =>
    have HR := Lib.hid hr
    clear hr
    go_wp2_with fail
    refine hlasts.mono ?_
    rintro e w2 ⟨hb2, rfl, nn, hnn, hM⟩
    clear hlasts
    have HM := Lib.hid hM
    have hcell : (w2.alloc (.cells #[.map (some w1.heap.size)] 159)).cell? ⟨w2.heap.size, 0, none⟩ = some (.map (some w1.heap.size)) := by rw [World.cell?_alloc_new]; rfl
    have hsort := sorted_keys w1.heap.size nn (lastM l) (w2.alloc (.cells #[.map (some w1.heap.size)] 159)) (by omega) (hM.alloc _) w2.heap.size hcell
    have hkeys := callsIn_wide.1 (keysSeq_in Fence.wide 5 trivial rfl (some w1.heap.size) w2)
    have HB2 := Lib.hid (HB1.out.trans (hb2.mono HB1.out.size))
    clear hM hcell hb2
    go_wp2_with (go_at_call 76; refine hkeys.mono ?_; rintro e w3 ⟨rfl, rfl⟩)
    refine hsort.mono ?_
    rintro e w4 ⟨hb4, A4, c4, ds, ⟨ss, hss, hds⟩, rfl, hsl4⟩
    rw [docs_sorted HOK.out hss] at hds
    clear hsort hkeys
    have hM4 : MapV w4 Tryz.prog 89 KeyOk keyL w1.heap.size nn (lastM l) := (HM.out.alloc _).below hb4
    have hB4 : Below w.heap.size w w4 := (HB2.out.alloc HB2.out.size _).trans (hb4.mono (Nat.le_trans HB2.out.size (by simp)))
    have hdk : ∀ d ∈ ds, KeyOk d ∧ ∃ cl, lastOf l d = some cl := by
      intro d hd
      rw [hds] at hd
      unfold docsS at hd
      rw [mem_sortK] at hd
      obtain ⟨x, hx, rfl⟩ := List.mem_map.1 hd
      exact ⟨(HOK.out x hx).2.1, lastOf_some hx rfl⟩
    have hdl : ds.length ≤ 90 := by rw [hds]; have := docsS_length l; omega
    have HDS := Lib.hid hds; have HSL4 := Lib.hid hsl4; have HM4 := Lib.hid hM4; have HB4 := Lib.hid hB4; have HDK := Lib.hid hdk
    clear hds hsl4 hM4 hB4 hdk hss HM hb4 hnn
    go_wp2_with fail
    go_loopw [5, 6, 21] (fun v5 v6 t wr => ∃ i : Nat, i ≤ ds.length ∧ t = .int .i64 i ∧ Below w4.heap.size w4 wr ∧ Hid (PathsAt (lastOf l) ds w4.heap.size i v5 v6 wr)) (fun _ _ t _ => ds.length - (intOf t).toNat)
    case atStart => exact ⟨0, by omega, rfl, Below.refl _ _, Lib.hid ⟨[], by simp [pathsGo], ⟨by simp [rowsV], .inl ⟨rfl, rfl⟩⟩, ⟨by simp [strs], .inl ⟨rfl, rfl⟩⟩, fun x hx => absurd hx (by simp), Nat.le_refl _⟩⟩
    case round =>
      obtain ⟨i, hi, rfl, hbr, hP⟩ := hrel
      by_cases hlt : i < ds.length
      · obtain ⟨b, off, rfl, hbl, hcl⟩ := (HSL4.out.keep hbr).2 (by omega)
        have i0 : (0 : Int) ≤ (i : Int) := by omega
        have i1 : (i : Int) < (ds.length : Int) := by omega
        have hrow := Sl.row (fun x hx => keyV_length (HDK.out x hx).1) hcl hlt
        obtain ⟨hkd, cl, hcl2⟩ := HDK.out _ (List.getElem_mem hlt)
        have htk : ds.take (i + 1) = ds.take i ++ [ds[i]] := List.take_succ_eq_append_getElem hlt
        have hclok : ClaimOk cl := HOK.out cl (lastOf_is hcl2).1
        have hclsz : cl.2.2.2.size ≤ 1073741824 := HSM.out cl (lastOf_is hcl2).1
        obtain ⟨r, hr1, hr2, hr3, hr4, hr5⟩ := hP.out
        have hstep := pathsGo_snoc (lastOf l) ds[i] (ds.take i) []
        rw [← htk] at hstep
        unfold pathStep at hstep
        rw [hcl2] at hstep
        simp only [List.nil_append] at hstep
        have hLM : lastM l ds[i] = some (claimA cl) := by unfold lastM; rw [hcl2]; rfl
        have HCL := Lib.hid hcl; have HROW := Lib.hid hrow; have HTK := Lib.hid htk; have HLM := Lib.hid hLM
        have HCO := Lib.hid hclok; have HST := Lib.hid hstep; have HR1 := Lib.hid hr1; have HR4 := Lib.hid hr4
        clear hcl hrow htk hLM hclok hstep hr1 hr4 hcl2 hP
        generalize ds[i] = d at *
        obtain ⟨A6, c6, rfl⟩ := own_shape hr3
        have HR2 := Lib.hid hr2; have HR3 := Lib.hid hr3
        clear hr2 hr3
        go_upto_region 10 with (first
          | (refine wp_loadN rfl 89 _ rfl b _ rfl (keyV d) _ HROW.out Tryz.underlying89 rfl (by rw [keyV_length hkd]; exact sizeKey) ?_)
          | (refine wp_storeN (B := wr.heap.size) (w0 := wr) rfl 89 _ _ rfl wr.heap.size _ rfl rfl 89 _ (heap_alloc_new _ _) (keyV_info hkd) (by rw [List.size_toArray, List.size_toArray, keyV_length hkd]; rfl) (by simpa using keyV_one d) ((Below.refl _ _).alloc (Nat.le_refl _) _) (Nat.le_refl _) ?_; intro W2 hbW2 hW2 _))
        have hM2 := Lib.hid ((HM4.out.below hbr).below hbW2)
        have hk2 : KeyBox W2 wr.heap.size d := hW2
        have hz2 : wr.heap.size < W2.heap.size := (Array.getElem?_eq_some_iff.1 hW2).1
        have hkr : ∀ j u, (keyV d)[j]? = some u → W2.cell? ⟨wr.heap.size, 0 + j, none⟩ = some u := fun j u hj => by rw [Nat.zero_add]; exact (cells_box hW2 j).trans hj
        have K2 := Lib.hid hk2; have Z2 := Lib.hid hz2; have R2 := Lib.hid hkr; have B2 := Lib.hid hbW2
        clear hk2 hz2 hkr hbW2 hW2
        go_upto_region 11 with (first
          | (refine wp_loadN rfl 89 _ rfl wr.heap.size 0 rfl (keyV d) _ R2.out Tryz.underlying89 rfl (by rw [keyV_length hkd]; exact sizeKey) ?_)
          | (refine wp_mapGet1 rfl _ _ 159 rfl 135 keyEnc Tryz.underlying159 (claimA zeroC) (zeroC_run _) rfl hM2.out d hkd rfl ?_; rw [HLM.out]; simp only [Option.getD_some])
          | (refine wp_storeN (B := W2.heap.size) (w0 := W2) rfl 135 _ _ rfl W2.heap.size _ rfl rfl 135 _ (heap_alloc_new _ _) (by rw [List.size_toArray, claimV_length HCO.out]; exact sizeClaim) (by rw [show (claimV cl).toArray.size = 70 by rw [List.size_toArray, claimV_length HCO.out]]; rfl) (by simpa using claimV_one cl) ((Below.refl _ _).alloc (Nat.le_refl _) _) (Nat.le_refl _) ?_; intro W3 hbW3 hW3 _))
        obtain ⟨k68, k69⟩ := claim_cell HCO.out
        have c68 := (cells_box hW3 68).trans k68
        have c69 := (cells_box hW3 69).trans k69
        have K3 := Lib.hid (K2.out.below hbW3)
        have hb3 : Below wr.heap.size wr W3 := B2.out.trans (hbW3.mono (by have := Z2.out; omega))
        have HB3 := Lib.hid hb3; have Z3 := Lib.hid (Nat.lt_of_lt_of_le Z2.out hbW3.size)
        have R23 := Lib.hid (own_below' HR2.out hb3); have R33 := Lib.hid (own_below' HR3.out hb3)
        clear k68 k69 hW3 hb3 hbW3
        by_cases hk5 : cl.2.2.1 = 5
        · have hst := HST.out
          rw [if_pos hk5] at hst
          have HST2 := Lib.hid hst
          rw [hk5] at c68
          clear hst HST hk5
          go_wp2_with fail
          go_roundw
          case rel => exact ⟨i + 1, by omega, by go_num, hbr.trans (HB3.out.mono hbr.size), Lib.hid ⟨r, by rw [HR1.out, HST2.out], R23.out, R33.out, HR4.out, by omega⟩⟩
          case measure => simp [intOf]; omega
        · have hst := HST.out
          rw [if_neg hk5] at hst
          have HST2 := Lib.hid hst
          have hne5 : ((cl.2.2.1 : Int) == 5) = false := by rw [beq_eq_false_iff_ne]; omega
          have hls : Ls (r.map (·.2)) = (pathsGo (lastOf l) (ds.take i) []).map (·.2) := by rw [← HR1.out]; simp [Ls]
          have hfr := fresh_any cl.2.2.2 (r.map (·.2)) A6 c6 W3 (by omega) (by rw [List.length_map]; omega) (fun t ht => by
            obtain ⟨x, hx, rfl⟩ := List.mem_map.1 ht
            have := (HR4.out x hx).2; omega) (by rw [List.length_map]; exact (Sl.of_own R33.out))
          have hfl := freshS_length (L cl.2.2.2) (Ls (r.map (·.2))) (by simp [Ls]; omega)
          rw [List.length_map, hls] at hfr
          rw [hls, L_length] at hfl
          have HFL := Lib.hid hfl
          clear hst HST hk5 hls hfl
          go_upto_region 13 with (go_at_call 79; refine hfr.mono ?_; rintro e w5 ⟨hb5, p, rfl, hp⟩)
          have hpz : p.size ≤ 1099511627776 := by have h1 := congrArg List.length hp; rw [L_length] at h1; have := HFL.out.2; omega
          have R25 := Lib.hid (own_below' R23.out hb5); have R35 := Lib.hid (own_below' R33.out hb5); have K5 := Lib.hid (K3.out.below hb5)
          have B5 : Hid (Below w4.heap.size w4 w5) := (hbr.trans (HB3.out.mono hbr.size)).trans (hb5.mono (Nat.le_trans hbr.size HB3.out.size))
          have HP := Lib.hid hp
          have hz5 := B5.out.size
          clear hp hb5 hfr
          obtain ⟨is, hsi, hs0, hs1, hs2⟩ := info_parts strInfo
          obtain ⟨im, hmi, hm0, hm1, hm2⟩ := info_parts namedInfo
          have q1 : r.length + 1 ≤ maxLen := by unfold maxLen; omega
          have q2 : (r.length + 1) * 16 ≤ 140737488355328 := by omega
          have q3 : (r.length + 1) * 64 ≤ 140737488355328 := by omega
          go_upto_region 14 with (at_builtin; refine wpList_append_own _ rfl _ _ 52 rfl w4.heap.size 9 is (.string ByteArray.empty) 1 16 Tryz.underlying52 hsi hs0 hs1 hs2 rfl (by decide) _ _ _ rfl (own_alloc' R35.out _) ⟨w5.heap.size, 0, none⟩ 1 1 [.string p] rfl rfl (cell_one_new _ _ _) (by simp [Value.oneCell']) q1 q2 (by simp; omega) ?_; intro v6 w6 hown6 hg6 _)
          have hg6' : (w5.alloc (.cells #[.string p] 9)).grownBy w6 (Value.slice A6 r.length c6).ownBlock := hg6
          have R26 : Hid (w6.ownsRow w4.heap.size 91 35 u5 r.length (rowsV namedV r)) := (own_alloc' R25.out (.cells #[.string p] 9)).kept hg6' (rows_apart (own_alloc' R35.out (.cells #[.string p] 9)) (own_alloc' R25.out (.cells #[.string p] 9)) (by decide))
          have K6 : Hid (KeyBox w6 wr.heap.size d) := (K5.out.alloc (.cells #[.string p] 9)).grown (own_alloc' R35.out (.cells #[.string p] 9)) (by decide) hg6'
          have B6 : Hid (Below w4.heap.size w4 w6) := (B5.out.alloc B5.out.size _).grown hg6' (by simp; omega) (fun k e => ((own_alloc' R35.out (.cells #[.string p] 9)).lt k e).1)
          have R36 := Lib.hid hown6
          have hz6 := B6.out.size
          have HBT := Lib.hid (named_built p hkd)
          have C6 : Hid (∀ j u, (keyV d)[j]? = some u → w6.cell? ⟨wr.heap.size, 0 + j, none⟩ = some u) := fun j u hj => by rw [Nat.zero_add]; exact (cells_box K6.out j).trans (by simpa using hj)
          have hnl : (namedV (d, p)).length = 35 := namedV_length ⟨hkd, by show p.size ≤ maxLen; unfold maxLen; omega⟩
          have HNC : Hid (∀ j u, (namedV (d, p))[j]? = some u → (w6.alloc (.cells (namedV (d, p)).toArray 91)).cell? ((⟨w6.heap.size, 0, none⟩ : Addr).add j) = some u) := by
            intro j u hj
            rw [Addr.add_mid, cells_box (heap_alloc_new _ _)]
            simpa using hj
          clear hown6 hg6 hg6'
          go_wp2_with (first
            | (refine wp_loadN rfl 89 _ rfl wr.heap.size 0 rfl (keyV d) _ C6.out Tryz.underlying89 rfl (by rw [keyV_length hkd]; exact sizeKey) ?_)
            | ((with_reducible refine wpList_buildTo rfl 91 _ rfl _ rfl (namedV (d, p)).toArray ?_ ?_)
               · simp only [List.map_toArray, List.map_cons, List.map_nil]; exact HBT.out)
            | (refine wp_buildSlice1 (by rfl) 79 _ rfl 91 Tryz.underlying79 (.agg (namedV ((0, zero32, 0), ByteArray.empty)).toArray) 35 64 namedInfo rfl (by decide) (by decide) (namedV (d, p)) hnl rfl ?_)
            | (at_builtin; refine wpList_append_own _ rfl _ _ 79 rfl w4.heap.size 91 im (.agg (namedV ((0, zero32, 0), ByteArray.empty)).toArray) 35 64 Tryz.underlying79 hmi hm0 hm1 hm2 rfl (by decide) _ _ _ rfl (own_alloc' R26.out _) ⟨w6.heap.size, 0, none⟩ 1 1 (namedV (d, p)) rfl (by rw [hnl]) HNC.out (namedV_one (d, p)) q1 q3 (by simp; omega) ?_; intro v5 w7 hown7 hg7 _))
          have hg7' : (w6.alloc (.cells (namedV (d, p)).toArray 91)).grownBy w7 u5.ownBlock := hg7
          have R37 := (own_alloc' R36.out (.cells (namedV (d, p)).toArray 91)).kept hg7' (rows_apart (own_alloc' R26.out (.cells (namedV (d, p)).toArray 91)) (own_alloc' R36.out (.cells (namedV (d, p)).toArray 91)) (by decide))
          have B7 : RowKit.Below w4.heap.size w4 w7 := (B6.out.alloc B6.out.size _).grown hg7' (by simp; omega) (fun k e => ((own_alloc' R26.out (.cells (namedV (d, p)).toArray 91)).lt k e).1)
          go_roundw
          case rel =>
            refine ⟨i + 1, by omega, by go_num, B7, Lib.hid ⟨r ++ [(d, p)], ?_, ?_, ?_, ?_, ?_⟩⟩
            · rw [List.map_append, HR1.out, HST2.out, List.map_cons, List.map_nil, HP.out]
            · rw [List.length_append, rowsV_app, show rowsV namedV [(d, p)] = namedV (d, p) by simp [rowsV]]; exact hown7
            · rw [List.length_append, List.map_append, List.map_cons, List.map_nil, strs_app]; exact R37
            · intro x hx
              rcases List.mem_append.1 hx with hx | hx
              · exact HR4.out x hx
              · rw [List.mem_singleton.1 hx]; exact ⟨hkd, hpz⟩
            · simp; omega
          case measure => simp [intOf]; omega
      · go_wp2_with fail
        go_ret
        obtain ⟨r, hr1, hr2, hr3, hr4, hr5⟩ := hP.out
        rw [List.take_of_length_le (by omega)] at hr1
        obtain ⟨A5, c5, hv5⟩ := own_shape hr2
        refine ⟨HB4.out.trans (hbr.mono HB4.out.size), A5, c5, r, by rw [hv5]; rfl, ?_, hr4, ?_⟩
        · rw [hr1, HDS.out]; unfold pathsS; rw [HR.out, if_pos rfl]
        · rw [hv5] at hr2; exact Sl.of_own hr2
end Go.Proofs.YtdgbjhfkmembdaaGreatDoor
