/-
  What hunk.Lines gives. Conditions: some files, few and short; the library's Itoa at small numbers as said.
-/
import Derived.Test.YthjaepmfkgejkaaDoorLinesMore23
namespace Go.Proofs.YthjaepmfkgejkaaDoor
open Go.RowKit Go.Maps Go.Shelf
set_option linter.unusedVariables false
set_option linter.unusedSimpArgs false

def LinesGive (fa fb : List FileD) (w : World) (e : Ending) (w' : World) : Prop :=
  Below w.heap.size w w' ∧ ((∃ ls, linesL fa fb (pathsP fa fb) = some ls ∧ ∃ A c xs, e = .returned (.tuple #[.slice A xs.length c, .int .i64 0]) ∧ xs.map L = ls ∧ Sl w' w'.heap.size A xs.length 1 (strs xs)) ∨ (linesL fa fb (pathsP fa fb) = none ∧ e = .returned (.tuple #[.slice none 0 0, .int .i64 5])))
def ItoaAt (N : Nat) (w : World) : Prop := ∀ (k : Nat) (u : World), k ≤ N → Gr w u → Calls Tryd.prog 41 #[.int .i64 (k : Int)] u fun e u' => e = .returned (.string ⟨(Lib.decDigits k).toArray⟩) ∧ Gr u u'
theorem strs_snoc (xs : List ByteArray) (s : ByteArray) : strs (xs ++ [s]) = strs xs ++ [.string s] := by simp [strs]
/-- The lines told so far, while the hunks' rows lie between z0 and the world's size behind Hunks. -/
def OutAt (z0 base : Nat) (w8 wr : World) (v : Value) (xs : List ByteArray) : Prop :=
  wr.ownsRow base 9 1 v xs.length (strs xs) ∧ (∀ g, v.ownBlock = some g → g < z0 ∨ w8.heap.size ≤ g) ∧ (∀ k, z0 ≤ k → k < w8.heap.size → wr.heap[k]? = w8.heap[k]?) ∧ Below base w8 wr
section
variable {z0 base : Nat} {w8 wr w' : World} {v v' : Value} {xs : List ByteArray}
theorem OutAt.below (h : OutAt z0 base w8 wr v xs) (hbs : base ≤ wr.heap.size) (hb : Below wr.heap.size wr w') : OutAt z0 base w8 w' v xs := by
  obtain ⟨h1, h2, h3, h4⟩ := h
  exact ⟨own_kept h1 hb, h2, fun k hk1 hk2 => (hb.block k (Nat.lt_of_lt_of_le hk2 h4.size)).trans (h3 k hk1 hk2), h4.trans (hb.mono hbs)⟩
theorem OutAt.app (h : OutAt z0 base w8 wr v xs) {s : ByteArray} (ho : w'.ownsRow base 9 1 v' (xs.length + 1) (strs xs ++ [.string s])) (hb : ∀ B a, B ≤ base → Below B a wr → Below B a w') (hk : ∀ k, k < wr.heap.size → v.ownBlock ≠ some k → w'.heap[k]? = wr.heap[k]?) (hw : Where wr.heap.size v v') : OutAt z0 base w8 w' v' (xs ++ [s]) := by
  obtain ⟨h1, h2, h3, h4⟩ := h
  refine ⟨by rw [strs_snoc, List.length_append, List.length_singleton]; exact ho, fun g hg => ?_, fun k hk1 hk2 => ?_, hb base w8 (Nat.le_refl _) h4⟩
  · rcases hw with q | ⟨g', q, q2⟩
    · rw [q] at hg; exact h2 g hg
    · rw [q] at hg
      have : g' = g := Option.some.inj hg
      have := h4.size
      omega
  · rw [hk k (Nat.lt_of_lt_of_le hk2 h4.size) (fun e => by have := h2 k e; omega)]
    exact h3 k hk1 hk2
theorem own_mid {e : TypeId} {sz n : Nat} {cs : List Value} (ho : w8.ownsRow z0 e sz v n cs) (hm : ∀ k, z0 ≤ k → k < w8.heap.size → wr.heap[k]? = w8.heap[k]?) : wr.ownsRow z0 e sz v n cs := by
  refine ⟨ho.1, ?_⟩
  rcases ho.2 with h | ⟨g, cap, cur, hv, hg, hh, r⟩
  · exact .inl h
  · exact .inr ⟨g, cap, cur, hv, hg, (hm g hg (Array.getElem?_eq_some_iff.1 hh).1).trans hh, r⟩
theorem own_ne_tag {w : World} {bs z n sz : Nat} {e e' : TypeId} {v : Value} {cs : List Value} {cur : Array Value} {fz : Nat × Nat} (ho : w.ownsRow bs e sz v n cs) (hz : w.heap[z]? = some (.cells cur e' fz)) (hne : e ≠ e') : v.ownBlock ≠ some z := by
  rcases ho.2 with ⟨rfl, _⟩ | ⟨g, cap, c2, rfl, _, hh, _⟩
  · simp [Value.ownBlock]
  · intro q
    have : g = z := by simpa [Value.ownBlock] using q
    subst this
    rw [hz] at hh
    injection hh with hh
    injection hh with _ hh _
    exact hne hh.symm
theorem sl_cell {w : World} {B g o n j : Nat} {cs : List Value} {u : Value} (h : Sl w B (some ⟨g, o, none⟩) n 1 cs) (hj : cs[j]? = some u) : w.cell? ⟨g, o + j, none⟩ = some u := by
  have hl := (List.getElem?_eq_some_iff.1 hj).1
  have hn : 0 < n := by have := h.1; omega
  obtain ⟨b, off, e, hb, hc⟩ := h.2 hn
  obtain ⟨e1, e2⟩ := addr_eq e
  subst e1 e2
  exact hc j u hj
end
/-- What the loop over the paths has told. -/
def ToldTo (fa fb : List FileD) (P : List (List UInt8)) (k : Nat) (xs : List ByteArray) : Prop := linesL fa fb (P.take k) = some (xs.map L) ∧ xs.length ≤ 40000 * k
set_option maxHeartbeats 32000000 in
set_option maxRecDepth 100000 in
theorem lines_any (fa fb : List FileD) (N : Nat) (A B : Option Addr) (ca cb : Nat) (w : World) (hna : fa.length ≤ 1000) (hnb : fb.length ≤ 1000) (hpos : 0 < fa.length + fb.length) (hok : ∀ f ∈ fa ++ fb, f.1.size ≤ 1000 ∧ f.2.size ≤ N) (hN : N ≤ 4000)
    (hsa : Sl w w.heap.size A fa.length 2 (cells2 fa)) (hsb : Sl w w.heap.size B fb.length 2 (cells2 fb)) (hg : Glob w) (hit : ∀ u, Below w.heap.size w u → ItoaAt N u) :
    Calls Tryd.prog 17 #[.slice A fa.length ca, .slice B fb.length cb] w (LinesGive fa fb w) := by
  have hba := byPath_any fa A ca w (by omega) (fun f hf => by have := (hok f (List.mem_append_left _ hf)).1; omega) hsa
  have HOKB := Lib.hid (show ∀ f ∈ fb, f.1.size ≤ 1000000 from fun f hf => by have := (hok f (List.mem_append_right _ hf)).1; omega)
  have HBA := Lib.hid hba; have HSA := Lib.hid hsa; have HSB := Lib.hid hsb; have HG := Lib.hid hg; have HIT := Lib.hid hit; have HOK := Lib.hid hok
  clear hba hsa hsb hg hit hok
  obtain ⟨fl, hfl⟩ : ∃ fl, fa ++ fb = fl := ⟨_, rfl⟩
  have HFN := Lib.hid (show fa.length + fb.length = fl.length by rw [← hfl, List.length_append])
  have HFL := Lib.hid hfl
  clear hfl
  go_enter Tryd.func17, Tryd.ntmps17
  go_upto_region 4 with (first
    | (go_at_call 36; refine HBA.out.mono ?_; rintro e w1 ⟨hb1, rfl, n1, hn1, hm1⟩
       have hbb := byPath_any fb B cb w1 (by omega) HOKB.out ((HSB.out.keep hb1).more hb1.size)
       have HB1 := Lib.hid hb1; have HM1 := Lib.hid hm1; have HBB := Lib.hid hbb
       clear hb1 hm1 hbb HBA)
    | (go_at_call 36; refine HBB.out.mono ?_; rintro e w2 ⟨hb2, rfl, n2, hn2, hm2⟩
       have HM12 := Lib.hid (HM1.out.below hb2); have HM2 := Lib.hid hm2
       have HB2 := Lib.hid (HB1.out.trans (hb2.mono HB1.out.size))
       have HSA2 := Lib.hid ((HSA.out.keep HB2.out).more HB2.out.size)
       have HSB2 := Lib.hid ((HSB.out.keep HB2.out).more HB2.out.size)
       have hcl := cloneF_any fa A ca w2 (by omega) HSA2.out
       have HZ12 := Lib.hid (show w.heap.size < w1.heap.size from HM1.out.lt)
       have HZ22 := Lib.hid (show w1.heap.size < w2.heap.size from hm2.lt)
       have HCL := Lib.hid hcl
       clear hb2 hm2 hcl HBB)
    | (go_at_call 37; refine HCL.out.mono ?_; rintro e w3 ⟨hb3, v3, rfl, ho3⟩
       have HB3 := Lib.hid hb3; have HO3 := Lib.hid ho3
       have HSB3 := Lib.hid ((HSB2.out.keep hb3).more hb3.size)
       clear hb3 ho3 HCL)
    | (refine wp_appL (by rfl) _ _ 53 rfl w2.heap.size 55 (.agg #[.string ⟨#[]⟩, .string ⟨#[]⟩]) 2 32 Tryd.underlying53 fileInfo rfl (by decide) v3 fa.length (cells2 fa) rfl HO3.out B fb.length cb w3.heap.size (cells2 fb) rfl HSB3.out (cells2_one fb) (by unfold maxLen; omega) (by omega) HB3.out.size ?_; intro v4 w4 ho4 hg4
       rw [HFN.out] at ho4
       obtain ⟨A4, c4, hv4⟩ := own_shape23 ho4
       subst hv4
       have hb4 : Below w2.heap.size w2 w4 := HB3.out.grown hg4 HB3.out.size (fun k e => (HO3.out.lt k e).1)
       have hs4 := Sl.of_own ho4
       rw [← cells2_append, HFL.out] at hs4
       have HB4 := Lib.hid hb4; have HS4 := Lib.hid hs4
       clear ho4 hg4 hb4 hs4 HO3 HSB3 HB3))
  have hfp : 0 < fl.length := by have := HFN.out; omega
  have hfm : fl.length ≤ 2000 := by have := HFN.out; omega
  have HOKF : Hid (∀ f ∈ fl, f.1.size ≤ 1000) := by rw [← HFL.out]; exact fun f hf => (HOK.out f hf).1
  go_loopw [8, 34] (fun t8 t34 wr => ∃ i : Nat, i ≤ fl.length ∧ t34 = .int .i64 ((i : Nat) : Int) ∧ Hid (Below w4.heap.size w4 wr) ∧ Hid (wr.ownsRow w4.heap.size 9 1 t8 i (strs ((fl.take i).map (·.1))))) (fun _ t34 _ => fl.length - (intOf t34).toNat)
  case atStart => exact ⟨0, Nat.zero_le _, rfl, Lib.hid (Below.refl _ _), Lib.hid (World.ownsRow_nil _ _ _ _)⟩
  case round =>
    obtain ⟨i, hi, rfl, HBR, HO⟩ := hrel
    by_cases hlt : i < fl.length
    · obtain ⟨b, off, rfl, hbl, hcl⟩ := (HS4.out.keep HBR.out).2 (by omega)
      have i0 : (0 : Int) ≤ (i : Int) := by omega
      have i1 : (i : Int) < (fl.length : Int) := by omega
      obtain ⟨g0, g1⟩ := cells2_get fl i hlt
      have q0 := hcl _ _ g0
      have q1 := hcl _ _ g1
      have htk : fl.take (i + 1) = fl.take i ++ [fl[i]] := List.take_succ_eq_append_getElem hlt
      have HTK := Lib.hid htk
      clear hcl g0 g1 htk
      generalize fl[i] = f at *
      obtain ⟨p, by'⟩ := f
      have hrow : ∀ j u, ([Value.string p, Value.string by'] : List Value)[j]? = some u → wr.cell? ⟨b, off + i * 2 + j, none⟩ = some u := fun j u hj => by
        rcases (by have := (List.getElem?_eq_some_iff.1 hj).1; simp at this; omega : j = 0 ∨ j = 1) with rfl | rfl
        · simp at hj; rw [← hj]; exact q0
        · simp at hj; rw [← hj, Nat.add_assoc]; exact q1
      have HROW := Lib.hid hrow
      have hbwr : w4.heap.size ≤ wr.heap.size := HBR.out.size
      have HHW2 := Lib.hid (show (wr.alloc (.cells #[.string p, .string by'] 55)).heap[wr.heap.size]? = some (.cells #[.string p, .string by'] 55 (0, 0)) from heap_alloc_new _ _)
      have HBW2 := Lib.hid (show Below w4.heap.size w4 (wr.alloc (.cells #[.string p, .string by'] 55)) from HBR.out.alloc hbwr _)
      have HOW2 := Lib.hid (HO.out.alloc (.cells #[.string p, .string by'] 55))
      clear hrow q0 q1
      go_upto_region 6 with (refine wp_loadN rfl 55 _ rfl b _ rfl [Value.string p, Value.string by'] _ HROW.out Tryd.underlying55 rfl (by kernel_rfl) ?_)
      generalize wr.alloc (.cells #[.string p, .string by'] 55) = W2 at *
      have c10 : W2.cell? ⟨wr.heap.size, 0, none⟩ = some (.string p) := cells_box HHW2.out 0
      have hzW : w4.heap.size ≤ W2.heap.size := HBW2.out.size
      go_wp2_with (refine wp_app1 rfl _ _ 56 rfl w4.heap.size 9 (.string ⟨#[]⟩) 16 Tryd.underlying56 strInfo23 rfl _ i _ rfl HOW2.out (.string p) 9 rfl rfl (by unfold maxLen; omega) (by omega) hzW ?_; intro t8' w8 hown8 hb8)
      go_roundw
      case rel => exact ⟨i + 1, by omega, by go_num, Lib.hid (hb8 _ _ (Nat.le_refl _) HBW2.out), Lib.hid (by rw [HTK.out, List.map_append, List.map_cons, List.map_nil, strs_snoc]; exact hown8)⟩
      case measure => simp [intOf]; omega
    · have hie : i = fl.length := by omega
      rw [hie] at HO
      rw [List.take_length, cells2_paths] at HO
      have n1 : ¬ (i : Int) < (fl.length : Int) := by omega
      have hpl : (fl.map fun f => L f.1).length = fl.length := by simp
      have hpe : sortS (fl.map fun f => L f.1) = sortS ((fa ++ fb).map fun f => L f.1) := by rw [HFL.out]
      generalize (fl.map fun f => L f.1) = ps at *
      rw [← hpl] at HO
      obtain ⟨A8, c8, hv8⟩ := own_shape23 HO.out
      subst hv8
      obtain ⟨g8, rfl⟩ : ∃ g8, A8 = some ⟨g8, 0, none⟩ := by
        rcases HO.out.2 with ⟨h, h0⟩ | ⟨g, cap, cur, h, _⟩
        · omega
        · injection h with h; exact ⟨g, h⟩
      have hso := sortStr_any ps w4.heap.size g8 c8 wr (by omega) HO.out
      have HSO := Lib.hid hso; have HPE := Lib.hid hpe; have HPL := Lib.hid hpl
      have hgb : w4.heap.size ≤ g8 := (HO.out.lt g8 (by simp [Value.ownBlock])).1
      clear hie hso hpe hpl
      go_upto_region 9 with (go_at_call 38; refine HSO.out.mono ?_; rintro e w5 ⟨rfl, hg5, ho5⟩
                             have HB5 := Lib.hid (HBR.out.grown hg5 HBR.out.size (fun k e => by have h5 : g8 = k := Option.some.inj e; omega))
                             have HO5 := Lib.hid ho5
                             clear hg5 ho5)
      have hco := compactStr_any (sortS ps) w4.heap.size g8 c8 w5 (by rw [sortS_length]; have := HPL.out; omega) HO5.out
      rw [sortS_length] at hco
      have HCO := Lib.hid hco
      clear hco
      have HPP := Lib.hid (show Lib.compact (sortS ps) = pathsP fa fb by rw [HPE.out]; rfl)
      have hPl : (Lib.compact (sortS ps)).length ≤ 2000 := by have := Lib.compact_length_le (sortS ps); rw [sortS_length] at this; have := HPL.out; omega
      generalize Lib.compact (sortS ps) = P at *
      go_upto_region 11 with (go_at_call 39; refine HCO.out.mono ?_; rintro e w6 ⟨rfl, hg6, sl6⟩
                              have HB6 := Lib.hid (HB5.out.grown hg6 HB5.out.size (fun k e => by have h5 : g8 = k := Option.some.inj e; omega))
                              have SL6 := Lib.hid sl6
                              clear hg6 sl6)
      have B46 : Hid (Below w2.heap.size w2 w6) := HB4.out.trans (HB6.out.mono HB4.out.size)
      have B6 : Hid (Below w.heap.size w w6) := HB2.out.trans (B46.out.mono HB2.out.size)
      have M16 := Lib.hid (HM12.out.below B46.out); have M26 := Lib.hid (HM2.out.below B46.out)
      have Z16 : Hid (w.heap.size < w6.heap.size) := by have h1 := HZ12.out; have h2 := HZ22.out; have h3 := B46.out.size; show _ < _; omega
      have Z26 : Hid (w1.heap.size < w6.heap.size) := by have h2 := HZ22.out; have h3 := B46.out.size; show _ < _; omega
      obtain ⟨base, hbase⟩ : ∃ base, w6.heap.size = base := ⟨_, rfl⟩
      have HBASE := Lib.hid hbase
      clear hbase
      go_loopw [11, 49] (fun t11 t49 wr => ∃ k xs, k ≤ P.length ∧ t49 = .int .i64 ((k : Nat) : Int) ∧ Hid (ToldTo fa fb P k xs) ∧ Hid (Below base w6 wr) ∧ Hid (wr.ownsRow base 9 1 t11 xs.length (strs xs))) (fun _ t49 _ => P.length - (intOf t49).toNat)
      case atStart => exact ⟨0, [], Nat.zero_le _, rfl, Lib.hid ⟨rfl, Nat.le_refl _⟩, Lib.hid (Below.refl _ _), Lib.hid (World.ownsRow_nil _ _ _ _)⟩
      case round =>
        obtain ⟨k, xs, hk, rfl, HT, HBR, HOX⟩ := hrel
        obtain ⟨Ax, cx, hvx⟩ := own_shape23 HOX.out
        subst hvx
        by_cases hkl : k < P.length
        · have i0 : (0 : Int) ≤ (k : Int) := by omega
          have i1 : (k : Int) < (P.length : Int) := by omega
          have hwz : base ≤ wr.heap.size := by rw [← HBASE.out]; exact HBR.out.size
          have hbr6 : Below w6.heap.size w6 wr := by rw [HBASE.out]; exact HBR.out
          have cp := sl_cell (SL6.out.keep hbr6) (j := k) (u := encStr P[k]) (by simp [hkl])
          rw [Nat.zero_add, encS] at cp
          have hpm : ∃ f ∈ fa ++ fb, P[k] = L f.1 := pathsP_mem (by rw [← HPP.out]; exact List.getElem_mem hkl)
          have hps : (⟨P[k].toArray⟩ : ByteArray).size ≤ 1000 := by
            obtain ⟨f, hf, e⟩ := hpm
            have h1 := (HOK.out f hf).1
            rw [← L_length, L_mk, e, L_length]
            exact h1
          have HTK := Lib.hid (show P.take (k + 1) = P.take k ++ [P[k]] from List.take_succ_eq_append_getElem hkl)
          have HNO := Lib.hid (fun h : told1 fa fb ⟨P[k].toArray⟩ = none => linesL_none hkl h)
          clear hpm
          generalize hpk : P[k] = pk at *
          clear hpk
          obtain ⟨pb, hpb⟩ : ∃ pb : ByteArray, (⟨pk.toArray⟩ : ByteArray) = pb := ⟨_, rfl⟩
          have HPB := Lib.hid hpb
          rw [hpb] at cp hps HNO
          clear hpb
          have HSK := Lib.hid (show StrOk pb by unfold StrOk maxLen; omega)
          have HNAf : Hid (∀ f ∈ fa, f.2.size ≤ N) := fun f hf => (HOK.out f (List.mem_append_left _ hf)).2
          have HNBf : Hid (∀ f ∈ fb, f.2.size ≤ N) := fun f hf => (HOK.out f (List.mem_append_right _ hf)).2
          have hfN := bytesOf_le HNAf.out pb
          have hgN := bytesOf_le HNBf.out pb
          obtain ⟨f1, f2, HGA⟩ : ∃ f1 f2, Hid ((firstM fa pb).getD (.agg #[.string ⟨#[]⟩, .string ⟨#[]⟩]) = .agg #[.string f1, .string f2] ∧ (firstM fa pb).isSome = (firstD fa pb).isSome ∧ bytesOf fa pb = f2) := by
            unfold firstM bytesOf
            cases firstD fa pb with
            | none => exact ⟨_, _, rfl, rfl, rfl⟩
            | some f => exact ⟨_, _, rfl, rfl, rfl⟩
          obtain ⟨g1, g2, HGB⟩ : ∃ g1 g2, Hid ((firstM fb pb).getD (.agg #[.string ⟨#[]⟩, .string ⟨#[]⟩]) = .agg #[.string g1, .string g2] ∧ (firstM fb pb).isSome = (firstD fb pb).isSome ∧ bytesOf fb pb = g2) := by
            unfold firstM bytesOf
            cases firstD fb pb with
            | none => exact ⟨_, _, rfl, rfl, rfl⟩
            | some f => exact ⟨_, _, rfl, rfl, rfl⟩
          rw [HGA.out.2.2] at hfN
          rw [HGB.out.2.2] at hgN
          obtain ⟨o1, HO1⟩ : ∃ o1, Hid ((firstD fa pb).isSome = o1) := ⟨_, rfl⟩
          obtain ⟨o2, HO2⟩ : ∃ o2, Hid ((firstD fb pb).isSome = o2) := ⟨_, rfl⟩
          have MA := Lib.hid (M16.out.below hbr6)
          have hal1 : Below wr.heap.size wr (wr.alloc (.cells #[.string f1, .string f2] 55)) := (Below.refl _ _).alloc (Nat.le_refl _) _
          have MB := Lib.hid ((M26.out.below hbr6).below hal1)
          have hal2 : Below wr.heap.size wr ((wr.alloc (.cells #[.string f1, .string f2] 55)).alloc (.cells #[.string g1, .string g2] 55)) := hal1.alloc hal1.size _
          have hx1 : ((wr.alloc (.cells #[.string f1, .string f2] 55)).alloc (.cells #[.string g1, .string g2] 55)).heap[wr.heap.size]? = some (.cells #[.string f1, .string f2] 55 (0, 0)) := (Below.heap_alloc _ _ _ (by simp)).trans (heap_alloc_new _ _)
          have hx2 : ((wr.alloc (.cells #[.string f1, .string f2] 55)).alloc (.cells #[.string g1, .string g2] 55)).heap[wr.heap.size + 1]? = some (.cells #[.string g1, .string g2] 55 (0, 0)) := by
            have h := heap_alloc_new (wr.alloc (.cells #[.string f1, .string f2] 55)) (.cells #[.string g1, .string g2] 55)
            rwa [show (wr.alloc (.cells #[.string f1, .string f2] 55)).heap.size = wr.heap.size + 1 by simp] at h
          have HAL2 := Lib.hid hal2; have HX1 := Lib.hid hx1; have HX2 := Lib.hid hx2
          have z1 : ¬ 9223372036854775807 < 5 + pb.size := by omega
          have z2 : ¬ 9223372036854775807 < 5 + pb.size + 6 := by omega
          have z3 : ¬ 9223372036854775807 < 5 + pb.size + 5 := by omega
          clear hal1 hal2 hx1 hx2 hbr6
          go_upto_block 4 with (first
            | (refine wp_mapGet2 rfl _ _ 84 rfl 55 strEnc Tryd.underlying84 (.agg #[.string ⟨#[]⟩, .string ⟨#[]⟩]) (zeroFile _) rfl MA.out pb HSK.out rfl ?_; rw [HGA.out.1, HGA.out.2.1, HO1.out])
            | (refine wp_mapGet2 rfl _ _ 84 rfl 55 strEnc Tryd.underlying84 (.agg #[.string ⟨#[]⟩, .string ⟨#[]⟩]) (zeroFile _) rfl MB.out pb HSK.out rfl ?_; rw [HGB.out.1, HGB.out.2.1, HO2.out]))
          obtain ⟨W, hW⟩ : ∃ W, (wr.alloc (.cells #[.string f1, .string f2] 55)).alloc (.cells #[.string g1, .string g2] 55) = W := ⟨_, rfl⟩
          rw [hW] at HAL2 HX1 HX2 ⊢
          clear hW cp
          have c14 : W.cell? ⟨wr.heap.size, 1, none⟩ = some (.string f2) := cells_box HX1.out 1
          have c16 : W.cell? ⟨wr.heap.size + 1, 1, none⟩ = some (.string g2) := cells_box HX2.out 1
          have hwW : base ≤ W.heap.size := Nat.le_trans hwz HAL2.out.size
          have HBW : Hid (Below base w6 W) := HBR.out.trans (HAL2.out.mono hwz)
          have HOW := Lib.hid (own_kept HOX.out HAL2.out)
          go_cut [18] from 67 to 82 (fun s18 wx => ∃ hd : ByteArray, s18 = .string hd ∧ wx = W ∧ Hid (L hd = headS fa fb pb) ∧ Hid (sameF fa fb pb = false))
          case first =>
            cases o1 with
            | false =>
              have HS := Lib.hid (show sameF fa fb pb = false by unfold sameF; rw [HO1.out]; rfl)
              have HH := Lib.hid (show L ((⟨#[102, 105, 108, 101, 32]⟩ : ByteArray) ++ pb ++ ⟨#[32, 97, 100, 100, 101, 100]⟩) = headS fa fb pb by rw [L_app, L_app]; unfold headS; rw [if_pos HO1.out])
              go_wp2_with fail
              go_meet
              case rel => exact ⟨_, rfl, rfl, HH, HS⟩
            | true =>
              cases o2 with
              | false =>
                have HS := Lib.hid (show sameF fa fb pb = false by unfold sameF; rw [HO2.out, Bool.and_false]; rfl)
                have HH := Lib.hid (show L ((⟨#[102, 105, 108, 101, 32]⟩ : ByteArray) ++ pb ++ ⟨#[32, 103, 111, 110, 101]⟩) = headS fa fb pb by rw [L_app, L_app]; unfold headS; rw [HO1.out, HO2.out, if_neg (by decide), if_pos rfl])
                go_wp2_with fail
                go_meet
                case rel => exact ⟨_, rfl, rfl, HH, HS⟩
              | true =>
                by_cases hfg : f2 = g2
                · have tb : (f2.toList == g2.toList) = true := by rw [hfg]; exact beq_self_eq_true _
                  have hsm : sameF fa fb pb = true := by unfold sameF; rw [HO1.out, HO2.out, HGA.out.2.2, HGB.out.2.2, hfg]; simp
                  have HTN : Hid (ToldTo fa fb P (k + 1) xs) := by
                    refine ⟨?_, by have := HT.out.2; omega⟩
                    rw [HTK.out, linesL_snoc, HT.out.1, HPB.out]
                    unfold told1
                    rw [if_pos hsm]
                    simp
                  clear hfg hsm
                  go_wp2_with fail
                  go_roundw
                  case rel => exact ⟨k + 1, xs, by omega, by go_num, HTN, HBW, HOW⟩
                  case measure => simp [intOf]; omega
                · have tb : (f2.toList == g2.toList) = false := by rw [str_beq, decide_eq_false_iff_not]; exact fun h => hfg (L_inj h)
                  have HS := Lib.hid (show sameF fa fb pb = false by unfold sameF; rw [HGA.out.2.2, HGB.out.2.2]; simp [hfg])
                  have HH := Lib.hid (show L ((⟨#[102, 105, 108, 101, 32]⟩ : ByteArray) ++ pb) = headS fa fb pb by rw [L_app]; unfold headS; rw [HO1.out, HO2.out, if_neg (by decide), if_neg (by decide), List.append_nil])
                  clear hfg
                  go_wp2_with fail
                  go_meet
                  case rel => exact ⟨_, rfl, rfl, HH, HS⟩
          case rest =>
            obtain ⟨hd, rfl, hwc, HHD, HSF⟩ := hcut
            subst hwc
            have hbwc : Below w.heap.size w wc := B6.out.trans (HBW.out.mono (by have := B6.out.size; have := HBASE.out; omega))
            have hhu := hunks_any f2 g2 wc (by omega) (by omega) (HG.out.next hbwc)
            have HBWC := Lib.hid hbwc
            clear hbwc
            obtain ⟨Xf, hXf⟩ : ∃ b, (isText f2 && isText g2) = b := ⟨_, rfl⟩
            have HTX := Lib.hid hXf
            clear hXf
            cases Xf with
            | false =>
              have hno : Calls Tryd.prog 40 #[.string f2, .string g2] wc fun e w' => Below wc.heap.size wc w' ∧ e = .returned (.tuple #[.slice none 0 0, .int .i64 5]) := hhu.mono fun e w' ⟨h1, h2⟩ => by
                rcases h2 with ⟨h, _⟩ | ⟨_, h⟩
                · rw [HTX.out] at h; cases h
                · exact ⟨h1, h⟩
              have HNN : Hid (linesL fa fb (pathsP fa fb) = none) := by
                rw [← HPP.out]
                refine HNO.out ?_
                unfold told1
                rw [if_neg (by rw [HSF.out]; decide), HGA.out.2.2, HGB.out.2.2, if_neg (by rw [HTX.out]; decide)]
              clear hhu z1 z2 z3
              go_wp2_with (go_at_call 40; refine hno.mono ?_; rintro e w8 ⟨hb8, rfl⟩)
              go_ret2
              exact ⟨HBWC.out.trans (hb8.mono HBWC.out.size), .inr ⟨HNN.out, rfl⟩⟩
            | true =>
              have hyes : Calls Tryd.prog 40 #[.string f2, .string g2] wc fun e w' => Below wc.heap.size wc w' ∧ ∃ v hs, e = .returned (.tuple #[v, .int .i64 0]) ∧ hs.map hkOf = hunksL (L f2) (L g2) ∧ HkR w' wc.heap.size v hs := hhu.mono fun e w' ⟨h1, h2⟩ => by
                rcases h2 with ⟨_, h⟩ | ⟨h, _⟩
                · exact ⟨h1, h⟩
                · rw [HTX.out] at h; cases h
              have HT1 : Hid (told1 fa fb pb = some (L hd :: (hunksL (L f2) (L g2)).flatMap hunkLn)) := by
                unfold told1
                rw [if_neg (by rw [HSF.out]; decide), HGA.out.2.2, HGB.out.2.2, if_pos HTX.out, ← HHD.out]
                exact Lib.hid rfl
              have hcn := cntH_hunks (L f2) (L g2)
              rw [L_length, L_length] at hcn
              have hxl := HT.out.2
              clear hhu z1 z2 z3
              go_upto_region 26 with (first
                | (go_at_call 40; refine hyes.mono ?_; rintro e w8 ⟨hb8, v9, hs, rfl, hm9, hr9⟩
                   obtain ⟨A9, c9, hv9⟩ := own_shape23 hr9.1
                   subst hv9
                   have hoa : OutAt wc.heap.size base w8 w8 (.slice Ax xs.length cx) xs := ⟨own_kept HOW.out hb8, fun g hg => .inl (HOW.out.lt g hg).2, fun _ _ _ => rfl, Below.refl _ _⟩
                   have HOA := Lib.hid hoa; have HM9 := Lib.hid hm9; have HR9 := Lib.hid hr9; have HB8 := Lib.hid hb8
                   have hz8 : base ≤ w8.heap.size := Nat.le_trans hwW hb8.size
                   clear hoa hm9 hr9 hb8 hyes)
                | (refine wp_app1w (by rfl) _ _ 56 rfl base 9 (.string ⟨#[]⟩) 16 Tryd.underlying56 strInfo23 rfl (.slice Ax xs.length cx) xs.length (strs xs) rfl HOA.out.1 (.string hd) 9 rfl rfl (by unfold maxLen; omega) (by omega) hz8 ?_; intro v10 w10 ho10 hb10 hk10 hw10 hz10
                   have HOA10 := Lib.hid (HOA.out.app ho10 hb10 hk10 hw10)
                   clear ho10 hb10 hk10 hw10 hz10))
              obtain ⟨z0, hz0⟩ : ∃ z0, wc.heap.size = z0 := ⟨_, rfl⟩
              rw [hz0] at HOA10 HR9
              clear hz0
              have hsl : hs.length ≤ 20000 := by
                have h1 := congrArg List.length HM9.out
                have h2 : (hunksL (L f2) (L g2)).length ≤ cntH (hunksL (L f2) (L g2)) := by
                  unfold cntH
                  generalize hunksL (L f2) (L g2) = H
                  induction H with
                  | nil => simp
                  | cons h H ih => simp only [List.flatMap_cons, List.length_append, List.length_cons, hunkLn]; omega
                rw [List.length_map] at h1
                omega
              go_loopw [11, 100] (fun t11 t100 wr => ∃ q ys, q ≤ hs.length ∧ t100 = .int .i64 ((q : Nat) : Int) ∧ Hid (ys.map L = xs.map L ++ [L hd] ++ ((hs.map hkOf).take q).flatMap hunkLn) ∧ Hid (OutAt z0 base w8 wr t11 ys)) (fun _ t100 _ => hs.length - (intOf t100).toNat)
              case atStart => exact ⟨0, xs ++ [hd], Nat.zero_le _, rfl, Lib.hid (by simp), HOA10⟩
              case round =>
                obtain ⟨q, ys, hq, rfl, HYS, HOY⟩ := hrel
                obtain ⟨Ay, cy, hvy⟩ := own_shape23 HOY.out.1
                subst hvy
                have hyl : ys.length ≤ xs.length + 1 + 16000 := by
                  have h1 := congrArg List.length HYS.out
                  have h2 := cntH_take (hs.map hkOf) q
                  rw [HM9.out] at h1 h2
                  simp only [List.length_map, List.length_append, List.length_cons, List.length_nil] at h1
                  omega
                by_cases hql : q < hs.length
                · have j0 : (0 : Int) ≤ (q : Int) := by omega
                  have j1 : (q : Int) < (hs.length : Int) := by omega
                  have hro := own_mid HR9.out.1 HOY.out.2.2.1
                  obtain ⟨X9, rfl⟩ : ∃ X9, A9 = some ⟨X9, 0, none⟩ := by
                    rcases hro.2 with ⟨h, h0⟩ | ⟨g, cap, cur, h, _⟩
                    · omega
                    · injection h with h; exact ⟨g, h⟩
                  have hlr := HR9.out.2 _ (List.getElem_mem hql)
                  have hrw := rowsV_get (hkV_len hs) q hql
                  have hmk : hkOf hs[q] ∈ hunksL (L f2) (L g2) := by rw [← HM9.out]; exact List.mem_map_of_mem (List.getElem_mem hql)
                  have htq : (hs.map hkOf).take (q + 1) = (hs.map hkOf).take q ++ [hkOf hs[q]] := by rw [List.take_succ_eq_append_getElem (by simpa using hql), List.getElem_map]
                  have hmx : ys.length + 1 + hs[q].2.2.2.length ≤ xs.length + 1 + 16000 := by
                    have h1 := congrArg List.length HYS.out
                    have h2 := cntH_take (hs.map hkOf) (q + 1)
                    rw [htq, List.flatMap_append, List.length_append] at h2
                    rw [HM9.out] at h1 h2
                    simp only [List.length_map, List.length_append, List.length_cons, List.length_nil] at h1
                    simp only [List.flatMap_cons, List.flatMap_nil, List.append_nil, hunkLn, List.length_cons, List.length_map, hkOf] at h2
                    omega
                  have HTQ := Lib.hid htq
                  clear htq
                  generalize hs[q] = hh at *
                  obtain ⟨f, t, lv, ls⟩ := hh
                  simp only at hlr hmx
                  obtain ⟨Al, cl, hvl⟩ := own_shape23 hlr
                  subst hvl
                  have HPLC := Lib.hid (hunksL_places _ _ _ hmk)
                  have HSZ := Lib.hid (fun s (hs : s ∈ ls) => hunksL_sizes (L f2) (L g2) 4000 (by rw [L_length]; omega) (by rw [L_length]; omega) _ hmk (L s) (List.mem_map_of_mem hs))
                  have hfN2 : f ≤ N := by have h1 := HPLC.out.1; rw [L_length] at h1; simp only [hkOf] at h1; omega
                  have htN2 : t ≤ N := by have h1 := HPLC.out.2; rw [L_length] at h1; simp only [hkOf] at h1; omega
                  have hrow : ∀ j u, ([Value.int .i64 (f : Int), Value.int .i64 (t : Int), Value.slice Al ls.length cl] : List Value)[j]? = some u → wr.cell? ⟨X9, q * 3 + j, none⟩ = some u := fun j u hj => by
                    have hj3 : j < 3 := by have := (List.getElem?_eq_some_iff.1 hj).1; simpa using this
                    rw [hro.cellAt (q * 3 + j) (by omega)]
                    exact hrw j u hj
                  have HROW := Lib.hid hrow; have HLR := Lib.hid hlr
                  have hbz : base ≤ wr.heap.size := Nat.le_trans hz8 HOY.out.2.2.2.size
                  have hal : Below wr.heap.size wr (wr.alloc (.cells #[.int .i64 (f : Int), .int .i64 (t : Int), .slice Al ls.length cl] 94)) := (Below.refl _ _).alloc (Nat.le_refl _) _
                  have hx22 : (wr.alloc (.cells #[.int .i64 (f : Int), .int .i64 (t : Int), .slice Al ls.length cl] 94)).heap[wr.heap.size]? = some (.cells #[.int .i64 (f : Int), .int .i64 (t : Int), .slice Al ls.length cl] 94 (0, 0)) := heap_alloc_new _ _
                  have HOY2 := Lib.hid (HOY.out.below hbz hal); have HX22 := Lib.hid hx22; have HAL := Lib.hid hal
                  clear hro hlr hrw hmk hrow hal hx22
                  go_upto_region 28 with (refine wp_loadN rfl 94 _ rfl X9 _ rfl [Value.int .i64 (f : Int), Value.int .i64 (t : Int), Value.slice Al ls.length cl] _ HROW.out Tryd.underlying94 rfl (by kernel_rfl) ?_)
                  obtain ⟨z, hz⟩ : ∃ z, wr.heap.size = z := ⟨_, rfl⟩
                  obtain ⟨V, hV⟩ : ∃ V, wr.alloc (.cells #[.int .i64 (f : Int), .int .i64 (t : Int), .slice Al ls.length cl] 94) = V := ⟨_, rfl⟩
                  rw [hV] at HOY2 HX22 HAL ⊢
                  rw [hz] at HX22 ⊢
                  have HZ := Lib.hid hz
                  have HITV := Lib.hid (HIT.out V ((HBWC.out.trans (HB8.out.mono HBWC.out.size)).trans ((HOY2.out.2.2.2).mono (by have := HBWC.out.size; have := B6.out.size; have := HBASE.out; omega))))
                  clear hV hz
                  obtain ⟨If, hIf⟩ : ∃ I : ByteArray, (⟨(Lib.decDigits f).toArray⟩ : ByteArray) = I := ⟨_, rfl⟩
                  obtain ⟨It, hIt⟩ : ∃ I : ByteArray, (⟨(Lib.decDigits t).toArray⟩ : ByteArray) = I := ⟨_, rfl⟩
                  have hIfs : If.size ≤ 4001 := by rw [← hIf, ← L_length]; have := decDigits_le f; show (Lib.decDigits f).length ≤ _; omega
                  have hIts : It.size ≤ 4001 := by rw [← hIt, ← L_length]; have := decDigits_le t; show (Lib.decDigits t).length ≤ _; omega
                  have HIF := Lib.hid hIf; have HITT := Lib.hid hIt
                  clear hIf hIt
                  go_cut [11] from 104 to 115 (fun s11 wx => OutAt z0 base w8 wx s11 (ys ++ [⟨#[64, 32]⟩ ++ If ++ ⟨#[32]⟩ ++ It]) ∧ Hid (wx.heap[z]? = some (.cells #[.int .i64 (f : Int), .int .i64 (t : Int), .slice Al ls.length cl] 94 (0, 0))))
                  case first =>
                    have SZ1 : (⟨#[64, 32]⟩ : ByteArray).size + If.size ≤ 9223372036854775807 := by show 2 + If.size ≤ _; omega
                    have SZ2 : ((⟨#[64, 32]⟩ : ByteArray) ++ If).size + (⟨#[32]⟩ : ByteArray).size ≤ 9223372036854775807 := by rw [ByteArray.size_append]; show 2 + If.size + 1 ≤ _; omega
                    have SZ3 : ((⟨#[64, 32]⟩ : ByteArray) ++ If ++ ⟨#[32]⟩).size + It.size ≤ 9223372036854775807 := by rw [ByteArray.size_append, ByteArray.size_append]; show 2 + If.size + 1 + It.size ≤ _; omega
                    refine wp_region_N 10 (fun u => u.cell? ⟨z, 0, none⟩ = some (.int .i64 (f : Int)) ∧ u.cell? ⟨z, 1, none⟩ = some (.int .i64 (t : Int))) (by kernel_rfl) ?_
                    have hF0 : V.drew.cell? ⟨z, 0, none⟩ = some (.int .i64 (f : Int)) ∧ V.drew.cell? ⟨z, 1, none⟩ = some (.int .i64 (t : Int)) := ⟨cells_box HX22.out 0, cells_box HX22.out 1⟩
                    have hzV : z < V.heap.size := (Array.getElem?_eq_some_iff.1 HX22.out).1
                    have hE1 : ∀ (u : World) (args : Array Value), (callFunc 41 args).run Tryd.prog u = .ok (.enter 41 args) u := fun u args => enters_of Tryd.func41 (by kernel_rfl) rfl args u
                    refine wpAnyN_takeW (i := 0) (v := (.slice Ay ys.length cy)) (by kernel_rfl) rfl (by kernel_rfl) (by kernel_rfl) (by kernel_rfl) (fun _ _ _ h => h) (Or.inl ⟨by rfl, fun w' _ => by rfl⟩) ?_
                    simp only [Act.put, List.getElem_toArray, List.getElem_cons_succ, List.getElem_cons_zero, List.setIfInBounds_toArray, List.set_cons_zero, List.set_cons_succ, List.size_toArray, List.length_cons, List.length_nil, Nat.reduceAdd, Array.replicate_succ, Array.replicate_zero, List.push_toArray, List.nil_append, List.cons_append]
                    refine wpAnyN_takeW (i := 1) (v := (.pointer (some ⟨z, 0, none⟩))) (by kernel_rfl) rfl (by kernel_rfl) (by kernel_rfl) (by kernel_rfl) (fun _ _ _ h => h) (Or.inl ⟨by rfl, fun w' _ => by rfl⟩) ?_
                    simp only [Act.put, List.getElem_toArray, List.getElem_cons_succ, List.getElem_cons_zero, List.setIfInBounds_toArray, List.set_cons_zero, List.set_cons_succ, List.size_toArray, List.length_cons, List.length_nil, Nat.reduceAdd, Array.replicate_succ, Array.replicate_zero, List.push_toArray, List.nil_append, List.cons_append]
                    refine wpAnyN_take (i := 2) (v := (.int .i64 (f : Int))) (by kernel_rfl) (by kernel_rfl) rfl (by kernel_rfl) (by kernel_rfl) (by kernel_rfl) (fun _ _ _ h => h) (Or.inl ⟨by rfl, fun w' hw' => ex_load1 3 _ rfl (p := ⟨z, 0, none⟩) rfl Tryd.underlying3 rfl hw'.1⟩) hF0 ?_
                    simp only [Act.put, List.getElem_toArray, List.getElem_cons_succ, List.getElem_cons_zero, List.setIfInBounds_toArray, List.set_cons_zero, List.set_cons_succ, List.size_toArray, List.length_cons, List.length_nil, Nat.reduceAdd, Array.replicate_succ, Array.replicate_zero, List.push_toArray, List.nil_append, List.cons_append]
                    refine wpAnyN_takeW (i := 6) (v := (.pointer (some ⟨z, 1, none⟩))) (by kernel_rfl) rfl (by kernel_rfl) (by kernel_rfl) (by kernel_rfl) (fun _ _ _ h => h) (Or.inl ⟨by rfl, fun w' _ => by rfl⟩) ?_
                    simp only [Act.put, List.getElem_toArray, List.getElem_cons_succ, List.getElem_cons_zero, List.setIfInBounds_toArray, List.set_cons_zero, List.set_cons_succ, List.size_toArray, List.length_cons, List.length_nil, Nat.reduceAdd, Array.replicate_succ, Array.replicate_zero, List.push_toArray, List.nil_append, List.cons_append]
                    refine wpAnyN_take (i := 7) (v := (.int .i64 (t : Int))) (by kernel_rfl) (by kernel_rfl) rfl (by kernel_rfl) (by kernel_rfl) (by kernel_rfl) (fun _ _ _ h => h) (Or.inl ⟨by rfl, fun w' hw' => ex_load1 3 _ rfl (p := ⟨z, 1, none⟩) rfl Tryd.underlying3 rfl hw'.2⟩) hF0 ?_
                    simp only [Act.put, List.getElem_toArray, List.getElem_cons_succ, List.getElem_cons_zero, List.setIfInBounds_toArray, List.set_cons_zero, List.set_cons_succ, List.size_toArray, List.length_cons, List.length_nil, Nat.reduceAdd, Array.replicate_succ, Array.replicate_zero, List.push_toArray, List.nil_append, List.cons_append]
                    refine wpAnyN_all (rs := [3]) (by kernel_rfl) (by simp) ?_
                    intro q' hq'
                    obtain rfl : q' = 3 := by simpa using hq'
                    refine wpOp_call _ rfl (by kernel_rfl) (ex_callFn (f := 41) (args := #[.int .i64 (f : Int)]) rfl rfl (fun args w => hE1 w args) (by simp only [List.map_toArray, List.map_cons, List.map_nil]; rfl)) ?_
                    refine (HITV.out f V.drew hfN2 ((Gr.refl V).drew)).mono ?_
                    rintro r u1 ⟨rfl, hg1⟩
                    rw [HIF.out]
                    have hV1 : Gr V u1 := ((Gr.refl V).drew).trans hg1
                    have hF1 : u1.cell? ⟨z, 0, none⟩ = some (.int .i64 (f : Int)) ∧ u1.cell? ⟨z, 1, none⟩ = some (.int .i64 (t : Int)) := ⟨(hV1.below.cell (p := ⟨z, 0, none⟩) hzV).trans (cells_box HX22.out 0), (hV1.below.cell (p := ⟨z, 1, none⟩) hzV).trans (cells_box HX22.out 1)⟩
                    refine ⟨_, rfl, fun _ _ => hF1, ?_⟩
                    simp only [Act.put, List.getElem_toArray, List.getElem_cons_succ, List.getElem_cons_zero, List.setIfInBounds_toArray, List.set_cons_zero, List.set_cons_succ, List.size_toArray, List.length_cons, List.length_nil, Nat.reduceAdd, Array.replicate_succ, Array.replicate_zero, List.push_toArray, List.nil_append, List.cons_append]
                    refine wpAnyN_takeW (i := 4) (v := (.string (⟨#[64, 32]⟩ ++ If))) (by kernel_rfl) rfl (by kernel_rfl) (by kernel_rfl) (by kernel_rfl) (fun _ _ _ h => h) (Or.inl ⟨by rfl, fun w' _ => ex_addS _ _ _ _ rfl (a := ⟨#[64, 32]⟩) (b := If) rfl rfl SZ1⟩) ?_
                    simp only [Act.put, List.getElem_toArray, List.getElem_cons_succ, List.getElem_cons_zero, List.setIfInBounds_toArray, List.set_cons_zero, List.set_cons_succ, List.size_toArray, List.length_cons, List.length_nil, Nat.reduceAdd, Array.replicate_succ, Array.replicate_zero, List.push_toArray, List.nil_append, List.cons_append]
                    refine wpAnyN_takeW (i := 5) (v := (.string (⟨#[64, 32]⟩ ++ If ++ ⟨#[32]⟩))) (by kernel_rfl) rfl (by kernel_rfl) (by kernel_rfl) (by kernel_rfl) (fun _ _ _ h => h) (Or.inl ⟨by rfl, fun w' _ => ex_addS _ _ _ _ rfl (a := ⟨#[64, 32]⟩ ++ If) (b := ⟨#[32]⟩) rfl rfl SZ2⟩) ?_
                    simp only [Act.put, List.getElem_toArray, List.getElem_cons_succ, List.getElem_cons_zero, List.setIfInBounds_toArray, List.set_cons_zero, List.set_cons_succ, List.size_toArray, List.length_cons, List.length_nil, Nat.reduceAdd, Array.replicate_succ, Array.replicate_zero, List.push_toArray, List.nil_append, List.cons_append]
                    refine wpAnyN_all (rs := [8]) (by kernel_rfl) (by simp) ?_
                    intro q' hq'
                    obtain rfl : q' = 8 := by simpa using hq'
                    refine wpOp_call _ rfl (by kernel_rfl) (ex_callFn (f := 41) (args := #[.int .i64 (t : Int)]) rfl rfl (fun args w => hE1 w args) (by simp only [List.map_toArray, List.map_cons, List.map_nil]; rfl)) ?_
                    refine (HITV.out t u1 htN2 hV1).mono ?_
                    rintro r u2 ⟨rfl, hg2⟩
                    rw [HITT.out]
                    have hV2 : Gr V u2 := hV1.trans hg2
                    refine ⟨_, rfl, fun _ _ => ⟨(hV2.below.cell (p := ⟨z, 0, none⟩) hzV).trans (cells_box HX22.out 0), (hV2.below.cell (p := ⟨z, 1, none⟩) hzV).trans (cells_box HX22.out 1)⟩, ?_⟩
                    simp only [Act.put, List.getElem_toArray, List.getElem_cons_succ, List.getElem_cons_zero, List.setIfInBounds_toArray, List.set_cons_zero, List.set_cons_succ, List.size_toArray, List.length_cons, List.length_nil, Nat.reduceAdd, Array.replicate_succ, Array.replicate_zero, List.push_toArray, List.nil_append, List.cons_append]
                    refine wpAnyN_takeW (i := 9) (v := (.string (⟨#[64, 32]⟩ ++ If ++ ⟨#[32]⟩ ++ It))) (by kernel_rfl) rfl (by kernel_rfl) (by kernel_rfl) (by kernel_rfl) (fun _ _ _ h => h) (Or.inl ⟨by rfl, fun w' _ => ex_addS _ _ _ _ rfl (a := ⟨#[64, 32]⟩ ++ If ++ ⟨#[32]⟩) (b := It) rfl rfl SZ3⟩) ?_
                    simp only [Act.put, List.getElem_toArray, List.getElem_cons_succ, List.getElem_cons_zero, List.setIfInBounds_toArray, List.set_cons_zero, List.set_cons_succ, List.size_toArray, List.length_cons, List.length_nil, Nat.reduceAdd, Array.replicate_succ, Array.replicate_zero, List.push_toArray, List.nil_append, List.cons_append]
                    refine wpAnyN_all (rs := [10]) (by kernel_rfl) (by simp) ?_
                    intro q' hq'
                    obtain rfl : q' = 10 := by simpa using hq'
                    refine wpOp_val _ rfl (by kernel_rfl) (ex_build1c 56 _ rfl 9 Tryd.underlying56 (.string ⟨#[]⟩) 16 strInfo23 rfl (.string (⟨#[64, 32]⟩ ++ If ++ ⟨#[32]⟩ ++ It)) rfl rfl) ?_
                    refine ⟨fun h => absurd h (by decide), ?_⟩
                    simp only [Act.put, List.getElem_toArray, List.getElem_cons_succ, List.getElem_cons_zero, List.setIfInBounds_toArray, List.set_cons_zero, List.set_cons_succ, List.size_toArray, List.length_cons, List.length_nil, Nat.reduceAdd, Array.replicate_succ, Array.replicate_zero, List.push_toArray, List.nil_append, List.cons_append]
                    have hVb : base ≤ V.heap.size := Nat.le_trans hbz HAL.out.size
                    have ho2 := HOY2.out.below hVb hV2.below
                    have hx2 : u2.heap[z]? = some (.cells #[.int .i64 (f : Int), .int .i64 (t : Int), .slice Al ls.length cl] 94 (0, 0)) := (hV2.below.block z hzV).trans HX22.out
                    refine wpAnyN_all (rs := [11]) (by kernel_rfl) (by simp) ?_
                    intro q' hq'
                    obtain rfl : q' = 11 := by simpa using hq'
                    refine wpOp_wp _ rfl (by kernel_rfl) (op_app1w _ _ 56 rfl base 9 (.string ⟨#[]⟩) 16 Tryd.underlying56 strInfo23 rfl (.slice Ay ys.length cy) ys.length (strs ys) rfl ho2.1 (.string (⟨#[64, 32]⟩ ++ If ++ ⟨#[32]⟩ ++ It)) 9 rfl rfl (by unfold maxLen; omega) (by omega) (Nat.le_trans hVb hV2.below.size) ?_)
                    intro v11 w11 ho11 hb11 hk11 hw11 hz11
                    have HO11 := ho2.app ho11 hb11 hk11 hw11
                    have hx11 : w11.heap[z]? = _ := (hk11 z (Nat.lt_of_lt_of_le hzV hV2.below.size) (own_ne_tag ho2.1 hx2 (by decide))).trans hx2
                    refine ⟨fun h => absurd h (by decide), ?_⟩
                    simp only [Act.put, List.getElem_toArray, List.getElem_cons_succ, List.getElem_cons_zero, List.setIfInBounds_toArray, List.set_cons_zero, List.set_cons_succ, List.size_toArray, List.length_cons, List.length_nil, Nat.reduceAdd, Array.replicate_succ, Array.replicate_zero, List.push_toArray, List.nil_append, List.cons_append]
                    refine wpAnyN_all (rs := [12]) (by kernel_rfl) (by simp) ?_
                    intro q' hq'
                    obtain rfl : q' = 12 := by simpa using hq'
                    refine wpOp_val _ rfl (by kernel_rfl) (by rfl) ?_
                    refine ⟨fun h => absurd h (by decide), ?_⟩
                    simp only [Act.put, List.getElem_toArray, List.getElem_cons_succ, List.getElem_cons_zero, List.setIfInBounds_toArray, List.set_cons_zero, List.set_cons_succ, List.size_toArray, List.length_cons, List.length_nil, Nat.reduceAdd, Array.replicate_succ, Array.replicate_zero, List.push_toArray, List.nil_append, List.cons_append]
                    refine wpAnyN_done (by kernel_rfl) ?_ _
                    go_wp2_with fail
                    go_meet
                    case rel => exact ⟨HO11, Lib.hid hx11⟩

                  case rest =>
                    obtain ⟨hO11, HX11⟩ := hcut
                    obtain ⟨first, hfirst⟩ : ∃ s : ByteArray, (⟨#[64, 32]⟩ ++ If ++ ⟨#[32]⟩ ++ It : ByteArray) = s := ⟨_, rfl⟩
                    have HFI : Hid (L first = [64, 32] ++ Lib.decDigits f ++ [32] ++ Lib.decDigits t) := by
                      rw [← hfirst, L_app, L_app, L_app, ← HIF.out, ← HITT.out]
                      first | done | exact Lib.hid rfl
                    rw [hfirst] at hO11
                    obtain ⟨A11, c11, hv11⟩ := own_shape23 hO11.1
                    subst hv11
                    have HO11 := Lib.hid hO11
                    have c22 : wc.cell? ⟨z, 2, none⟩ = some (.slice Al ls.length cl) := cells_box HX11.out 2
                    clear hfirst hO11
                    go_upto_region 30 with fail
                    go_loopw [11, 119] (fun t11 t119 wr => ∃ r zs, r ≤ ls.length ∧ t119 = .int .i64 ((r : Nat) : Int) ∧ Hid (zs.map L = (ys ++ [first]).map L ++ ((ls.map L).take r).map shownS) ∧ Hid (OutAt z0 base w8 wr t11 zs)) (fun _ t119 _ => ls.length - (intOf t119).toNat)
                    case atStart => exact ⟨0, ys ++ [first], Nat.zero_le _, rfl, Lib.hid (by simp), HO11⟩
                    case round =>
                      obtain ⟨r, zs, hr, rfl, HZS, HOZ⟩ := hrel
                      obtain ⟨Az, cz, hvz⟩ := own_shape23 HOZ.out.1
                      subst hvz
                      have hzl : zs.length ≤ ys.length + 1 + r := by
                        have h1 := congrArg List.length HZS.out
                        simp only [List.length_map, List.length_append, List.length_cons, List.length_nil, List.length_take] at h1
                        omega
                      by_cases hrl : r < ls.length
                      · have r0 : (0 : Int) ≤ (r : Int) := by omega
                        have r1 : (r : Int) < (ls.length : Int) := by omega
                        have hlo := own_mid HLR.out HOZ.out.2.2.1
                        obtain ⟨gl, rfl⟩ : ∃ gl, Al = some ⟨gl, 0, none⟩ := by
                          rcases hlo.2 with ⟨h, h0⟩ | ⟨g, cap, cur, h, _⟩
                          · omega
                          · injection h with h; exact ⟨g, h⟩
                        have cr : wr.cell? ⟨gl, r, none⟩ = some (.string ls[r]) := (hlo.cellAt r (by omega)).trans (by simp [strs, hrl])
                        have hsz := HSZ.out ls[r] (List.getElem_mem hrl)
                        have HTR := Lib.hid (show (ls.map L).take (r + 1) = (ls.map L).take r ++ [L ls[r]] by rw [List.take_succ_eq_append_getElem (by simpa using hrl), List.getElem_map])
                        rw [L_length] at hsz
                        have hbz4 : base ≤ wr.heap.size := Nat.le_trans hz8 HOZ.out.2.2.2.size
                        clear hlo
                        generalize ls[r] = ln at *
                        have hsh := shown_line ln wr (by omega)
                        go_wp2_with (first
                          | (go_at_call 42; refine hsh.mono ?_; rintro e w20 ⟨rfl, tt, rfl, htt⟩
                             have HTT := Lib.hid htt
                             clear htt hsh)
                          | (refine wp_app1w (by rfl) _ _ 56 rfl base 9 (.string ⟨#[]⟩) 16 Tryd.underlying56 strInfo23 rfl (.slice Az zs.length cz) zs.length (strs zs) rfl HOZ.out.1 (.string tt) 9 rfl rfl (by unfold maxLen; omega) (by omega) hbz4 ?_; intro v21 w21 ho21 hb21 hk21 hw21 hz21
                             have HO21 := Lib.hid (HOZ.out.app ho21 hb21 hk21 hw21)
                             clear ho21 hb21 hk21 hw21 hz21))
                        go_roundw
                        case rel => exact ⟨r + 1, zs ++ [tt], by omega, by go_num, Lib.hid (by rw [List.map_append, HZS.out, HTR.out]; simp [HTT.out]), HO21⟩
                        case measure => simp [intOf]; omega
                      · have hre : r = ls.length := by omega
                        have n1 : ¬ (r : Int) < (ls.length : Int) := by omega
                        have HYN : Hid (zs.map L = xs.map L ++ [L hd] ++ ((hs.map hkOf).take (q + 1)).flatMap hunkLn) := by
                          have h1 := HZS.out
                          rw [hre, ← List.length_map (f := L), List.take_length, List.map_append, HYS.out, List.map_cons, List.map_nil, HFI.out] at h1
                          rw [h1, HTQ.out, List.flatMap_append]
                          exact Lib.hid (by simp [hunkLn, hkOf])
                        clear hre
                        go_wp2_with fail
                        go_roundw
                        case rel => exact ⟨q + 1, zs, by omega, by go_num, HYN, HOZ⟩
                        case measure => simp [intOf]; omega

                · have hqe : q = hs.length := by omega
                  have n1 : ¬ (q : Int) < (hs.length : Int) := by omega
                  have HTN : Hid (ToldTo fa fb P (k + 1) ys) := by
                    have h1 := HYS.out
                    rw [hqe, ← List.length_map (f := hkOf), List.take_length, HM9.out] at h1
                    refine ⟨?_, by omega⟩
                    rw [HTK.out, linesL_snoc, HT.out.1, HPB.out, HT1.out, h1]
                    simp
                  have HBN : Hid (Below base w6 wr) := (HBW.out.trans (HB8.out.mono hwW)).trans HOY.out.2.2.2
                  have HON := Lib.hid HOY.out.1
                  clear hqe
                  go_wp2_with fail
                  go_roundw
                  case rel => exact ⟨k + 1, ys, by omega, by go_num, HTN, HBN, HON⟩
                  case measure => simp [intOf]; omega

        · have hke : k = P.length := by omega
          have hfin : linesL fa fb (pathsP fa fb) = some (xs.map L) := by
            have := HT.out.1
            rw [hke, List.take_length, HPP.out] at this
            exact this
          have n1 : ¬ (k : Int) < (P.length : Int) := by omega
          have HF := Lib.hid hfin
          clear hke hfin
          go_wp2_with fail
          go_ret2
          exact ⟨B6.out.trans (HBR.out.mono (by have := B6.out.size; have := HBASE.out; omega)), .inl ⟨_, HF.out, Ax, cx, xs, rfl, rfl, Sl.of_own HOX.out⟩⟩


end Go.Proofs.YthjaepmfkgejkaaDoor
