/-
  What hunk's numbers gives: the same lines the same numbers. Conditions: at most 100000 lines; a map that the caller made.
-/
import Derived.Test.YthjaepmfkgejkaaDoorNumbers23
namespace Go.Proofs.YthjaepmfkgejkaaDoor
open Go.RowKit Go.Maps Go.Shelf
set_option linter.unusedVariables false
set_option linter.unusedSimpArgs false

/-- All that lay stays, but one block. -/
def ButAt (M : Nat) (w w' : World) : Prop := w.heap.size ≤ w'.heap.size ∧ ∀ k, k < w.heap.size → k ≠ M → w'.heap[k]? = w.heap[k]?
theorem Sl.but {w w' : World} {A : Option Addr} {n M : Nat} {xs : List Value} (h : Sl w w.heap.size A n 1 xs) (hM : ∃ es c, w.heap[M]? = some (.map es c)) (hb : ButAt M w w') : Sl w' w.heap.size A n 1 xs := by
  refine ⟨h.1, fun hn => ?_⟩
  obtain ⟨b, off, e, hbl, hc⟩ := h.2 hn
  have hx : 0 < xs.length := by have := h.1; omega
  have hbM : b ≠ M := by
    rintro rfl
    obtain ⟨es, c, hm⟩ := hM
    have h0 := hc 0 xs[0] (by simp [hx])
    simp [World.cell?, hm] at h0
  refine ⟨b, off, e, hbl, fun j u hj => ?_⟩
  have h1 := hc j u hj
  unfold World.cell? at h1 ⊢
  rw [hb.2 b hbl hbM]
  exact h1
theorem MapC.block {w : World} {P : Program} {K : TypeId} {κ : Type} {ok : κ → Prop} {kl : κ → Lit} {b c : Nat} {m : κ → Option Value} (h : MapC w P K ok kl b c m) : ∃ es c, w.heap[b]? = some (.map es c) := by
  obtain ⟨D, ⟨es, clock, hbk, _⟩, _⟩ := h
  exact ⟨es, clock, hbk⟩
theorem own_shape23 {w : World} {base n size : Nat} {e : TypeId} {v : Value} {xs : List Value} (h : w.ownsRow base e size v n xs) : ∃ A c, v = .slice A n c := by
  rcases h.2 with ⟨rfl, rfl⟩ | ⟨g, cap, cur, rfl, _⟩
  · exact ⟨_, _, rfl⟩
  · exact ⟨_, _, rfl⟩
theorem zeroI32_run (w : World) : (zeroValue 21).run Tryd.prog w = .ok (.int .i32 0) w := by
  have h := info_parts i32Info
  obtain ⟨i, h1, h2, _, _⟩ := h
  simp [zeroValue, typeInfo, h1, h2]
set_option maxHeartbeats 8000000 in
set_option maxRecDepth 100000 in
theorem numbers_any (K lines : List ByteArray) (M base : Nat) (A : Option Addr) (c : Nat) (w : World) (hn : lines.length ≤ 100000) (hKn : K.length ≤ 100000) (hok : ∀ s ∈ lines, StrOk s) (hsl : Sl w w.heap.size A lines.length 1 (strs lines))
    (hM : MapC w Tryd.prog 9 StrOk strL M K.length (mOf K)) (hbM : base ≤ M) :
    Calls Tryd.prog 70 #[.map (some M), .slice A lines.length c] w fun e w' => ButAt M w w' ∧ Below base w w' ∧ MapC w' Tryd.prog 9 StrOk strL M (numsS K lines).length (mOf (numsS K lines)) ∧
      ∃ A' c', e = .returned (.slice A' lines.length c') ∧ w'.ownsRow w.heap.size 21 1 (.slice A' lines.length c') lines.length (i32V (nosOf (numsS K lines) lines)) := by
  have HSL := Lib.hid hsl; have HOK := Lib.hid hok
  have hMb := hM.block
  have hMz : M < w.heap.size := hM.view.lt
  have HMB := Lib.hid hMb
  obtain ⟨im, hmi, hm0, hm1, hm2⟩ := info_parts i32Info
  go_enter Tryd.func70, Tryd.ntmps70
  go_wp2_with (refine wpList_make_own w rfl _ _ 134 rfl w.heap.size 21 im (.int .i32 0) 1 Tryd.underlying134 hmi hm0 hm1 .i64 .i64 _ lines.length rfl rfl rfl (by rw [hm2]; omega) (by unfold maxLen; omega) (Nat.le_refl _) ?_; intro w1 hown1 hg1)
  have hm1' := hM.kept hg1 (by simp)
  have hb1 : Below base w w1 := (Below.refl _ _).grown hg1 (by omega) (fun k e => by cases e)
  have hbut1 : ButAt M w w1 := ⟨hg1.size, fun k hk _ => hg1.block k hk (by simp)⟩
  have HO1 := Lib.hid hown1; have HM1 := Lib.hid hm1'; have HB1 := Lib.hid hb1; have HT1 := Lib.hid hbut1
  clear hsl hok hM hMb hm1' hb1 hbut1 hown1 hg1
  go_loopw [5, 15] (fun v t wr => ∃ i : Nat, i ≤ lines.length ∧ t = .int .i64 i ∧ Hid (ButAt M w wr) ∧ Hid (Below base w wr) ∧ Hid (MapC wr Tryd.prog 9 StrOk strL M (numsS K (lines.take i)).length (mOf (numsS K (lines.take i)))) ∧ Hid (wr.ownsRow w.heap.size 21 1 v i (i32V (nosOf (numsS K (lines.take i)) (lines.take i))))) (fun _ t _ => lines.length - (intOf t).toNat)
  case atStart => exact ⟨0, Nat.zero_le _, rfl, HT1, HB1, HM1, HO1⟩
  case round =>
    obtain ⟨i, hi, rfl, hT, hB, hMC, hO⟩ := hrel
    by_cases hlt : i < lines.length
    · obtain ⟨b, off, rfl, hbl, hcl⟩ := (HSL.out.but HMB.out hT.out).2 (by omega)
      have hc := hcl i (.string lines[i]) (by simp [strs, hlt])
      have hsok := HOK.out _ (List.getElem_mem hlt)
      have htk : lines.take (i + 1) = lines.take i ++ [lines[i]] := List.take_succ_eq_append_getElem hlt
      have HTK := Lib.hid htk
      have hTs := hT.out.1
      have hlen : (numsS K (lines.take i)).length ≤ 200000 := by have := numsS_length K (lines.take i); rw [List.length_take] at this; omega
      obtain ⟨K1, hK1⟩ : ∃ K1, numsS K (lines.take i) = K1 := ⟨_, rfl⟩
      have hmemt : ∀ s ∈ lines.take i, s ∈ K1 := fun s hs => by rw [← hK1]; exact numsS_mem _ K s hs
      have HMT := Lib.hid hmemt
      have hnx : numsS K (lines.take (i + 1)) = numS K1 lines[i] := by rw [htk, numsS_snoc, hK1]
      have HNX := Lib.hid hnx
      rw [hK1] at hMC hO hlen
      have i0 : (0 : Int) ≤ (i : Int) := by omega
      have i1 : (i : Int) < (lines.length : Int) := by omega
      clear hcl htk hmemt hnx hK1
      generalize lines[i] = s at *
      obtain ⟨A5, c5, rfl⟩ := own_shape23 hO.out
      by_cases hs : s ∈ K1
      · have hget : mOf K1 s = some (.int .i32 (idx K1 s : Int)) := by unfold mOf; rw [if_pos hs]
        have HG := Lib.hid hget
        have hsame : numS K1 s = K1 := by unfold numS; rw [if_pos hs]
        have HS := Lib.hid hsame
        have hown := hO.out
        have hmv := hMC.out.view
        clear hs hget hsame
        go_upto_region 6 with (refine wp_mapGet2 rfl _ _ 132 rfl 21 strEnc Tryd.underlying132 (.int .i32 0) (zeroI32_run _) rfl hmv s hsok rfl ?_; rw [HG.out]; simp only [Option.getD_some, Option.isSome_some])
        go_wp2_with (at_builtin; refine wp_app1 rfl _ _ 134 rfl w.heap.size 21 (.int .i32 0) 4 Tryd.underlying134 i32Info rfl _ _ _ rfl hown _ _ rfl rfl (by unfold maxLen; omega) (by omega) hTs ?_; intro v6 w6 hown6 hbel)
        have hb6 := hbel base w (by omega) hB.out
        have hw6 := hbel w.heap.size wr (Nat.le_refl _) (Below.refl _ _)
        have hM6 : MapC w6 Tryd.prog 9 StrOk strL M K1.length (mOf K1) := by
          obtain ⟨D, ⟨es, clock, hbk, F, hs2, hD⟩, h2⟩ := hMC.out
          exact ⟨D, ⟨es, clock, (hw6.block M hMz).trans hbk, F, hs2, hD⟩, h2⟩
        go_roundw
        case rel =>
          refine ⟨i + 1, by omega, by go_num, Lib.hid ⟨Nat.le_trans hTs hw6.size, fun k hk hkM => (hw6.block k hk).trans (hT.out.2 k hk hkM)⟩, Lib.hid hb6, Lib.hid (by rw [HNX.out, HS.out]; exact hM6), Lib.hid ?_⟩
          rw [HNX.out, HS.out, HTK.out]
          unfold nosOf i32V
          rw [List.map_append, List.map_append]
          exact hown6
        case measure => simp [intOf]; omega
      · have hget : mOf K1 s = none := by unfold mOf; rw [if_neg hs]
        have HG := Lib.hid hget
        have hnew : numS K1 s = K1 ++ [s] := by unfold numS; rw [if_neg hs]
        have HS := Lib.hid hnew
        have HIL := Lib.hid (idx_last hs)
        have HPUT := Lib.hid (mOf_put hs)
        have hmv := hMC.out.view
        have e5 : IntKind.i32.wrap (K1.length : Int) = (K1.length : Int) := IntWalk.i32_in _ (by omega)
        have hold : nosOf (K1 ++ [s]) (lines.take i) = nosOf K1 (lines.take i) := by
          unfold nosOf
          refine List.map_congr_left fun t ht => ?_
          rw [idx_app (HMT.out t ht)]
        have HOLD := Lib.hid hold
        clear hs hget hnew hold
        go_upto_region 6 with (refine wp_mapGet2 rfl _ _ 132 rfl 21 strEnc Tryd.underlying132 (.int .i32 0) (zeroI32_run _) rfl hmv s hsok rfl ?_; rw [HG.out]; simp only [Option.getD_none, Option.isSome_none])
        go_upto_region 8 with (refine wp_mapLen rfl _ 132 rfl 21 Tryd.underlying132 rfl hMC.out ?_)
        go_upto_region 9 with (refine wp_mapPutC rfl _ _ _ 132 rfl 21 strEnc Tryd.underlying132 rfl hMC.out (by unfold maxLen; omega) s hsok HG.out rfl (.int .i32 (K1.length : Int)) rfl ?_; intro w3 hm3 hg3)
        rw [HPUT.out] at hm3
        have hown3 := hO.out.kept hg3 (by
          rcases hO.out.2 with ⟨hv, _⟩ | ⟨g, cap, cur, hv, hge, _⟩
          · rw [hv]; exact .inl rfl
          · rw [hv]
            exact .inr fun q => by
              have : g = M := Option.some.inj q
              omega)
        have hT3s : w.heap.size ≤ w3.heap.size := Nat.le_trans hTs hg3.size
        have HM3 := Lib.hid hm3
        have hB3 : Below base w w3 := hB.out.grown hg3 (by omega) (fun k e => by rw [← Option.some.inj e]; exact hbM)
        have HB3 := Lib.hid hB3
        have HT3 : Hid (ButAt M w w3) := Lib.hid ⟨hT3s, fun k hk hkM => (hg3.block k (Nat.lt_of_lt_of_le hk hTs) (fun q => hkM (Option.some.inj q))).trans (hT.out.2 k hk hkM)⟩
        clear hm3 hg3 hB3
        go_wp2_with (at_builtin; refine wp_app1 rfl _ _ 134 rfl w.heap.size 21 (.int .i32 0) 4 Tryd.underlying134 i32Info rfl _ _ _ rfl hown3 _ _ rfl rfl (by unfold maxLen; omega) (by omega) hT3s ?_; intro v6 w6 hown6 hbel)
        have hb6 := hbel base w (by omega) HB3.out
        have hw6 := hbel w.heap.size w3 (Nat.le_refl _) (Below.refl _ _)
        have hM6 : MapC w6 Tryd.prog 9 StrOk strL M (K1.length + 1) (mOf (K1 ++ [s])) := by
          obtain ⟨D, ⟨es, clock, hbk, F, hs2, hD⟩, h2⟩ := HM3.out
          exact ⟨D, ⟨es, clock, (hw6.block M hMz).trans hbk, F, hs2, hD⟩, h2⟩
        go_roundw
        case rel =>
          refine ⟨i + 1, by omega, by go_num, Lib.hid ⟨Nat.le_trans hT3s hw6.size, fun k hk hkM => (hw6.block k hk).trans (HT3.out.2 k hk hkM)⟩, Lib.hid hb6, Lib.hid (by rw [HNX.out, HS.out, List.length_append]; exact hM6), Lib.hid ?_⟩
          rw [HNX.out, HS.out, HTK.out]
          have hsplit : i32V (nosOf (K1 ++ [s]) (lines.take i ++ [s])) = i32V (nosOf K1 (lines.take i)) ++ [.int .i32 (K1.length : Int)] := by
            rw [← HOLD.out]
            unfold nosOf i32V
            rw [List.map_append, List.map_append, List.map_cons, List.map_nil, List.map_cons, List.map_nil, HIL.out]
          rw [hsplit]
          exact hown6
        case measure => simp [intOf]; omega
    · have hie : i = lines.length := by omega
      rw [hie, List.take_length] at hMC hO
      obtain ⟨A5, c5, rfl⟩ := own_shape23 hO.out
      clear hie
      go_wp2_with fail
      go_ret
      exact ⟨hT.out, hB.out, hMC.out, A5, c5, rfl, hO.out⟩
end Go.Proofs.YthjaepmfkgejkaaDoor
