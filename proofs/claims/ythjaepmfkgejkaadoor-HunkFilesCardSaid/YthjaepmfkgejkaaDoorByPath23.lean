/-
  What hunk.byPath gives: files by their paths, the first one of each. Conditions: at most 100000 files.
-/
import Derived.Test.YthjaepmfkgejkaaDoorFiles
import Derived.Test.YthjaepmfkgejkaaDoorMerged2
import Derived.Test.YthjaepmfkgejkaaDoorMapCount
namespace Go.Proofs.YthjaepmfkgejkaaDoor
open Go.RowKit Go.Maps Go.Shelf
set_option linter.unusedVariables false
set_option linter.unusedSimpArgs false

abbrev FileD := ByteArray × ByteArray
def fileA (f : FileD) : Value := .agg #[.string f.1, .string f.2]
def firstD (l : List FileD) (p : ByteArray) : Option FileD := l.find? fun f => decide (f.1 = p)
def firstM (l : List FileD) (p : ByteArray) : Option Value := (firstD l p).map fileA
theorem firstD_snoc (l : List FileD) (f : FileD) (p : ByteArray) : firstD (l ++ [f]) p = (firstD l p).or (if f.1 = p then some f else none) := by
  unfold firstD
  rw [List.find?_append]
  congr 1
  simp only [List.find?_cons, List.find?_nil]
  by_cases h : f.1 = p <;> simp [h]
theorem firstM_keep {l : List FileD} {f : FileD} {y : FileD} (h : firstD l f.1 = some y) : firstM (l ++ [f]) = firstM l := by
  funext p
  unfold firstM
  rw [firstD_snoc]
  by_cases e : f.1 = p
  · subst e; rw [h]; rfl
  · rw [if_neg e, Option.or_none]
theorem firstM_put {l : List FileD} {f : FileD} (h : firstD l f.1 = none) : (fun k => if k = f.1 then some (fileA f) else firstM l k) = firstM (l ++ [f]) := by
  funext p
  unfold firstM
  rw [firstD_snoc]
  by_cases e : p = f.1
  · subst e; rw [if_pos rfl, if_pos rfl, h]; rfl
  · rw [if_neg e, if_neg (fun q => e q.symm), Option.or_none]
theorem firstM_nil : firstM [] = fun _ => none := rfl
theorem fileInfo : (Tryd.prog.info? 55).map (fun i => (i.zero, i.size, i.bytes)) = some (some (.agg #[.string ⟨#[]⟩, .string ⟨#[]⟩]), 2, 32) := by kernel_rfl
theorem zeroFile (w : World) : (zeroValue 55).run Tryd.prog w = .ok (.agg #[.string ⟨#[]⟩, .string ⟨#[]⟩]) w := by
  obtain ⟨i, h1, h2, _, _⟩ := info_parts fileInfo
  simp [zeroValue, typeInfo, h1, h2]
set_option maxHeartbeats 4000000 in
set_option maxRecDepth 100000 in
theorem byPath_any (fs : List FileD) (A : Option Addr) (c : Nat) (w : World) (hn : fs.length ≤ 100000) (hok : ∀ f ∈ fs, f.1.size ≤ 1000000) (hsl : Sl w w.heap.size A fs.length 2 (cells2 fs)) :
    Calls Tryd.prog 36 #[.slice A fs.length c] w fun e w' => Below w.heap.size w w' ∧ e = .returned (.map (some w.heap.size)) ∧ ∃ nn, nn ≤ fs.length ∧ MapV w' Tryd.prog 9 StrOk strL w.heap.size nn (firstM fs) := by
  have hmm := @run_makeMap Tryd.prog
  have HSL := Lib.hid hsl; have HOK := Lib.hid hok
  clear hsl hok
  go_enter Tryd.func36, Tryd.ntmps36
  go_upto_region 2 with fail
  have hm0 := (MapC.made w Tryd.prog 9 StrOk strL).view
  have hb0 : Below w.heap.size w (w.alloc (.map #[] 0)) := (Below.refl _ _).alloc (Nat.le_refl _) _
  clear hmm
  rw [← firstM_nil] at hm0
  generalize w.alloc (.map #[] 0) = W at *
  go_wp2_with fail
  go_loopw [11] (fun t wr => ∃ i : Nat, i ≤ fs.length ∧ t = .int .i64 i ∧ Below w.heap.size w wr ∧ ∃ n0, n0 ≤ i ∧ Hid (MapV wr Tryd.prog 9 StrOk strL w.heap.size n0 (firstM (fs.take i)))) (fun t _ => fs.length - (intOf t).toNat)
  case atStart => exact ⟨0, by omega, rfl, hb0, 0, Nat.le_refl _, Lib.hid hm0⟩
  case round =>
    obtain ⟨i, hi, rfl, hbr, n0, hn0, hM⟩ := hrel
    by_cases hlt : i < fs.length
    · obtain ⟨b, off, rfl, hbl, hcl⟩ := (HSL.out.keep hbr).2 (by omega)
      have i0 : (0 : Int) ≤ (i : Int) := by omega
      have i1 : (i : Int) < (fs.length : Int) := by omega
      obtain ⟨g0, g1⟩ := cells2_get fs i hlt
      have q0 := hcl _ _ g0
      have q1 := hcl _ _ g1
      rw [← Nat.add_assoc] at q1
      have hso := HOK.out _ (List.getElem_mem hlt)
      have htk : fs.take (i + 1) = fs.take i ++ [fs[i]] := List.take_succ_eq_append_getElem hlt
      have HTK := Lib.hid htk
      clear hcl g0 g1 htk
      generalize fs[i] = f at *
      obtain ⟨p, by'⟩ := f
      have hsk : StrOk p := by simp only at hso; unfold StrOk maxLen; omega
      have HSK := Lib.hid hsk; have HBR := Lib.hid hbr
      have hmax : n0 < maxLen := by unfold maxLen; omega
      have hrow : ∀ j u, ([Value.string p, Value.string by'] : List Value)[j]? = some u → wr.cell? ⟨b, off + i * 2 + j, none⟩ = some u := fun j u hj => by
        rcases (by have := (List.getElem?_eq_some_iff.1 hj).1; simp at this; omega : j = 0 ∨ j = 1) with rfl | rfl
        · simp at hj; rw [← hj]; exact q0
        · simp at hj; rw [← hj]; exact q1
      have HROW := Lib.hid hrow
      clear hsk hbr hrow q0 q1
      have hbW2 : Below wr.heap.size wr (wr.alloc (.cells #[.string p, .string by'] 55)) := (Below.refl _ _).alloc (Nat.le_refl _) _
      have hW2 : (wr.alloc (.cells #[.string p, .string by'] 55)).heap[wr.heap.size]? = some (.cells #[.string p, .string by'] 55 (0, 0)) := heap_alloc_new _ _
      have HBW2 := Lib.hid hbW2; have HHW2 := Lib.hid hW2
      clear hbW2 hW2
      go_upto_region 5 with (refine wp_loadN rfl 55 _ rfl b _ rfl [Value.string p, Value.string by'] _ HROW.out Tryd.underlying55 rfl (by kernel_rfl) ?_)
      have hbW2 := HBW2.out; have hW2 := HHW2.out
      clear HBW2 HHW2
      generalize wr.alloc (.cells #[.string p, .string by'] 55) = W2 at *
      have hM2 := Lib.hid (hM.out.below hbW2)
      have HB2 := Lib.hid hbW2; have HW2 := Lib.hid hW2
      have c5 : W2.cell? ⟨wr.heap.size, 0, none⟩ = some (.string p) := cells_box hW2 0
      have hz2 : wr.heap.size < W2.heap.size := (Array.getElem?_eq_some_iff.1 hW2).1
      clear hbW2 hW2 hM
      cases hf : firstD (fs.take i) p with
      | none =>
        have hLM : firstM (fs.take i) p = none := by unfold firstM; rw [hf]; rfl
        have hput := firstM_put (f := (p, by')) hf
        have HLM := Lib.hid hLM; have HPUT := Lib.hid hput
        clear hLM hput hf
        have hbW3 : Below W2.heap.size W2 (W2.alloc (.cells #[.string ⟨#[]⟩, .string ⟨#[]⟩] 55)) := (Below.refl _ _).alloc (Nat.le_refl _) _
        have HBW3 := Lib.hid hbW3
        clear hbW3
        go_upto_region 6 with (first
          | (refine wp_mapGet2 rfl _ _ 84 rfl 55 strEnc Tryd.underlying84 (.agg #[.string ⟨#[]⟩, .string ⟨#[]⟩]) (zeroFile _) rfl hM2.out p HSK.out rfl ?_; rw [HLM.out]; simp only [Option.getD_none, Option.isSome_none]))
        have hbW3 := HBW3.out
        clear HBW3
        generalize W2.alloc (.cells #[.string ⟨#[]⟩, .string ⟨#[]⟩] 55) = W3 at *
        have hM3 := Lib.hid (hM2.out.below hbW3)
        have hW23 := (hbW3.block _ hz2).trans HW2.out
        have c6 : W3.cell? ⟨wr.heap.size, 0, none⟩ = some (.string p) := cells_box hW23 0
        have A3 : Hid (∀ j u, ([Value.string p, Value.string by'] : List Value)[j]? = some u → W3.cell? ⟨wr.heap.size, 0 + j, none⟩ = some u) := fun j u hj => by rw [Nat.zero_add]; exact (cells_box hW23 j).trans (by simpa using hj)
        have HB3 := Lib.hid ((HBR.out.trans (HB2.out.mono HBR.out.size)).trans (hbW3.mono (Nat.le_trans HBR.out.size HB2.out.size)))
        clear hbW3 hW23 c5
        go_wp2_with (first
          | (refine wp_loadN rfl 55 _ rfl wr.heap.size 0 rfl [Value.string p, Value.string by'] _ A3.out Tryd.underlying55 rfl (by kernel_rfl) ?_)
          | (refine wp_mapPut rfl _ _ _ 84 rfl 55 strEnc Tryd.underlying84 rfl hM3.out hmax p HSK.out rfl (fileA (p, by')) rfl ?_; intro W4 hM4 hg4))
        go_roundw
        case rel => exact ⟨i + 1, by omega, by go_num, HB3.out.grown hg4 HB3.out.size (fun k e => by cases e; exact Nat.le_refl _), n0 + 1, by omega, Lib.hid (by rw [HTK.out, ← HPUT.out]; exact hM4)⟩
        case measure => simp [intOf]; omega
      | some y =>
        have hLM : firstM (fs.take i) p = some (fileA y) := by unfold firstM; rw [hf]; rfl
        have hkeep := firstM_keep (f := (p, by')) hf
        have HLM := Lib.hid hLM; have HKEEP := Lib.hid hkeep
        clear hLM hkeep hf
        have hbW3 : Below W2.heap.size W2 (W2.alloc (.cells #[.string y.1, .string y.2] 55)) := (Below.refl _ _).alloc (Nat.le_refl _) _
        have HBW3 := Lib.hid hbW3
        clear hbW3
        go_upto_region 6 with (first
          | (refine wp_mapGet2 rfl _ _ 84 rfl 55 strEnc Tryd.underlying84 (.agg #[.string ⟨#[]⟩, .string ⟨#[]⟩]) (zeroFile _) rfl hM2.out p HSK.out rfl ?_; rw [HLM.out]; simp only [Option.getD_some, Option.isSome_some, fileA]))
        have hbW3 := HBW3.out
        clear HBW3
        generalize W2.alloc (.cells #[.string y.1, .string y.2] 55) = W3 at *
        have hM3 := Lib.hid (hM2.out.below hbW3)
        have HB3 := Lib.hid ((HBR.out.trans (HB2.out.mono HBR.out.size)).trans (hbW3.mono (Nat.le_trans HBR.out.size HB2.out.size)))
        clear hbW3 c5
        go_wp2_with fail
        go_roundw
        case rel => exact ⟨i + 1, by omega, by go_num, HB3.out, n0, by omega, Lib.hid (by rw [HTK.out, HKEEP.out]; exact hM3.out)⟩
        case measure => simp [intOf]; omega
    · have hM2 := hM.out
      rw [List.take_of_length_le (by omega)] at hM2
      have HM2 := Lib.hid hM2; have HBR := Lib.hid hbr
      clear hM2 hbr hM
      go_wp2_with fail
      go_ret
      exact ⟨HBR.out, rfl, n0, by omega, HM2.out⟩
end Go.Proofs.YthjaepmfkgejkaaDoor
