/-
  What the program's utf.Text gives. Conditions: the runes lie in memory, at most 2^40; each one's encoding is known.
-/
import Derived.Test.YtdgbjhfkmembdaaGreatDoorShelfWr
import Derived.Test.YtdgbjhfkmembdaaGreatDoorUtfEnc
import Derived.Test.YtdgbjhfkmembdaaGreatDoorDocMem
import Derived.Test.YtdgbjhfkmembdaaGreatDoorShort0
namespace Go.Proofs.YtdgbjhfkmembdaaGreatDoor
open Go.RowKit Go.Maps
set_option linter.unusedVariables false
set_option linter.unusedSimpArgs false

/-- What utf.Encode gives of a rune. -/
def EncIs (r : Nat) : Prop := ∀ w : World, Calls Tryz.prog 133 #[.int .i32 (r : Int)] w fun e w' => Below w.heap.size w w' ∧ e = .returned (.tuple #[.string ⟨(encU r).toArray⟩, .int .i64 0])
theorem bytesU_snoc (l : List Nat) {j : Nat} (hj : j < l.length) : bytesU (l.take (j + 1)) = bytesU (l.take j) ++ encU l[j] := by
  unfold bytesU
  rw [List.take_succ_eq_append_getElem hj, List.flatMap_append]
  simp
set_option maxHeartbeats 4000000 in
set_option maxRecDepth 100000 in
theorem utext_any (l : List Nat) (g off cap : Nat) (w : World) (hs : RuneAt w (.slice (some ⟨g, off, none⟩) l.length cap) l) (hE : ∀ r ∈ l, EncIs r) (hl : l.length ≤ 1099511627776) :
    Calls Tryz.prog 81 #[.slice (some ⟨g, off, none⟩) l.length cap] w fun e w' => Below w.heap.size w w' ∧ e = .returned (.tuple #[.string ⟨(bytesU l).toArray⟩, .int .i64 0]) := by
  obtain ⟨g', off', cap', cur, fr, hv, hc, hm, hg, hcells⟩ := hs
  injection hv with e1 _ e2
  injection e1 with e1
  injection e1 with e3 e4
  subst e2 e3 e4
  have HG := Lib.hid hg; have HCE := Lib.hid hcells; have HE := Lib.hid hE
  clear hg hcells hE
  go_enter Tryz.func81, Tryz.ntmps81
  go_upto_region 2 with fail
  have hal : Below w.heap.size w (w.alloc (.cells #[.pointer none, .slice none 0 0] 171)) := (Below.refl _ _).alloc (Nat.le_refl _) _
  have hf0 : Lib.IsBuilderF 171 5 w.heap.size w.heap.size (Lib.byteCells []) (w.alloc (.cells #[.pointer none, .slice none 0 0] 171)) := Lib.IsBuilderF.of (Lib.fresh_isBuilder _ _ _)
  have HAL := Lib.hid hal; have HF0 := Lib.hid hf0
  clear hal hf0
  generalize w.alloc (.cells #[.pointer none, .slice none 0 0] 171) = w2 at *
  obtain ⟨z, hz⟩ : ∃ z, w.heap.size = z := ⟨_, rfl⟩
  have HZ := Lib.hid hz
  rw [hz] at HF0 ⊢
  clear hz
  go_upto_region 3 with fail
  go_loopw [11] (fun t wr => ∃ j : Nat, j ≤ l.length ∧ t = .int .i64 (j : Int) ∧ Hid (Below w.heap.size w wr) ∧ Hid (Lib.IsBuilderF 171 5 z z (Lib.byteCells (bytesU (l.take j))) wr)) (fun t _ => l.length - (intOf t).toNat)
  case atStart => exact ⟨0, Nat.zero_le _, rfl, HAL, HF0⟩
  case round =>
    obtain ⟨j, hj, rfl, HBR, HBL⟩ := hrel
    have hzl : z ≤ wr.heap.size := by have h1 := HBR.out.size; have h2 := HZ.out; omega
    by_cases hlt : j < l.length
    · have i0 : (0 : Int) ≤ (j : Int) := by omega
      have cj : wr.cell? ⟨g, off + j, none⟩ = some (.int .i32 (l[j] : Int)) := by
        have h1 := (HBR.out.block g (qX HG.out)).trans HG.out
        have h2 := HCE.out j (.int .i32 (l[j] : Int)) (by unfold i32s; rw [List.getElem?_map, List.getElem?_eq_getElem hlt]; rfl)
        show World.cell? wr ⟨g, off + j, none⟩ = _
        unfold World.cell?
        rw [h1]
        exact h2
      have HEJ : Hid (EncIs l[j]) := Lib.hid (HE.out _ (List.getElem_mem hlt))
      have HSN := Lib.hid (bytesU_snoc l hlt)
      have hen := encU_len l[j]
      have hbn := bytesU_len (l.take j)
      rw [List.length_take, Nat.min_eq_left (by omega)] at hbn
      generalize l[j] = r at *
      go_wp2_with (first
        | (go_at_call 133; refine (HEJ.out wr).mono ?_; rintro e w5 ⟨hb5, rfl⟩
           have HB5 := Lib.hid hb5
           clear hb5)
        | (go_at_call 82; refine (bwrite_any z z (bytesU (l.take j)) ⟨(encU r).toArray⟩ w5 (bld_kept HBL.out HB5.out) (by rw [size_mk]; omega) (qT hzl HB5.out.size)).mono ?_; rintro e w6 ⟨rfl, h1, h2, _⟩
           have H1 := Lib.hid h1; have H2 := Lib.hid h2
           clear h1 h2))
      go_roundw
      case rel =>
        refine ⟨j + 1, by omega, by go_num, Lib.hid ?_, Lib.hid ?_⟩
        · refine (HBR.out.trans (HB5.out.mono HBR.out.size)).trans ?_
          rw [HZ.out]
          exact H2.out
        · rw [HSN.out]
          have := H1.out
          rw [L_mk] at this
          exact this
      case measure => (simp [intOf]) <;> omega
    · have e : l.take j = l := List.take_of_length_le (by omega)
      rw [e] at HBL
      go_wp2_with (first
        | (go_at_call 83; refine (Tryz.Builder_String_any_k z z _ wr HBL.out hzl).mono ?_; rintro e w7 ⟨rfl, _, hb7, _⟩
           have HB7 := Lib.hid hb7
           clear hb7))
      go_ret2
      refine ⟨HBR.out.trans ?_, rfl⟩
      rw [HZ.out]
      exact HB7.out
end Go.Proofs.YtdgbjhfkmembdaaGreatDoor
