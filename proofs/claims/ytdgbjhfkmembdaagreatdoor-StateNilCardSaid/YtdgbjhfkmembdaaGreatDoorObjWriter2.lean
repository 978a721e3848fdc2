/-
  What the writer's ids writes. Conditions: ids of 32 bytes; few.
-/
import Derived.Test.YtdgbjhfkmembdaaGreatDoorShort9
import Derived.Test.YtdgbjhfkmembdaaGreatDoorObjWriter
import Derived.Test.YtdgbjhfkmembdaaGreatDoorOrdFind
import Derived.Deep.MidRow
namespace Go.Proofs.YtdgbjhfkmembdaaGreatDoor
open Go.RowKit Go.Maps
set_option linter.unusedVariables false
set_option linter.unusedSimpArgs false

set_option maxHeartbeats 4000000 in
set_option maxRecDepth 100000 in
theorem wids_any (g : Nat) (l : List (List UInt8)) (xs : List UInt8) (A : Option Addr) (c : Nat) (w : World) (hw : WrAt w g xs) (ho : IdsOk l) (hx : xs.length + 32 * l.length + 10 ≤ 1099511627776) (hsl : Sl w g A l.length 32 (idsV l)) :
    Calls Tryz.prog 193 #[.pointer (some ⟨g, 0, none⟩), .slice A l.length c] w fun e w' => e = .returned (.tuple #[]) ∧ WrAt w' g (xs ++ idsE l) ∧ WrGo g w w' := by
  have HWA := Lib.hid hw; have HO := Lib.hid ho; have HSL := Lib.hid hsl
  have hlen := numB_len10 (n := l.length) (by omega)
  have hflat : ∀ i, ((l.take i).flatten).length ≤ 32 * l.length := fun i => by
    have h1 : ∀ m : List (List UInt8), IdsOk m → m.flatten.length = 32 * m.length := fun m => by
      induction m with
      | nil => intro _; rfl
      | cons a m ih =>
        intro hm
        have := hm a (by simp)
        rw [List.flatten_cons, List.length_append, ih (fun b hb => hm b (by simp [hb])), List.length_cons, show a.length = 32 from this]; omega
    rw [h1 _ (fun a ha => ho a (List.mem_of_mem_take ha)), List.length_take]; omega
  have HFL := Lib.hid hflat
  clear hw ho hsl hflat
  go_enter Tryz.func193, Tryz.ntmps193
  go_wp2_with (go_at_call 192; refine (wnum_any g l.length xs w HWA.out (by omega) (by omega)).mono ?_; rintro e w1 ⟨rfl, hat1, hgo1⟩; have HAT1 := Lib.hid hat1; have HGO1 := Lib.hid hgo1; clear hat1 hgo1)
  go_loopw [12] (fun t wr => ∃ i ys, i ≤ l.length ∧ t = .int .i64 ((i : Nat) : Int) ∧ Hid (ys = xs ++ numB l.length ++ (l.take i).flatten) ∧ Hid (WrAt wr g ys) ∧ Hid (WrGo g w wr)) (fun t _ => l.length - (intOf t).toNat)
  case atStart => exact ⟨0, _, Nat.zero_le _, rfl, Lib.hid rfl, by simpa using HAT1, HGO1⟩
  case round =>
    obtain ⟨i, ys, hi, rfl, HY, HAT, HGO⟩ := hrel
    by_cases hlt : i < l.length
    · have i0 : (0 : Int) ≤ (i : Int) := by omega
      have i1 : (i : Int) < (l.length : Int) := by omega
      obtain ⟨b, off, rfl, hbl, hcl⟩ := (HSL.out.keep (HGO.out.belowG HWA.out)).2 (by omega)
      have HROW := Lib.hid (Sl.id (B := 0) HO.out hcl (i := i) hlt)
      have HX := Lib.hid (show (l[i]).length = 32 from HO.out _ (List.getElem_mem hlt))
      have HTK := Lib.hid (show (l.take (i + 1)).flatten = (l.take i).flatten ++ l[i] by rw [List.take_succ_eq_append_getElem hlt, List.flatten_append, List.flatten_singleton])
      have hyl : ys.length ≤ xs.length + 10 + 32 * l.length := by
        have h1 := HFL.out i
        rw [HY.out, List.length_append, List.length_append]
        omega
      clear hcl
      generalize l[i] = x at *
      go_upto_region 4 with (first
        | (refine wp_loadN rfl 41 _ rfl b _ rfl (idV x) _ HROW.out Tryz.underlying41 rfl (by rw [idV_length, show x.length = 32 from HX.out]; exact sizeId2) ?_)
        | (refine wp_storeN (B := wr.heap.size) (w0 := wr) rfl 41 _ _ rfl wr.heap.size (idV x).toArray rfl rfl 41 _ (heap_alloc_new _ _) (by rw [List.size_toArray]; exact (by rw [idV_length, show x.length = 32 from HX.out]; exact sizeId2)) (by rw [show (idV x).toArray.size = 32 by rw [List.size_toArray, idV_length, show x.length = 32 from HX.out]]; rfl) (by simpa using idV_one x) ((Below.refl _ _).alloc (Nat.le_refl _) _) (Nat.le_refl _) ?_; intro W2 hbW2 hW2 _))
      obtain ⟨z, hz⟩ : ∃ z, wr.heap.size = z := ⟨_, rfl⟩
      rw [hz] at hW2 ⊢
      have HNW := Lib.hid (show ∀ j u, (idV x)[j]? = some u → W2.drew.cell? ((⟨z, 0, none⟩ : Addr).add j) = some u from fun j u hj => by
        have e1 : (⟨z, 0, none⟩ : Addr).add j = ⟨z, j, none⟩ := by unfold Addr.add; split <;> simp_all
        rw [e1]
        exact (cells_at0 hW2 j).trans hj)
      have hat2 := HAT.out.keep hbW2
      have HLT2 := Lib.hid hat2.lt
      obtain ⟨v, hhg, how⟩ := hat2
      have HHG2 := Lib.hid hhg
      have HOW2 := Lib.hid ((But.of_below (X := NoB) ((Below.refl W2.heap.size W2).drew)).own how fun _ _ q => q)
      have HCV := Lib.hid (show W2.cell? ⟨g, 0, none⟩ = some v from cells_at0 hhg 0)
      have HGO2 := Lib.hid (HGO.out.trans (WrGo.below HAT.out.lt hbW2))
      clear hhg how hbW2 hW2 hz
      refine rN 9 (fun u => u.cell? ⟨g, 0, none⟩ = some v) (HCV.out) fun hF0 => ?_
      refine tw 0 (.pointer (some ⟨g, 0, none⟩)) ?_
      go_frame
      refine tw 1 (.pointer (some ⟨g, 0, none⟩)) ?_
      go_frame
      refine tw 2 (.pointer (some ⟨g, 0, none⟩)) ?_
      go_frame
      refine tw 3 (.pointer (some ⟨g, 0, none⟩)) ?_
      go_frame
      refine tl 4 (v) rfl hF0 (fun w' hw' => l1 Tryz.underlying169 hw') ?_
      go_frame
      refine tw 5 (.slice (some ⟨z, 0, none⟩) 32 32) ?_
      go_frame
      refine ta 6 ?_
      refine wpOp_wp _ rfl (by kernel_rfl) ?_
      refine op_appW _ _ 169 rfl (g + 1) 5 (.int .u8 0) 1 1 Tryz.underlying169 info_u8 rfl (by decide) v ys.length (idV ys) rfl HOW2.out ⟨z, 0, none⟩ 32 32 (idV x) rfl (by rw [idV_length, Nat.mul_one]; exact HX.out) HNW.out (idV_one _) (by unfold maxLen; omega) (by omega) (by have := HLT2.out; exact this) ?_
      intro v9 w9 ho9 hg9 hw9
      obtain ⟨A9, c9, rfl⟩ := own_form' ho9
      have ho8 : w9.ownsRow (g + 1) 5 1 (.slice A9 (ys.length + 32) c9) (ys.length + x.length) (idV ys ++ idV x) := by rw [show x.length = 32 from HX.out]; exact ho9
      obtain ⟨cg, cf, hat, hgo⟩ := WrAt.put HHG2.out HOW2.out (Below.refl _ _).drew ho8 hg9 hw9
      have HAT := Lib.hid hat; have HGO9 := Lib.hid hgo
      clear ho8
      clear ho9 hg9 hw9 hat hgo
      refine ⟨fun _ _ => cg, ?_⟩
      go_frame
      refine tw 7 (.pointer (some ⟨g, 0, none⟩)) ?_
      go_frame
      refine tw 8 (.pointer (some ⟨g, 0, none⟩)) ?_
      go_frame
      refine ta 9 ?_
      refine wpOp_skip _ rfl (by kernel_rfl) (ex_store1 169 _ _ rfl g 0 (.slice A9 (ys.length + 32) c9) rfl rfl rfl rfl (by kernel_rfl) cg cf) ?_
      refine ⟨fun h => absurd h (by decide), ?_⟩
      go_frame
      refine wpAnyN_done (by kernel_rfl) ?_ _
      have HGON := Lib.hid (HGO2.out.trans HGO9.out)
      go_wp2_with fail
      go_roundw
      case rel => exact ⟨i + 1, ys ++ x, by omega, by go_num, Lib.hid (by rw [HY.out, HTK.out]; simp), HAT, HGON⟩
      case measure => (simp [intOf]) <;> omega
    · have i1 : ¬ (i : Int) < (l.length : Int) := by omega
      have hie : i = l.length := by omega
      have HF : Hid (ys = xs ++ idsE l) := Lib.hid (by rw [HY.out, hie, List.take_length]; unfold idsE; rw [numE_nat, List.append_assoc])
      clear hie
      go_wp2_with fail
      go_end0
      exact ⟨rfl, by rw [← HF.out]; exact HAT.out, HGO.out⟩
end Go.Proofs.YtdgbjhfkmembdaaGreatDoor
