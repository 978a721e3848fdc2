/-
  The document's GetId gives what the program's does. Conditions: as each says.
-/
import Derived.Test.YthjaepmfkgejkaaGreatDoorMerged16
import Derived.Test.YthjaepmfkgejkaaGreatDoorObjIds1
import Derived.Test.YthjaepmfkgejkaaGreatDoorMerged13
import Derived.Test.YthjaepmfkgejkaaGreatDoorMerged12
set_option linter.unusedVariables false
set_option linter.unusedSimpArgs false
set_option maxHeartbeats 4000000
set_option maxRecDepth 100000
namespace Go.Proofs.YthjaepmfkgejkaaGreatDoor
open Go.RowKit Go.Maps
theorem set_row8 {w : World} {g : Nat} {cs : List Value} {T : TypeId} (h : w.heap[g]? = some (.cells cs.toArray T (0, 0))) (i : Nat) (v : Value) : (w.setCell ⟨g, i, none⟩ v).heap[g]? = some (.cells (cs.set i v).toArray T (0, 0)) := by
  simp [World.setCell, Array.getElem?_modify, h]
theorem set_mid8 (pre : List Value) (u v : Value) (post : List Value) : (pre ++ u :: post).set pre.length v = pre ++ v :: post := by
  rw [List.set_append_right _ _ (Nat.le_refl _), Nat.sub_self, List.set_cons_zero]
theorem qp (l : List UInt8) (b off : Nat) (c : Nat) (at' : Nat) (w : World) (hl : l.length ≤ 1099511627776) (hcap : l.length ≤ c) (hat : at' ≤ l.length) (hb : b < w.heap.size) (hc : ∀ j (h : j < l.length), w.cell? ⟨b, off + j, none⟩ = some (.int .u8 ((l[j]).toNat : Int))) :
    Calls Tryz.prog 59 #[.slice (some ⟨b, off, none⟩) l.length c, .int .i64 (at' : Int)] w (zP l at' w) := by
  have HC := Lib.hid hc; clear hc
  have d1 : decide (l.length < at') = false := by simp; omega
  have d2 : decide ((at' : Int) < 0) = false := by simp
  have d3 : decide ((l.length : Int) < (at' : Int)) = false := by simp; omega
  go_enter Tryz.func59, Tryz.ntmps59
  go_upto_region 1 with (first
    | (with_reducible refine kG ?_
       refine kE (by rfl) 47 rfl (idV zero32) (zQ _) ?_
       intro W4 hb4 hz4 hs4
       have HB4 := Lib.hid hb4; have HZ4 := Lib.hid hz4
       clear hb4 hz4 hs4))
  go_upto_region 2 with (first
    | (with_reducible refine kG ?_
       refine kE (by rfl) 47 rfl (idV zero32) (zQ _) ?_
       intro W7 hb7 hz7 hs7
       have HB7 := Lib.hid hb7; have HZ7 := Lib.hid hz7
       clear hb7 hz7 hs7))
  obtain ⟨z4, hz4⟩ : ∃ z, w.heap.size = z := ⟨_, rfl⟩
  obtain ⟨z7, hz7⟩ : ∃ z, W4.heap.size = z := ⟨_, rfl⟩
  have l4 := (Array.getElem?_eq_some_iff.1 HZ4.out).1
  have HZA := Lib.hid ((HB7.out.block _ l4).trans HZ4.out)
  have HBW := Lib.hid (HB4.out.trans (HB7.out.mono HB4.out.size))
  have HNE := Lib.hid (show ¬ z4 = z7 by omega)
  have H4W := Lib.hid (show w.heap.size ≤ z4 by omega)
  have H7W := Lib.hid (show w.heap.size ≤ z7 by omega)
  rw [hz4] at HZA ⊢
  rw [hz7] at HZ7 ⊢
  try go_frame
  clear hz4 hz7 l4 HZ4 HB4 HB7
  by_cases h32 : l.length - at' < 32
  ·
   have h32' : (l.length : Int) - (at' : Int) < 32 := by omega
   have d4 : decide ((l.length : Int) - (at' : Int) < 32) = true := decide_eq_true h32'
   have HSZC := Lib.hid (show (Tryz.prog.info? 47).map (·.size) = some (idV zero32).length by rw [km]; exact kR)
   have HLN := Lib.hid (show (idV zero32).length = (idV zero32).length from rfl)
   have HONE := Lib.hid (kT zero32)
   go_wp2_with (first
     | (with_reducible refine ke ?_
        refine k9 (by rfl) (kd 47 _ rfl (p := ⟨z7, 0, none⟩) rfl (run_loadVar_mid _ _ _ _ (idV zero32) _ (fun j u hj => by rw [Nat.zero_add]; exact (k6 HZ7.out j).trans hj) Tryz.underlying47 rfl HSZC.out)) ?_)
     | (with_reducible refine ko ?_
        refine kj (by rfl) 47 _ _ rfl z4 0 [] (idV zero32) [] (idV zero32) 47 _ rfl rfl rfl rfl (by simpa using HZA.out) HLN.out HSZC.out (HONE.out) ?_
        intro W9 hb9 hz9 hs9
        have HB9 := Lib.hid (HBW.out.trans (hb9.below HBW.out.size (fun k hk e => by have e' : k = z4 := e; have h9 := H4W.out; omega)))
        have HZ9 : Hid (W9.heap[z4]? = some (.cells (idV zero32).toArray 47 (0, 0))) := Lib.hid (by simpa using hz9)
        clear hb9 hz9 hs9))
   refine bodyPost_ret (Kq Tryz.results59 _ _ rfl rfl rfl (run_loadVar_mid _ z4 0 47 (idV zero32) _ (fun j u hj => by rw [Nat.zero_add]; exact (k6 HZ9.out j).trans hj) Tryz.underlying47 rfl HSZC.out)) rfl ⟨HB9.out, ?_⟩
   have : Kh (l.drop at') = none := by unfold Kh; rw [List.length_drop, if_pos h32]
   rw [this]
   exact ⟨6, by omega, rfl⟩
  ·
   have h32' : ¬ (l.length : Int) - (at' : Int) < 32 := by omega
   have d4 : decide ((l.length : Int) - (at' : Int) < 32) = false := decide_eq_false h32'
   go_wp2_with fail
   go_loopw [8] (fun t wr => ∃ i : Nat, i ≤ 32 ∧ t = .int .i64 (i : Int) ∧ Hid (Below w.heap.size w wr) ∧ Hid (wr.heap[z4]? = some (.cells (idV zero32).toArray 47 (0, 0))) ∧ Hid (wr.heap[z7]? = some (.cells (idV ((l.drop at').take i) ++ List.replicate (32 - i) (Value.int .u8 0)).toArray 47 (0, 0)))) (fun t _ => 32 - (intOf t).toNat)
   case atStart => exact ⟨0, Nat.zero_le _, rfl, HBW, HZA, HZ7⟩
   case round =>
     obtain ⟨i, hi, rfl, HBR, HR4, HR7⟩ := hrel
     by_cases hlt : i < 32
     ·
      have i1 : (i : Int) < 32 := by omega
      have i0 : (0 : Int) ≤ (i : Int) := by omega
      have hil : at' + i < l.length := by omega
      have ei : IntKind.i64.wrap ((at' : Int) + (i : Int)) = ((at' + i : Nat) : Int) := by rw [IntWalk.i64_in _ ⟨by omega, by omega⟩]; omega
      have ei2 : ((at' + i : Nat) : Int) < (l.length : Int) := by omega
      have ei3 : (0 : Int) ≤ ((at' + i : Nat) : Int) := by omega
      have cx := (HBR.out.cell (p := ⟨b, off + (at' + i), none⟩) hb).trans (HC.out (at' + i) hil)
      have HTK := Lib.hid (show (l.drop at').take (i + 1) = (l.drop at').take i ++ [l[at' + i]] by rw [List.take_succ_eq_append_getElem (by rw [List.length_drop]; omega), List.getElem_drop])
      have hln : (idV ((l.drop at').take i)).length = i := by rw [km, List.length_take, List.length_drop]; omega
      have hrep : List.replicate (32 - i) (Value.int .u8 0) = .int .u8 0 :: List.replicate (31 - i) (.int .u8 0) := by rw [show 32 - i = (31 - i) + 1 by omega, List.replicate_succ]
      have h7 := HR7.out
      rw [hrep] at h7
      have c7 : wr.cell? ⟨z7, i, none⟩ = some (.int .u8 0) := (k6 h7 i).trans (by rw [List.getElem?_append_right (by omega), hln, Nat.sub_self]; rfl)
      have f7 : wr.frozen? ⟨z7, i, none⟩ = false := by simp [World.frozen?, h7]
      have HN7 := Lib.hid (fun (v : Value) => (show (wr.setCell ⟨z7, i, none⟩ v).heap[z7]? = some (.cells (idV ((l.drop at').take i) ++ v :: List.replicate (31 - i) (Value.int .u8 0)).toArray 47 (0, 0)) from by
        have h9 := set_row8 h7 i v
        have h10 := set_mid8 (idV ((l.drop at').take i)) (.int .u8 0) v (List.replicate (31 - i) (Value.int .u8 0))
        rw [hln] at h10
        rw [h10] at h9
        exact h9))
      clear h7 hrep hln
      generalize l[at' + i] = x at *
      go_wp2_with fail
      go_roundw
      case rel =>
        refine ⟨i + 1, by omega, by go_num, Lib.hid (HBR.out.setCell (by exact H7W.out) _), Lib.hid ?_, Lib.hid ?_⟩
        · exact (Below.heap_setCell _ _ _ _ (by exact fun e => HNE.out e)).trans HR4.out
        ·
         rw [HTK.out, show 32 - (i + 1) = 31 - i by omega]
         have h9 := HN7.out (Value.int .u8 (x.toNat : Int))
         rw [show idV ((l.drop at').take i ++ [x]) ++ List.replicate (31 - i) (Value.int .u8 0) = idV ((l.drop at').take i) ++ .int .u8 (x.toNat : Int) :: List.replicate (31 - i) (.int .u8 0) by unfold idV; rw [List.map_append]; simp]
         exact h9
      case measure => (simp [intOf]) <;> omega
     ·
      have i1 : ¬ (i : Int) < 32 := by omega
      obtain ⟨id, hid⟩ : ∃ id, (l.drop at').take 32 = id := ⟨_, rfl⟩
      have hidl : id.length = 32 := by rw [← hid, List.length_take, List.length_drop]; omega
      have H7 := Lib.hid (show wr.heap[z7]? = some (.cells (idV id).toArray 47 (0, 0)) by
        have h := HR7.out
        rw [show i = 32 by omega, hid, Nat.sub_self, List.replicate_zero, List.append_nil] at h
        exact h)
      have HSZC := Lib.hid (show (Tryz.prog.info? 47).map (·.size) = some (idV id).length by rw [km, hidl]; exact kR)
      have HLN := Lib.hid (show (idV zero32).length = (idV id).length by rw [km, km, hidl]; rfl)
      have HONE := Lib.hid (kT id)
      have HIDE := Lib.hid hid
      clear hid hidl HR7
      go_wp2_with (first
        | (with_reducible refine ke ?_
           refine k9 (by rfl) (kd 47 _ rfl (p := ⟨z7, 0, none⟩) rfl (run_loadVar_mid _ _ _ _ (idV id) _ (fun j u hj => by rw [Nat.zero_add]; exact (k6 H7.out j).trans hj) Tryz.underlying47 rfl HSZC.out)) ?_)
        | (with_reducible refine ko ?_
           refine kj (by rfl) 47 _ _ rfl z4 0 [] (idV zero32) [] (idV id) 47 _ rfl rfl rfl rfl (by simpa using HR4.out) HLN.out HSZC.out (HONE.out) ?_
           intro W9 hb9 hz9 hs9
           have HB9 := Lib.hid (HBR.out.trans (hb9.below HBR.out.size (fun k hk e => by have e' : k = z4 := e; have h9 := H4W.out; omega)))
           have HZ9 : Hid (W9.heap[z4]? = some (.cells (idV id).toArray 47 (0, 0))) := Lib.hid (by simpa using hz9)
           clear hb9 hz9 hs9))
      refine bodyPost_ret (Kq Tryz.results59 _ _ rfl rfl rfl (run_loadVar_mid _ z4 0 47 (idV id) _ (fun j u hj => by rw [Nat.zero_add]; exact (k6 HZ9.out j).trans hj) Tryz.underlying47 rfl HSZC.out)) rfl ⟨HB9.out, ?_⟩
      have : Kh (l.drop at') = some id := by unfold Kh; rw [List.length_drop, if_neg h32, HIDE.out]
      rw [this]
      show Ending.returned _ = _
      rw [show ((at' + 32 : Nat) : Int) = (at' : Int) + 32 by omega]
      rfl
end Go.Proofs.YthjaepmfkgejkaaGreatDoor
