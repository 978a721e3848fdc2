/-
  What leb.GetId gives: an id's 32 bytes. Conditions: the place lies within the bytes.
-/
import Derived.Test.YthjaepmfkgejkaaGreatDoorLebWalks
import Derived.Laws.CopyOwn
import Derived.Deep.RegionLaw
import Derived.Deep.CutRange
namespace Go.Proofs.YthjaepmfkgejkaaGreatDoor
open Go.RowKit
set_option linter.unusedVariables false

/-- An id read: its 32 bytes. -/
def getIdS (l : List UInt8) : Option (List UInt8) := if l.length < 32 then none else some (l.take 32)
def GetIdGives (l : List UInt8) (at' : Nat) (w : World) (e : Ending) (w' : World) : Prop := Below w.heap.size w w' ∧ (match getIdS (l.drop at') with
  | some i => e = .returned (.tuple #[.agg (idV i).toArray, .int .i64 ((at' + 32 : Nat) : Int), .int .i64 0])
  | none => ∃ q : Int, q ≠ 0 ∧ e = .returned (.tuple #[.agg (List.replicate 32 (Value.int .u8 0)).toArray, .int .i64 0, .int .i64 q]))

theorem sizeId' : (Tryz.prog.info? 47).map (·.size) = some 32 := by kernel_rfl
theorem size_u8 : (Tryz.prog.info? 5).map (·.size) = some 1 := by kernel_rfl
theorem results_row_tmp2 {P : Program} {fn : Func} {p u v : Tmp} {ty : TypeId} (h : fn.results = #[.cell p ty, .tmp u, .tmp v]) (tmps : Array Value) (w : World) {a : Addr} {r x y : Value}
    (hp : tmps.getD p undef = .pointer (some a)) (hu : tmps.getD u undef = x) (hv : tmps.getD v undef = y) (hl : (loadVar ty a).run P w = .ok r w) : (results fn tmps).run P w = .ok (.tuple #[r, x, y]) w := by
  have hp' : tmps[p]?.getD undef = .pointer (some a) := by simpa using hp
  have hu' : tmps[u]?.getD undef = x := by simpa using hu
  have hv' : tmps[v]?.getD undef = y := by simpa using hv
  simp only [results, h]
  simp [Result.andThen, hp', hu', hv', asAddr, hl]
theorem zeros32 : (List.replicate 32 (Value.int .u8 0)).toArray = #[.int .u8 0, .int .u8 0, .int .u8 0, .int .u8 0, .int .u8 0, .int .u8 0, .int .u8 0, .int .u8 0, .int .u8 0, .int .u8 0, .int .u8 0, .int .u8 0, .int .u8 0, .int .u8 0, .int .u8 0, .int .u8 0, .int .u8 0, .int .u8 0, .int .u8 0, .int .u8 0, .int .u8 0, .int .u8 0, .int .u8 0, .int .u8 0, .int .u8 0, .int .u8 0, .int .u8 0, .int .u8 0, .int .u8 0, .int .u8 0, .int .u8 0, .int .u8 0] := rfl

set_option maxHeartbeats 2000000 in
set_option maxRecDepth 100000 in
theorem getId_any (l : List UInt8) (b off : Nat) (c : Nat) (at' : Nat) (w : World) (hl : l.length ≤ 1099511627776) (hcap : l.length ≤ c) (hat : at' ≤ l.length) (hb : b < w.heap.size) (hc : ∀ j (h : j < l.length), w.cell? ⟨b, off + j, none⟩ = some (.int .u8 ((l[j]).toNat : Int))) :
    Calls Tryz.prog 89 #[.slice (some ⟨b, off, none⟩) l.length c, .int .i64 at'] w (GetIdGives l at' w) := by
  have HC := Lib.hid hc; clear hc
  have d1 : decide (l.length < at') = false := by simp; omega
  have d2 : decide ((at' : Int) < 0) = false := by simp
  by_cases h32 : l.length - at' < 32
  · have h32' : (l.length : Int) - (at' : Int) < 32 := by omega
    go_enter Tryz.func89, Tryz.ntmps89
    go_upto_region 4 with fail
    rw [← zeros32]
    obtain ⟨W, hW⟩ : ∃ W, w.alloc (.cells (List.replicate 32 (Value.int .u8 0)).toArray 47) = W := ⟨_, rfl⟩
    have hbW : Below w.heap.size w W := by rw [← hW]; exact (Below.refl _ _).alloc (Nat.le_refl _) _
    have hgW : W.heap[w.heap.size]? = some (.cells (List.replicate 32 (Value.int .u8 0)).toArray 47 (0, 0)) := by rw [← hW]; exact heap_alloc_new _ _
    rw [hW]
    have HG := Lib.hid hgW; clear hgW hW
    go_step
    refine wpList_load_row rfl 47 _ rfl w.heap.size rfl 47 _ (0, 0) _ HG.out Tryz.underlying47 rfl sizeId' ?_
    refine wp_storeN (B := w.heap.size) (w0 := w) rfl 47 _ _ rfl w.heap.size _ rfl rfl 47 _ HG.out sizeId' rfl (by kernel_rfl) hbW (Nat.le_refl _) ?_
    intro W2 hbW2 hW2 _
    have HW2 := Lib.hid hW2; clear hW2
    go_wp2_with fail
    refine bodyPost_ret (results_row_tmp2 Tryz.results89 _ _ rfl rfl rfl (run_loadVar_row (P := Tryz.prog) _ w.heap.size 47 47 _ (0, 0) _ HW2.out Tryz.underlying47 rfl sizeId')) rfl ⟨hbW2, ?_⟩
    have : getIdS (l.drop at') = none := by unfold getIdS; rw [List.length_drop, if_pos h32]
    rw [this]
    exact ⟨6, by omega, rfl⟩
  · have h32' : ¬ (l.length : Int) - (at' : Int) < 32 := by omega
    have hac : at' < c := by omega
    have hca : ¬ c = at' := by omega
    go_enter Tryz.func89, Tryz.ntmps89
    go_upto_region 5 with fail
    rw [← zeros32]
    obtain ⟨W, hW⟩ : ∃ W, w.alloc (.cells (List.replicate 32 (Value.int .u8 0)).toArray 47) = W := ⟨_, rfl⟩
    have hbW : Below w.heap.size w W := by rw [← hW]; exact (Below.refl _ _).alloc (Nat.le_refl _) _
    have hgW : W.heap[w.heap.size]? = some (.cells (List.replicate 32 (Value.int .u8 0)).toArray 47 (0, 0)) := by rw [← hW]; exact heap_alloc_new _ _
    rw [hW]
    have HG := Lib.hid hgW; clear hgW hW
    have hcs : (idV ((l.drop at').take 32)).length = 32 := by rw [idV_length, List.length_take, List.length_drop]; omega
    have hsrc : ∀ j v, (idV ((l.drop at').take 32))[j]? = some v → W.cell? ((⟨b, off + at', none⟩ : Addr).add j) = some v := by
      intro j v hj
      have hj2 : j < 32 := by have := (List.getElem?_eq_some_iff.1 hj).1; omega
      have e1 : (⟨b, off + at', none⟩ : Addr).add j = ⟨b, off + (at' + j), none⟩ := by unfold Addr.add; split <;> simp_all [Nat.add_assoc]
      rw [e1, hbW.cell (p := ⟨b, off + (at' + j), none⟩) hb, HC.out (at' + j) (by omega), ← hj]
      simp [idV, hj2, List.getElem?_drop, show at' + j < l.length by omega]
    go_region_law (refine step_copy_splice rfl (.tmp 22) (.tmp 25) 22 22 rfl 5 Tryz.underlying22 size_u8 _ _ _ _ _ _ rfl rfl w.heap.size 0 (List.replicate 32 (Value.int .u8 0)) 47 HG.out (idV ((l.drop at').take 32)) (by rw [hcs]; exact (Nat.min_eq_right (by omega)).symm) (fun _ => ⟨rfl, _, rfl, hsrc⟩) (by rw [hcs]; simp) (idV_one _) w.heap.size w hbW.drew (Nat.le_refl _) ?_; intro w4 hg4 hb4)
    have hsp : (splice (List.replicate 32 (Value.int .u8 0)) 0 (idV ((l.drop at').take 32))) = idV ((l.drop at').take 32) := by
      unfold splice
      rw [hcs]
      simp
    rw [hsp] at hg4
    have HG4 : Hid (w4.heap[w.heap.size]? = some (.cells (idV ((l.drop at').take 32)).toArray 47 (0, 0))) := hg4
    clear hg4 hsrc
    have hsz4 : (idV ((l.drop at').take 32)).toArray.size = 32 := by simpa using hcs
    go_upto_region 6 with fail
    go_wp2_with (first | (refine wpList_load_row rfl 47 _ rfl w.heap.size rfl 47 _ (0, 0) _ HG4.out Tryz.underlying47 rfl (by rw [hsz4]; exact sizeId') ?_) | (refine wp_storeN (B := w.heap.size) (w0 := w) rfl 47 _ _ rfl w.heap.size _ rfl rfl 47 _ HG4.out (by rw [hsz4]; exact sizeId') rfl (by simpa using idV_one _) hb4 (Nat.le_refl _) ?_; intro W2 hbW2 hW2 _; have HW2 := Lib.hid hW2; clear hW2))
    refine bodyPost_ret (results_row_tmp2 Tryz.results89 _ _ rfl rfl rfl (run_loadVar_row (P := Tryz.prog) _ w.heap.size 47 47 _ (0, 0) _ HW2.out Tryz.underlying47 rfl (by rw [hsz4]; exact sizeId'))) rfl ⟨hbW2, ?_⟩
    have : getIdS (l.drop at') = some ((l.drop at').take 32) := by unfold getIdS; rw [List.length_drop, if_neg h32]
    rw [this]
    show Ending.returned _ = _
    rw [show ((at' + 32 : Nat) : Int) = (at' : Int) + 32 by omega]
    rfl
end Go.Proofs.YthjaepmfkgejkaaGreatDoor
