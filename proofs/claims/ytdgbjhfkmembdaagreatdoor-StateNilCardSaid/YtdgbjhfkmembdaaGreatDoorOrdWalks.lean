/-
  What the program's order gives of ids: Compare, IsSet, place, Find. Conditions: ids of 32 bytes; as each says.
-/
import Derived.Test.YtdgbjhfkmembdaaGreatDoorProg
import Derived.Test.YtdgbjhfkmembdaaGreatDoorIdCells
import Derived.Test.YtdgbjhfkmembdaaGreatDoorGr
import Derived.Lib.SlBytesRow
import Derived.Lib.BytesEntry
import Derived.Handy
import Derived.PlainAid
import Derived.Lib.Hide
import Derived.Deep.QuietTactic
import Derived.BigQuiet
import Derived.StillTailTactics
import Derived.Deep.CutRange
namespace Go.Proofs.YtdgbjhfkmembdaaGreatDoor
open Go.RowKit
set_option linter.unusedVariables false

theorem run_bytesOf {P : Program} {w : World} {b off : Nat} {l : List UInt8} (cap : Nat) (hc : Lib.Bytes w b off ⟨l.toArray⟩) : (Extern.Bytes.bytesOf (.slice (some ⟨b, off, none⟩) l.length cap)).run P w = .ok ⟨l.toArray⟩ w := by
  have h := Lib.run_loadBytesX (P := P) (w := w) (l.map fun c => (c.toNat : Int)) ⟨b, off, none⟩ .empty (fun j x hj => by
    rw [List.getElem?_map] at hj
    rcases hl : l[j]? with _ | c
    · rw [hl] at hj; cases hj
    · rw [hl] at hj
      obtain ⟨hlt, hcj⟩ := List.getElem?_eq_some_iff.1 hl
      have e1 : (⟨b, off, none⟩ : Addr).add j = ⟨b, off + j, none⟩ := by unfold Addr.add; split <;> simp_all
      have hs : j < (⟨l.toArray⟩ : ByteArray).size := by simpa [ByteArray.size] using hlt
      have e2 : (⟨l.toArray⟩ : ByteArray)[j] = l[j] := by
        show (l.toArray)[j] = l[j]
        simp
      simp only [Option.map_some, Option.some.injEq] at hj
      rw [e1, hc j hs, e2, hcj, hj])
  rw [List.length_map] at h
  show (Extern.Bytes.loadBytes ⟨b, off, none⟩ l.length .empty).run P w = _
  rw [h]
  congr 2
  have e3 : Lib.bytesOf (l.map fun c => (c.toNat : Int)) = l := by
    unfold Lib.bytesOf
    rw [List.map_map]
    conv => rhs; rw [← List.map_id l]
    apply List.map_congr_left
    intro c _
    simp
  rw [e3]
  simp [ByteArray.empty, ByteArray.emptyWithCapacity]
  rfl
set_option maxRecDepth 100000 in
theorem bytesCompare_any (a b : List UInt8) (ga oa ca gb ob cb : Nat) (w : World) (ha : Lib.Bytes w ga oa ⟨a.toArray⟩) (hb : Lib.Bytes w gb ob ⟨b.toArray⟩) :
    Calls Tryz.prog 177 #[.slice (some ⟨ga, oa, none⟩) a.length ca, .slice (some ⟨gb, ob, none⟩) b.length cb] w fun e w' => e = .returned (.int .i64 (cmpB a b)) ∧ w' = w := by
  have hcmp : (Extern.BytealgCompare.compare #[.slice (some ⟨ga, oa, none⟩) a.length ca, .slice (some ⟨gb, ob, none⟩) b.length cb]).run Tryz.prog w = .ok (.int .i64 (cmpB a b)) w := by
    change Sem.run Tryz.prog (do pure (goInt (Extern.BytealgCompare.cmp (← Extern.Bytes.bytesOf (.slice (some ⟨ga, oa, none⟩) a.length ca)) (← Extern.Bytes.bytesOf (.slice (some ⟨gb, ob, none⟩) b.length cb))))) w = _
    simp only [Sem.run_bind, Sem.run_pure, run_bytesOf ca ha, run_bytesOf cb hb, Result.andThen]
    rw [Lib.cmp_eq]
    rfl
  go_enter Tryz.func177, Tryz.ntmps177
  go_wp2
  rw [run_callFunc_extern Tryz.func221 (by kernel_rfl) (by kernel_rfl) (by kernel_rfl) (e := Extern.BytealgCompare.compare) (by kernel_rfl), hcmp]
  simp only [Result.andThen]
  rw [Oper.upon_value]
  go_wp2
  go_ret
  exact ⟨rfl, rfl⟩

theorem bytes_box {w : World} {g : Nat} {l : List UInt8} {t : TypeId} {fr : Nat × Nat} (h : w.heap[g]? = some (.cells (idV l).toArray t fr)) : Lib.Bytes w g 0 ⟨l.toArray⟩ := by
  intro i hi
  have hi' : i < l.length := by simpa [ByteArray.size] using hi
  rw [Nat.zero_add, cell_of_row w g i _ t fr h]
  have e2 : (⟨l.toArray⟩ : ByteArray)[i] = l[i] := by
    show (l.toArray)[i] = l[i]
    simp
  rw [e2]
  simp [idV, hi']

set_option maxHeartbeats 1000000 in
set_option maxRecDepth 100000 in
theorem compare_gr (a b : List UInt8) (w : World) (ha : IdOk a) (hb : IdOk b) :
    Calls Tryz.prog 129 #[.agg (idV a).toArray, .agg (idV b).toArray] w fun e w' => Gr w w' ∧ e = .returned (.int .i64 (cmpB a b)) := by
  have h1 : (w.alloc (.cells (idV a).toArray 41)).heap[w.heap.size]? = some (.cells (idV a).toArray 41 (0, 0)) := heap_alloc_new _ _
  go_enter Tryz.func129, Tryz.ntmps129
  go_upto_region 1 with fail
  obtain ⟨W, hW⟩ : ∃ W, (w.alloc (.cells (idV a).toArray 41)).alloc (.cells (idV b).toArray 41) = W := ⟨_, rfl⟩
  have hba : Lib.Bytes W w.heap.size 0 ⟨a.toArray⟩ := by
    rw [← hW]
    exact bytes_box (t := 41) (fr := (0, 0)) ((heap_alloc_old (w.alloc (.cells (idV a).toArray 41)) _ (by simp)).trans h1)
  have hbb : Lib.Bytes W (w.heap.size + 1) 0 ⟨b.toArray⟩ := by
    rw [← hW]
    have := heap_alloc_new (w.alloc (.cells (idV a).toArray 41)) (.cells (idV b).toArray 41)
    rw [World.size_alloc] at this
    exact bytes_box (t := 41) (fr := (0, 0)) this
  have hbW : Gr w W := by rw [← hW]; exact ((Gr.refl _).alloc _).alloc _
  rw [hW]
  clear hW h1
  have HA := Lib.hid hba; clear hba
  have HB := Lib.hid hbb; clear hbb
  have hcall := fun q => bytesCompare_any a b w.heap.size 0 32 (w.heap.size + 1) 0 32 (W.drewN q) (HA.out.drewN q) (HB.out.drewN q)
  rw [show a.length = 32 from ha, show b.length = 32 from hb] at hcall
  have HCALL := Lib.hid hcall; clear hcall
  go_quiet ((go_at_call 177; exact Calls.quiet_of_same (HCALL.out _)))
  go_wp2_with fail
  go_ret
  exact ⟨hbW.drewN _, rfl⟩
theorem compare_any (a b : List UInt8) (w : World) (ha : IdOk a) (hb : IdOk b) :
    Calls Tryz.prog 129 #[.agg (idV a).toArray, .agg (idV b).toArray] w fun e w' => Below w.heap.size w w' ∧ e = .returned (.int .i64 (cmpB a b)) :=
  (compare_gr a b w ha hb).mono fun _ _ ⟨h, e⟩ => ⟨h.below, e⟩
end Go.Proofs.YtdgbjhfkmembdaaGreatDoor
