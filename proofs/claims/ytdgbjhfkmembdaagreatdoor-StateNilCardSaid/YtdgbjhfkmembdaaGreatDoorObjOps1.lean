/-
  What reading one operation does. Conditions: as OpsJ says.
-/
import Derived.Test.YtdgbjhfkmembdaaGreatDoorShort0
import Derived.Test.YtdgbjhfkmembdaaGreatDoorShort9
import Derived.Test.YtdgbjhfkmembdaaGreatDoorObjReadOp
import Derived.Test.YtdgbjhfkmembdaaGreatDoorObjIds2
namespace Go.Proofs.YtdgbjhfkmembdaaGreatDoor
open Go.RowKit Go.Maps
set_option linter.unusedVariables false
set_option linter.unusedSimpArgs false

theorem own_base8 {w : World} {b b' : Nat} {e : TypeId} {sz n : Nat} {v : Value} {xs : List Value} (h : w.ownsRow b e sz v n xs) (hb : b' ≤ b) : w.ownsRow b' e sz v n xs := by
  refine ⟨h.1, ?_⟩
  rcases h.2 with h0 | ⟨g, cap, cur, hv, hbg, r⟩
  · exact .inl h0
  · exact .inr ⟨g, cap, cur, hv, qT hb hbg, r⟩
def nilS : Value := .slice none 0 0
/-- An object's ten cells. -/
def objC (k : UInt8) (t : Int) (dv : Value) (a : ByteArray) (ov pv cv : Value) (a2 m : ByteArray) (s : Int) : List Value := [.int .u8 (k.toNat : Int), .int .i64 t, dv, .string a, ov, pv, cv, .string a2, .string m, .int .i64 s]
theorem infoOp : (Tryz.prog.info? 112).map (fun i => (i.zero, i.size, i.bytes)) = some (some (.agg (opV zeroOp).toArray), 70, 128) := by kernel_rfl
theorem news_cells (w : World) (cs : List Value) (T : TypeId) : ∀ j u, cs[j]? = some u → (w.alloc (.cells cs.toArray T)).cell? ((⟨w.heap.size, 0, none⟩ : Addr).add j) = some u := fun j u hj => by
  have e1 : (⟨w.heap.size, 0, none⟩ : Addr).add j = ⟨w.heap.size, j, none⟩ := by unfold Addr.add; split <;> simp_all
  rw [e1]
  exact (cells_at0 (heap_alloc_new _ _) j).trans hj
theorem rowsV_snoc (xs : List OpD) (x : OpD) : rowsV opV (xs ++ [x]) = rowsV opV xs ++ opV x := by rw [rowsV_app]; simp [rowsV]
end Go.Proofs.YtdgbjhfkmembdaaGreatDoor
