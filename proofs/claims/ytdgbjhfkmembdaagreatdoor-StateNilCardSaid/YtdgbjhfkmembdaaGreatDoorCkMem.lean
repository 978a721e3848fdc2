/-
  The checker's memory: what is made is put behind what was made. Conditions: as each says.
-/
import Derived.Test.YtdgbjhfkmembdaaGreatDoorObjCheck
import Derived.Test.YtdgbjhfkmembdaaGreatDoorObjOps1
namespace Go.Proofs.YtdgbjhfkmembdaaGreatDoor
open Go.RowKit Go.Maps
set_option linter.unusedVariables false
set_option linter.unusedSimpArgs false

/-- The blocks that the checker may write into. -/
def CkX (w : World) (g k : Nat) : Prop := k = g ∨ ∃ d v T z, w.heap[g]? = some (.cells #[d, v] T z) ∧ v.ownBlock = some k
/-- From world to world by making. -/
def CkGo (g : Nat) (w w' : World) : Prop := But (CkX w g) w w' ∧ ∀ i, i < w.heap.size → CkX w' g i → CkX w g i
section
variable {g : Nat} {deps : List (List UInt8)} {mk new : List MadeD} {w w' w1 w2 : World}
theorem CkX.at_ {d v : Value} {T : TypeId} {z : Nat × Nat} (h : w.heap[g]? = some (.cells #[d, v] T z)) {k : Nat} (hx : CkX w g k) : k = g ∨ v.ownBlock = some k := by
  rcases hx with q | ⟨d', v', T', z', h', q⟩
  · exact .inl q
  · rw [h] at h'
    injection h' with h'
    injection h' with h' _ _
    injection h' with h'
    injection h' with _ h'
    injection h' with h' _
    subst h'
    exact .inr q
theorem CkAt.low (h : CkAt w g deps mk) {k : Nat} (hk : k < g) : ¬ CkX w g k := by
  obtain ⟨Ad, cd, v, h1, _, h2⟩ := h
  intro hx
  rcases hx.at_ h1 with q | q
  · omega
  · have := (h2.lt k q).1; omega
theorem CkAt.newNot (h : CkAt w g deps mk) (hb : Below w.heap.size w w') {k : Nat} (hk : w.heap.size ≤ k) : ¬ CkX w' g k := by
  have hlt := h.lt
  obtain ⟨Ad, cd, v, h1, _, h2⟩ := h
  intro hx
  rcases hx.at_ ((hb.block g hlt).trans h1) with q | q
  · omega
  · have := (h2.lt k q).2; omega
theorem CkGo.refl (g : Nat) (w : World) : CkGo g w w := ⟨But.refl _ _, fun _ _ h => h⟩
theorem CkGo.trans (h : CkGo g w w1) (k : CkGo g w1 w2) : CkGo g w w2 :=
  ⟨h.1.trans k.1 fun i hi hx => h.2 i hi hx, fun i hi hx => h.2 i hi (k.2 i (Nat.lt_of_lt_of_le hi h.1.size) hx)⟩
theorem CkGo.below (hg : g < w.heap.size) (h : Below w.heap.size w w') : CkGo g w w' :=
  ⟨But.of_below h, fun i hi hx => by
    rcases hx with q | ⟨d, v, T, z, h1, q⟩
    · exact .inl q
    · exact .inr ⟨d, v, T, z, (h.block g hg).symm.trans h1, q⟩⟩
theorem CkGo.cell (h : CkGo g w w') {k j : Nat} (hk : k < w.heap.size) (hx : ¬ CkX w g k) : w'.cell? ⟨k, j, none⟩ = w.cell? ⟨k, j, none⟩ := h.1.cell hk hx
theorem CkGo.not (h : CkGo g w w') {k : Nat} (hk : k < w.heap.size) (hx : ¬ CkX w g k) : ¬ CkX w' g k := fun q => hx (h.2 k hk q)
theorem CkGo.belowG (h : CkGo g w w') (hw : CkAt w g deps mk) : Below g w w' := h.1.below (Nat.le_of_lt hw.lt) fun k hk => hw.low hk
/-- More is made: the world that only grew, the append, the store. -/
theorem CkAt.put {v' : Value} {Ad : Option Addr} {cd : Nat} {v : Value} (h1 : w.heap[g]? = some (.cells #[.slice Ad deps.length cd, v] 349 (0, 0))) (hs : Sl w g Ad deps.length 32 (idsV deps)) (h2 : w.ownsRow (g + 1) 373 34 v mk.length (rowsV madeV mk)) (hb : Below w.heap.size w w1)
    (ho : w2.ownsRow (g + 1) 373 34 v' (mk.length + new.length) (rowsV madeV mk ++ rowsV madeV new)) (hg : w1.grownBy w2 v.ownBlock) (hw : Where w1.heap.size v v') :
    w2.cell? ⟨g, 1, none⟩ = some v ∧ w2.frozen? ⟨g, 1, none⟩ = false ∧ CkAt (w2.setCell ⟨g, 1, none⟩ v') g deps (mk ++ new) ∧ CkGo g w (w2.setCell ⟨g, 1, none⟩ v') := by
  have hlt := (Array.getElem?_eq_some_iff.1 h1).1
  have hlt1 := Nat.lt_of_lt_of_le hlt hb.size
  have hne : v.ownBlock ≠ some g := fun e => by have := (h2.lt g e).1; omega
  have hne' : v'.ownBlock ≠ some g := fun e => by have := (ho.lt g e).1; omega
  have hg2 : w2.heap[g]? = some (.cells #[.slice Ad deps.length cd, v] 349 (0, 0)) := ((hg.block g hlt1 (fun e => hne e.symm)).trans (hb.block g hlt)).trans h1
  have hset : (w2.setCell ⟨g, 1, none⟩ v').heap[g]? = some (.cells #[.slice Ad deps.length cd, v'] 349 (0, 0)) := by
    simp [World.setCell, Array.getElem?_modify, hg2]
  have hbut : But (fun k => k = g) w2 (w2.setCell ⟨g, 1, none⟩ v') := But.setCell (X := fun k => k = g) (But.refl _ _) (p := ⟨g, 1, none⟩) (fun _ => rfl) v'
  have hall : But (CkX w g) w (w2.setCell ⟨g, 1, none⟩ v') := But.setCell (But.grown (But.of_below hb) hg fun k hk _ => .inr ⟨_, v, _, _, h1, hk⟩) (fun _ => .inl rfl) v'
  refine ⟨cells_at0 (cs := [.slice Ad deps.length cd, v]) hg2 1, by simp [World.frozen?, hg2], ⟨Ad, cd, v', hset, ?_, ?_⟩, hall, ?_⟩
  · refine hall.sl hs (Nat.le_of_lt hlt) fun k hk hx => ?_
    rcases hx.at_ h1 with q | q
    · omega
    · have := (h2.lt k q).1; omega
  · have := hbut.own ho fun k hk e => hne' (by rw [hk, e])
    rw [List.length_append, rowsV_app]
    exact this
  · intro i hi hx
    rcases hx.at_ hset with q | q
    · exact .inl q
    · rcases hw with e | ⟨k, e, hk⟩
      · exact .inr ⟨_, v, _, _, h1, by rw [← e]; exact q⟩
      · rw [e] at q
        injection q with q
        have := hb.size
        omega
end
theorem infoMade : (Tryz.prog.info? 373).map (fun i => (i.zero, i.size, i.bytes)) = some (some (.agg (madeV (false, zeroRef)).toArray), 34, 48) := by kernel_rfl
theorem madeDoc_built (w : World) : (Instr.build 373 #[(0, .bool true)]).run Tryz.prog w = .ok (.agg (madeV (true, zeroRef)).toArray) w := by kernel_rfl
end Go.Proofs.YtdgbjhfkmembdaaGreatDoor
