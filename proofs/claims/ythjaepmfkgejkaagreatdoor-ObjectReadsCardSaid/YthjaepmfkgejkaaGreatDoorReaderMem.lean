/-
  The reader's memory: bytes, and the place in them. Conditions: as each says.
-/
import Derived.Test.YthjaepmfkgejkaaGreatDoorObjMem
import Derived.Test.YthjaepmfkgejkaaGreatDoorLebWalks
import Derived.Test.YthjaepmfkgejkaaGreatDoorQuietR
import Derived.Test.YthjaepmfkgejkaaGreatDoorHandB
import Derived.WalkLawsBesides
namespace Go.Proofs.YthjaepmfkgejkaaGreatDoor
open Go.RowKit Go.Maps
set_option linter.unusedVariables false
set_option linter.unusedSimpArgs false

/-- The panic that says that bytes are no object's. -/
def wrongP : List PanicEntry := [{ v := .iface 55 (.agg #[]), recovered := false }]
set_option maxRecDepth 100000 in
theorem need_yes (w : World) : Calls Tryz.prog 57 #[.bool true] w fun e w' => e = .returned (.tuple #[]) ∧ w' = w := by
  go_enter Tryz.func57, Tryz.ntmps57
  go_wp2
  go_end0
  exact ⟨rfl, rfl⟩
set_option maxRecDepth 100000 in
theorem need_no (w : World) : Calls Tryz.prog 57 #[.bool false] w fun e w' => e = .panicked wrongP ∧ w' = w := by
  go_enter Tryz.func57, Tryz.ntmps57
  go_wp2
  exact ⟨rfl, rfl, rfl⟩
/-- A call that panics, at a step taken by hand. -/
theorem wpOp_callP {P : Program} {ops : Array Oper} {Q : Exit → Act → World → Prop} {i : Nat} {K : Act → World → Prop} {a : Act} {w : World} {f : FuncId} {args : Array Value} {ch : List PanicEntry} (o : Oper) (hi : opAt ops.toList i = some o) (hw : Region.wanted o (yielded ops a.tmps) = true)
    (h : (execOp a.eval o).run P w = .ok (.enter f args) w) (hc : Calls P f args w fun e w' => e = .panicked ch ∧ Q (.panic ch) a w') : wpOp P ops Q i K a w := by
  unfold wpOp
  simp only [opAt_spec hi, if_pos hw]
  refine .inl ?_
  unfold Oper.wp
  rw [h]
  exact hc.mono fun e w' ⟨he, hk⟩ => by subst he; exact hk
/-- The reader stands at a place of the bytes. -/
structure RdAt (w : World) (g b off c : Nat) (l : List UInt8) (at' : Nat) : Prop where
  box : w.heap[g]? = some (.cells #[.slice (some ⟨b, off, none⟩) l.length c, .int .i64 (at' : Int)] 59 (0, 0))
  le : at' ≤ l.length
  cap : l.length ≤ c
  low : b < g
  bytes : ∀ j (h : j < l.length), w.cell? ⟨b, off + j, none⟩ = some (.int .u8 ((l[j]).toNat : Int))
/-- What a reading function gives: what a parser gives of the bytes that are left; or it gives up. -/
def RdGives (g b off c : Nat) (l : List UInt8) (at' : Nat) (w : World) {α : Type} (p : Ps α) (R : α → Value → World → Prop) (e : Ending) (w' : World) : Prop :=
  match p (l.drop at') with
  | some (a, r) => ∃ v at2, e = .returned v ∧ at' ≤ at2 ∧ r = l.drop at2 ∧ RdAt w' g b off c l at2 ∧ But (fun k => k = g) w w' ∧ R a v w'
  | none => e = .panicked wrongP ∧ But (fun k => k = g) w w'
section
variable {g b off c at' at2 : Nat} {l : List UInt8} {w w' : World}
theorem RdAt.lt (h : RdAt w g b off c l at') : g < w.heap.size := (Array.getElem?_eq_some_iff.1 h.box).1
theorem RdAt.but {X : Nat → Prop} (h : RdAt w g b off c l at') (hb : But X w w') (hx : ∀ k, k ≤ g → ¬ X k) : RdAt w' g b off c l at' :=
  ⟨(hb.block g h.lt (hx g (Nat.le_refl _))).trans h.box, h.le, h.cap, h.low, fun j hj => (hb.cell (Nat.lt_trans h.low h.lt) (hx b (Nat.le_of_lt h.low))).trans (h.bytes j hj)⟩
theorem RdAt.keep (h : RdAt w g b off c l at') (hb : Below w.heap.size w w') : RdAt w' g b off c l at' := h.but (X := NoB) (But.of_below hb) fun _ _ q => q
theorem RdAt.move (h : RdAt w g b off c l at') (h2 : at2 ≤ l.length) : RdAt (w.setCell ⟨g, 1, none⟩ (.int .i64 (at2 : Int))) g b off c l at2 ∧ But (fun k => k = g) w (w.setCell ⟨g, 1, none⟩ (.int .i64 (at2 : Int))) := by
  have hb : But (fun k => k = g) w (w.setCell ⟨g, 1, none⟩ (.int .i64 (at2 : Int))) := But.setCell (X := fun k => k = g) (But.refl _ _) (p := ⟨g, 1, none⟩) (fun _ => rfl) _
  have hlow := h.low
  refine ⟨⟨?_, h2, h.cap, h.low, fun j hj => ?_⟩, hb⟩
  · have hbox := h.box
    simp [World.setCell, Array.getElem?_modify, hbox]
  · exact (hb.cell (Nat.lt_trans h.low h.lt) (by show ¬ b = g; omega)).trans (h.bytes j hj)
theorem RdAt.frozen (h : RdAt w g b off c l at') (j : Nat) : w.frozen? ⟨g, j, none⟩ = false := by
  have hbox := h.box
  simp [World.frozen?, hbox]
variable {α : Type} {p : Ps α} {R : α → Value → World → Prop} {e : Ending} {a : α} {r : List UInt8}
theorem RdGives.yes {v : Value} (hp : p (l.drop at') = some (a, r)) (he : e = .returned v) (h1 : at' ≤ at2) (hr : r = l.drop at2) (h2 : RdAt w' g b off c l at2) (h3 : But (fun k => k = g) w w') (h4 : R a v w') : RdGives g b off c l at' w p R e w' := by
  unfold RdGives; rw [hp]; exact ⟨v, at2, he, h1, hr, h2, h3, h4⟩
theorem RdGives.no (hp : p (l.drop at') = none) (he : e = .panicked wrongP) (h3 : But (fun k => k = g) w w') : RdGives g b off c l at' w p R e w' := by
  unfold RdGives; rw [hp]; exact ⟨he, h3⟩
theorem RdGives.ok (h : RdGives g b off c l at' w p R e w') (hp : p (l.drop at') = some (a, r)) : ∃ v at2, e = .returned v ∧ at' ≤ at2 ∧ r = l.drop at2 ∧ RdAt w' g b off c l at2 ∧ But (fun k => k = g) w w' ∧ R a v w' := by
  unfold RdGives at h; rw [hp] at h; exact h
theorem RdGives.bad (h : RdGives g b off c l at' w p R e w') (hp : p (l.drop at') = none) : e = .panicked wrongP ∧ But (fun k => k = g) w w' := by
  unfold RdGives at h; rw [hp] at h; exact h
end
theorem pNum_at {l : List UInt8} {at' n k : Nat} (h : getS (l.drop at') = some (n, k)) : pNum (l.drop at') = some (n, l.drop (at' + k)) := by
  unfold pNum; rw [h]; simp only [List.drop_drop]
theorem pNum_no {l : List UInt8} {at' : Nat} (h : getS (l.drop at') = none) : pNum (l.drop at') = none := by
  unfold pNum; rw [h]
theorem pText_at {l t : List UInt8} {at' k : Nat} (h : getTextS (l.drop at') 4096 = some (t, k)) : pText (l.drop at') = some (⟨t.toArray⟩, l.drop (at' + k)) := by
  unfold pText; rw [h]; simp only [List.drop_drop]
theorem pText_no {l : List UInt8} {at' : Nat} (h : getTextS (l.drop at') 4096 = none) : pText (l.drop at') = none := by
  unfold pText; rw [h]
end Go.Proofs.YthjaepmfkgejkaaGreatDoor
