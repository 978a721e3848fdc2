/-
  The reader's object: what stands while it is read. Conditions: as each says.
-/
import Derived.Test.YthjaepmfkgejkaaGreatDoorObjOps1
import Derived.Test.YthjaepmfkgejkaaGreatDoorObjRight3
namespace Go.Proofs.YthjaepmfkgejkaaGreatDoor
open Go.RowKit Go.Maps
set_option linter.unusedVariables false
set_option linter.unusedSimpArgs false

/-- The reader, the box of its pointer, the object's variable. -/
structure ObjSt (w0 : World) (g b off c : Nat) (l : List UInt8) (rb zo a : Nat) (cs : List Value) (w : World) : Prop where
  rd : RdAt w g b off c l a
  but : But (fun k => k = g) w0 w
  rbox : w.heap[rb]? = some (.cells [Value.pointer (some ⟨g, 0, none⟩)].toArray 57 (0, 0))
  obj : w.heap[zo]? = some (.cells cs.toArray 30 (0, 0))
structure ObjZ (w0 : World) (g rb zo : Nat) : Prop where
  low : g < w0.heap.size
  zr : w0.heap.size ≤ rb
  zz : w0.heap.size ≤ zo
  nr : zo ≠ rb
section
variable {w0 w wy : World} {g b off c : Nat} {l : List UInt8} {rb zo a a2 : Nat} {cs cs' : List Value}
theorem ObjSt.lo (h : ObjSt w0 g b off c l rb zo a cs w) : zo < w.heap.size := (Array.getElem?_eq_some_iff.1 h.obj).1
theorem ObjSt.lr (h : ObjSt w0 g b off c l rb zo a cs w) : rb < w.heap.size := (Array.getElem?_eq_some_iff.1 h.rbox).1
theorem ObjSt.read (h : ObjSt w0 g b off c l rb zo a cs w) (hz : ObjZ w0 g rb zo) (hr : RdAt wy g b off c l a2) (hb : But (fun k => k = g) w wy) : ObjSt w0 g b off c l rb zo a2 cs wy := by
  have h1 := hz.low; have h2 := hz.zr; have h3 := hz.zz
  exact ⟨hr, h.but.trans hb fun _ _ q => q, (hb.block rb h.lr (by omega)).trans h.rbox, (hb.block zo h.lo (by omega)).trans h.obj⟩
theorem ObjSt.keep (h : ObjSt w0 g b off c l rb zo a cs w) (hb : Below w.heap.size w wy) : ObjSt w0 g b off c l rb zo a cs wy :=
  ⟨h.rd.keep hb, h.but.andBelow hb, (hb.block rb h.lr).trans h.rbox, (hb.block zo h.lo).trans h.obj⟩
theorem ObjSt.put (h : ObjSt w0 g b off c l rb zo a cs w) (hz : ObjZ w0 g rb zo) (hb : But (fun k => k = zo) w wy) (hy : wy.heap[zo]? = some (.cells cs'.toArray 30 (0, 0))) : ObjSt w0 g b off c l rb zo a cs' wy := by
  have h1 := hz.low; have h2 := hz.zr; have h3 := hz.zz; have h4 := hz.nr
  exact ⟨h.rd.but hb fun k hk e => by omega, h.but.trans hb fun i hi e => by omega, (hb.block rb h.lr (by omega)).trans h.rbox, hy⟩
end
/-- An object's bytes: what is read, if it is an object's and all is read. -/
def ObjGives (g : Nat) (l : List UInt8) (w : World) (e : Ending) (w' : World) : Prop :=
  match readS l with
  | some o => ∃ v, e = .returned v ∧ But (fun k => k = g) w w' ∧ ObjIn w' w'.heap.size v o
  | none => e = .panicked wrongP ∧ But (fun k => k = g) w w'
theorem ObjGives.no {g : Nat} {l : List UInt8} {w w' : World} {e : Ending} (h : readS l = none) (he : e = .panicked wrongP) (hb : But (fun k => k = g) w w') : ObjGives g l w e w' := by
  unfold ObjGives; rw [h]; exact ⟨he, hb⟩
theorem ObjGives.yes {g : Nat} {l : List UInt8} {w w' : World} {e : Ending} {o : ObjD} {v : Value} (h : readS l = some o) (he : e = .returned v) (hb : But (fun k => k = g) w w') (hv : ObjIn w' w'.heap.size v o) : ObjGives g l w e w' := by
  unfold ObjGives; rw [h]; exact ⟨v, he, hb, hv⟩
theorem readS_byte {l : List UInt8} (h : pByte l = none) : readS l = none := by
  unfold readS pObj pBind; rw [h]
theorem readS_kind {l r : List UInt8} {k : UInt8} (h : pByte l = some (k, r)) (h1 : k ≠ 67) (h2 : k ≠ 75) : readS l = none := by
  unfold readS pObj; rw [pBind_at h, if_neg h1, if_neg h2]
/-- A change's bytes. -/
theorem readS_ch {l r : List UInt8} (h : pByte l = some (67, r)) : readS l = match pChange r with
  | some (c, q) => if q = [] ∧ rightB (1, c, noCommitD) = true then some (1, c, noCommitD) else none
  | none => none := by
  unfold readS pObj; rw [pBind_at h, if_pos rfl]
  unfold pBind
  rcases pChange r with _ | ⟨c, q⟩ <;> rfl
/-- A commit's bytes. -/
theorem readS_cm {l r : List UInt8} (h : pByte l = some (75, r)) : readS l = match pCommit r with
  | some (c, q) => if q = [] ∧ rightB (2, noChangeD, c) = true then some (2, noChangeD, c) else none
  | none => none := by
  unfold readS pObj; rw [pBind_at h, if_neg (by decide), if_pos rfl]
  unfold pBind
  rcases pCommit r with _ | ⟨c, q⟩ <;> rfl
end Go.Proofs.YthjaepmfkgejkaaGreatDoor
