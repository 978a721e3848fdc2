/-
  What the reader's op reads. Conditions: bytes that lie in memory; few changes hung on.
-/
import Derived.Test.YtdgbjhfkmembdaaGreatDoorShort0
import Derived.Test.YtdgbjhfkmembdaaGreatDoorShort9
import Derived.Test.YtdgbjhfkmembdaaGreatDoorShort8
import Derived.Test.YtdgbjhfkmembdaaGreatDoorObjReader2
import Derived.Test.YtdgbjhfkmembdaaGreatDoorObjReader3
import Derived.Test.YtdgbjhfkmembdaaGreatDoorParts08
namespace Go.Proofs.YtdgbjhfkmembdaaGreatDoor
open Go.RowKit Go.Maps
set_option linter.unusedVariables false
set_option linter.unusedSimpArgs false

def zeroOp : OpD := (0, zeroRef, zeroRef, noneS, 0, noneS)
def partC (p : PartD) : List Value := [.bool p.1, .bool p.2.1, .bool p.2.2.1, .bool p.2.2.2.1, .bool p.2.2.2.2]
def st5 (p : PartD) (k : UInt8) (d a : RefD) (t : ByteArray) (n : Int) : Ps OpD := pBind (pIf p.2.2.2.2 noneS pText) fun q => pRet (k, d, a, t, n, q)
def st4 (p : PartD) (k : UInt8) (d a : RefD) (t : ByteArray) : Ps OpD := pBind (pIf p.2.2.2.1 0 pNumI) fun n => st5 p k d a t n
def st3 (p : PartD) (k : UInt8) (d a : RefD) : Ps OpD := pBind (pIf p.2.2.1 noneS pText) fun t => st4 p k d a t
def st2 (deps : List (List UInt8)) (p : PartD) (k : UInt8) (d : RefD) : Ps OpD := pBind (pIf p.2.1 zeroRef (pRef deps)) fun a => st3 p k d a
def st1 (deps : List (List UInt8)) (p : PartD) (k : UInt8) : Ps OpD := pBind (pIf p.1 zeroRef (pRef deps)) fun d => st2 deps p k d
theorem pOp_st {deps : List (List UInt8)} {l r : List UInt8} {k : UInt8} {p : PartD} (h : pByte l = some (k, r)) (hp : partsOf k = some p) : pOp deps l = st1 deps p k r := by
  unfold pOp
  rw [pBind_at h, hp]
  rfl
theorem pOp_kind {deps : List (List UInt8)} {l r : List UInt8} {k : UInt8} (h : pByte l = some (k, r)) (hp : partsOf k = none) : pOp deps l = none := by
  unfold pOp
  rw [pBind_at h, hp]
theorem pOp_byte {deps : List (List UInt8)} {l : List UInt8} (h : pByte l = none) : pOp deps l = none := by
  unfold pOp pBind
  rw [h]
theorem pIf_skip {α β : Type} {b : Bool} {z : α} {d : Ps α} {f : α → Ps β} {l : List UInt8} (h : b = false) : pBind (pIf b z d) f l = f z l := by subst h; rfl
theorem pIf_take {α β : Type} {b : Bool} {z a : α} {d : Ps α} {f : α → Ps β} {l r : List UInt8} (h : b = true) (hd : d l = some (a, r)) : pBind (pIf b z d) f l = f a r := by subst h; exact pBind_at hd
theorem pIf_fail {α β : Type} {b : Bool} {z : α} {d : Ps α} {f : α → Ps β} {l : List UInt8} (h : b = true) (hd : d l = none) : pBind (pIf b z d) f l = none := by subst h; show pBind d f l = none; unfold pBind; rw [hd]
/-- An operation's cells, cut at a part. -/
theorem op_cut2 (k : UInt8) (d a : RefD) (t : ByteArray) (n : Int) (q : ByteArray) : opV (k, d, a, t, n, q) = (.int .u8 (k.toNat : Int) :: refV d) ++ (refV a ++ [.string t, .int .i64 n, .string q]) := by simp [opV]
theorem op_cut3 (k : UInt8) (d a : RefD) (t : ByteArray) (n : Int) (q : ByteArray) : opV (k, d, a, t, n, q) = (.int .u8 (k.toNat : Int) :: (refV d ++ refV a)) ++ ([.string t] ++ [.int .i64 n, .string q]) := by simp [opV]
theorem op_cut4 (k : UInt8) (d a : RefD) (t : ByteArray) (n : Int) (q : ByteArray) : opV (k, d, a, t, n, q) = (.int .u8 (k.toNat : Int) :: (refV d ++ (refV a ++ [.string t]))) ++ ([.int .i64 n] ++ [.string q]) := by simp [opV]
theorem op_cut5 (k : UInt8) (d a : RefD) (t : ByteArray) (n : Int) (q : ByteArray) : opV (k, d, a, t, n, q) = (.int .u8 (k.toNat : Int) :: (refV d ++ (refV a ++ [.string t, .int .i64 n]))) ++ ([.string q] ++ []) := by simp [opV]
theorem zeroOp_run (w : World) : (zeroValue 112).run Tryz.prog w = .ok (.agg (opV zeroOp).toArray) w := by kernel_rfl
theorem opK_built (k : UInt8) (w : World) : (Instr.build 112 #[(0, .int .u8 (k.toNat : Int))]).run Tryz.prog w = .ok (.agg (opV (k, zeroRef, zeroRef, noneS, 0, noneS)).toArray) w := by kernel_rfl
theorem sizeOp70 : (Tryz.prog.info? 112).map (·.size) = some 70 := by kernel_rfl
theorem sizePart5 : (Tryz.prog.info? 320).map (·.size) = some 5 := by kernel_rfl
theorem partZ_run (w : World) : (zeroValue 320).run Tryz.prog w = .ok (.agg (partC noPart).toArray) w := by kernel_rfl
theorem zeroOp_in (k : UInt8) : OpIn (k, zeroRef, zeroRef, noneS, 0, noneS) := ⟨⟨zeroRef_ok, zeroRef_ok, (by decide : (Lit.int .i64 0).wf = true)⟩, (show (0 : Nat) ≤ maxLen by unfold maxLen; omega), (show (0 : Nat) ≤ maxLen by unfold maxLen; omega)⟩
/-- The blocks' places. -/
structure OpZ (w : World) (g z0 zx zp : Nat) : Prop where
  low : g < w.heap.size
  h0 : w.heap.size ≤ z0
  hx : w.heap.size ≤ zx
  hp : w.heap.size ≤ zp
  nx0 : zx ≠ z0
  nxp : zx ≠ zp
  np0 : zp ≠ z0
section
variable {w wx wy : World} {g b off c : Nat} {l : List UInt8} {z0 zx zp : Nat} {p : PartD} {x y : OpD} {a a2 : Nat}
end
end Go.Proofs.YtdgbjhfkmembdaaGreatDoor
