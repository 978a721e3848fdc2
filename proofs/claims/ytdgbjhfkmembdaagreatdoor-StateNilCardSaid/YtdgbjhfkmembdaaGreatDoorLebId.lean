/-
  What leb.GetId gives: an id's 32 bytes. Conditions: the place lies within the bytes.
-/
import Derived.Test.YtdgbjhfkmembdaaGreatDoorShort0
import Derived.Test.YtdgbjhfkmembdaaGreatDoorLebWalks
import Derived.Laws.CopyOwn
import Derived.Deep.RegionLaw
import Derived.Deep.CutRange
namespace Go.Proofs.YtdgbjhfkmembdaaGreatDoor
open Go.RowKit
set_option linter.unusedVariables false

/-- An id read: its 32 bytes. -/
def getIdS (l : List UInt8) : Option (List UInt8) := if l.length < 32 then none else some (l.take 32)
def GetIdGives (l : List UInt8) (at' : Nat) (w : World) (e : Ending) (w' : World) : Prop := Below w.heap.size w w' ∧ (match getIdS (l.drop at') with
  | some i => e = .returned (.tuple #[.agg (idV i).toArray, .int .i64 ((at' + 32 : Nat) : Int), .int .i64 0])
  | none => ∃ q : Int, q ≠ 0 ∧ e = .returned (.tuple #[.agg (List.replicate 32 (Value.int .u8 0)).toArray, .int .i64 0, .int .i64 q]))

theorem sizeId' : (Tryz.prog.info? 41).map (·.size) = some 32 := by kernel_rfl
theorem size_u8 : (Tryz.prog.info? 5).map (·.size) = some 1 := by kernel_rfl
theorem results_row_tmp2 {P : Program} {fn : Func} {p u v : Tmp} {ty : TypeId} (h : fn.results = #[.cell p ty, .tmp u, .tmp v]) (tmps : Array Value) (w : World) {a : Addr} {r x y : Value}
    (hp : tmps.getD p undef = .pointer (some a)) (hu : tmps.getD u undef = x) (hv : tmps.getD v undef = y) (hl : (loadVar ty a).run P w = .ok r w) : (results fn tmps).run P w = .ok (.tuple #[r, x, y]) w := by
  have hp' : tmps[p]?.getD undef = .pointer (some a) := by simpa using hp
  have hu' : tmps[u]?.getD undef = x := by simpa using hu
  have hv' : tmps[v]?.getD undef = y := by simpa using hv
  simp only [results, h]
  simp [Result.andThen, hp', hu', hv', asAddr, hl]
theorem zeros32 : (List.replicate 32 (Value.int .u8 0)).toArray = #[.int .u8 0, .int .u8 0, .int .u8 0, .int .u8 0, .int .u8 0, .int .u8 0, .int .u8 0, .int .u8 0, .int .u8 0, .int .u8 0, .int .u8 0, .int .u8 0, .int .u8 0, .int .u8 0, .int .u8 0, .int .u8 0, .int .u8 0, .int .u8 0, .int .u8 0, .int .u8 0, .int .u8 0, .int .u8 0, .int .u8 0, .int .u8 0, .int .u8 0, .int .u8 0, .int .u8 0, .int .u8 0, .int .u8 0, .int .u8 0, .int .u8 0, .int .u8 0] := rfl

end Go.Proofs.YtdgbjhfkmembdaaGreatDoor
