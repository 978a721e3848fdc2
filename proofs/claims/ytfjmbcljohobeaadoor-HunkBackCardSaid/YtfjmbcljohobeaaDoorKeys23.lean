/-
  Whole numbers and texts as a map's keys. Conditions: the keys are well formed.
-/
import Derived.Test.YtfjmbcljohobeaaDoorMapView
import Derived.Test.YtfjmbcljohobeaaDoorMerged1
namespace Go.Proofs.YtfjmbcljohobeaaDoor
open Go.RowKit Go.Maps
set_option linter.unusedVariables false

def IntOk (n : Int) : Prop := (Lit.int .i64 n).wf = true
def intK (n : Int) : Value := .int .i64 n
def intL (n : Int) : Lit := .int .i64 n
def StrOk (s : ByteArray) : Prop := s.size ≤ maxLen
def strL (s : ByteArray) : Lit := .string s.data.toList
theorem keyedInt : Keyed Tryd.prog 3 := int_keyed Tryd.underlying3
theorem keyedStr : Keyed Tryd.prog 9 := string_keyed Tryd.underlying9
theorem intEnc : KeyEnc Tryd.prog 3 IntOk intK intL := ⟨keyedInt, fun k hk => by
  unfold IntOk at hk
  simp [keyOf, mapKey, intK, intL, Tryd.underlying3, hk], fun a b h => by injection h⟩
theorem strEnc : KeyEnc Tryd.prog 9 StrOk Value.string strL := ⟨keyedStr, fun k hk => by
  unfold StrOk at hk
  simp [keyOf, mapKey, strL, Tryd.underlying9, hk], fun a b h => by injection h⟩
end Go.Proofs.YtfjmbcljohobeaaDoor
