/-
  What is unlike between files, path by path. No conditions; no program but the words for it.
-/
import Derived.Test.YthjaepmfkgejkaaDoorHunks23Walk
import Derived.Test.YthjaepmfkgejkaaDoorSortStr23
namespace Go.Proofs.YthjaepmfkgejkaaDoor
open Go.RowKit Go.Maps Go.Shelf Go.Sort
set_option linter.unusedVariables false

/-- A hunk's lines as they are told. -/
def hunkLn (h : HunkD) : List (List UInt8) := ([64, 32] ++ Lib.decDigits h.1 ++ [32] ++ Lib.decDigits h.2.1) :: h.2.2.map shownS
def bytesOf (l : List FileD) (p : ByteArray) : ByteArray := ((firstD l p).map (·.2)).getD ⟨#[]⟩
def sameF (fa fb : List FileD) (p : ByteArray) : Bool := (firstD fa p).isSome && (firstD fb p).isSome && decide (bytesOf fa p = bytesOf fb p)
def headS (fa fb : List FileD) (p : ByteArray) : List UInt8 :=
  [102, 105, 108, 101, 32] ++ L p ++ (if (firstD fa p).isSome = false then [32, 97, 100, 100, 101, 100] else if (firstD fb p).isSome = false then [32, 103, 111, 110, 101] else [])
/-- One path's lines; none: its bytes are no text. -/
def told1 (fa fb : List FileD) (p : ByteArray) : Option (List (List UInt8)) :=
  if sameF fa fb p = true then some [] else if (isText (bytesOf fa p) && isText (bytesOf fb p)) = true then some (headS fa fb p :: (hunksL (L (bytesOf fa p)) (L (bytesOf fb p))).flatMap hunkLn) else none
def linesL (fa fb : List FileD) : List (List UInt8) → Option (List (List UInt8))
  | [] => some []
  | p :: P => (told1 fa fb ⟨p.toArray⟩).bind fun t => (linesL fa fb P).map (t ++ ·)
theorem linesL_snoc (fa fb : List FileD) (p : List UInt8) : ∀ P : List (List UInt8), linesL fa fb (P ++ [p]) = (linesL fa fb P).bind fun t => (told1 fa fb ⟨p.toArray⟩).map (t ++ ·)
  | [] => by simp [linesL]
  | q :: P => by
    show (told1 fa fb ⟨q.toArray⟩).bind (fun t => (linesL fa fb (P ++ [p])).map (t ++ ·)) = _
    rw [linesL_snoc fa fb p P]
    cases h1 : told1 fa fb ⟨q.toArray⟩ with
    | none => simp [linesL, h1]
    | some t =>
      cases h2 : linesL fa fb P with
      | none => simp [linesL, h1, h2]
      | some t2 => cases h3 : told1 fa fb ⟨p.toArray⟩ <;> simp [linesL, h1, h2]
theorem linesL_none {fa fb : List FileD} {P : List (List UInt8)} {k : Nat} (hk : k < P.length) (h : told1 fa fb ⟨P[k].toArray⟩ = none) : linesL fa fb P = none := by
  have e : P = P.take (k + 1) ++ P.drop (k + 1) := (List.take_append_drop _ _).symm
  have gen : ∀ (A B : List (List UInt8)), linesL fa fb A = none → linesL fa fb (A ++ B) = none := by
    intro A B
    induction A with
    | nil => intro h; cases h
    | cons a A ih =>
      intro h
      show (told1 fa fb ⟨a.toArray⟩).bind (fun t => (linesL fa fb (A ++ B)).map (t ++ ·)) = none
      have h' : (told1 fa fb ⟨a.toArray⟩).bind (fun t => (linesL fa fb A).map (t ++ ·)) = none := h
      cases h1 : told1 fa fb ⟨a.toArray⟩ with
      | none => rfl
      | some t =>
        rw [h1] at h'
        cases h2 : linesL fa fb A with
        | none => simp [ih h2]
        | some u => rw [h2] at h'; cases h'
  rw [e]
  apply gen
  rw [List.take_succ_eq_append_getElem hk, linesL_snoc, h]
  cases linesL fa fb (P.take k) <;> rfl
/-- The paths of files, in order, each once. -/
def pathsP (fa fb : List FileD) : List (List UInt8) := Lib.compact (sortS ((fa ++ fb).map fun f => L f.1))
theorem L_mk (p : List UInt8) : L (⟨p.toArray⟩ : ByteArray) = p := rfl
theorem encS (p : List UInt8) : encStr p = .string ⟨p.toArray⟩ := rfl
theorem cells2_paths (fs : List FileD) : (strs (fs.map (·.1))) = (fs.map fun f => L f.1).map encStr := by
  rw [strs_enc, List.map_map, List.map_map, List.map_map]
  rfl
section
variable {P : Program} {ρ : Operand → Value} {o : Oper} {w : World}
/-- '+' of texts. -/
theorem ex_addS (t t' : TypeId) (x y : Operand) (ho : o.op = .binOp .add t x y t') {a b : ByteArray} (hx : ρ x = .string a) (hy : ρ y = .string b) (hz : a.size + b.size ≤ 9223372036854775807) : (execOp ρ o).run P w = .ok (.value (.string (a ++ b))) w := by
  unfold execOp
  simp [ho, hx, hy, binOp, Result.andThen, eqGuard, Op.stringOp, IntKind.max, IntKind.signed, IntKind.bits]
  rw [if_neg (by omega)]
end
end Go.Proofs.YthjaepmfkgejkaaDoor
