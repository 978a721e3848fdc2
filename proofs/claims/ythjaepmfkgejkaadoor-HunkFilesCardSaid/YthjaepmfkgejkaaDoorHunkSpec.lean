/-
  The hunks of a script over lines, move by move. No conditions; no program.
-/
import Derived.Test.YthjaepmfkgejkaaDoorMerged1
import Derived.Test.YthjaepmfkgejkaaDoorMovesSpec
namespace Go.Proofs.YthjaepmfkgejkaaDoor
set_option linter.unusedVariables false

/-- A hunk: from, to, its lines. -/
abbrev HunkD := Nat × Nat × List (List UInt8)
/-- A line more in the last hunk. -/
def addLine (out : List HunkD) (s : List UInt8) : List HunkD := match out.getLast? with
  | none => out
  | some h => out.dropLast ++ [(h.1, h.2.1, h.2.2 ++ [s])]
theorem addLine_snoc (out : List HunkD) (f t : Nat) (ls : List (List UInt8)) (s : List UInt8) : addLine (out ++ [(f, t, ls)]) s = out ++ [(f, t, ls ++ [s])] := by
  simp [addLine]
/-- Where the hunks stand before move n: the places in both rows, the hunks so far. -/
def hunksTo (told : Nat → Bool) (mv : List Nat) (x y : List (List UInt8)) : Nat → Nat × Nat × List HunkD
  | 0 => (0, 0, [])
  | n + 1 =>
    let st := hunksTo told mv x y n
    if told n = false then (st.1 + 1, st.2.1 + 1, st.2.2)
    else
      let out := if n = 0 ∨ told (n - 1) = false then st.2.2 ++ [(st.1, st.2.1, [])] else st.2.2
      if mv.getD n 0 = 1 then (st.1 + 1, st.2.1 + 1, addLine out (32 :: x.getD st.1 []))
      else if mv.getD n 0 = 2 then (st.1 + 1, st.2.1, addLine out (45 :: x.getD st.1 []))
      else (st.1, st.2.1 + 1, addLine out (43 :: y.getD st.2.1 []))
theorem hunksTo_skip {told : Nat → Bool} {mv : List Nat} {x y : List (List UInt8)} {n i j : Nat} {out : List HunkD} (h : hunksTo told mv x y n = (i, j, out)) (ht : told n = false) : hunksTo told mv x y (n + 1) = (i + 1, j + 1, out) := by
  simp [hunksTo, h, ht]
/-- The hunks ahead of move n, opened where one begins. -/
def opened (told : Nat → Bool) (n i j : Nat) (out : List HunkD) : List HunkD := if n = 0 ∨ told (n - 1) = false then out ++ [(i, j, [])] else out
section
variable {told : Nat → Bool} {mv : List Nat} {x y : List (List UInt8)} {n i j : Nat} {out : List HunkD}
theorem hunksTo_keep (h : hunksTo told mv x y n = (i, j, out)) (ht : told n = true) (hm : mv.getD n 0 = 1) : hunksTo told mv x y (n + 1) = (i + 1, j + 1, addLine (opened told n i j out) (32 :: x.getD i [])) := by
  simp only [hunksTo, h, ht]
  rw [if_neg (by simp), if_pos hm]
  rfl
theorem hunksTo_drop (h : hunksTo told mv x y n = (i, j, out)) (ht : told n = true) (hm : mv.getD n 0 = 2) : hunksTo told mv x y (n + 1) = (i + 1, j, addLine (opened told n i j out) (45 :: x.getD i [])) := by
  simp only [hunksTo, h, ht]
  rw [if_neg (by simp), if_neg (by omega), if_pos hm]
  rfl
theorem hunksTo_add (h : hunksTo told mv x y n = (i, j, out)) (ht : told n = true) (h1 : mv.getD n 0 ≠ 1) (h2 : mv.getD n 0 ≠ 2) : hunksTo told mv x y (n + 1) = (i, j + 1, addLine (opened told n i j out) (43 :: y.getD j [])) := by
  simp only [hunksTo, h, ht]
  rw [if_neg (by simp), if_neg h1, if_neg h2]
  rfl
end
/-- The places go with the script: dropped and kept lines of the one row, added and kept lines of the other. -/
def keptTo (mv : List Nat) (n : Nat) : Nat × Nat := ((mv.take n).countP fun m => decide (m ≠ 3), (mv.take n).countP fun m => decide (m ≠ 2))
end Go.Proofs.YthjaepmfkgejkaaDoor
