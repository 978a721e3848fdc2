/-
  The chapter's two changes, their ids, and what they come to. No conditions; no program.
-/
import Derived.Test.YtdgbjhfkmembdaaGreatDoorObjWrites1
import Derived.Test.YtdgbjhfkmembdaaGreatDoorShaEval
import Derived.Test.YtdgbjhfkmembdaaGreatDoorStateSpec
namespace Go.Proofs.YtdgbjhfkmembdaaGreatDoor
set_option linter.unusedVariables false

def annS : ByteArray := ⟨#[65, 110, 110]⟩
def bobS : ByteArray := ⟨#[66, 111, 98]⟩
def aS : ByteArray := ⟨#[97]⟩
def hiS : ByteArray := ⟨#[104, 105]⟩
def bangS : ByteArray := ⟨#[33]⟩
def c15 : ChangeD := (1, [], annS, [(3, zeroRef, zeroRef, noneS, 0, aS), (1, zeroRef, zeroRef, hiS, 0, noneS)])
def i15 : List UInt8 := [229, 202, 141, 46, 136, 14, 238, 142, 133, 125, 96, 76, 29, 48, 31, 50, 178, 145, 198, 216, 218, 132, 57, 219, 41, 132, 133, 23, 247, 94, 30, 52]
def d15 : ChangeD := (2, [i15], bobS, [(1, (i15, 0), (i15, 2), bangS, 0, noneS)])
def j15 : List UInt8 := [36, 32, 115, 196, 227, 199, 209, 70, 18, 99, 220, 155, 133, 51, 220, 20, 221, 152, 115, 253, 159, 163, 204, 31, 60, 175, 75, 184, 190, 34, 100, 1]
theorem enc15 : encR (1, c15, noCommitD) = 0 := by decide +kernel
theorem enc15d : encR (1, d15, noCommitD) = 0 := by decide +kernel
theorem id15 : idD (1, c15, noCommitD) = i15 := by
  unfold idD
  rw [if_pos enc15, show objE (1, c15, noCommitD) = [67, 1, 0, 3, 65, 110, 110, 2, 3, 1, 97, 1, 0, 0, 0, 0, 2, 104, 105] by decide +kernel, sha_one (by decide)]
  decide +kernel
theorem id15d : idD (1, d15, noCommitD) = j15 := by
  unfold idD
  rw [if_pos enc15d, show objE (1, d15, noCommitD) = [67, 2, 1] ++ i15 ++ [3, 66, 111, 98, 1, 1, 1, 0, 1, 2, 1, 33] by decide +kernel, sha_one (by decide)]
  decide +kernel
/-- The state behind the first one, behind both. -/
def s15 : StateD := ([((1, i15, 0), [((1, i15, 1), [104, 105], false)])], [((1, i15, 0), (1, i15, 0), 3, aS)], [(i15, c15, [(true, (0, zero32, 0)), (false, (1, i15, 0)), (false, (1, i15, 0))])])
def t15 : StateD := ([((1, i15, 0), [((1, i15, 1), [104, 105], false), ((2, j15, 0), [33], false)])], [((1, i15, 0), (1, i15, 0), 3, aS)],
  [(i15, c15, [(true, (0, zero32, 0)), (false, (1, i15, 0)), (false, (1, i15, 0))]), (j15, d15, [(false, (1, i15, 0))])])
theorem add15 : addAt newState i15 i15 c15 = (0, s15) := by kernel_rfl
theorem add15d : addAt s15 j15 j15 d15 = (0, t15) := by kernel_rfl
end Go.Proofs.YtdgbjhfkmembdaaGreatDoor
