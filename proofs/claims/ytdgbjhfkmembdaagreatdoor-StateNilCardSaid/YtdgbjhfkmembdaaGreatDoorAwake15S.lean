/-
  The chapter's two changes may be added; what the state then tells of the file. No conditions.
-/
import Derived.Test.YtdgbjhfkmembdaaGreatDoorHello15
import Derived.Test.YtdgbjhfkmembdaaGreatDoorStateBlamed
import Derived.Test.YtdgbjhfkmembdaaGreatDoorUtfEnc
import Derived.Test.YtdgbjhfkmembdaaGreatDoorStateNew
namespace Go.Proofs.YtdgbjhfkmembdaaGreatDoor
open Go.RowKit
set_option linter.unusedVariables false
set_option linter.unusedSimpArgs false

theorem i15_ok : IdOk i15 := rfl
theorem j15_ok : IdOk j15 := rfl
def o15d : OpD := (1, (i15, 0), (i15, 2), bangS, 0, noneS)
theorem o15d_in : OpIn o15d := ⟨⟨⟨rfl, by decide⟩, ⟨rfl, by decide⟩, by decide⟩, by decide, by decide⟩
theorem d15_ops : ∀ x ∈ d15.2.2.2, OpIn x := fun x hx => by
  rw [List.mem_singleton.1 hx]
  exact o15d_in
theorem d15_ok : ChangeOk d15 := ⟨by decide, (fun x hx => by rw [List.mem_singleton.1 hx]; exact i15_ok), fun x hx => (d15_ops x hx).1⟩
theorem fine15a : OpFine newState o15a := ⟨o15a_in, ⟨o15a_in.1.1, by decide, by decide⟩, ⟨o15a_in.1.2.1, by decide, by decide⟩, by decide, by decide, by decide, by decide⟩
theorem fine15b : OpFine newState o15b := ⟨o15b_in, ⟨o15b_in.1.1, by decide, by decide⟩, ⟨o15b_in.1.2.1, by decide, by decide⟩, by decide, by decide, by decide, by decide⟩
theorem fine15d : OpFine s15 o15d := ⟨o15d_in, ⟨o15d_in.1.1, by decide, by decide⟩, ⟨o15d_in.1.2.1, by decide, by decide⟩, by decide, by decide, by decide, by decide⟩
theorem addFine15 (q : StateL) (h : q.nd = 0) : AddFine newState q c15 :=
  ⟨c15_ok, c15_ops, by decide, by decide, by decide, (fun _ x hx => by
    rcases List.mem_cons.1 hx with rfl | hx
    · exact fine15a
    · rw [List.mem_singleton.1 hx]
      exact fine15b), by decide, (by rw [h]; decide), by decide, (fun x hx => by cases hx), ⟨0, 0, ⟨by decide, fun x hx => by cases hx⟩, by decide, by decide⟩⟩
theorem docsIx15 : DocsIx s15 := fun x hx => by
  rw [List.mem_singleton.1 hx]
  intro r hr
  rw [List.mem_singleton.1 hr]
  exact ⟨by decide, by decide⟩
theorem addFine15d (q : StateL) (h : q.nd ≤ 2) : AddFine s15 q d15 :=
  ⟨d15_ok, d15_ops, by decide, by decide, by decide, (fun _ x hx => by
    rw [List.mem_singleton.1 hx]
    exact fine15d), by decide, (by show q.nd + 1 ≤ _; omega), by decide, docsIx15, ⟨1, 2, ⟨by decide, fun x hx => by rw [List.mem_singleton.1 hx]; decide⟩, by decide, by decide⟩⟩
theorem encC15 : encC c15 = 0 := enc15
theorem encC15d : encC d15 = 0 := enc15d
theorem idC15d : idC d15 = j15 := id15d
theorem find15 : findS t15.2.1 (L aS) = some (1, i15, 0) := by kernel_rfl
def doc15 : List RunD := [((1, i15, 1), [104, 105], false), ((2, j15, 0), [33], false)]
theorem doc15_at : docAt t15 (1, i15, 0) = some doc15 := by kernel_rfl
theorem small15 : SmallD doc15 := by
  refine ⟨by decide, fun r hr => ?_⟩
  rcases List.mem_cons.1 hr with rfl | hr
  · refine ⟨by decide, fun u hu => ?_⟩
    rcases List.mem_cons.1 hu with rfl | hu
    · exact fun w => encode_small 104 (by decide) w
    · rw [List.mem_singleton.1 hu]
      exact fun w => encode_small 105 (by decide) w
  · rw [List.mem_singleton.1 hr]
    refine ⟨by decide, fun u hu => ?_⟩
    rw [List.mem_singleton.1 hu]
    exact fun w => encode_small 33 (by decide) w
theorem ix15 : RunIx doc15 := fun r hr => by
  rcases List.mem_cons.1 hr with rfl | hr
  · exact ⟨by decide, by decide⟩
  · rw [List.mem_singleton.1 hr]
    exact ⟨by decide, by decide⟩
theorem runs15 : RunsOf (fun k => (entryAt t15 k.2.1).isSome = true) doc15 := fun r hr => by
  rcases List.mem_cons.1 hr with rfl | hr
  · exact ⟨by decide +kernel, by decide⟩
  · rw [List.mem_singleton.1 hr]
    exact ⟨by decide +kernel, by decide⟩
theorem pieces15 : piecesR doc15 = [((1, i15, 1), 2, [104, 105]), ((2, j15, 0), 1, [33])] := by decide +kernel
theorem pieceOk15 : ∀ x ∈ piecesR doc15, PieceOk x := fun x hx => by
  rw [pieces15] at hx
  rcases List.mem_cons.1 hx with rfl | hx
  · exact ⟨⟨by decide, i15_ok, by decide⟩, by decide, by decide⟩
  · rw [List.mem_singleton.1 hx]
    exact ⟨⟨by decide, j15_ok, by decide⟩, by decide, by decide⟩
theorem key15 : KeyOk ((findS t15.2.1 (L aS)).getD zeroKd) := by
  rw [find15]
  exact ⟨by decide, i15_ok, by decide⟩
theorem text15 : textAt t15 aS = [104, 105, 33] := by
  unfold textAt
  rw [find15]
  dsimp only
  rw [doc15_at]
  decide +kernel
theorem blame15 : blameAt t15 aS = [(i15, annS, [104, 105]), (j15, bobS, [33])] := by
  unfold blameAt
  rw [find15]
  dsimp only
  rw [doc15_at, Option.getD_some, pieces15]
  decide +kernel
theorem err15 : errAt t15 aS = 0 := by
  unfold errAt
  rw [find15]
theorem claims15 : t15.2.1.length ≤ 90 := by decide
theorem csize15 : ∀ x ∈ t15.2.1, x.2.2.2.size ≤ 1073741824 := fun x hx => by
  rw [List.mem_singleton.1 hx]
  decide
theorem docs15 : ∀ k d, findS t15.2.1 (L aS) = some k → docAt t15 k = some d → SmallD d ∧ RunIx d ∧ RunsOf (fun k => (entryAt t15 k.2.1).isSome = true) d ∧ ∀ x ∈ piecesR d, PieceOk x := fun k d hk hd => by
  rw [find15] at hk
  cases hk
  rw [doc15_at] at hd
  cases hd
  exact ⟨small15, ix15, runs15, pieceOk15⟩
end Go.Proofs.YtdgbjhfkmembdaaGreatDoor
