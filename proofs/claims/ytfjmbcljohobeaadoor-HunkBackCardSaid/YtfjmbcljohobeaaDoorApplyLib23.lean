/-
  strings.Join with nothing between, strings.Contains of one byte, and a builder's WriteString, as hunk.Apply calls them. Conditions: no text of more than 2^47 bytes.
-/
import Derived.Test.YtfjmbcljohobeaaDoorApplySpec23
import Derived.Test.YtfjmbcljohobeaaDoorShelfBk
import Derived.Test.YtfjmbcljohobeaaDoorMerged1
import Derived.Shelf.Strings.BuilderK
namespace Go.Proofs.YtfjmbcljohobeaaDoor
open Go.RowKit Go.Maps Go.Shelf
set_option linter.unusedVariables false
set_option linter.unusedSimpArgs false

/-- A builder stands where nothing that lay has changed. -/
theorem bld_kept {T e : TypeId} {B b : Nat} {bs : List Value} {w w' : World} (h : Lib.IsBuilderF T e B b bs w) (hb : Below w.heap.size w w') : Lib.IsBuilderF T e B b bs w' := by
  have step : ∀ p, Lib.BuilderAtF T e B b p bs w → Lib.BuilderAtF T e B b p bs w' := by
    intro p hp
    have hl := hp.lt
    rcases hp with ⟨a, v, c, d, f⟩
    have hgr : w.grownBy w' none := ⟨hb.os, hb.tape, hb.output, hb.size, fun k hk _ => hb.block k hk⟩
    exact ⟨a, v, by rw [hb.block b hl]; exact c, d.kept hgr (Classical.em _), f⟩
  rcases h with h | h
  · exact .inl (step _ h)
  · exact .inr (step _ h)
theorem write_any (B b : Nat) (l : List UInt8) (s : ByteArray) (w : World) (h : Lib.IsBuilderF 122 5 B b (Lib.byteCells l) w) (hlen : l.length + s.size ≤ 140737488355328) (hBw : B ≤ w.heap.size) :
    Calls Tryd.prog 66 #[.pointer (some ⟨b, 0, none⟩), .string s] w fun e w' => e = .returned (.tuple #[.int .i64 s.size, .nilIface]) ∧ Lib.IsBuilderF 122 5 B b (Lib.byteCells (l ++ L s)) w' ∧ Below B w w' ∧ Lib.OthersKept 5 (some b) w w' :=
  (Any.Builder_WriteString_k (P := Tryd.prog) (ρ := Tryd.lays156_ren) { Tryd.lays156 with } Tryd.Builder_Extra_156 B b (Lib.byteCells l) s w h (by rw [Lib.byteCells_length]; exact hlen) hBw).mono fun e w' ⟨h1, h2, h3, h4⟩ => by
    refine ⟨h1, ?_, h3, h4⟩
    rw [Lib.strCells_eq, ← Lib.byteCells_append] at h2
    exact .inr h2
theorem join_any (g o n c : Nat) (xs : List ByteArray) (w : World) (hn : xs.length = n) (hcells : ∀ j x, xs[j]? = some x → w.cell? ⟨g, o + j, none⟩ = some (.string x)) (hg : g < w.heap.size) (hN : n ≤ 140737488355328) (hcap : n ≤ c) (hlen : (xs.map L).flatten.length ≤ 140737488355328) :
    Calls Tryd.prog 67 #[.slice (some ⟨g, o, none⟩) n c, .string ⟨#[]⟩] w fun e w' => ∃ t : ByteArray, e = .returned (.string t) ∧ L t = (xs.map L).flatten ∧ Below w.heap.size w w' := by
  subst hn
  have h0 : Lib.join (xs.map (·.data.toList)) (⟨#[]⟩ : ByteArray).data.toList = (xs.map L).flatten := join_none _
  refine (Tryd.strings_Join g o c xs ⟨#[]⟩ w hcells hg hN hcap (by rw [h0]; exact hlen)).mono ?_
  rintro e w' ⟨rfl, h2⟩
  rw [h0]
  exact ⟨_, rfl, rfl, h2⟩
theorem contains_any (s : ByteArray) (hs : s.size = 1) (w : World) (h : (L s).headD 0 = 32 ∨ (L s).headD 0 = 45 ∨ (L s).headD 0 = 43) : Calls Tryd.prog 68 #[.string ⟨#[32, 45, 43]⟩, .string s] w fun e w' => e = .returned (.bool true) ∧ w' = w := by
  obtain ⟨c, rfl⟩ : ∃ c, s = ⟨#[c]⟩ := by
    obtain ⟨⟨l⟩⟩ := s
    match l, hs with
    | [c], _ => exact ⟨c, rfl⟩
  refine (Tryd.strings_Contains_one _ c w).mono ?_
  rintro e w' ⟨rfl, rfl⟩
  refine ⟨?_, rfl⟩
  have h2 : c = 32 ∨ c = 45 ∨ c = 43 := h
  rcases h2 with rfl | rfl | rfl <;> rfl
end Go.Proofs.YtfjmbcljohobeaaDoor
