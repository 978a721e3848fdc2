/-
  Claims and named documents of the register as cells: read from what came in, compared cell by cell, put together. Conditions: the values are well formed, as each says.
-/
import Derived.Test.YtdgbjhfkmembdaaGreatDoorKeyCells
import Derived.Test.YtdgbjhfkmembdaaGreatDoorRowList
import Derived.Test.YtdgbjhfkmembdaaGreatDoorBuild
import Derived.Test.YtdgbjhfkmembdaaGreatDoorRegSpec
namespace Go.Proofs.YtdgbjhfkmembdaaGreatDoor
open Go.RowKit
set_option linter.unusedVariables false

def claimV (c : ClaimD) : List Value := keyV c.1 ++ (keyV c.2.1 ++ ([.int .u8 (c.2.2.1 : Int)] ++ [.string c.2.2.2]))
def ClaimOk (c : ClaimD) : Prop := KeyOk c.1 ∧ KeyOk c.2.1 ∧ c.2.2.1 < 256 ∧ c.2.2.2.size ≤ maxLen
theorem claimV_length {c : ClaimD} (h : ClaimOk c) : (claimV c).length = 70 := by
  simp [claimV, keyV_length h.1, keyV_length h.2.1]
theorem claimV_one (c : ClaimD) : ∀ u ∈ claimV c, u.oneCell' = true := by
  intro u hu
  simp only [claimV, List.mem_append, List.mem_singleton] at hu
  rcases hu with hu | hu | rfl | rfl
  · exact keyV_one _ u hu
  · exact keyV_one _ u hu
  · rfl
  · rfl
theorem keyV_length' (a b : KeyD) (h : IdOk a.2.1) (h' : IdOk b.2.1) : (keyV a).length = (keyV b).length := by
  unfold IdOk at h h'
  simp [keyV, idV, h, h']
theorem claimV_inj {a b : ClaimD} (ha : ClaimOk a) (hb : ClaimOk b) (h : claimV a = claimV b) : a = b := by
  unfold claimV at h
  obtain ⟨h1, h2⟩ := List.append_inj h (by rw [keyV_length ha.1, keyV_length hb.1])
  obtain ⟨h3, h4⟩ := List.append_inj h2 (by rw [keyV_length ha.2.1, keyV_length hb.2.1])
  simp only [List.cons_append, List.nil_append, List.cons.injEq, Value.int.injEq, Value.string.injEq, true_and, and_true] at h4
  exact Prod.ext (keyV_inj h1) (Prod.ext (keyV_inj h3) (Prod.ext (by omega) h4.2))
theorem claim_cell {c : ClaimD} (h : ClaimOk c) : (claimV c)[68]? = some (.int .u8 (c.2.2.1 : Int)) ∧ (claimV c)[69]? = some (.string c.2.2.2) := by
  have h1 := keyV_length h.1
  have h2 := keyV_length h.2.1
  constructor
  · unfold claimV
    rw [List.getElem?_append_right (by omega), List.getElem?_append_right (by omega), h1, h2]; rfl
  · unfold claimV
    rw [List.getElem?_append_right (by omega), List.getElem?_append_right (by omega), h1, h2]; rfl
theorem claim_key {c : ClaimD} (h : ClaimOk c) : ∀ j u, (keyV c.1)[j]? = some u → (claimV c)[0 + j]? = some u := by
  intro j u hj
  unfold claimV
  rw [Nat.zero_add, List.getElem?_append_left (List.getElem?_eq_some_iff.1 hj).1]
  exact hj
theorem claim_doc {c : ClaimD} (h : ClaimOk c) : ∀ j u, (keyV c.2.1)[j]? = some u → (claimV c)[34 + j]? = some u := by
  intro j u hj
  have h1 := keyV_length h.1
  unfold claimV
  rw [List.getElem?_append_right (by omega), h1, show 34 + j - 34 = j by omega, List.getElem?_append_left (List.getElem?_eq_some_iff.1 hj).1]
  exact hj

/-- A document and its path. -/
abbrev NamedD := KeyD × ByteArray
def namedV (n : NamedD) : List Value := keyV n.1 ++ [.string n.2]
def NamedOk (n : NamedD) : Prop := KeyOk n.1 ∧ n.2.size ≤ maxLen
theorem namedV_length {n : NamedD} (h : NamedOk n) : (namedV n).length = 35 := by
  simp [namedV, keyV_length h.1]
theorem namedV_one (n : NamedD) : ∀ u ∈ namedV n, u.oneCell' = true := by
  intro u hu
  simp only [namedV, List.mem_append, List.mem_singleton] at hu
  rcases hu with hu | rfl
  · exact keyV_one _ u hu
  · rfl
theorem namedV_inj {a b : NamedD} (ha : NamedOk a) (hb : NamedOk b) (h : namedV a = namedV b) : a = b := by
  unfold namedV at h
  obtain ⟨h1, h2⟩ := List.append_inj h (by rw [keyV_length ha.1, keyV_length hb.1])
  simp only [List.cons.injEq, Value.string.injEq, and_true] at h2
  exact Prod.ext (keyV_inj h1) h2
theorem named_cell {n : NamedD} (h : NamedOk n) : (namedV n)[34]? = some (.string n.2) := by
  have h1 := keyV_length h.1
  unfold namedV
  rw [List.getElem?_append_right (by omega), h1]; rfl
theorem named_doc {n : NamedD} (h : NamedOk n) : ∀ j u, (keyV n.1)[j]? = some u → (namedV n)[0 + j]? = some u := by
  intro j u hj
  unfold namedV
  rw [Nat.zero_add, List.getElem?_append_left (List.getElem?_eq_some_iff.1 hj).1]
  exact hj

section
variable {H : Type} {enc : TypeId × Value → H} {w : World} {base : Nat} {spare : Nat → Bool} {held : Bool} {fuel : Nat} {cs : List Value} {x : DataW H × List MemPlace}
theorem trodId (h : DataW.trod enc Tryz.prog w base spare held fuel 41 cs = some x) : ∃ l : List UInt8, IdOk l ∧ cs = idV l :=
  trod_id Tryz.underlying41 Tryz.underlying5 cellsU8 cellsId h
theorem trodKey (h : DataW.trod enc Tryz.prog w base spare held fuel 89 cs = some x) : ∃ k : KeyD, KeyOk k ∧ cs = keyV k :=
  trod_key Tryz.underlying89 ⟨rfl, rfl⟩ ⟨rfl, rfl⟩ ⟨rfl, rfl⟩ Tryz.underlying3 Tryz.underlying41 Tryz.underlying5 cellsInt cellsId cellsU8 cellsKey h
theorem trod_claim {t : TypeId} {f0 f1 f2 f3 : Field} (ht : Tryz.prog.underlying t = some (.struct #[f0, f1, f2, f3])) (h0 : f0.type = 89 ∧ f0.offset = 0) (h1 : f1.type = 89 ∧ f1.offset = 34) (h2 : f2.type = 5 ∧ f2.offset = 68) (h3 : f3.type = 9 ∧ f3.offset = 69)
    (ct : Tryz.prog.cellsOf t = 70) (h : DataW.trod enc Tryz.prog w base spare held fuel t cs = some x) : ∃ c : ClaimD, ClaimOk c ∧ cs = claimV c := by
  obtain ⟨xs, n, _, _, hlen, hxl, hf⟩ := DataW.trod_struct ht h
  rw [ct] at hlen
  have hxl' : xs.length = 4 := hxl
  have g0 := hf 0 f0 rfl
  have g1 := hf 1 f1 rfl
  have g2 := hf 2 f2 rfl
  have g3 := hf 3 f3 rfl
  rw [h0.1, h0.2, cellsKey, List.getElem?_eq_getElem (by omega)] at g0
  rw [h1.1, h1.2, cellsKey, List.getElem?_eq_getElem (by omega)] at g1
  rw [h2.1, h2.2, cellsU8, List.getElem?_eq_getElem (by omega)] at g2
  rw [h3.1, h3.2, cellsStr, List.getElem?_eq_getElem (by omega)] at g3
  obtain ⟨k, hk, e0⟩ := trodKey g0
  obtain ⟨d, hd, e1⟩ := trodKey g1
  obtain ⟨n2, e2, _, w2⟩ := DataW.trod_int Tryz.underlying5 g2
  obtain ⟨s, e3, _, hs⟩ := DataW.trod_string Tryz.underlying9 g3
  have hr := bounds_u8 w2
  refine ⟨(k, d, n2.toNat, s), ⟨hk, hd, by simp; omega, hs⟩, ?_⟩
  have hsplit : cs = (cs.drop 0).take 34 ++ ((cs.drop 34).take 34 ++ ((cs.drop 68).take 1 ++ (cs.drop 69).take 1)) := by
    have a1 : (cs.drop 69).take 1 = cs.drop 69 := List.take_of_length_le (by simp; omega)
    rw [a1, show cs.drop 69 = (cs.drop 68).drop 1 by rw [List.drop_drop], List.take_append_drop, show cs.drop 68 = (cs.drop 34).drop 34 by rw [List.drop_drop], List.take_append_drop, List.drop_zero, List.take_append_drop]
  rw [hsplit, e0, e1, e2, e3]
  unfold claimV
  rw [show ((n2.toNat : Nat) : Int) = n2 by omega]
end
theorem kbClaim {t : TypeId} {f0 f1 f2 f3 : Field} (ht : Tryz.prog.underlying t = some (.struct #[f0, f1, f2, f3])) (h0 : f0.type = 89 ∧ f0.offset = 0) (h1 : f1.type = 89 ∧ f1.offset = 34) (h2 : f2.type = 5 ∧ f2.offset = 68) (h3 : f3.type = 9 ∧ f3.offset = 69)
    (ct : Tryz.prog.cellsOf t = 70) (hn : (#[f0, f1, f2, f3] : Array Field).all (·.name != "_") = true) {c : ClaimD} (hc : ClaimOk c) : Kb Tryz.prog 4 t (claimV c) := by
  have l0 := keyV_length hc.1
  have l1 := keyV_length hc.2.1
  refine kb_struct ht (by rw [claimV_length hc, ct]) hn fun f hf => ?_
  simp only [List.mem_cons, List.not_mem_nil, or_false] at hf
  rcases hf with rfl | rfl | rfl | rfl
  · rw [h0.1, h0.2, cellsKey, List.drop_zero, show (claimV c).take 34 = keyV c.1 by unfold claimV; rw [← l0, List.take_left']; rfl]
    exact kbKey hc.1
  · rw [h1.1, h1.2, cellsKey, show ((claimV c).drop 34).take 34 = keyV c.2.1 from cut_mid l0 l1]
    exact kbKey hc.2.1
  · rw [h2.1, h2.2, cellsU8, show ((claimV c).drop 68).take 1 = [.int .u8 (c.2.2.1 : Int)] by
      unfold claimV
      rw [← List.append_assoc]
      exact cut_mid (by simp [l0, l1]) rfl]
    refine fun d hd => kb_int Tryz.underlying5 ?_ d (by omega)
    have := hc.2.2.1
    simp only [Lit.wf, IntKind.min, IntKind.max, IntKind.signed, IntKind.bits, Bool.and_eq_true]
    simp
    omega
  · rw [h3.1, h3.2, cellsStr, show ((claimV c).drop 69).take 1 = [.string c.2.2.2] by
      unfold claimV
      rw [← List.append_assoc, ← List.append_assoc]
      exact cut_end (by simp [l0, l1]) rfl]
    exact fun d hd => kb_str Tryz.underlying9 hc.2.2.2 d (by omega)
end Go.Proofs.YtdgbjhfkmembdaaGreatDoor
