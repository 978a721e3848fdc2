/-
  Lists of ids: their cells, whether they are a set, where an id stands in one. No conditions; no program.
-/
import Derived.Test.YtdgbjhfkmembdaaGreatDoorIdCells
import Derived.StillTailTactics
namespace Go.Proofs.YtdgbjhfkmembdaaGreatDoor
open Go.RowKit
set_option linter.unusedVariables false

def idsV (l : List (List UInt8)) : List Value := l.flatMap idV
def IdsOk (l : List (List UInt8)) : Prop := ∀ i ∈ l, IdOk i
theorem IdsOk.tail {a : List UInt8} {l : List (List UInt8)} (h : IdsOk (a :: l)) : IdsOk l := fun i hi => h i (by simp [hi])
theorem IdsOk.sub {a b : List (List UInt8)} (h : IdsOk b) (hs : ∀ i ∈ a, i ∈ b) : IdsOk a := fun i hi => h i (hs i hi)
theorem IdsOk.app {a b : List (List UInt8)} (ha : IdsOk a) (hb : IdsOk b) : IdsOk (a ++ b) := fun i hi => (List.mem_append.1 hi).elim (ha i) (hb i)
theorem idsV_length : ∀ {l : List (List UInt8)}, IdsOk l → (idsV l).length = l.length * 32
  | [], _ => rfl
  | a :: l, h => by
    have h1 : (idV a).length = 32 := by rw [idV_length]; exact h a (by simp)
    have h2 := idsV_length h.tail
    simp only [idsV, List.flatMap_cons, List.length_append, List.length_cons] at h2 ⊢
    rw [h1, h2]; omega
theorem idsV_app (a b : List (List UInt8)) : idsV (a ++ b) = idsV a ++ idsV b := by simp [idsV]
theorem idsV_one (l : List (List UInt8)) : ∀ u ∈ idsV l, u.oneCell' = true := by
  intro u hu
  obtain ⟨a, _, ha⟩ := List.mem_flatMap.1 hu
  exact idV_one a u ha
theorem idsV_get : ∀ {l : List (List UInt8)}, IdsOk l → ∀ (i : Nat) (h : i < l.length) (j : Nat) (u : Value), (idV l[i])[j]? = some u → (idsV l)[i * 32 + j]? = some u
  | [], _, _, h, _, _, _ => by cases h
  | a :: l, ho, 0, _, j, u, hj => by
    have h1 : (idV a).length = 32 := by rw [idV_length]; exact ho a (by simp)
    have hlt := (List.getElem?_eq_some_iff.1 hj).1
    simp only [idsV, List.flatMap_cons, Nat.zero_mul, Nat.zero_add]
    rw [List.getElem?_append_left (by simpa using hlt)]
    exact hj
  | a :: l, ho, i + 1, h, j, u, hj => by
    have h1 : (idV a).length = 32 := by rw [idV_length]; exact ho a (by simp)
    have := idsV_get ho.tail i (by simpa using h) j u (by simpa using hj)
    simp only [idsV, List.flatMap_cons] at this ⊢
    rw [List.getElem?_append_right (by omega), h1, show (i + 1) * 32 + j - 32 = i * 32 + j by omega]
    exact this

theorem Sl.id {w : World} {B b off : Nat} {l : List (List UInt8)} (ho : IdsOk l) (h : ∀ j u, (idsV l)[j]? = some u → w.cell? ⟨b, off + j, none⟩ = some u) {i : Nat} (hi : i < l.length) : ∀ j u, (idV l[i])[j]? = some u → w.cell? ⟨b, off + i * 32 + j, none⟩ = some u := by
  intro j u hj
  rw [Nat.add_assoc]
  exact h _ _ (idsV_get ho i hi j u hj)

/-- Do ids rise strictly? -/
def isSetB : List (List UInt8) → Bool
  | a :: b :: r => decide (cmpB a b < 0) && isSetB (b :: r)
  | _ => true
theorem isSetB_iff : ∀ {l : List (List UInt8)}, isSetB l = true ↔ ∀ i (h : i + 1 < l.length), cmpB (l[i]'(by omega)) l[i + 1] < 0
  | [] => by simp [isSetB]
  | [a] => by simp [isSetB]
  | a :: b :: r => by
    rw [isSetB, Bool.and_eq_true, decide_eq_true_eq, isSetB_iff (l := b :: r)]
    constructor
    · rintro ⟨h1, h2⟩ i hi
      cases i with
      | zero => exact h1
      | succ i => exact h2 i (by simpa using hi)
    · intro h
      exact ⟨h 0 (by simp), fun i hi => h (i + 1) (by simpa using hi)⟩
theorem isSetB_pair {l : List (List UInt8)} (h : isSetB l = true) : l.Pairwise fun a b => cmpB a b < 0 := by
  induction l with
  | nil => exact List.Pairwise.nil
  | cons a l ih =>
    rw [List.pairwise_cons]
    have ht : isSetB l = true := by
      cases l with
      | nil => rfl
      | cons b r => rw [isSetB, Bool.and_eq_true] at h; exact h.2
    refine ⟨?_, ih ht⟩
    intro x hx
    cases l with
    | nil => cases hx
    | cons b r =>
      rw [isSetB, Bool.and_eq_true, decide_eq_true_eq] at h
      rcases List.mem_cons.1 hx with rfl | hx
      · exact h.1
      · exact cmpB_trans h.1 ((List.pairwise_cons.1 (ih ht)).1 x hx)
theorem isSetB_of_pair {l : List (List UInt8)} (h : l.Pairwise fun a b => cmpB a b < 0) : isSetB l = true := by
  rw [isSetB_iff]
  intro i hi
  exact (List.pairwise_iff_getElem.1 h) i (i + 1) (by omega) hi (by omega)

/-- A load of several cells, in a region that draws. -/
theorem wpStill_loadN {P : Program} {ops : Array Oper} {rest : List Oper} {o : Oper} {a : Act} {w : World} {Q : Act → Prop} (hw : Region.wanted o (yielded ops a.tmps) = true) (ty : TypeId) (x : Operand) (ho : o.op = .load ty x)
    (b off : Nat) (hx : a.eval x = .pointer (some ⟨b, off, none⟩)) (cs : List Value) (d : TypeDesc) (hc : ∀ j u, cs[j]? = some u → w.cell? ⟨b, off + j, none⟩ = some u)
    (hu : P.underlying ty = some d) (hd : (match d with | .struct _ | .array _ _ => true | _ => false) = true) (hi : (P.info? ty).map (·.size) = some cs.length)
    (h : wpStill P ops w Q rest (a.put o.dst (.agg cs.toArray))) : wpStill P ops w Q (o :: rest) a := by
  unfold wpStill
  rw [if_pos hw]
  unfold Oper.still execOp
  simp only [ho, hx, Instr.loadAt, Instr.sureAddr, Sem.run_bind, Sem.run_pure, Result.andThen_ok, run_loadN w b off ty cs d hc hu hd hi]
  exact ⟨rfl, h⟩
end Go.Proofs.YtdgbjhfkmembdaaGreatDoor
