/-
  'x[:h]' as one step of a walk; what a part of a slice reads as. Over any program; conditions as each says.
-/
import Derived.Test.YtdgbjhfkmembdaaGreatDoorSliceOp
import Derived.Test.YtdgbjhfkmembdaaGreatDoorMem
import Derived.Test.YtdgbjhfkmembdaaGreatDoorIdsSpec
namespace Go.Proofs.YtdgbjhfkmembdaaGreatDoor
open Go.RowKit
set_option linter.unusedVariables false

section
variable {P : Program} {ρ : Operand → Value} {o : Oper} {w : World}
/-- 'x[:h]'. -/
theorem ex_slice_h (t : TypeId) (x hi : Operand) (ho : o.op = .slice t x none (some hi) none) {A : Option Addr} {n c h : Nat} {kh : IntKind} (hx : ρ x = .slice A n c) (hh : ρ hi = .int kh (h : Int))
    (ht : P.underlying t = some (.slice (P.elem t))) {size : Nat} (hs : (P.info? (P.elem t)).map (·.size) = some size) (h2 : h ≤ c) {V : Value} (hV : sliced A 0 h c size = V) :
    (execOp ρ o).run P w = .ok (.value V) w := by
  subst hV
  have hr := run_slice_h w t A n c ht kh (h : Int) (by omega) (by omega)
  rw [sizeOf_run hs] at hr
  simp only [Result.andThen, Int.toNat_natCast] at hr
  have ha := run_sliceAt_slice w t (.slice A n c) none (some (.int kh (h : Int))) none ht
  rw [hr] at ha
  unfold execOp
  simp only [ho, hx, hh, Option.map_some, Option.map_none, Sem.run_bind, ha, Result.andThen_ok, Sem.run_pure]
end
section
variable {w : World} {B n c sz : Nat} {A : Option Addr} {xs : List Value}
theorem Sl.slice_h (h : Sl w B A n sz xs) {m : Nat} (hm : m ≤ n) : ∃ A', sliced A 0 m c sz = .slice A' m c ∧ Sl w B A' m sz (xs.take (m * sz)) := by
  refine ⟨_, by unfold sliced; rw [Nat.sub_zero, Nat.sub_zero], ?_, fun hp => ?_⟩
  · rw [List.length_take, h.1]
    exact Nat.min_eq_left (Nat.mul_le_mul_right _ hm)
  · obtain ⟨b, off, rfl, hb, hc⟩ := h.2 (by omega)
    refine ⟨b, off, ?_, hb, fun j u hj => ?_⟩
    · split
      · rfl
      · simp [Addr.add]
    · rw [List.getElem?_take] at hj
      split at hj
      · exact hc j u hj
      · cases hj
theorem Sl.slice_l (h : Sl w B A n sz xs) {l : Nat} (hl : l ≤ n) (hc : n ≤ c) : ∃ A', sliced A l n c sz = .slice A' (n - l) (c - l) ∧ Sl w B A' (n - l) sz (xs.drop (l * sz)) := by
  refine ⟨_, rfl, ?_, fun hp => ?_⟩
  · rw [List.length_drop, h.1, Nat.sub_mul]
  · obtain ⟨b, off, rfl, hb, hcl⟩ := h.2 (by omega)
    refine ⟨b, off + l * sz, ?_, hb, fun j u hj => ?_⟩
    · rw [if_neg (by omega)]
      simp [Addr.add]
    · rw [List.getElem?_drop] at hj
      rw [Nat.add_assoc]
      exact hcl _ u hj
end
theorem idsV_take : ∀ {l : List (List UInt8)}, IdsOk l → ∀ k, (idsV l).take (k * 32) = idsV (l.take k)
  | [], _, k => by simp [idsV]
  | a :: l, h, 0 => by simp [idsV]
  | a :: l, h, k + 1 => by
    have h1 : (idV a).length = 32 := by rw [idV_length]; exact h a (by simp)
    have h2 := idsV_take h.tail k
    simp only [idsV, List.flatMap_cons, List.take_succ_cons] at h2 ⊢
    rw [show (k + 1) * 32 = (idV a).length + k * 32 by rw [h1]; omega, List.take_length_add_append, h2]
theorem idsV_drop : ∀ {l : List (List UInt8)}, IdsOk l → ∀ k, (idsV l).drop (k * 32) = idsV (l.drop k)
  | [], _, k => by simp [idsV]
  | a :: l, h, 0 => by simp [idsV]
  | a :: l, h, k + 1 => by
    have h1 : (idV a).length = 32 := by rw [idV_length]; exact h a (by simp)
    have h2 := idsV_drop h.tail k
    simp only [idsV, List.flatMap_cons, List.drop_succ_cons] at h2 ⊢
    rw [show (k + 1) * 32 = (idV a).length + k * 32 by rw [h1]; omega, List.drop_length_add_append, h2]
/-- A part of a slice of ids, from its beginning. -/
theorem ids_slice_h {w : World} {B c : Nat} {A : Option Addr} {l : List (List UInt8)} (ho : IdsOk l) (h : Sl w B A l.length 32 (idsV l)) {m : Nat} (hm : m ≤ l.length) : ∃ A', sliced A 0 m c 32 = .slice A' m c ∧ Sl w B A' m 32 (idsV (l.take m)) := by
  obtain ⟨A', h1, h2⟩ := Sl.slice_h (c := c) h hm
  exact ⟨A', h1, by rw [← idsV_take ho]; exact h2⟩
/-- And up to its end. -/
theorem ids_slice_l {w : World} {B c : Nat} {A : Option Addr} {l : List (List UInt8)} (ho : IdsOk l) (h : Sl w B A l.length 32 (idsV l)) {m : Nat} (hm : m ≤ l.length) (hc : l.length ≤ c) : ∃ A', sliced A m l.length c 32 = .slice A' (l.length - m) (c - m) ∧ Sl w B A' (l.length - m) 32 (idsV (l.drop m)) := by
  obtain ⟨A', h1, h2⟩ := Sl.slice_l (c := c) h hm hc
  exact ⟨A', h1, by rw [← idsV_drop ho]; exact h2⟩
end Go.Proofs.YtdgbjhfkmembdaaGreatDoor
