/-
  A slice of a slice as one step of a walk, its value named. Over any program; conditions as each says.
-/
import Derived.Test.YtdgbjhfkmembdaaGreatDoorQStep
import Derived.Laws.Slices
namespace Go.Proofs.YtdgbjhfkmembdaaGreatDoor
open Go.RowKit
set_option linter.unusedVariables false

section
variable {P : Program} {ρ : Operand → Value} {o : Oper} {w : World}
theorem sizeOf_run {e : TypeId} {size : Nat} (hs : (P.info? e).map (·.size) = some size) (w : World) : (sizeOf e).run P w = .ok size w := by
  cases hq : P.info? e with
  | none => simp [hq] at hs
  | some i =>
    have : i.size = size := by simpa [hq] using hs
    simp [sizeOf, typeInfo, hq, this]
/-- 'x[l:h]'. -/
theorem ex_slice_lh (t : TypeId) (x lo hi : Operand) (ho : o.op = .slice t x (some lo) (some hi) none) {A : Option Addr} {n c l h : Nat} {kl kh : IntKind} (hx : ρ x = .slice A n c) (hl : ρ lo = .int kl (l : Int)) (hh : ρ hi = .int kh (h : Int))
    (ht : P.underlying t = some (.slice (P.elem t))) {size : Nat} (hs : (P.info? (P.elem t)).map (·.size) = some size) (h1 : l ≤ h) (h2 : h ≤ c) {V : Value} (hV : sliced A l h c size = V) :
    (execOp ρ o).run P w = .ok (.value V) w := by
  subst hV
  have hr := run_slice_lh w t A n c ht kl kh (l : Int) (h : Int) (by omega) (by omega) (by omega)
  rw [sizeOf_run hs] at hr
  simp only [Result.andThen, Int.toNat_natCast] at hr
  have ha := run_sliceAt_slice w t (.slice A n c) (some (.int kl (l : Int))) (some (.int kh (h : Int))) none ht
  rw [hr] at ha
  unfold execOp
  simp only [ho, hx, hl, hh, Option.map_some, Option.map_none, Sem.run_bind, ha, Result.andThen_ok, Sem.run_pure]
/-- 'x[l:]'. -/
theorem ex_slice_l (t : TypeId) (x lo : Operand) (ho : o.op = .slice t x (some lo) none none) {A : Option Addr} {n c l : Nat} {kl : IntKind} (hx : ρ x = .slice A n c) (hl : ρ lo = .int kl (l : Int))
    (ht : P.underlying t = some (.slice (P.elem t))) {size : Nat} (hs : (P.info? (P.elem t)).map (·.size) = some size) (h1 : l ≤ n) {V : Value} (hV : sliced A l n c size = V) :
    (execOp ρ o).run P w = .ok (.value V) w := by
  subst hV
  have hr := run_slice_l w t A n c ht kl (l : Int) (by omega) (by omega)
  rw [sizeOf_run hs] at hr
  simp only [Result.andThen, Int.toNat_natCast] at hr
  have ha := run_sliceAt_slice w t (.slice A n c) (some (.int kl (l : Int))) none none ht
  rw [hr] at ha
  unfold execOp
  simp only [ho, hx, hl, Option.map_some, Option.map_none, Sem.run_bind, ha, Result.andThen_ok, Sem.run_pure]
end
end Go.Proofs.YtdgbjhfkmembdaaGreatDoor
