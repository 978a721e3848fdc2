/-
  Look-ups in a map of held values, at steps taken by hand. Over any program; conditions as each says.
-/
import Derived.Test.YtdgbjhfkmembdaaGreatDoorMapView
namespace Go.Proofs.YtdgbjhfkmembdaaGreatDoor
open Go.RowKit Go.Maps
set_option linter.unusedVariables false

section
variable {P : Program} {K : TypeId} {κ : Type} {ok : κ → Prop} {val : κ → Value} {kl : κ → Lit} {w : World} {b n : Nat} {m : κ → Option Value} {ρ : Operand → Value} {o : Oper}
theorem ex_mapGet1 {mo x : Operand} {t : TypeId} {e : TypeId} (E : KeyEnc P K ok val kl) (ht : P.underlying t = some (.map K e)) {z : Value} (hz : (zeroValue e).run P w = .ok z w) (hown : MapV w P K ok kl b n m) {k0 : κ} (hk : ok k0) {V : Value} (hV : (m k0).getD z = V)
    (hop : o.op = Op.lookup t mo x false := by rfl) (hm : ρ mo = .map (some b) := by rfl) (hx : ρ x = val k0 := by rfl) : (execOp ρ o).run P w = .ok (.value V) w := by
  subst hV
  obtain ⟨D, h1, h2, h3, h4⟩ := hown
  obtain ⟨v, ps, hrun, hv⟩ := h1.lookup E.keyed ht hz (zd := .held z) (zp := []) rfl (E.of k0 hk)
  have hv' : v = (m k0).getD z := by
    have e1 : (DataW.held v : DataW Value) = D.atKey (kl k0) (.held z) := congrArg Prod.fst (Option.some.inj hv)
    rcases hmk : m k0 with _ | u
    · have hh : has D (kl k0) = false := by rw [h3 k0 hk, hmk]; rfl
      rw [atKey_of_not_has hh] at e1
      injection e1
    · rw [h4 k0 u hk hmk] at e1
      injection e1
  subst hv'
  unfold execOp
  simp [hop, hm, hx, hrun, Result.andThen]
theorem ex_mapGet2 {mo x : Operand} {t : TypeId} {e : TypeId} (E : KeyEnc P K ok val kl) (ht : P.underlying t = some (.map K e)) {z : Value} (hz : (zeroValue e).run P w = .ok z w) (hown : MapV w P K ok kl b n m) {k0 : κ} (hk : ok k0) {V : Value} (hV : .tuple #[(m k0).getD z, .bool (m k0).isSome] = V)
    (hop : o.op = Op.lookup t mo x true := by rfl) (hm : ρ mo = .map (some b) := by rfl) (hx : ρ x = val k0 := by rfl) : (execOp ρ o).run P w = .ok (.value V) w := by
  subst hV
  obtain ⟨D, h1, h2, h3, h4⟩ := hown
  obtain ⟨v, ps, hrun, hv⟩ := h1.look_ok E.keyed ht hz (zd := .held z) (zp := []) rfl (E.of k0 hk)
  have hv' : v = (m k0).getD z := by
    have e1 : (DataW.held v : DataW Value) = D.atKey (kl k0) (.held z) := congrArg Prod.fst (Option.some.inj hv)
    rcases hmk : m k0 with _ | u
    · have hh : has D (kl k0) = false := by rw [h3 k0 hk, hmk]; rfl
      rw [atKey_of_not_has hh] at e1
      injection e1
    · rw [h4 k0 u hk hmk] at e1
      injection e1
  subst hv'
  rw [h3 k0 hk] at hrun
  unfold execOp
  simp [hop, hm, hx, hrun, Result.andThen]
end
end Go.Proofs.YtdgbjhfkmembdaaGreatDoor
