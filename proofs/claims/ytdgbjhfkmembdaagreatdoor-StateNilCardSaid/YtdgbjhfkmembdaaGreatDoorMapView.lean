/-
  A map that the call made, as a plain function from keys to values: looked up, stored into. Over any program; conditions as each says.
-/
import Derived.Test.YtdgbjhfkmembdaaGreatDoorMem
import Derived.Maps.Own
import Derived.Maps.OwnOps
import Derived.Maps.OwnSet
import Derived.Maps.Views
namespace Go.Proofs.YtdgbjhfkmembdaaGreatDoor
open Go.RowKit Go.Maps
set_option linter.unusedVariables false

/-- Keys of a plain type, as a map's keys. -/
structure KeyEnc (P : Program) (K : TypeId) {κ : Type} (ok : κ → Prop) (val : κ → Value) (kl : κ → Lit) : Prop where
  keyed : Keyed P K
  of : ∀ k, ok k → keyOf P K (val k) = some (kl k)
  inj : ∀ a b, val a = val b → a = b

def Rv (v : Value) : Option (DataW Value × List MemPlace) := some (.held v, [])

/-- A map, and all its keys are such as are meant. -/
def MapK {κ : Type} (ok : κ → Prop) (kl : κ → Lit) (D : DataW Value) : Prop := IsMap D ∧ ∀ l, has D l = true → ∃ k, ok k ∧ l = kl k
/-- Block b is a map of at most n entries that holds just what m says. -/
def MapV (w : World) (P : Program) (K : TypeId) {κ : Type} (ok : κ → Prop) (kl : κ → Lit) (b n : Nat) (m : κ → Option Value) : Prop :=
  ∃ D : DataW Value, w.ownsMap P K Rv b n D ∧ MapK ok kl D ∧ (∀ k, ok k → has D (kl k) = (m k).isSome) ∧ ∀ k v, ok k → m k = some v → ∀ z, D.atKey (kl k) z = .held v

section
variable {P : Program} {K : TypeId} {κ : Type} {ok : κ → Prop} {val : κ → Value} {kl : κ → Lit} {w : World} {b n : Nat} {m : κ → Option Value}

theorem KeyEnc.klInj (E : KeyEnc P K ok val kl) {x y : κ} (hx : ok x) (hy : ok y) (h : kl x = kl y) : x = y :=
  E.inj _ _ (E.keyed.inj (E.of x hx) (by rw [h]; exact E.of y hy))

theorem MapV.made (w : World) (P : Program) (K : TypeId) (ok : κ → Prop) (kl : κ → Lit) : MapV (w.alloc (.map #[] 0)) P K ok kl w.heap.size 0 (fun _ => none) :=
  ⟨.map [], World.ownsMap_made w P K Rv, ⟨isMap_empty, fun l h => by cases h⟩, fun _ _ => rfl, fun _ _ _ h => by cases h⟩
theorem MapV.lt (h : MapV w P K ok kl b n m) : b < w.heap.size := by
  obtain ⟨D, h1, _⟩ := h
  exact h1.lt
theorem MapV.below {w' : World} (h : MapV w P K ok kl b n m) (hb : Below w.heap.size w w') : MapV w' P K ok kl b n m := by
  have hlt := h.lt
  obtain ⟨D, h1, h2⟩ := h
  obtain ⟨es, clock, hbk, F, hs, hD⟩ := h1
  exact ⟨D, ⟨es, clock, (hb.block b hlt).trans hbk, F, hs, hD⟩, h2⟩
theorem MapV.kept {w' : World} {row : Option Nat} (h : MapV w P K ok kl b n m) (hg : w.grownBy w' row) (hne : some b ≠ row) : MapV w' P K ok kl b n m := by
  obtain ⟨D, h1, h2⟩ := h
  exact ⟨D, h1.kept hg hne, h2⟩
theorem MapV.alloc (h : MapV w P K ok kl b n m) (o : Obj) : MapV (w.alloc o) P K ok kl b n m := by
  obtain ⟨D, h1, h2⟩ := h
  exact ⟨D, h1.alloc o, h2⟩
theorem MapV.drew (h : MapV w P K ok kl b n m) : MapV w.drew P K ok kl b n m := by
  obtain ⟨D, h1, h2⟩ := h
  exact ⟨D, h1.drew, h2⟩

theorem put_view {D : DataW Value} (E : KeyEnc P K ok val kl) (hm0 : MapK ok kl D) (h1 : ∀ k, ok k → has D (kl k) = (m k).isSome) (h2 : ∀ k v, ok k → m k = some v → ∀ z, D.atKey (kl k) z = .held v) [DecidableEq κ] {k0 : κ} (hk : ok k0) (v0 : Value) :
    MapK ok kl (D.put (kl k0) (.held v0)) ∧ (∀ k, ok k → has (D.put (kl k0) (.held v0)) (kl k) = (if k = k0 then some v0 else m k).isSome) ∧ ∀ k v, ok k → (if k = k0 then some v0 else m k) = some v → ∀ z, (D.put (kl k0) (.held v0)).atKey (kl k) z = .held v := by
  have hlit := E.keyed.key (E.of k0 hk)
  have hm := hm0.1
  refine ⟨⟨hm.put _ _, fun l hl => ?_⟩, fun k ho => ?_, fun k v ho h z => ?_⟩
  · by_cases e : l = kl k0
    · exact ⟨k0, hk, e⟩
    · rw [has_put_other e] at hl
      exact hm0.2 l hl
  · by_cases e : k = k0
    · subst e
      rw [if_pos rfl, has_put_same hm hlit]; rfl
    · rw [if_neg e, has_put_other (fun he => e (E.klInj ho hk he)), h1 k ho]
  · by_cases e : k = k0
    · subst e
      rw [if_pos rfl] at h
      cases h
      exact atKey_put_same hm hlit _ _
    · rw [if_neg e] at h
      rw [atKey_put_other (fun he => e (E.klInj ho hk he))]
      exact h2 k v ho h z

/-- 'm[k] = v'. -/
theorem wp_mapPut {ops : Array Oper} {rest : List Oper} {o : Oper} {a : Act} {Q : Exit → Act → World → Prop} [DecidableEq κ] (hg : o.guard = none) (mo x v : Operand) (t : TypeId) (hop : o.op = Op.mapUpdate t mo x v)
    (e : TypeId) (E : KeyEnc P K ok val kl) (ht : P.underlying t = some (.map K e)) (hm : a.eval mo = .map (some b)) (hown : MapV w P K ok kl b n m) (hn : n < maxLen) (k0 : κ) (hk : ok k0) (hx : a.eval x = val k0) (v0 : Value) (hv : a.eval v = v0)
    (h : ∀ w', MapV w' P K ok kl b (n + 1) (fun k => if k = k0 then some v0 else m k) → w.grownBy w' (some b) → wpList P ops Q rest (a.put o.dst undef) w') :
    wpList P ops Q (o :: rest) a w := by
  obtain ⟨D, h1, h2, h3, h4⟩ := hown
  refine wpList_mapUpdate_own w hg mo x v t hop K e E.keyed ht Rv b n D hm h1 hn (val k0) v0 (kl k0) hx hv (E.of k0 hk) (.held v0) [] rfl fun w' hw hgr => ?_
  obtain ⟨g1, g2, g3⟩ := put_view E h2 h3 h4 hk v0
  exact h w' ⟨_, hw, g1, g2, g3⟩ hgr
/-- 'v, ok := m[k]'. -/
theorem wp_mapGet2 {ops : Array Oper} {rest : List Oper} {o : Oper} {a : Act} {Q : Exit → Act → World → Prop} (hg : o.guard = none) (mo x : Operand) (t : TypeId) (hop : o.op = Op.lookup t mo x true)
    (e : TypeId) (E : KeyEnc P K ok val kl) (ht : P.underlying t = some (.map K e)) (z : Value) (hz : (zeroValue e).run P w = .ok z w) (hm : a.eval mo = .map (some b)) (hown : MapV w P K ok kl b n m) (k0 : κ) (hk : ok k0) (hx : a.eval x = val k0)
    (h : wpList P ops Q rest (a.put o.dst (.tuple #[(m k0).getD z, .bool (m k0).isSome])) w) :
    wpList P ops Q (o :: rest) a w := by
  obtain ⟨D, h1, h2, h3, h4⟩ := hown
  refine wpList_lookup_own_ok w hg mo x t hop K e E.keyed ht Rv hz (.held z) [] rfl b n D hm h1 (val k0) (kl k0) hx (E.of k0 hk) fun v ps hv => ?_
  rw [h3 k0 hk]
  have hv' : v = (m k0).getD z := by
    have e1 : (DataW.held v : DataW Value) = D.atKey (kl k0) (.held z) := congrArg Prod.fst (Option.some.inj hv)
    rcases hmk : m k0 with _ | u
    · have hh : has D (kl k0) = false := by rw [h3 k0 hk, hmk]; rfl
      rw [atKey_of_not_has hh] at e1
      injection e1
    · rw [h4 k0 u hk hmk] at e1
      injection e1
  rw [hv']; exact h
/-- 'm[k]'. -/
theorem wp_mapGet1 {ops : Array Oper} {rest : List Oper} {o : Oper} {a : Act} {Q : Exit → Act → World → Prop} (hg : o.guard = none) (mo x : Operand) (t : TypeId) (hop : o.op = Op.lookup t mo x false)
    (e : TypeId) (E : KeyEnc P K ok val kl) (ht : P.underlying t = some (.map K e)) (z : Value) (hz : (zeroValue e).run P w = .ok z w) (hm : a.eval mo = .map (some b)) (hown : MapV w P K ok kl b n m) (k0 : κ) (hk : ok k0) (hx : a.eval x = val k0)
    (h : wpList P ops Q rest (a.put o.dst ((m k0).getD z)) w) :
    wpList P ops Q (o :: rest) a w := by
  obtain ⟨D, h1, h2, h3, h4⟩ := hown
  refine wpList_plain hg fun K' hK' => ?_
  obtain ⟨v, ps, hrun, hv⟩ := h1.lookup E.keyed ht hz (zd := .held z) (zp := []) rfl (E.of k0 hk)
  have hv' : v = (m k0).getD z := by
    have e1 : (DataW.held v : DataW Value) = D.atKey (kl k0) (.held z) := congrArg Prod.fst (Option.some.inj hv)
    rcases hmk : m k0 with _ | u
    · have hh : has D (kl k0) = false := by rw [h3 k0 hk, hmk]; rfl
      rw [atKey_of_not_has hh] at e1
      injection e1
    · rw [h4 k0 u hk hmk] at e1
      injection e1
  subst hv'
  unfold Oper.wp
  simp [execOp, hop, hm, hx, hrun, Result.andThen]
  exact hK' _ _ h
end
end Go.Proofs.YtdgbjhfkmembdaaGreatDoor
