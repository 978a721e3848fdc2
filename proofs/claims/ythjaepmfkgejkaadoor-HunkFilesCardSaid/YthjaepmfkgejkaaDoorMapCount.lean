/-
  A map that the call made, with how many entries it has. Over any program; conditions as each says.
-/
import Derived.Test.YthjaepmfkgejkaaDoorMerged2
namespace Go.Proofs.YthjaepmfkgejkaaDoor
open Go.RowKit Go.Maps
set_option linter.unusedVariables false

/-- Block b is a map of c entries that holds just what m says. -/
def MapC (w : World) (P : Program) (K : TypeId) {κ : Type} (ok : κ → Prop) (kl : κ → Lit) (b c : Nat) (m : κ → Option Value) : Prop :=
  ∃ D : DataW Value, w.ownsMap P K Rv b c D ∧ MapK ok kl D ∧ (∀ k, ok k → has D (kl k) = (m k).isSome) ∧ (∀ k v, ok k → m k = some v → ∀ z, D.atKey (kl k) z = .held v) ∧ Tidy D ∧ Maps.size D = c
section
variable {P : Program} {K : TypeId} {κ : Type} {ok : κ → Prop} {val : κ → Value} {kl : κ → Lit} {w : World} {b c : Nat} {m : κ → Option Value}
theorem MapC.made (w : World) (P : Program) (K : TypeId) (ok : κ → Prop) (kl : κ → Lit) : MapC (w.alloc (.map #[] 0)) P K ok kl w.heap.size 0 (fun _ => none) :=
  ⟨.map [], World.ownsMap_made w P K Rv, ⟨isMap_empty, fun l h => by cases h⟩, fun _ _ => rfl, (fun _ _ _ h => by cases h), tidy_empty, rfl⟩
theorem MapC.view (h : MapC w P K ok kl b c m) : MapV w P K ok kl b c m := by
  obtain ⟨D, h1, h2, h3, h4, _⟩ := h
  exact ⟨D, h1, h2, h3, h4⟩
theorem MapC.below {w' : World} (h : MapC w P K ok kl b c m) (hb : Below w.heap.size w w') : MapC w' P K ok kl b c m := by
  have hlt := h.view.lt
  obtain ⟨D, ⟨es, clock, hbk, F, hs, hD⟩, h2⟩ := h
  exact ⟨D, ⟨es, clock, (hb.block b hlt).trans hbk, F, hs, hD⟩, h2⟩
theorem MapC.kept {w' : World} {row : Option Nat} (h : MapC w P K ok kl b c m) (hg : w.grownBy w' row) (hne : some b ≠ row) : MapC w' P K ok kl b c m := by
  obtain ⟨D, h1, h2⟩ := h
  exact ⟨D, h1.kept hg hne, h2⟩
/-- 'm[k] = v' at a key that is not there yet. -/
theorem wp_mapPutC {ops : Array Oper} {rest : List Oper} {o : Oper} {a : Act} {Q : Exit → Act → World → Prop} [DecidableEq κ] (hg : o.guard = none) (mo x v : Operand) (t : TypeId) (hop : o.op = Op.mapUpdate t mo x v)
    (e : TypeId) (E : KeyEnc P K ok val kl) (ht : P.underlying t = some (.map K e)) (hm : a.eval mo = .map (some b)) (hown : MapC w P K ok kl b c m) (hn : c < maxLen) (k0 : κ) (hk : ok k0) (hk0 : m k0 = none) (hx : a.eval x = val k0) (v0 : Value) (hv : a.eval v = v0)
    (h : ∀ w', MapC w' P K ok kl b (c + 1) (fun k => if k = k0 then some v0 else m k) → w.grownBy w' (some b) → wpList P ops Q rest (a.put o.dst undef) w') :
    wpList P ops Q (o :: rest) a w := by
  obtain ⟨D, h1, h2, h3, h4, h5, h6⟩ := hown
  refine wpList_mapUpdate_own w hg mo x v t hop K e E.keyed ht Rv b c D hm h1 hn (val k0) v0 (kl k0) hx hv (E.of k0 hk) (.held v0) [] rfl fun w' hw hgr => ?_
  obtain ⟨g1, g2, g3⟩ := put_view E h2 h3 h4 hk v0
  have hh : has D (kl k0) = false := by rw [h3 k0 hk, hk0]; rfl
  refine h w' ⟨_, hw, g1, g2, g3, h5.put (E.keyed.key (E.of k0 hk)) _, ?_⟩ hgr
  rw [size_put h5, hh, h6]
  rfl
/-- 'len(m)'. -/
theorem wp_mapLen {ops : Array Oper} {rest : List Oper} {o : Oper} {a : Act} {Q : Exit → Act → World → Prop} (hg : o.guard = none) (mo : Operand) (t : TypeId) (hop : o.op = Op.call { callee := Callee.builtin Builtin.len, args := #[mo], argTypes := #[t] })
    (e : TypeId) (ht : P.underlying t = some (.map K e)) (hm : a.eval mo = .map (some b)) (hown : MapC w P K ok kl b c m) (h : wpList P ops Q rest (a.put o.dst (.int .i64 (c : Int))) w) : wpList P ops Q (o :: rest) a w := by
  obtain ⟨D, h1, h2, h3, h4, h5, h6⟩ := hown
  refine wpList_len_own w hg mo t hop K e ht Rv b c D hm h1 ?_
  rw [h6]
  exact h
end
end Go.Proofs.YthjaepmfkgejkaaDoor
