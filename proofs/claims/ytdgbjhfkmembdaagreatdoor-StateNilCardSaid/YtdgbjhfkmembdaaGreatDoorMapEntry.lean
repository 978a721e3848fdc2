/-
  'm[k] op= x' as the model has it: the entry, then the store, over the view of a map. Over any program; conditions as each says. 
-/
import Derived.Test.YtdgbjhfkmembdaaGreatDoorMapView
import Derived.Test.YtdgbjhfkmembdaaGreatDoorQStep
import Derived.WideKeyEntry
namespace Go.Proofs.YtdgbjhfkmembdaaGreatDoor
open Go.RowKit Go.Maps
set_option linter.unusedVariables false

section
variable {P : Program} {K : TypeId} {κ : Type} {ok : κ → Prop} {val : κ → Value} {kl : κ → Lit} {w : World} {b n : Nat} {m : κ → Option Value}
theorem EqT.law {t : TypeId} {d : Nat} (E : EqT P t d) : WideMaps.KeyLaw P t := deep_law_laid E.laid (m := P.types.size + 1) E.few E.row E.key E.wide

theorem MapV.update {t e : TypeId} [DecidableEq κ] (E : KeyEnc P K ok val kl) (ht : P.underlying t = some (.map K e)) (h : MapV w P K ok kl b n m) (hn : n < maxLen) {k0 : κ} (hk : ok k0) (v0 : Value) :
    ∃ w', (Instr.mapUpdate t (.map (some b)) (val k0) v0).run P w = .ok () w' ∧ MapV w' P K ok kl b (n + 1) (fun k => if k = k0 then some v0 else m k) ∧ w.grownBy w' (some b) := by
  obtain ⟨D, h1, h2, h3, h4⟩ := h
  obtain ⟨w', hrun, ho, hg⟩ := h1.update E.keyed ht hn (val := v0) (d := .held v0) (ps := []) (E.of k0 hk) rfl
  obtain ⟨g1, g2, g3⟩ := put_view E h2 h3 h4 hk v0
  exact ⟨w', hrun, ⟨_, ho, g1, g2, g3⟩, hg⟩
theorem setBlock_same {w : World} {b : Nat} {o : Obj} (h : w.heap[b]? = some o) : Go.ChangeMaps.setBlock w b o = w := by
  unfold Go.ChangeMaps.setBlock
  obtain ⟨hlt, hb⟩ := Array.getElem?_eq_some_iff.1 h
  have : w.heap.setIfInBounds b o = w.heap := by
    apply Array.ext_getElem?
    intro j
    by_cases e : b = j
    · subst e; simp [hlt, hb]
    · rw [Array.getElem?_setIfInBounds_ne e]
  rw [this]

/-- What a look gives. -/
theorem MapV.look {t e : TypeId} (E : KeyEnc P K ok val kl) (ht : P.underlying t = some (.map K e)) {z : Value} (hz : ∀ u : World, (zeroValue e).run P u = .ok z u) (h : MapV w P K ok kl b n m) {k0 : κ} (hk : ok k0) :
    (Instr.lookup t (.map (some b)) (val k0) false).run P w = .ok ((m k0).getD z) w := by
  obtain ⟨D, h1, hm, h3, h4⟩ := h
  obtain ⟨v, ps, hrun, hv⟩ := h1.lookup E.keyed ht (hz w) (zd := .held z) (zp := []) rfl (E.of k0 hk)
  have hv' : v = (m k0).getD z := by
    have e1 : (DataW.held v : DataW Value) = D.atKey (kl k0) (.held z) := congrArg Prod.fst (Option.some.inj hv)
    rcases hmk : m k0 with _ | u
    · have hh : has D (kl k0) = false := by rw [h3 k0 hk, hmk]; rfl
      rw [atKey_of_not_has hh] at e1
      injection e1
    · rw [h4 k0 u hk hmk] at e1
      injection e1
  rw [← hv']; exact hrun
theorem ex_lookup {ρ : Operand → Value} {o : Oper} {w w' : World} (t : TypeId) (x ix : Operand) (c : Bool) (ho : o.op = .lookup t x ix c) {vm vk v : Value} (hx : ρ x = vm) (hk : ρ ix = vk) (h : (Instr.lookup t vm vk c).run P w = .ok v w') : (execOp ρ o).run P w = .ok (.value v) w' := by
  unfold execOp
  simp only [ho, hx, hk, Sem.run_bind, h, Result.andThen_ok, Sem.run_pure]
theorem ex_mapEntry {ρ : Operand → Value} {o : Oper} {w w' : World} (t : TypeId) (x ix : Operand) (ho : o.op = .mapEntry t x ix) {vm vk v : Value} (hx : ρ x = vm) (hk : ρ ix = vk) (h : (Instr.mapEntry t vm vk).run P w = .ok v w') : (execOp ρ o).run P w = .ok (.value v) w' := by
  unfold execOp
  simp only [ho, hx, hk, Sem.run_bind, h, Result.andThen_ok, Sem.run_pure]
theorem ex_entryStore {ρ : Operand → Value} {o : Oper} {w w' : World} (t : TypeId) (x s y : Operand) (ho : o.op = .entryStore t x s y) {vm vs v : Value} (hx : ρ x = vm) (hs : ρ s = vs) (hy : ρ y = v) (h : (Instr.entryStore t vm vs v).run P w = .ok () w') : (execOp ρ o).run P w = .ok .skip w' := by
  unfold execOp
  simp only [ho, hx, hs, hy, Sem.run_bind, h, Result.andThen_ok, Sem.run_pure]

open Go.ChangeMaps in
/-- The entry of 'm[k] op= x', and the store behind it. -/
theorem MapV.entry {t e : TypeId} [DecidableEq κ] (E : KeyEnc P K ok val kl) (L : WideMaps.KeyLaw P K) (ht : P.underlying t = some (.map K e)) {z : Value} (hz : ∀ u : World, (zeroValue e).run P u = .ok z u) (h : MapV w P K ok kl b n m) (hn : n < maxLen) {k0 : κ} (hk : ok k0) :
    ∃ (st : Nat) (w1 : World), (Instr.mapEntry t (.map (some b)) (val k0)).run P w = .ok (.tuple #[(m k0).getD z, goInt st]) w1 ∧ w.grownBy w1 (some b) ∧ MapV w1 P K ok kl b (n + 1) (fun k => if k = k0 then some ((m k0).getD z) else m k) ∧
      ∀ v0, ∃ w2, (Instr.entryStore t (.map (some b)) (goInt st) v0).run P w1 = .ok () w2 ∧ MapV w2 P K ok kl b (n + 1) (fun k => if k = k0 then some v0 else m k) ∧ w.grownBy w2 (some b) := by
  have hv := h
  obtain ⟨D, ⟨es, clock, hb, F, hs, hD⟩, hm, h3, h4⟩ := hv
  have hkey := E.of k0 hk
  have hlt := (Array.getElem?_eq_some_iff.1 hb).1
  -- what a look gives
  have hlook : (Instr.lookup t (.map (some b)) (val k0) false).run P w = .ok ((m k0).getD z) w := by
    obtain ⟨v, ps, hrun, hv⟩ := World.ownsMap.lookup ⟨es, clock, hb, F, hs, hD⟩ E.keyed ht (hz w) (zd := .held z) (zp := []) rfl hkey
    have hv' : v = (m k0).getD z := by
      have e1 : (DataW.held v : DataW Value) = D.atKey (kl k0) (.held z) := congrArg Prod.fst (Option.some.inj hv)
      rcases hmk : m k0 with _ | u
      · have hh : has D (kl k0) = false := by rw [h3 k0 hk, hmk]; rfl
        rw [atKey_of_not_has hh] at e1
        injection e1
      · rw [h4 k0 u hk hmk] at e1
        injection e1
    rw [← hv']; exact hrun
  have store : ∀ (st : Nat) (w1 : World), (Instr.mapEntry t (.map (some b)) (val k0)).run P w = .ok (.tuple #[(m k0).getD z, goInt st]) w1 →
      ∀ v0, ∃ w2, (Instr.entryStore t (.map (some b)) (goInt st) v0).run P w1 = .ok () w2 ∧ MapV w2 P K ok kl b (n + 1) (fun k => if k = k0 then some v0 else m k) ∧ w.grownBy w2 (some b) := by
    intro st w1 hr v0
    obtain ⟨u, st', es1, clock1, hrun, _, hst⟩ := WideElems.entry_then_store L ht hz hb F hkey
    rw [hrun] at hr
    injection hr with hr1 hr2
    injection hr1 with hr1
    have hst' : st' = st := by
      have := congrArg (fun a : Array Value => a[1]?) hr1
      simp [goInt] at this
      omega
    subst hr2; subst hst'
    have hb1 : (setBlock w b (.map es1 clock1)).heap[b]? = some (.map es1 clock1) := by simp [setBlock, hlt]
    obtain ⟨es', clock', g1, g2⟩ := hst _ v0 hb1
    obtain ⟨w', hu, hM, hg⟩ := MapV.update E ht h hn hk v0
    rw [g2] at hu
    injection hu with _ hu
    have e2 : setBlock (setBlock w b (.map es1 clock1)) b (.map es' clock') = setBlock w b (.map es' clock') := by simp [setBlock]
    exact ⟨w', by rw [g1, e2, hu], hM, hg⟩
  rcases L.find w hkey es.toList F.keys with ⟨f1, f2⟩ | ⟨j, e0, f1, f2, f3⟩
  · have hz0 : (m k0).getD z = z := by
      have := hlook
      have hck := L.check w es.isEmpty hkey
      simp [Instr.lookup, run_underlying ht, MapKept.run_getObj_map hb, hck, f1, hz] at this
      exact this.symm
    have hr : (Instr.mapEntry t (.map (some b)) (val k0)).run P w = .ok (.tuple #[(m k0).getD z, goInt clock]) (setBlock w b (.map (es.push ⟨val k0, z, clock⟩) (clock + 1))) := by
      rw [hz0]
      simp [Instr.mapEntry, run_underlying ht, MapKept.run_getObj_map hb, L.check w false hkey, f1, hz, MapKept.run_setObj_map _ hb, Result.andThen, setBlock]
    obtain ⟨w', hu, hM, hg⟩ := MapV.update E ht h hn hk z
    have hu2 : (Instr.mapUpdate t (.map (some b)) (val k0) z).run P w = .ok () (setBlock w b (.map (es.push ⟨val k0, z, clock⟩) (clock + 1))) := by
      simp [Instr.mapUpdate, run_underlying ht, MapKept.run_getObj_map hb, L.check w false hkey, f1, MapKept.run_setObj_map _ hb, Result.andThen, setBlock]
    rw [hu2] at hu
    injection hu with _ hu
    exact ⟨clock, _, hr, by rw [hu]; exact hg, by rw [hu, hz0]; exact hM, store _ _ hr⟩
  · have hj : es[j]? = some e0 := by simpa using f2
    have hv0 : (m k0).getD z = e0.val := by
      have := hlook
      have hck := L.check w es.isEmpty hkey
      simp [Instr.lookup, run_underlying ht, MapKept.run_getObj_map hb, hck, f1] at this
      exact this.symm
    have hsame : es.modify j (fun e => { e with key := val k0 }) = es := by
      have hk0 : ({ e0 with key := val k0 } : MapEntry) = e0 := by rw [← f3]
      apply Array.ext_getElem?
      intro i
      rw [Array.getElem?_modify]
      by_cases q : j = i
      · subst q; rw [if_pos rfl, hj, Option.map_some, hk0]
      · rw [if_neg q]
    have hr : (Instr.mapEntry t (.map (some b)) (val k0)).run P w = .ok (.tuple #[(m k0).getD z, goInt e0.born]) w := by
      have hstay := L.stays w hkey
      rw [hv0]
      simp [Instr.mapEntry, run_underlying ht, MapKept.run_getObj_map hb, L.check w false hkey, f1, hj, f3, hstay, hsame, MapKept.run_setObj_map _ hb, Result.andThen]
      exact setBlock_same hb
    refine ⟨e0.born, w, hr, ⟨rfl, rfl, rfl, Nat.le_refl _, fun _ _ _ => rfl⟩, ?_, store _ _ hr⟩
    have hhas : m k0 = some e0.val := by
      obtain ⟨v, ps, hrun, _⟩ := World.ownsMap.look_ok ⟨es, clock, hb, F, hs, hD⟩ E.keyed ht (hz w) (zd := .held z) (zp := []) rfl hkey
      have hck := L.check w es.isEmpty hkey
      simp [Instr.lookup, run_underlying ht, MapKept.run_getObj_map hb, hck, f1] at hrun
      have hd : has D (kl k0) = true := hrun.2
      rw [h3 k0 hk] at hd
      rcases hmk : m k0 with _ | u
      · rw [hmk] at hd; cases hd
      · rw [hmk] at hv0
        exact congrArg some hv0
    have hm2 : (fun k => if k = k0 then some ((m k0).getD z) else m k) = m := by
      funext k
      by_cases q : k = k0
      · subst q; rw [if_pos rfl, hhas]; rfl
      · rw [if_neg q]
    rw [hm2]
    exact ⟨D, World.ownsMap.mono ⟨es, clock, hb, F, hs, hD⟩ (Nat.le_succ n), hm, h3, h4⟩
end
end Go.Proofs.YtdgbjhfkmembdaaGreatDoor
