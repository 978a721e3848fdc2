/-
  'append([]T{}, xs...)': a copy of a slice that came in. No conditions; no program.
-/
import Derived.Test.YtdgbjhfkmembdaaGreatDoorMem2
import Derived.Deep.AppendSrc
import Derived.BigFrame
import Derived.Laws.OwnMore
namespace Go.Proofs.YtdgbjhfkmembdaaGreatDoor
open Go.RowKit
set_option linter.unusedVariables false

theorem wp_appSc {P : Program} {ops : Array Oper} {rest : List Oper} {o : Oper} {a : Act} {Q : Exit → Act → World → Prop} {w : World} (hw : Region.wanted o (yielded ops a.tmps) = true) (s x : Operand) (t : TypeId)
    (ho : o.op = .call { callee := .builtin .append, args := #[s, x], argTypes := #[t, t] })
    (e : TypeId) (z : Value) (sz bytes : Nat) (ht : P.underlying t = some (.slice e)) (hinf : (P.info? e).map (fun i => (i.zero, i.size, i.bytes)) = some (some z, sz, bytes))
    (hz1 : z.cells.size = sz) (hsz : 0 < sz) (hs : a.eval s = .slice (some ⟨w.heap.size, 0, none⟩) 0 0)
    (A : Option Addr) (n c : Nat) (xs : List Value) (hx : a.eval x = .slice A n c) (hsl : Sl w w.heap.size A n sz xs) (h1 : ∀ u ∈ xs, u.oneCell' = true)
    (hn : n ≤ maxLen) (hb : n * bytes ≤ 140737488355328)
    (h : ∀ A' c' w', Sl w' w'.heap.size A' n sz xs → n ≤ c' → Below w.heap.size w w' → wpList P ops Q rest (a.put o.dst (.slice A' n c')) w') :
    wpList P ops Q (o :: rest) a (w.alloc (.cells #[] e)) := by
  obtain ⟨i0, hi, hz0, hz2, hz3⟩ := info_parts hinf
  have run : ∃ A' c' w', (Builtin.append_ #[t, t] o.type #[.slice (some ⟨w.heap.size, 0, none⟩) 0 0, .slice A n c]).run P (w.alloc (.cells #[] e)) = .ok (.slice A' n c') w' ∧ Sl w' w'.heap.size A' n sz xs ∧ n ≤ c' ∧ Below w.heap.size w w' := by
    have hba : Below w.heap.size w (w.alloc (.cells #[] e)) := (Below.refl _ _).alloc (Nat.le_refl _) _
    rcases Nat.eq_zero_or_pos n with h0 | h0
    · subst h0
      obtain rfl : xs = [] := by
        have := hsl.1
        rw [Nat.zero_mul] at this
        exact List.length_eq_zero_iff.1 this
      have hS : Src P i0.size t (.slice A 0 c) 0 [] (w.alloc (.cells #[] e)) := by
        cases A with
        | none => exact Src.ofNil _ ht c
        | some ad => exact Src.ofSlice _ ht ad 0 c [] (by simp) (by simp) (by simp)
      refine ⟨_, _, _, run_append_room_src _ t t o.type e i0 ht hi w.heap.size 0 0 0 _ 0 [] hS (by omega) (by simp) (by simp), Sl.nil, Nat.zero_le _, ?_⟩
      exact hba
    · obtain ⟨b, off, rfl, hlt, hc⟩ := hsl.2 h0
      have hown : (w.alloc (.cells #[] e)).ownsRow w.heap.size e sz (.slice (some ⟨w.heap.size, 0, none⟩) 0 0) 0 [] := World.ownsRow_lit w #[] 0 (Nat.le_refl _) (by simp) (by simp)
      obtain ⟨v', w', hr, hown', hgr, _⟩ := run_append_own (P := P) _ w.heap.size t o.type e i0 z sz bytes ht hi hz0 hz2 hz3 hz1 hsz _ 0 [] hown ⟨b, off, none⟩ n c xs hsl.1 (by
          intro j u hj
          have hcell := hc j u hj
          have e1 : (⟨b, off, none⟩ : Addr).add j = ⟨b, off + j, none⟩ := by unfold Addr.add; split <;> simp_all
          rw [e1]
          exact (hba.cell (p := ⟨b, off + j, none⟩) hlt).trans hcell) h1 (by omega) (by simpa using hb) (by simp)
      rw [Nat.zero_add, List.nil_append] at hown'
      obtain ⟨g, cap, rfl, hcp⟩ : ∃ g cap, v' = .slice g n cap ∧ n ≤ cap := by
        rcases hown'.2 with ⟨_, hn0⟩ | ⟨g, cap, cur, hv, _, _, hle, _⟩
        · omega
        · exact ⟨_, _, hv, hle⟩
      refine ⟨_, _, _, hr, Sl.of_own hown', hcp, hba.grown hgr (by simp) fun k hk => ?_⟩
      simp [Value.ownBlock] at hk
      omega
  obtain ⟨A', c', w', hr, hsl', hcp, hbw⟩ := run
  refine BigFrame.wpList_want hw fun K hK => ?_
  unfold Oper.wp execOp
  simp only [ho, resolve, invoke, builtin, Sem.run_bind, Sem.run_pure, Result.andThen_ok, List.map_toArray, List.map_cons, List.map_nil, hs, hx, hr]
  exact hK _ _ (h A' c' w' hsl' hcp hbw)
theorem wp_appS {P : Program} {ops : Array Oper} {rest : List Oper} {o : Oper} {a : Act} {Q : Exit → Act → World → Prop} {w : World} (hw : Region.wanted o (yielded ops a.tmps) = true) (s x : Operand) (t : TypeId)
    (ho : o.op = .call { callee := .builtin .append, args := #[s, x], argTypes := #[t, t] })
    (e : TypeId) (z : Value) (sz bytes : Nat) (ht : P.underlying t = some (.slice e)) (hinf : (P.info? e).map (fun i => (i.zero, i.size, i.bytes)) = some (some z, sz, bytes))
    (hz1 : z.cells.size = sz) (hsz : 0 < sz) (hs : a.eval s = .slice (some ⟨w.heap.size, 0, none⟩) 0 0)
    (A : Option Addr) (n c : Nat) (xs : List Value) (hx : a.eval x = .slice A n c) (hsl : Sl w w.heap.size A n sz xs) (h1 : ∀ u ∈ xs, u.oneCell' = true)
    (hn : n ≤ maxLen) (hb : n * bytes ≤ 140737488355328)
    (h : ∀ A' c' w', Sl w' w'.heap.size A' n sz xs → Below w.heap.size w w' → wpList P ops Q rest (a.put o.dst (.slice A' n c')) w') :
    wpList P ops Q (o :: rest) a (w.alloc (.cells #[] e)) :=
  wp_appSc hw s x t ho e z sz bytes ht hinf hz1 hsz hs A n c xs hx hsl h1 hn hb (fun A' c' w' h1 _ h3 => h A' c' w' h1 h3)
end Go.Proofs.YtdgbjhfkmembdaaGreatDoor
