/-
  What Decode gives. Conditions: the bytes' slice is one (its length at most its capacity); at most 2^40 bytes; the library's variable MaxLen holds a number.
-/
import Derived.Test.YtdgbjhfkmembdaaGreatDoorShort0
import Derived.Test.YtdgbjhfkmembdaaGreatDoorObjDecode
import Derived.Test.YtdgbjhfkmembdaaGreatDoorObjRead1
namespace Go.Proofs.YtdgbjhfkmembdaaGreatDoor
open Go.RowKit Go.Maps
set_option linter.unusedVariables false
set_option linter.unusedSimpArgs false

theorem objZ_in (w : World) (B : Nat) : ObjIn w B (.agg objZ.toArray) (0, noChangeD, noCommitD) := by
  refine ⟨⟨⟨(by decide : (Lit.int .i64 0).wf = true), ?_, ?_⟩, ?_, ?_, (by decide : (Lit.int .i64 0).wf = true)⟩, ?_, ?_, ?_, ?_, none, 0, none, 0, none, 0, none, 0, rfl, Sl.nil, Sl.nil, Sl.nil, Sl.nil⟩
  · intro x hx; cases hx
  · intro x hx; cases hx
  · intro x hx; cases hx
  · intro x hx; cases hx
  · intro x hx; cases hx
  · show (0 : Nat) ≤ maxLen
    omega
  · show (0 : Nat) ≤ maxLen
    omega
  · show (0 : Nat) ≤ maxLen
    omega
/-- Ten cells. -/
theorem ObjIn.ten {w : World} {B : Nat} {v : Value} {o : ObjD} (h : ObjIn w B v o) : ∃ cs : List Value, v = .agg cs.toArray ∧ cs.length = 10 ∧ ∀ u ∈ cs, u.oneCell' = true := by
  obtain ⟨_, _, _, _, _, Ad, cd, Ao, co, Ap, cp, Ac, cc, rfl, _⟩ := h
  refine ⟨[.int .u8 (o.1.toNat : Int), .int .i64 o.2.1.1, .slice Ad o.2.1.2.1.length cd, .string o.2.1.2.2.1, .slice Ao o.2.1.2.2.2.length co, .slice Ap o.2.2.1.length cp, .slice Ac o.2.2.2.1.length cc, .string o.2.2.2.2.1, .string o.2.2.2.2.2.1, .int .i64 o.2.2.2.2.2.2], rfl, rfl, ?_⟩
  intro u hu
  simp only [List.mem_cons, List.not_mem_nil, or_false] at hu
  rcases hu with rfl | rfl | rfl | rfl | rfl | rfl | rfl | rfl | rfl | rfl <;> rfl
/-- Rows of many cells do not lie in small blocks. -/
theorem Sl.small {X : Nat → Prop} {w w' : World} {B n sz : Nat} {A : Option Addr} {xs : List Value} (h : Sl w B A n sz xs) (hb : But X w w') (hB : B ≤ w.heap.size) (hsz : 32 ≤ sz) (hx : ∀ k, X k → ∃ (cs : List Value) (T : TypeId), w.heap[k]? = some (.cells cs.toArray T (0, 0)) ∧ cs.length < 32) : Sl w' B A n sz xs := by
  refine ⟨h.1, fun hn => ?_⟩
  obtain ⟨b, off, e, hlt, hc⟩ := h.2 hn
  refine ⟨b, off, e, hlt, fun j u hj => ?_⟩
  have hX : ¬ X b := fun q => by
    obtain ⟨cs, T, hk, hl⟩ := hx b q
    have h31 : 31 < xs.length := by rw [h.1]; exact qL (by omega) (qT hsz (Nat.le_mul_of_pos_left sz hn))
    have := hc 31 _ (List.getElem?_eq_getElem h31)
    rw [cells_at0 hk] at this
    have := (List.getElem?_eq_some_iff.1 this).1
    omega
  exact (hb.cell (qL hlt hB) hX).trans (hc j u hj)
theorem ObjIn.small {X : Nat → Prop} {w w' : World} {B : Nat} {v : Value} {o : ObjD} (h : ObjIn w B v o) (hb : But X w w') (hB : B ≤ w.heap.size) (hx : ∀ k, X k → ∃ (cs : List Value) (T : TypeId), w.heap[k]? = some (.cells cs.toArray T (0, 0)) ∧ cs.length < 32) : ObjIn w' B v o := by
  obtain ⟨h1, h2, h3, h4, h5, Ad, cd, Ao, co, Ap, cp, Ac, cc, hv, s1, s2, s3, s4⟩ := h
  exact ⟨h1, h2, h3, h4, h5, Ad, cd, Ao, co, Ap, cp, Ac, cc, hv, s1.small hb hB (by decide) hx, s2.small hb hB (by decide) hx, s3.small hb hB (by decide) hx, s4.small hb hB (by decide) hx⟩
/-- What Decode gives. -/
def ObjDec (l : List UInt8) (w : World) (e : Ending) (w' : World) : Prop :=
  Below w.heap.size w w' ∧ ∃ v, e = .returned (.tuple #[v, .int .i64 (decodeS l).2]) ∧ ObjIn w' w'.heap.size v (decodeS l).1
theorem objDec_long {l : List UInt8} (h : 262144 < l.length) : decodeS l = ((0, noChangeD, noCommitD), 2) := by unfold decodeS; rw [if_pos h]
theorem objDec_no {l : List UInt8} (h : ¬ 262144 < l.length) (hr : readS l = none) : decodeS l = ((0, noChangeD, noCommitD), 6) := by unfold decodeS; rw [if_neg h, hr]
theorem objDec_yes {l : List UInt8} {o : ObjD} (h : ¬ 262144 < l.length) (hr : readS l = some o) : decodeS l = (o, 0) := by unfold decodeS; rw [if_neg h, hr]
theorem load_obj {w : World} {zo : Nat} {cs : List Value} (h : w.heap[zo]? = some (.cells cs.toArray 70 (0, 0))) (hl : cs.length = 10) : (loadVar 70 ⟨zo, 0, none⟩).run Tryz.prog w = .ok (.agg cs.toArray) w :=
  qV _ zo 0 70 cs _ (fun j u hj => by rw [qZ]; exact (cells_at0 h j).trans hj) Tryz.underlying70 rfl (by rw [hl]; kernel_rfl)
theorem load_err {w : World} {zo : Nat} {v : Value} (h : w.heap[zo]? = some (.cells [v].toArray 29 (0, 0))) : (loadVar 29 ⟨zo, 0, none⟩).run Tryz.prog w = .ok v w := by
  have hc : w.cell? ⟨zo, 0, none⟩ = some v := cells_at0 h 0
  unfold loadVar isAgg
  simp only [Sem.run_bind, run_underlying Tryz.underlying29, Result.andThen_ok]
  simp [Result.andThen, hc]
end Go.Proofs.YtdgbjhfkmembdaaGreatDoor
