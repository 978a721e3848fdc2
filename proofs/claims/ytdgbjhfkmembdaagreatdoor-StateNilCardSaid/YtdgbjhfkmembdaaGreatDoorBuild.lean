/-
  Structs put together from parts of several cells; a slice of one such element. Over any program; conditions as each says.
-/
import Derived.Test.YtdgbjhfkmembdaaGreatDoorQStep
import Derived.Great.FillDense
import Derived.Laws.Tables
namespace Go.Proofs.YtdgbjhfkmembdaaGreatDoor
open Go.RowKit
set_option linter.unusedVariables false

theorem splice_is {A M B C : List Value} (hB : B.length = M.length) (v : Value) (hv : v.cells.toList = B) :
    v.cells.zipIdx.foldl (fun cs (x : Value × Nat) => cs.setIfInBounds (A.length + x.2) x.1) (A ++ (M ++ C)).toArray = (A ++ (B ++ C)).toArray := by
  obtain ⟨g1, g2⟩ := Go.Great.foldl_set A.length v.cells.toList 0 (A ++ (M ++ C)).toArray
  rw [← Array.foldl_toList, Array.toList_zipIdx]
  apply Array.ext_getElem?
  intro k
  rw [g2 k, hv]
  simp only [Nat.add_zero, List.size_toArray, List.length_append, List.getElem?_toArray]
  by_cases h1 : k < A.length
  · rw [if_neg (by omega), List.getElem?_append_left h1, List.getElem?_append_left h1]
  · by_cases h2 : k < A.length + B.length
    · rw [if_pos (by omega), List.getElem?_append_right (by omega), List.getElem?_append_left (by omega)]
    · rw [if_neg (by omega), List.getElem?_append_right (by omega), List.getElem?_append_right (by omega), List.getElem?_append_right (by omega), List.getElem?_append_right (by omega), hB]

theorem fill_chunks (place : Nat → Option (Nat × Nat)) : ∀ (parts : List (Nat × Value)) (ch : List (List Value)), (∀ i (h : i < ch.length), place i = some ((ch.take i).flatten.length, ch[i].length)) →
    (∀ p ∈ parts, ∃ h : p.1 < ch.length, p.2.cells.size = ch[p.1].length) → Instr.fill place ch.flatten.toArray parts = some ((parts.foldl (fun c p => c.set p.1 p.2.cells.toList) ch).flatten.toArray)
  | [], ch, _, _ => rfl
  | (i, v) :: rest, ch, hp, hs => by
    obtain ⟨hi, hsz⟩ := hs (i, v) (by simp)
    have hi' : i < ch.length := hi
    have hsz' : v.cells.size = ch[i].length := hsz
    have hsplit : ch = ch.take i ++ (ch[i] :: ch.drop (i + 1)) := by
      rw [← List.drop_eq_getElem_cons hi', List.take_append_drop]
    have hfl : ch.flatten = (ch.take i).flatten ++ (ch[i] ++ (ch.drop (i + 1)).flatten) := by
      have h := congrArg List.flatten hsplit
      rw [List.flatten_append, List.flatten_cons] at h
      exact h
    have hset : (ch.set i v.cells.toList).flatten = (ch.take i).flatten ++ (v.cells.toList ++ (ch.drop (i + 1)).flatten) := by
      rw [List.set_eq_take_append_cons_drop, if_pos hi']
      simp
    unfold Instr.fill
    simp only [hp i hi']
    rw [if_neg (by
      simp only [hsz', ne_eq, not_true_eq_false, decide_false, Bool.false_or, decide_eq_true_eq, List.size_toArray, Nat.not_lt]
      rw [hfl]; simp)]
    rw [show (v.cells.zipIdx.foldl (fun cs (x : Value × Nat) => cs.setIfInBounds ((ch.take i).flatten.length + x.2) x.1) ch.flatten.toArray) = (ch.set i v.cells.toList).flatten.toArray by
      rw [hset, hfl]
      exact splice_is (by simpa using hsz') v rfl]
    have hlen : ∀ k (h : k < (ch.set i v.cells.toList).length), (ch.set i v.cells.toList)[k].length = (ch[k]'(by simpa using h)).length := by
      intro k h
      rw [List.getElem_set]
      split
      · rename_i e; subst e; simpa using hsz'
      · rfl
    refine (fill_chunks place rest (ch.set i v.cells.toList) ?_ ?_).trans rfl
    · intro k hk
      have hk' : k < ch.length := by simpa using hk
      rw [hp k hk', hlen k hk]
      congr 2
      have : ∀ n, n ≤ ch.length → (((ch.set i v.cells.toList).take n).flatten).length = ((ch.take n).flatten).length := by
        intro n
        induction n with
        | zero => intro _; rfl
        | succ n ih =>
          intro hn
          rw [List.take_succ_eq_append_getElem (by simp; omega), List.take_succ_eq_append_getElem (by omega)]
          simp only [List.flatten_append, List.length_append, ih (by omega), List.flatten_cons, List.flatten_nil, List.append_nil]
          rw [hlen n (by simp; omega)]
      exact (this k (by omega)).symm
    · intro p hpm
      obtain ⟨h1, h2⟩ := hs p (by simp [hpm])
      refine ⟨by simpa using h1, ?_⟩
      rw [h2, hlen]

/-- A struct from parts. -/
theorem built_struct {P : Program} {t : TypeId} {i : TypeInfo} {fs : Array Field} (hi : P.info? t = some i) (hu : P.underlying t = some (.struct fs)) {z : Value} (hz : i.zero = some z) (ch : List (List Value)) (hc : z.cells.toList = ch.flatten)
    {places : List (Nat × Nat)} (hpl : fs.toList.mapM (fun f => (P.info? f.type).map fun i => (f.offset, i.size)) = some places) (hp : places = (List.range ch.length).map fun k => (((ch.take k).flatten.length), (ch.getD k []).length))
    (parts : List (Nat × Value)) (hs : ∀ p ∈ parts, ∃ h : p.1 < ch.length, p.2.cells.size = ch[p.1].length) : P.built t parts = some ((parts.foldl (fun c p => c.set p.1 p.2.cells.toList) ch).flatten.toArray) := by
  unfold Program.built
  simp only [hi, hu, hz, hpl]
  rw [show z.cells = ch.flatten.toArray by rw [← hc]]
  refine fill_chunks _ parts ch (fun k hk => ?_) hs
  rw [hp]
  simp [hk, List.getD_eq_getElem?_getD]

/-- A slice literal of elements of several cells. -/
theorem run_buildSliceN {P : Program} (w : World) (t e : TypeId) (ht : P.underlying t = some (.slice e)) (z : Value) (size bytes : Nat) (hinf : (P.info? e).map (fun i => (i.zero, i.size, i.bytes)) = some (some z, size, bytes)) (hz1 : z.cells.size = size) (hsz : 0 < size)
    (vs : List Value) (hv : ∀ v ∈ vs, v.cells.size = size) (hn0 : 0 < vs.length) (hmax : vs.length * size ≤ 16777216) :
    (Instr.buildSlice t vs.length ((vs.zipIdx 0).map fun x => (x.2, x.1)).toArray).run P w = .ok (.slice (some ⟨w.heap.size, 0, none⟩) vs.length vs.length) (w.alloc (.cells (vs.flatMap fun v => v.cells.toList).toArray e)) := by
  obtain ⟨i, hi, hi0, hi1, hi2⟩ : ∃ i, P.info? e = some i ∧ i.zero = some z ∧ i.size = size ∧ i.bytes = bytes := by
    cases hq : P.info? e with
    | none => simp [hq] at hinf
    | some i => simp [hq] at hinf; exact ⟨i, rfl, hinf.1, hinf.2.1, hinf.2.2⟩
  have hpos : vs.length * size ≠ 0 := Nat.mul_ne_zero (by omega) (by omega)
  have hne : ¬ (vs.length * size > 2 ^ 24) := by omega
  have hfill : Instr.fill (fun k => some (k * size, size)) ((Array.range (vs.length * size)).map (z.cells[· % z.cells.size]!)) ((vs.zipIdx 0).map fun x => (x.2, x.1)) = some (vs.flatMap fun v => v.cells.toList).toArray :=
    Go.Great.fill_whole hsz vs _ hv (by simp)
  unfold Instr.buildSlice
  have hsize : (sizeOf e).run P w = .ok size w := by simp [sizeOf, typeInfo, hi, hi1]
  have hzero : (zeroValue e).run P w = .ok z w := by simp [zeroValue, typeInfo, hi, hi0]
  simp only [Sem.run_bind, run_underlying ht, Result.andThen_ok, hsize, if_neg hne, if_neg hpos, hzero, Sem.run_pure, hfill]
  rfl
/-- '[]T{x}' with x of several cells. -/
theorem wp_buildSlice1 {P : Program} {ops : Array Oper} {rest : List Oper} {o : Oper} {a : Act} {w : World} {Q : Exit → Act → World → Prop} (hw : Region.wanted o (yielded ops a.tmps) = true) (t : TypeId) (x : Operand) (ho : o.op = .buildSlice t 1 #[(0, x)])
    (e : TypeId) (ht : P.underlying t = some (.slice e)) (z : Value) (size bytes : Nat) (hinf : (P.info? e).map (fun i => (i.zero, i.size, i.bytes)) = some (some z, size, bytes)) (hz1 : z.cells.size = size) (hsz : 0 < size) (hmax : size ≤ 16777216)
    (us : List Value) (hl : us.length = size) (hx : a.eval x = .agg us.toArray)
    (h : wpList P ops Q rest (a.put o.dst (.slice (some ⟨w.heap.size, 0, none⟩) 1 1)) (w.alloc (.cells us.toArray e))) : wpList P ops Q (o :: rest) a w := by
  have hrun := run_buildSliceN w t e ht z size bytes hinf hz1 hsz [.agg us.toArray] (fun v hv => by rw [List.mem_singleton.1 hv]; exact hl) (by simp) (by simpa using hmax)
  simp only [List.flatMap_cons, List.flatMap_nil, List.append_nil] at hrun
  refine BigFrame.wpList_want hw fun K hK => ?_
  have := hK _ _ h
  unfold Oper.wp execOp
  simp only [ho, List.map_toArray, List.map_cons, List.map_nil, hx, Sem.run_bind]
  have h2 : (Instr.buildSlice t 1 #[(0, .agg us.toArray)]).run P w = .ok (.slice (some ⟨w.heap.size, 0, none⟩) 1 1) (w.alloc (.cells us.toArray e)) := hrun
  rw [h2]
  exact this
end Go.Proofs.YtdgbjhfkmembdaaGreatDoor
