/-
  What Clash and Fresh give. Conditions: texts of at most 2^47 bytes; at most 97 taken paths (Fresh).
  What the program's order gives of ids: Compare, IsSet, place, Find. Conditions: ids of 32 bytes; as each says.
  Ids, refs and keys of the program: compared cell by cell; read from what came in. Conditions: the values are well formed, as each says.
  What the program's order of keys gives. Conditions: the keys are well formed.
  What hunk.Split gives: a text's lines. Conditions: texts of at most a million bytes; the library's variable MaxLen holds a number.
  What the search's diagonal, slide and least give. Conditions: rows of at most 100000 numbers, kept where the search's box says.
  What the search's least gives. Conditions: rows of at most 100000 numbers, kept where the search's box says; a list of at most a million places.
  What the closure of the search's next does: the lesser of two places, if the new one may be. Conditions: the captured variables lie in blocks of their own.
  What the search's next gives: the next list. Conditions: rows of at most 100000 numbers, kept where the search's box says; the list ahead.
  What the search's next gives at 0: the first list. Conditions: rows of at most 100000 numbers, kept where the search's box says.
  A map that the call made, as a plain function from keys to values: looked up, stored into. Over any program; conditions as each says.
  Whole numbers and texts as a map's keys. Conditions: the keys are well formed.
  What the search's cost gives: the whole's cost; and which lists it keeps. Conditions: rows of at most 100000 numbers, kept where the search's box says.
  Steps of a region that draws its order, taken by hand: a call, a new variable, a look into a map, an append of a slice, a store into one cell. Over any program; conditions as each says.
  The lists that the search has made again: what stands while it goes forward. No conditions but those said.
  A region that draws its order and ends in operations that write: a condition on the worlds that has to hold only behind the first n operations; an operation for which all others wait (be it by others) yields its value in every such world, or an operation that looks at no world: either may be taken first. Over any program; conditions as each says.
  The rows of lists that the search makes again: how they begin and grow. Conditions: rows of at most 100000 numbers, kept where the search's box says.
  Structs put together from parts of several cells; a slice of one such element. Over any program; conditions as each says.
  A slice of one element of one cell, built at a step taken by hand. Over any program; conditions as it says.
-/
import Derived.Test.YthjaepmfkgejkaaDoorMerged1
import Derived.Test.YthjaepmfkgejkaaDoorProg
import Derived.Lib.SlBytesRow
import Derived.Lib.BytesEntry
import Derived.Handy
import Derived.PlainAid
import Derived.Lib.Hide
import Derived.Deep.QuietTactic
import Derived.BigQuiet
import Derived.StillTailTactics
import Derived.Deep.CutRange
import Derived.Deep.MidRow
import Derived.IntWalk
import Derived.Test.YthjaepmfkgejkaaDoorMyersTest
import Derived.OneCell
import Derived.Laws.OwnMore
import Derived.Maps.Own
import Derived.Maps.OwnOps
import Derived.Maps.OwnSet
import Derived.Maps.Views
import Derived.Deep.RegionHeld
import Derived.OrdersHeld
import Derived.Laws.AppendOwn
import Derived.StillTail
import Derived.WalkSpells
import Derived.Great.FillDense
import Derived.Laws.Tables
namespace Go.Proofs.YthjaepmfkgejkaaDoor
open Go.RowKit
set_option linter.unusedVariables false

theorem L_app (a b : ByteArray) : L (a ++ b) = L a ++ L b := Go.Joins.data_append a b

/-- A list of texts, as a slice's cells. -/
def strs (l : List ByteArray) : List Value := l.map Value.string
def Ls (l : List ByteArray) : List (List UInt8) := l.map L
def smallL (l : List ByteArray) : Prop := ∀ t ∈ l, t.size ≤ 140737488355328

theorem indexByte_first (l : List UInt8) : Lib.indexByte l 47 = if (47 : UInt8) ∈ l then ((firstc l).length : Int) else -1 := by
  induction l with
  | nil => rfl
  | cons c l ih =>
    unfold Lib.indexByte
    by_cases hc : c = 47
    · subst hc; simp [firstc]
    · have h1 : ¬ (c == 47) = true := by simpa using hc
      have h2 : (c != 47) = true := by simp [hc]
      rw [if_neg h1, ih]
      by_cases hm : (47 : UInt8) ∈ l
      · have hm' : (47 : UInt8) ∈ c :: l := List.mem_cons_of_mem _ hm
        have h3 : ¬ (((firstc l).length : Int) == -1) = true := by simp
        rw [if_pos hm, if_pos hm', if_neg h3]
        unfold firstc
        rw [List.takeWhile_cons, if_pos h2]
        simp
      · have hm' : (47 : UInt8) ∉ c :: l := by
          intro h
          rcases List.mem_cons.1 h with e | e
          · exact hc e.symm
          · exact hm e
        rw [if_neg hm, if_neg hm']
        rfl

theorem firstc_take (l : List UInt8) : l.take (firstc l).length = firstc l := by
  conv => lhs; arg 2; rw [← first_rest l]
  exact List.take_left
theorem firstc_drop (l : List UInt8) : l.drop (firstc l).length = restc l := by
  conv => lhs; arg 2; rw [← first_rest l]
  exact List.drop_left
theorem firstc_le (l : List UInt8) : (firstc l).length ≤ l.length := by
  have := congrArg List.length (first_rest l)
  simp at this; omega
theorem restc_none {l : List UInt8} (h : (47 : UInt8) ∉ l) : restc l = [] := by
  have := first_rest l
  rw [firstc_lone h] at this
  have := congrArg List.length this
  simp at this
  exact this

theorem clashes_no {t : List UInt8} {taken : List (List UInt8)} (h : ∀ j (hj : j < taken.length), clashB t taken[j] = false) : clashesB t taken = false := by
  unfold clashesB
  rw [List.any_eq_false]
  intro x hx
  obtain ⟨j, hj, rfl⟩ := List.getElem_of_mem hx
  simp [h j hj]
theorem clashes_yes {t : List UInt8} {taken : List (List UInt8)} {j : Nat} (hj : j < taken.length) (h : clashB t taken[j] = true) : clashesB t taken = true := by
  unfold clashesB
  rw [List.any_eq_true]
  exact ⟨_, List.getElem_mem hj, h⟩

theorem decDigits_len {k : Nat} (h : k < 100) : (Lib.decDigits k).length ≤ 2 := by
  by_cases h1 : k < 10
  · rw [Lib.decDigits_one h1]; simp
  · rw [Lib.decDigits_two h1 h]; simp

/-- The loop's state: at number k, with f steps left, the text t is tried. -/
structure Trying (s : ByteArray) (taken : List (List UInt8)) (k f : Nat) (t : ByteArray) : Prop where
  one : 1 ≤ k
  sum : k + f = taken.length + 3
  size : t.size ≤ s.size + 4
  is : freshS (L s) taken = freshGo (L s) taken f k (L t)
  cand : 2 ≤ k → L t = candS (L s) (k - 1)
  behind : ∀ j, 1 ≤ j → j + 1 < k → clashesB (candS (L s) j) taken = true

theorem Trying.start (s : ByteArray) (taken : List (List UInt8)) : Trying s taken 1 (taken.length + 2) s :=
  ⟨by omega, by omega, by omega, rfl, fun h => absurd h (by omega), fun j h1 h2 => absurd h2 (by omega)⟩
theorem Trying.left {s t : ByteArray} {taken : List (List UInt8)} {k f : Nat} (h : Trying s taken k f t) : ∃ g, f = g + 1 ∧ k ≤ taken.length + 2 := by
  have := cand_few (l := L s) (taken := taken) (m := k - 2) (fun j h1 h2 => h.behind j h1 (by omega))
  have := h.sum
  exact ⟨f - 1, by omega, by omega⟩
theorem Trying.next {s t t' : ByteArray} {taken : List (List UInt8)} {k f : Nat} (h : Trying s taken k (f + 1) t) (hc : clashesB (L t) taken = true) (ht : L t' = candS (L s) k) (hz : t'.size ≤ s.size + 4) : Trying s taken (k + 1) f t' := by
  have h1 := h.one
  refine ⟨by omega, by have := h.sum; omega, hz, ?_, fun _ => by rw [Nat.add_sub_cancel]; exact ht, fun j hj hk => ?_⟩
  · rw [h.is, freshGo, if_pos hc, ht]
  · rcases (by omega : j + 1 < k ∨ j = k - 1) with a | a
    · exact h.behind j hj a
    · subst a
      rw [← h.cand (by omega)]; exact hc
theorem Trying.done {s t : ByteArray} {taken : List (List UInt8)} {k f : Nat} (h : Trying s taken k (f + 1) t) (hc : clashesB (L t) taken = false) : L t = freshS (L s) taken := by
  rw [h.is, freshGo, if_neg (by rw [hc]; simp)]

theorem size_app (a b : ByteArray) : (a ++ b).size = a.size + b.size := by
  have := L_app a b
  have := congrArg List.length this
  rw [List.length_append, L_length, L_length, L_length] at this
  exact this

end Go.Proofs.YthjaepmfkgejkaaDoor
namespace Go.Proofs.YthjaepmfkgejkaaDoor
open Go.RowKit
set_option linter.unusedVariables false

theorem run_bytesOf {P : Program} {w : World} {b off : Nat} {l : List UInt8} (cap : Nat) (hc : Lib.Bytes w b off ⟨l.toArray⟩) : (Extern.Bytes.bytesOf (.slice (some ⟨b, off, none⟩) l.length cap)).run P w = .ok ⟨l.toArray⟩ w := by
  have h := Lib.run_loadBytesX (P := P) (w := w) (l.map fun c => (c.toNat : Int)) ⟨b, off, none⟩ .empty (fun j x hj => by
    rw [List.getElem?_map] at hj
    rcases hl : l[j]? with _ | c
    · rw [hl] at hj; cases hj
    · rw [hl] at hj
      obtain ⟨hlt, hcj⟩ := List.getElem?_eq_some_iff.1 hl
      have e1 : (⟨b, off, none⟩ : Addr).add j = ⟨b, off + j, none⟩ := by unfold Addr.add; split <;> simp_all
      have hs : j < (⟨l.toArray⟩ : ByteArray).size := by simpa [ByteArray.size] using hlt
      have e2 : (⟨l.toArray⟩ : ByteArray)[j] = l[j] := by
        show (l.toArray)[j] = l[j]
        simp
      simp only [Option.map_some, Option.some.injEq] at hj
      rw [e1, hc j hs, e2, hcj, hj])
  rw [List.length_map] at h
  show (Extern.Bytes.loadBytes ⟨b, off, none⟩ l.length .empty).run P w = _
  rw [h]
  congr 2
  have e3 : Lib.bytesOf (l.map fun c => (c.toNat : Int)) = l := by
    unfold Lib.bytesOf
    rw [List.map_map]
    conv => rhs; rw [← List.map_id l]
    apply List.map_congr_left
    intro c _
    simp
  rw [e3]
  simp [ByteArray.empty, ByteArray.emptyWithCapacity]
  rfl
set_option maxRecDepth 100000 in
theorem bytesCompare_any (a b : List UInt8) (ga oa ca gb ob cb : Nat) (w : World) (ha : Lib.Bytes w ga oa ⟨a.toArray⟩) (hb : Lib.Bytes w gb ob ⟨b.toArray⟩) :
    Calls Tryd.prog 65 #[.slice (some ⟨ga, oa, none⟩) a.length ca, .slice (some ⟨gb, ob, none⟩) b.length cb] w fun e w' => e = .returned (.int .i64 (cmpB a b)) ∧ w' = w := by
  have hcmp : (Extern.BytealgCompare.compare #[.slice (some ⟨ga, oa, none⟩) a.length ca, .slice (some ⟨gb, ob, none⟩) b.length cb]).run Tryd.prog w = .ok (.int .i64 (cmpB a b)) w := by
    change Sem.run Tryd.prog (do pure (goInt (Extern.BytealgCompare.cmp (← Extern.Bytes.bytesOf (.slice (some ⟨ga, oa, none⟩) a.length ca)) (← Extern.Bytes.bytesOf (.slice (some ⟨gb, ob, none⟩) b.length cb))))) w = _
    simp only [Sem.run_bind, Sem.run_pure, run_bytesOf ca ha, run_bytesOf cb hb, Result.andThen]
    rw [Lib.cmp_eq]
    rfl
  go_enter Tryd.func65, Tryd.ntmps65
  go_wp2
  rw [run_callFunc_extern Tryd.func96 (by kernel_rfl) (by kernel_rfl) (by kernel_rfl) (e := Extern.BytealgCompare.compare) (by kernel_rfl), hcmp]
  simp only [Result.andThen]
  rw [Oper.upon_value]
  go_wp2
  go_ret
  exact ⟨rfl, rfl⟩

theorem bytes_box {w : World} {g : Nat} {l : List UInt8} {t : TypeId} {fr : Nat × Nat} (h : w.heap[g]? = some (.cells (idV l).toArray t fr)) : Lib.Bytes w g 0 ⟨l.toArray⟩ := by
  intro i hi
  have hi' : i < l.length := by simpa [ByteArray.size] using hi
  rw [Nat.zero_add, cell_of_row w g i _ t fr h]
  have e2 : (⟨l.toArray⟩ : ByteArray)[i] = l[i] := by
    show (l.toArray)[i] = l[i]
    simp
  rw [e2]
  simp [idV, hi']

set_option maxHeartbeats 1000000 in
set_option maxRecDepth 100000 in
theorem compare_gr (a b : List UInt8) (w : World) (ha : IdOk a) (hb : IdOk b) :
    Calls Tryd.prog 35 #[.agg (idV a).toArray, .agg (idV b).toArray] w fun e w' => Gr w w' ∧ e = .returned (.int .i64 (cmpB a b)) := by
  have h1 : (w.alloc (.cells (idV a).toArray 45)).heap[w.heap.size]? = some (.cells (idV a).toArray 45 (0, 0)) := heap_alloc_new _ _
  go_enter Tryd.func35, Tryd.ntmps35
  go_upto_region 1 with fail
  obtain ⟨W, hW⟩ : ∃ W, (w.alloc (.cells (idV a).toArray 45)).alloc (.cells (idV b).toArray 45) = W := ⟨_, rfl⟩
  have hba : Lib.Bytes W w.heap.size 0 ⟨a.toArray⟩ := by
    rw [← hW]
    exact bytes_box (t := 45) (fr := (0, 0)) ((heap_alloc_old (w.alloc (.cells (idV a).toArray 45)) _ (by simp)).trans h1)
  have hbb : Lib.Bytes W (w.heap.size + 1) 0 ⟨b.toArray⟩ := by
    rw [← hW]
    have := heap_alloc_new (w.alloc (.cells (idV a).toArray 45)) (.cells (idV b).toArray 45)
    rw [World.size_alloc] at this
    exact bytes_box (t := 45) (fr := (0, 0)) this
  have hbW : Gr w W := by rw [← hW]; exact ((Gr.refl _).alloc _).alloc _
  rw [hW]
  clear hW h1
  have HA := Lib.hid hba; clear hba
  have HB := Lib.hid hbb; clear hbb
  have hcall := fun q => bytesCompare_any a b w.heap.size 0 32 (w.heap.size + 1) 0 32 (W.drewN q) (HA.out.drewN q) (HB.out.drewN q)
  rw [show a.length = 32 from ha, show b.length = 32 from hb] at hcall
  have HCALL := Lib.hid hcall; clear hcall
  go_quiet ((go_at_call 65; exact Calls.quiet_of_same (HCALL.out _)))
  go_wp2_with fail
  go_ret
  exact ⟨hbW.drewN _, rfl⟩
theorem compare_any (a b : List UInt8) (w : World) (ha : IdOk a) (hb : IdOk b) :
    Calls Tryd.prog 35 #[.agg (idV a).toArray, .agg (idV b).toArray] w fun e w' => Below w.heap.size w w' ∧ e = .returned (.int .i64 (cmpB a b)) :=
  (compare_gr a b w ha hb).mono fun _ _ ⟨h, e⟩ => ⟨h.below, e⟩
end Go.Proofs.YthjaepmfkgejkaaDoor
namespace Go.Proofs.YthjaepmfkgejkaaDoor
open Go.RowKit
set_option linter.unusedVariables false

theorem cut_mid {α : Type} {a b c : List α} {n m : Nat} (ha : a.length = n) (hb : b.length = m) : ((a ++ (b ++ c)).drop n).take m = b := by
  subst ha; subst hb
  simp
theorem cut_end {α : Type} {a b : List α} {n m : Nat} (ha : a.length = n) (hb : b.length = m) : ((a ++ b).drop n).take m = b := by
  subst ha; subst hb
  simp
def zero32 : List UInt8 := List.replicate 32 0
theorem zero32_ok : IdOk zero32 := by simp [IdOk, zero32]

section
variable {P : Program} {t u i a : TypeId}
theorem kb_id (ht : P.underlying t = some (.array 32 u)) (hu : P.underlying u = some (.int .u8)) (hc : P.cellsOf u = 1) (hct : P.cellsOf t = 32) {l : List UInt8} (hl : IdOk l) : Kb P 2 t (idV l) := by
  have hln : (idV l).length = 32 := by rw [idV_length]; exact hl
  refine kb_arr ht (by rw [hct, hln]) fun j hj => ?_
  rw [hc, Nat.mul_one, List.drop_eq_getElem_cons (by omega), List.take_succ_cons, List.take_zero]
  have hlj : j < l.length := by rw [hl]; exact hj
  rw [show (idV l)[j]'(by omega) = .int .u8 ((l[j]'hlj).toNat : Int) by simp [idV]]
  refine kb_int hu ?_
  simp only [Lit.wf, IntKind.min, IntKind.max, IntKind.signed, IntKind.bits, Bool.and_eq_true]
  have := (l[j]'hlj).toNat_lt
  simp
  omega
end
/-- A ref: an id, an index. -/
abbrev RefD := List UInt8 × Int
def refV (r : RefD) : List Value := idV r.1 ++ [.int .i64 r.2]
def RefOk (r : RefD) : Prop := IdOk r.1 ∧ (Lit.int .i64 r.2).wf = true
theorem refV_length {r : RefD} (h : RefOk r) : (refV r).length = 33 := by
  have := h.1
  unfold IdOk at this
  simp [refV, idV, this]
theorem refV_inj {a b : RefD} (h : refV a = refV b) : a = b := by
  unfold refV at h
  have hl := congrArg List.length h
  simp only [List.length_append, List.length_singleton] at hl
  obtain ⟨h3, h4⟩ := List.append_inj h (by omega)
  simp only [List.cons.injEq, Value.int.injEq, true_and, and_true] at h4
  exact Prod.ext (idV_inj h3) h4
theorem refV_one (r : RefD) : ∀ u ∈ refV r, u.oneCell' = true := by
  intro u hu
  rcases List.mem_append.1 hu with hu | hu
  · exact idV_one _ u hu
  · simp at hu; subst hu; rfl

theorem cellsId : Tryd.prog.cellsOf 45 = 32 := by kernel_rfl
theorem cellsU8 : Tryd.prog.cellsOf 5 = 1 := by kernel_rfl
theorem cellsInt : Tryd.prog.cellsOf 3 = 1 := by kernel_rfl
theorem cellsStr : Tryd.prog.cellsOf 9 = 1 := by kernel_rfl
theorem kbId {l : List UInt8} (hl : IdOk l) : Kb Tryd.prog 2 45 (idV l) := kb_id Tryd.underlying45 Tryd.underlying5 cellsU8 cellsId hl
set_option maxRecDepth 100000 in
theorem eqId : EqT Tryd.prog 45 2 := ⟨by kernel_rfl, of_decide_eq_true (by kernel_rfl), of_decide_eq_true (by kernel_rfl), by kernel_rfl, by kernel_rfl, of_decide_eq_true (by kernel_rfl), by kernel_rfl⟩
theorem run_eqId {a b : List UInt8} (ha : IdOk a) (hb : IdOk b) (w : World) : (Op.equalIn 10000 45 (.agg (idV a).toArray) (.agg (idV b).toArray)).run Tryd.prog w = .ok (decide (a = b)) w :=
  eqId.run idV (fun _ _ => idV_inj) (by rw [idV_length, cellsId]; exact ha) (by rw [idV_length, cellsId]; exact hb) (kbId ha) (kbId hb) w
end Go.Proofs.YthjaepmfkgejkaaDoor
namespace Go.Proofs.YthjaepmfkgejkaaDoor
open Go.RowKit
set_option linter.unusedVariables false

def or3 (x y z : Int) : Int := if x ≠ 0 then x else if y ≠ 0 then y else z
def at3 (x y z : Int) (i : Nat) : Int := if i = 0 then x else if i = 1 then y else z
theorem cmpK_or (a b : KeyD) : or3 (cmpI a.1 b.1) (cmpB a.2.1 b.2.1) (cmpI a.2.2 b.2.2) = cmpK a b := by
  unfold or3 cmpK; rfl
theorem key_cells {k : KeyD} (h : KeyOk k) : (keyV k)[0]? = some (.int .i64 k.1) ∧ (keyV k)[33]? = some (.int .i64 k.2.2) ∧ ∀ j u, (idV k.2.1)[j]? = some u → (keyV k)[1 + j]? = some u := by
  have hid : (idV k.2.1).length = 32 := by rw [idV_length]; exact h.2.1
  refine ⟨rfl, ?_, ?_⟩
  · unfold keyV
    rw [show 33 = 32 + 1 from rfl, List.getElem?_cons_succ, List.getElem?_append_right (by omega), hid]; rfl
  · intro j u hj
    unfold keyV
    rw [Nat.add_comm, List.getElem?_cons_succ, List.getElem?_append_left (List.getElem?_eq_some_iff.1 hj).1]
    exact hj
theorem cells_box {w : World} {g : Nat} {cs : List Value} {t : TypeId} {fr : Nat × Nat} (h : w.heap[g]? = some (.cells cs.toArray t fr)) (j : Nat) : w.cell? ⟨g, j, none⟩ = cs[j]? := by
  rw [cell_of_row w g j _ t fr h]
  simp

end Go.Proofs.YthjaepmfkgejkaaDoor
namespace Go.Proofs.YthjaepmfkgejkaaDoor
open Go.RowKit Go.Shelf
set_option linter.unusedVariables false
set_option linter.unusedSimpArgs false

def tenS : ByteArray := ⟨#[10]⟩
theorem afterB (s : ByteArray) : (Lib.splitB tenS 1 (Lib.countB s tenS) s).map L = afterS (L s) := Lib.splitB_data tenS 1 _ s
set_option maxRecDepth 100000 in
theorem splitAfter_any (s : ByteArray) (w : World) (hs : s.size ≤ 1000000) (hg : Glob w) :
    Calls Tryd.prog 108 #[.string s, .string tenS] w fun e w' => ∃ ls : List ByteArray, e = .returned (.slice (some ⟨w.heap.size, 0, none⟩) ls.length ls.length) ∧ ls.map L = afterS (L s) ∧ ls.length ≤ s.size + 1 ∧ w' = w.alloc (.cells (ls.map Value.string).toArray 9) := by
  obtain ⟨m, hm⟩ := hg
  have hle := Lib.countB_le tenS (by decide) s.size s (Nat.le_refl _)
  have hlen := Lib.splitB_all tenS (by decide) 1 _ s rfl
  have c := Tryd.strings_genSplit s tenS 1 (-1) (Lib.countB s tenS + 1) m w (by omega) hm (by decide) (by decide) (by decide) (by decide) (by rw [if_pos (by decide)]; omega)
  rw [Nat.add_sub_cancel, hlen] at c
  have e2 : Lib.cellsOf (Lib.splitB tenS 1 (Lib.countB s tenS) s) (Lib.countB s tenS + 1) = ((Lib.splitB tenS 1 (Lib.countB s tenS) s).map Value.string).toArray := by rw [← hlen]; exact Lib.cellsOf_full _
  rw [e2] at c
  have ha := afterB s
  generalize Lib.splitB tenS 1 (Lib.countB s tenS) s = ls at *
  rw [← hlen] at c
  have HA := Lib.hid (And.intro ha (show ls.length ≤ s.size + 1 by omega))
  clear ha e2 hlen hle
  go_enter Tryd.func108, Tryd.ntmps108
  go_wp2_with (go_at_call 129; refine c.mono ?_; rintro e w' ⟨rfl, hw⟩; rw [hw])
  go_ret
  exact ⟨ls, rfl, HA.out.1, HA.out.2, rfl⟩
set_option maxRecDepth 100000 in
theorem clip_any (g n c : Nat) (w : World) (hc : n ≤ c) : Calls Tryd.prog 109 #[.slice (some ⟨g, 0, none⟩) n c] w fun e w' => w = w' ∧ e = .returned (.slice (some ⟨g, 0, none⟩) n n) := by
  have h0 : (0 : Int) ≤ (n : Int) := by omega
  have h1 : (n : Int) ≤ (c : Int) := by omega
  go_enter Tryd.func109, Tryd.ntmps109
  go_wp2_with fail
  go_ret
  exact ⟨rfl, rfl⟩
theorem L_nil {p : ByteArray} : L p = [] ↔ p.toList.isEmpty = true := by
  rw [toList_L, List.isEmpty_iff]
set_option maxRecDepth 100000 in
theorem split_row (s : ByteArray) (w : World) (hs : s.size ≤ 1000000) (hg : Glob w) :
    Calls Tryd.prog 68 #[.string s] w fun e w' => Below w.heap.size w w' ∧ ∃ g ls, e = .returned (.slice (some ⟨g, 0, none⟩) ls.length ls.length) ∧ ls.map L = linesS (L s) ∧ g < w'.heap.size ∧ ∀ j u, (strs ls)[j]? = some u → w'.cell? ⟨g, j, none⟩ = some u := by
  have hsa := splitAfter_any s w hs hg
  go_enter Tryd.func68, Tryd.ntmps68
  go_wp2_with fail
  refine hsa.mono ?_
  rintro e w2 ⟨l0, rfl, hl0, hl1, rfl⟩
  clear hsa
  have hb2 : Below w.heap.size w (w.alloc (.cells (l0.map Value.string).toArray 9)) := (Below.refl _ _).alloc (Nat.le_refl _) _
  have hbox : (w.alloc (.cells (l0.map Value.string).toArray 9)).heap[w.heap.size]? = some (.cells (l0.map Value.string).toArray 9 (0, 0)) := heap_alloc_new _ _
  generalize w.alloc (.cells (l0.map Value.string).toArray 9) = w2 at *
  have hgz : w.heap.size < w2.heap.size := (Array.getElem?_eq_some_iff.1 hbox).1
  obtain ⟨ls, p, rfl, hcs⟩ : ∃ ls p, l0 = ls ++ [p] ∧ ((L p = [] ∧ ls.map L = linesS (L s)) ∨ (L p ≠ [] ∧ (ls ++ [p]).map L = linesS (L s))) := by
    rcases afterS_cut (L s) with ⟨l, h1, h2⟩ | ⟨l, q, h1, h2, h3⟩
    · rw [h1] at hl0
      obtain ⟨ls, t, rfl, e1, e2⟩ := List.map_eq_append_iff.1 hl0
      obtain ⟨p, rfl, hp⟩ := List.map_eq_singleton_iff.1 e2
      exact ⟨ls, p, rfl, .inl ⟨hp, e1.trans h2⟩⟩
    · rw [h1] at hl0
      obtain ⟨ls, t, rfl, e1, e2⟩ := List.map_eq_append_iff.1 hl0
      obtain ⟨p, rfl, hp⟩ := List.map_eq_singleton_iff.1 e2
      exact ⟨ls, p, rfl, .inr ⟨by rw [hp]; exact h2, by rw [List.map_append, e1, List.map_cons, List.map_nil, hp]; exact h3⟩⟩
  have hcell : ∀ j u, (strs (ls ++ [p]))[j]? = some u → w2.cell? ⟨w.heap.size, j, none⟩ = some u := fun j u hj => (cells_box hbox j).trans (by simpa [strs] using hj)
  have hlen : (ls ++ [p]).length = ls.length + 1 := by simp
  have hlen' := hlen
  have hcp := hcell ls.length (.string p) (by simp [strs])
  have HC := Lib.hid hcell
  rw [hlen]
  obtain ⟨n, hn⟩ : ∃ n, ls.length = n := ⟨_, rfl⟩
  have HB2 := Lib.hid hb2; have HN := Lib.hid hn; have HL := Lib.hid hlen
  rw [hlen', hn] at hl1
  rw [hn] at hcp ⊢
  clear hcell hbox hl0 hlen hlen' hb2 hn
  have e1 : IntKind.i64.wrap ((n : Int) + 1 - 1) = (n : Int) := by rw [IntWalk.i64_in _ (by omega)]; omega
  have k0 : (0 : Int) ≤ (n : Int) := by omega
  have k1 : (n : Int) < (n : Int) + 1 := by omega
  have k2 : (n : Int) ≤ (n : Int) + 1 := by omega
  rcases hcs with ⟨hp, hls⟩ | ⟨hp, hls⟩
  · have hpe := L_nil.1 hp
    have HLS := Lib.hid hls
    have hcl := clip_any w.heap.size n (n + 1) w2 (by omega)
    clear hp hls
    go_wp2_with (go_at_call 109; refine hcl.mono ?_; rintro e w3 ⟨rfl, rfl⟩)
    go_ret
    refine ⟨HB2.out, _, ls, by rw [HN.out]; rfl, HLS.out, hgz, fun j u hj => ?_⟩
    refine HC.out j u ?_
    have hjl := (List.getElem?_eq_some_iff.1 hj).1
    rw [show strs (ls ++ [p]) = strs ls ++ [.string p] by simp [strs], List.getElem?_append_left hjl]
    exact hj
  · have hpe : p.toList.isEmpty = false := by rw [Bool.eq_false_iff]; exact fun h => hp (L_nil.2 h)
    have HLS := Lib.hid hls
    have hcl := clip_any w.heap.size (n + 1) (n + 1) w2 (by omega)
    clear hp hls
    go_wp2_with (go_at_call 109; refine hcl.mono ?_; rintro e w3 ⟨rfl, rfl⟩)
    go_ret
    refine ⟨HB2.out, _, ls ++ [p], by rw [HL.out, HN.out]; rfl, HLS.out, hgz, fun j u hj => ?_⟩
    exact HC.out j u hj
theorem split_any (s : ByteArray) (w : World) (hs : s.size ≤ 1000000) (hg : Glob w) :
    Calls Tryd.prog 68 #[.string s] w fun e w' => Below w.heap.size w w' ∧ ∃ A c ls, e = .returned (.slice A ls.length c) ∧ ls.map L = linesS (L s) ∧ Sl w' w'.heap.size A ls.length 1 (strs ls) :=
  (split_row s w hs hg).mono fun e w' ⟨h1, g, ls, h2, h3, h4, h5⟩ => ⟨h1, _, _, ls, h2, h3, by simp [strs], fun _ => ⟨g, 0, rfl, h4, fun j u hj => by rw [Nat.zero_add]; exact h5 j u hj⟩⟩
end Go.Proofs.YthjaepmfkgejkaaDoor
namespace Go.Proofs.YthjaepmfkgejkaaDoor
open Go.RowKit Go.Maps Go.Shelf
set_option linter.unusedVariables false
set_option linter.unusedSimpArgs false

def i32V (l : List Int) : List Value := l.map fun x => .int .i32 x
theorem ret_i32 {x y : Int} (h : x = y) : Ending.returned (.int .i32 x) = .returned (.int .i32 y) := by rw [h]
set_option maxHeartbeats 2000000 in
set_option maxRecDepth 100000 in
theorem diag_any (B : Nat) (A A' : Option Addr) (n m ca cb : Nat) (d t : Nat) (w : World) (hB : B < w.heap.size) (cA : w.cell? ⟨B, 0, none⟩ = some (.slice A n ca)) (cB : w.cell? ⟨B, 1, none⟩ = some (.slice A' m cb))
    (hn : n ≤ 100000) (hm : m ≤ 100000) (hd : d ≤ 1000000) (ht : t ≤ 1000000) :
    Calls Tryd.prog 131 #[.pointer (some ⟨B, 0, none⟩), .int .i64 (d : Int), .int .i64 (t : Int)] w fun e w' => e = .returned (.int .i64 ((n : Int) - m - d + 2 * t)) ∧ Gr w w' := by
  have c1 := Wg.cell cA hB
  have c2 := Wg.cell cB hB
  have e1 : IntKind.i64.wrap ((n : Int) - (m : Int)) = (n : Int) - m := IntWalk.i64_in _ (by omega)
  have e2 : IntKind.i64.wrap ((n : Int) - (m : Int) - (d : Int)) = (n : Int) - m - d := IntWalk.i64_in _ (by omega)
  have e3 : IntKind.i64.wrap (2 * (t : Int)) = 2 * (t : Int) := IntWalk.i64_in _ (by omega)
  have e4 : IntKind.i64.wrap ((n : Int) - (m : Int) - (d : Int) + 2 * (t : Int)) = (n : Int) - m - d + 2 * t := IntWalk.i64_in _ (by omega)
  go_enter Tryd.func131, Tryd.ntmps131
  go_wp2_with fail
  refine wp_region_wr (by kernel_rfl) (by kernel_rfl) ?_
  repeat (first
    | go_big_quiet_skip
    | (go_big_quiet_want
       first
         | (go_big_quiet_op
            first
              | go_big_quiet_on
              | go_big_quiet_call (first | (fail)))))
  refine wpQuiet_nil ?_
  rintro w' ⟨kk, rfl⟩
  have hkk := kk.2
  generalize kk.val = w11 at *

  go_wp2_with fail
  go_ret
  exact ⟨rfl, hkk⟩
set_option maxHeartbeats 4000000 in
set_option maxRecDepth 100000 in
theorem slide_any (a b : List Int) (B : Nat) (A A' : Option Addr) (ca cb : Nat) (i : Nat) (k : Int) (w : World) (hB : B < w.heap.size) (cA : w.cell? ⟨B, 0, none⟩ = some (.slice A a.length ca)) (cB : w.cell? ⟨B, 1, none⟩ = some (.slice A' b.length cb))
    (hsa : Sl w w.heap.size A a.length 1 (i32V a)) (hsb : Sl w w.heap.size A' b.length 1 (i32V b)) (hn : a.length ≤ 100000) (hm : b.length ≤ 100000) (hi : i ≤ a.length) (hj : (i : Int) - k ≤ b.length) (hk : -1000000 ≤ k ∧ k ≤ 1000000) :
    Calls Tryd.prog 142 #[.pointer (some ⟨B, 0, none⟩), .int .i64 (i : Int), .int .i64 k] w fun e w' => e = .returned (.int .i32 (slideS a b i k : Int)) ∧ Gr w w' := by
  have HSA := Lib.hid hsa; have HSB := Lib.hid hsb; have HCA := Lib.hid cA; have HCB := Lib.hid cB
  clear hsa hsb cA cB
  go_enter Tryd.func142, Tryd.ntmps142
  go_wp2_with fail
  go_loopw [1] (fun t wr => ∃ x : Nat, x ≤ i ∧ t = .int .i64 x ∧ Gr w wr ∧ Hid (slideS a b x k = slideS a b i k)) (fun t _ => (intOf t).toNat)
  case atStart => exact ⟨i, Nat.le_refl _, rfl, Gr.refl _, Lib.hid rfl⟩
  case round =>
    obtain ⟨x, hx, rfl, hgr, hS⟩ := hrel
    have hbl := hgr.below
    have c1 := Wg.cell (w := wr) ((hbl.cell (p := ⟨B, 0, none⟩) hB).trans HCA.out) (Nat.lt_of_lt_of_le hB hbl.size)
    have c2 := Wg.cell (w := wr) ((hbl.cell (p := ⟨B, 1, none⟩) hB).trans HCB.out) (Nat.lt_of_lt_of_le hB hbl.size)
    have HGR := Lib.hid hgr
    rcases Nat.eq_zero_or_pos x with hx0 | hx0
    · have d1 : decide ((0 : Int) < (x : Int)) = false := by rw [decide_eq_false_iff_not]; omega
      have d2 : ¬ (0 : Int) < (x : Int) := by omega
      have d3 : decide (0 < x) = false := by rw [decide_eq_false_iff_not]; omega
      have hrs := hS.out
      rw [hx0] at hrs
      have HRS := Lib.hid (show (x : Int) = (slideS a b i k : Int) by rw [hx0, ← hrs]; rfl)
      have e5 : IntKind.i32.wrap (x : Int) = (x : Int) := IntWalk.i32_in _ (by omega)
      clear hx0 hrs hgr hbl
      go_wp2_with fail
      refine wp_region_wr (by kernel_rfl) (by kernel_rfl) ?_
      repeat (first
        | go_big_quiet_skip
        | (go_big_quiet_want
           first
             | (go_big_quiet_op
                first
                  | go_big_quiet_on
                  | go_big_quiet_call (first | (fail)))))
      refine wpQuiet_nil ?_
      rintro w' ⟨kk, rfl⟩
      have hkk := kk.2
      generalize kk.val = w11 at *

      clear c1 c2 d1 d2 d3
      go_wp2_with fail
      go_ret
      exact ⟨ret_i32 HRS.out, HGR.out.trans hkk⟩
    · obtain ⟨q, hq⟩ : ∃ q, x = q + 1 := ⟨x - 1, by omega⟩
      have d1 : decide ((0 : Int) < (x : Int)) = true := by rw [decide_eq_true_iff]; omega
      have d2 : (0 : Int) < (x : Int) := by omega
      have d3 : decide (0 < x) = true := by rw [decide_eq_true_iff]; omega
      have e1 : IntKind.i64.wrap ((x : Int) - k) = (x : Int) - k := IntWalk.i64_in _ (by omega)
      have e5 : IntKind.i32.wrap (x : Int) = (x : Int) := IntWalk.i32_in _ (by omega)
      by_cases hp : 0 < (x : Int) - k
      · have d4 : decide (k < (x : Int)) = true := by rw [decide_eq_true_iff]; omega
        have d5 : k < (x : Int) := by omega
        obtain ⟨j, hjq⟩ : ∃ j : Nat, (j : Int) = (x : Int) - k - 1 := ⟨((x : Int) - k - 1).toNat, by omega⟩
        have hqa : q < a.length := by omega
        have hjb : j < b.length := by omega
        have e2 : IntKind.i64.wrap ((x : Int) - 1) = (q : Int) := by rw [IntWalk.i64_in _ (by omega)]; omega
        have e3 : IntKind.i64.wrap ((x : Int) - k - 1) = (j : Int) := by rw [IntWalk.i64_in _ (by omega)]; omega
        obtain ⟨bA, oA, rfl, hbA, hcA⟩ := (HSA.out.keep hbl).2 (by omega)
        obtain ⟨bB, oB, rfl, hbB, hcB⟩ := (HSB.out.keep hbl).2 (by omega)
        have ca := Wg.cell (w := wr) (hcA q (.int .i32 a[q]) (by simp [i32V, hqa])) (Nat.lt_of_lt_of_le hbA hbl.size)
        have cb := Wg.cell (w := wr) (hcB j (.int .i32 b[j]) (by simp [i32V, hjb])) (Nat.lt_of_lt_of_le hbB hbl.size)
        have q0 : (0 : Int) ≤ (q : Int) := by omega
        have q1 : (q : Int) < (a.length : Int) := by omega
        have j0 : (0 : Int) ≤ (j : Int) := by omega
        have j1 : (j : Int) < (b.length : Int) := by omega
        by_cases he : a[q] = b[j]
        · have hst : slideS a b q k = slideS a b i k := by
            have hcond : 0 < (q : Int) + 1 - k ∧ a[q]? = b[((q : Int) - k).toNat]? := ⟨by omega, by rw [List.getElem?_eq_getElem hqa, he, show ((q : Int) - k).toNat = j by omega, List.getElem?_eq_getElem hjb]⟩
            rw [← hS.out, hq, slideS, if_pos hcond]
          have HST := Lib.hid hst
          have hv : (a[q] == b[j]) = true := by rw [he]; exact beq_self_eq_true _
          generalize a[q] = u at *
          generalize b[j] = v at *
          have HQ : Hid (q + 1 = x) := hq.symm
          clear hcA hcB hst he hq hjq hgr hbl hS
          go_wp2_with fail
          refine wp_region_wr (by kernel_rfl) (by kernel_rfl) ?_
          repeat (first
            | go_big_quiet_skip
            | (go_big_quiet_want
               first
                 | (go_big_quiet_op
                    first
                      | go_big_quiet_on
                      | go_big_quiet_call (first | (fail)))))
          refine wpQuiet_nil ?_
          rintro w' ⟨kk, rfl⟩
          have hkk := kk.2
          generalize kk.val = w11 at *

          clear c1 c2 ca cb d1 d2 d3 d4 d5 hv
          go_wp2_with fail
          go_roundw
          case rel => exact ⟨q, by have := HQ.out; omega, by go_num, HGR.out.trans hkk, HST⟩
          case measure => have := HQ.out; simp [intOf]; omega
        · have hst : slideS a b x k = x := by
            have hcn : ¬ (0 < (q : Int) + 1 - k ∧ a[q]? = b[((q : Int) - k).toNat]?) := by
              rintro ⟨_, h⟩
              rw [List.getElem?_eq_getElem hqa, show ((q : Int) - k).toNat = j by omega, List.getElem?_eq_getElem hjb] at h
              exact he (Option.some.inj h)
            rw [hq, slideS, if_neg hcn]
          have HRS := Lib.hid (show (x : Int) = (slideS a b i k : Int) by rw [← hS.out, hst])
          have hv : (a[q] == b[j]) = false := by rw [beq_eq_false_iff_ne]; exact he
          generalize a[q] = u at *
          generalize b[j] = v at *
          clear hcA hcB hst he hq hjq hgr hbl hS
          go_wp2_with fail
          refine wp_region_wr (by kernel_rfl) (by kernel_rfl) ?_
          repeat (first
            | go_big_quiet_skip
            | (go_big_quiet_want
               first
                 | (go_big_quiet_op
                    first
                      | go_big_quiet_on
                      | go_big_quiet_call (first | (fail)))))
          refine wpQuiet_nil ?_
          rintro w' ⟨kk, rfl⟩
          have hkk := kk.2
          generalize kk.val = w11 at *

          clear c1 c2 ca cb d1 d2 d3 d4 d5 hv
          go_wp2_with fail
          go_ret
          exact ⟨ret_i32 HRS.out, HGR.out.trans hkk⟩
      · have d4 : decide (k < (x : Int)) = false := by rw [decide_eq_false_iff_not]; omega
        have d5 : ¬ k < (x : Int) := by omega
        have hst : slideS a b x k = x := by
          have hcn : ¬ (0 < (q : Int) + 1 - k ∧ a[q]? = b[((q : Int) - k).toNat]?) := by
            rintro ⟨h, _⟩
            omega
          rw [hq, slideS, if_neg hcn]
        have HRS := Lib.hid (show (x : Int) = (slideS a b i k : Int) by rw [← hS.out, hst])
        clear hst hq hgr hbl hS
        go_wp2_with fail
        refine wp_region_wr (by kernel_rfl) (by kernel_rfl) ?_
        repeat (first
          | go_big_quiet_skip
          | (go_big_quiet_want
             first
               | (go_big_quiet_op
                  first
                    | go_big_quiet_on
                    | go_big_quiet_call (first | (fail)))))
        refine wpQuiet_nil ?_
        rintro w' ⟨kk, rfl⟩
        have hkk := kk.2
        generalize kk.val = w11 at *

        clear c1 c2 d1 d2 d3 d4 d5
        go_wp2_with fail
        go_ret
        exact ⟨ret_i32 HRS.out, HGR.out.trans hkk⟩
end Go.Proofs.YthjaepmfkgejkaaDoor
namespace Go.Proofs.YthjaepmfkgejkaaDoor
open Go.RowKit Go.Maps Go.Shelf
set_option linter.unusedVariables false
set_option linter.unusedSimpArgs false

def natV (l : List Nat) : List Value := l.map fun x : Nat => .int .i32 (x : Int)
theorem ret_i64 {x y : Int} (h : x = y) : Ending.returned (.int .i64 x) = .returned (.int .i64 y) := by rw [h]
theorem addr_eq {b0 o0 b1 o1 : Nat} (h : some (⟨b0, o0, none⟩ : Addr) = some ⟨b1, o1, none⟩) : b1 = b0 ∧ o1 = o0 := by
  injection h with h
  injection h with h1 h2
  exact ⟨h1.symm, h2.symm⟩
set_option maxHeartbeats 2000000 in
set_option maxRecDepth 100000 in
theorem least_any (a b : List Int) (B : Nat) (A A' Al : Option Addr) (ca cb cl : Nat) (d : Nat) (l : List Nat) (k : Int) (w : World) (hB : B < w.heap.size) (cA : w.cell? ⟨B, 0, none⟩ = some (.slice A a.length ca)) (cB : w.cell? ⟨B, 1, none⟩ = some (.slice A' b.length cb))
    (hsl : Sl w w.heap.size Al l.length 1 (natV l)) (hl : l.length ≤ 1000000) (hle : ∀ x ∈ l, x ≤ never) (hn : a.length ≤ 100000) (hm : b.length ≤ 100000) (hd : d ≤ 1000000) (hk : -1000000 ≤ k ∧ k ≤ 1000000) :
    Calls Tryd.prog 111 #[.pointer (some ⟨B, 0, none⟩), .int .i64 (d : Int), .slice Al l.length cl, .int .i64 k] w fun e w' => e = .returned (.int .i64 (leastS a b d l k : Int)) ∧ Gr w w' := by
  have hdg := diag_any B A A' a.length b.length ca cb d 0 w hB cA cB hn hm hd (by omega)
  obtain ⟨D0, hD0⟩ : ∃ D0 : Int, (a.length : Int) - b.length - d + 2 * ((0 : Nat) : Int) = D0 := ⟨_, rfl⟩
  rw [hD0, show ((0 : Nat) : Int) = 0 from rfl] at hdg
  have hdz : dg a b d 0 = D0 := by rw [← hD0]; rfl
  have HSL := Lib.hid hsl; have HLE := Lib.hid hle
  clear hsl hle
  obtain ⟨u, hu⟩ : ∃ u : Int, k - D0 = u := ⟨_, rfl⟩
  have e0 : IntKind.i64.wrap (k - D0) = u := by rw [IntWalk.i64_in _ (by omega)]; exact hu
  have HU : Hid (k - dg a b d 0 = u) := by rw [hdz]; exact hu
  have hur : -3000000 ≤ u ∧ u ≤ 3000000 := by omega
  clear hu hdz hD0 cA cB
  rcases (by omega : u < 0 ∨ 0 ≤ u) with h0 | h0
  · have HV := Lib.hid (show (2147483647 : Int) = (leastS a b d l k : Int) by unfold leastS; rw [HU.out, if_pos (.inl h0)]; rfl)
    have d1 : decide (u < 0) = true := by rw [decide_eq_true_iff]; exact h0
    go_enter Tryd.func111, Tryd.ntmps111
    go_wp2_with (go_at_call 131; refine hdg.mono ?_; rintro e w2 ⟨rfl, hg2⟩)
    go_ret
    exact ⟨ret_i64 HV.out, hg2⟩
  · have h0' : ¬ u < 0 := by omega
    have d1 : decide (u < 0) = false := by rw [decide_eq_false_iff_not]; exact h0'
    have hm1 : u.tmod 2 = u % 2 := Int.tmod_eq_emod_of_nonneg h0
    have hq1 : u.tdiv 2 = u / 2 := Int.tdiv_eq_ediv_of_nonneg h0
    rcases (by omega : u % 2 = 1 ∨ u % 2 = 0) with h1 | h1
    · have HV := Lib.hid (show (2147483647 : Int) = (leastS a b d l k : Int) by unfold leastS; rw [HU.out, if_pos (.inr (.inl (by omega)))]; rfl)
      rw [h1] at hm1
      clear h1 hq1
      go_enter Tryd.func111, Tryd.ntmps111
      go_wp2_with (go_at_call 131; refine hdg.mono ?_; rintro e w2 ⟨rfl, hg2⟩)
      go_ret
      exact ⟨ret_i64 HV.out, hg2⟩
    · rw [h1] at hm1
      obtain ⟨q, hq⟩ : ∃ q : Nat, u / 2 = (q : Int) := ⟨(u / 2).toNat, by omega⟩
      rw [hq] at hq1
      have e6 : IntKind.i64.wrap (q : Int) = (q : Int) := IntWalk.i64_in _ (by omega)
      by_cases hlen : q < l.length
      · have HV := Lib.hid (show ((l[q] : Nat) : Int) = (leastS a b d l k : Int) by
          unfold leastS
          rw [HU.out, if_neg (by omega), hq, Int.toNat_natCast, List.getD_eq_getElem?_getD, List.getElem?_eq_getElem hlen]
          rfl)
        have d2 : ¬ (l.length : Int) ≤ (q : Int) := by omega
        have d3 : decide ((l.length : Int) ≤ (q : Int)) = false := by rw [decide_eq_false_iff_not]; exact d2
        have q0 : (0 : Int) ≤ (q : Int) := by omega
        have q1 : (q : Int) < (l.length : Int) := by omega
        have hxx : l[q] ≤ never := HLE.out _ (List.getElem_mem hlen)
        have e7 : IntKind.i64.wrap ((l[q] : Nat) : Int) = ((l[q] : Nat) : Int) := IntWalk.i64_in _ (by unfold never at hxx; omega)
        have hcell : ∀ u : World, Gr w u → ∃ b off, Al = some ⟨b, off, none⟩ ∧ u.cell? ⟨b, off + q, none⟩ = some (.int .i32 ((l[q] : Nat) : Int)) := by
          intro u hu
          obtain ⟨b, off, e, hb, hc⟩ := (HSL.out.keep hu.below).2 (by omega)
          exact ⟨b, off, e, hc q _ (by simp [natV, hlen])⟩
        have HC := Lib.hid hcell
        obtain ⟨b0, o0, rfl, _⟩ := hcell w (Gr.refl w)
        generalize l[q] = x at *
        clear h1 hq hcell hxx
        go_enter Tryd.func111, Tryd.ntmps111
        go_wp2_with (go_at_call 131; refine hdg.mono ?_; rintro e w2 ⟨rfl, hg2⟩; obtain ⟨b1, o1, hbo, hc2⟩ := HC.out w2 hg2; obtain ⟨rfl, rfl⟩ := addr_eq hbo)
        go_ret
        exact ⟨ret_i64 HV.out, hg2⟩
      · have HV := Lib.hid (show (2147483647 : Int) = (leastS a b d l k : Int) by unfold leastS; rw [HU.out, if_pos (.inr (.inr (by omega)))]; rfl)
        have d2 : (l.length : Int) ≤ (q : Int) := by omega
        have d3 : decide ((l.length : Int) ≤ (q : Int)) = true := by rw [decide_eq_true_iff]; exact d2
        clear h1 hq
        go_enter Tryd.func111, Tryd.ntmps111
        go_wp2_with (go_at_call 131; refine hdg.mono ?_; rintro e w2 ⟨rfl, hg2⟩)
        go_ret
        exact ⟨ret_i64 HV.out, hg2⟩
end Go.Proofs.YthjaepmfkgejkaaDoor
namespace Go.Proofs.YthjaepmfkgejkaaDoor
open Go.RowKit Go.Maps Go.Shelf
set_option linter.unusedVariables false
set_option linter.unusedSimpArgs false

def IBox (w : World) (B : Nat) (x : Int) : Prop := w.heap[B]? = some (.cells #[.int .i64 x] 3 (0, 0))
def OnlyAt (B : Nat) (w w' : World) : Prop := Below B w w' ∧ w'.heap.size = w.heap.size ∧ ∀ j, j ≠ B → w'.heap[j]? = w.heap[j]?
theorem IBox.cell {w : World} {B : Nat} {x : Int} (h : IBox w B x) : w.cell? ⟨B, 0, none⟩ = some (.int .i64 x) := cells_box h 0
set_option maxHeartbeats 2000000 in
set_option maxRecDepth 100000 in
theorem try_any (x k : Int) (best : Nat) (Bk Bb : Nat) (w : World) (hk : IBox w Bk k) (hb : IBox w Bb (best : Int)) (hne : Bk ≠ Bb) (hx : -1000000 ≤ x ∧ x ≤ 1000000) (hkr : -1000000 ≤ k ∧ k ≤ 1000000) :
    Calls Tryd.prog 143 #[.int .i64 x, .pointer (some ⟨Bk, 0, none⟩), .pointer (some ⟨Bb, 0, none⟩)] w fun e w' => e = .returned (.tuple #[]) ∧ OnlyAt Bb w w' ∧ IBox w' Bb (tryS best x k : Int) := by
  have c1 := hk.cell
  have c2 := hb.cell
  have f2 : w.frozen? ⟨Bb, 0, none⟩ = false := frozen_of_row w Bb 0 _ _ hb
  have hbz : Bb < w.heap.size := (Array.getElem?_eq_some_iff.1 hb).1
  have e1 : IntKind.i64.wrap (x - k) = x - k := IntWalk.i64_in _ (by omega)
  have HB := Lib.hid hb
  clear hk hb
  by_cases h1 : 0 ≤ x
  · by_cases h2 : k ≤ x
    · have hs : tryS best x k = min best x.toNat := by unfold tryS; rw [if_pos ⟨h1, by omega⟩]
      have hmin : min (best : Int) x = ((min best x.toNat : Nat) : Int) := by omega
      have d2 : 0 ≤ x - k := by omega
      rw [hs]
      clear hs
      go_enter Tryd.func143, Tryd.ntmps143
      go_wp2_with fail
      go_end0
      exact ⟨rfl, ⟨Below.setCell (Below.refl Bb w) (p := ⟨Bb, 0, none⟩) (Nat.le_refl Bb) _, by simp [World.setCell], fun j hj => Below.heap_setCell _ _ _ _ hj⟩, one_setCell HB.out⟩
    · have hs : tryS best x k = best := by unfold tryS; rw [if_neg (by omega)]
      have d2 : ¬ 0 ≤ x - k := by omega
      rw [hs]
      clear hs
      go_enter Tryd.func143, Tryd.ntmps143
      go_wp2_with fail
      go_end0
      exact ⟨rfl, ⟨Below.refl _ _, rfl, fun _ _ => rfl⟩, HB.out⟩
  · have hs : tryS best x k = best := by unfold tryS; rw [if_neg (by omega)]
    rw [hs]
    clear hs
    go_enter Tryd.func143, Tryd.ntmps143
    go_wp2_with fail
    go_end0
    exact ⟨rfl, ⟨Below.refl _ _, rfl, fun _ _ => rfl⟩, HB.out⟩
end Go.Proofs.YthjaepmfkgejkaaDoor
namespace Go.Proofs.YthjaepmfkgejkaaDoor
open Go.RowKit Go.Maps Go.Shelf
set_option linter.unusedVariables false
set_option linter.unusedSimpArgs false

theorem i32Info : (Tryd.prog.info? 21).map (fun i => (i.zero, i.size, i.bytes)) = some (some (.int .i32 0), 1, 4) := by kernel_rfl
theorem slideS_le (a b : List Int) : ∀ (i : Nat) (k : Int), slideS a b i k ≤ i
  | 0, _ => Nat.le_refl _
  | i + 1, k => by
    unfold slideS
    split
    · have := slideS_le a b i k; omega
    · exact Nat.le_refl _
theorem try_le' (best : Nat) (i k : Int) : tryS best i k ≤ best := try_le best i k
theorem best2_never (a b : List Int) (d : Nat) (l : List Nat) (t : Nat) : best2 a b d l t ≤ never := by
  refine Nat.le_trans (best2_le1 _ _) ?_
  unfold best1
  split
  · exact try_le _ _ _
  · exact Nat.le_refl _
theorem lst_never {a b : List Int} (hn : a.length < never) : ∀ d, ∀ x ∈ lst a b d, x ≤ never
  | 0, x, h => by
    rw [List.mem_singleton.1 h]
    have := slideS_le a b a.length ((a.length : Int) - b.length)
    omega
  | d + 1, x, h => by
    obtain ⟨t, _, rfl⟩ := List.mem_map.1 h
    unfold nextAt
    split
    · have := slideS_le a b (best2 a b (d + 1) (lst a b d) t) (dg a b (d + 1) t)
      have := best2_never a b (d + 1) (lst a b d) t
      omega
    · exact Nat.le_refl _
theorem lst_next {a b : List Int} {e d : Nat} {l : List Nat} (hd : d = e + 1) (hl : lst a b e = l) : lst a b d = (List.range (d + 1)).map (nextAt a b d l) := by
  subst hd hl
  rfl
theorem own_kept {w w' : World} {base : Nat} {e : TypeId} {sz : Nat} {v : Value} {n : Nat} {xs : List Value} (h : w.ownsRow base e sz v n xs) (hb : Below w.heap.size w w') : w'.ownsRow base e sz v n xs := by
  refine ⟨h.1, ?_⟩
  rcases h.2 with h0 | ⟨g, cap, cur, hv, hbg, hg, hle, hm, hcs, ht⟩
  · exact .inl h0
  · exact .inr ⟨g, cap, cur, hv, hbg, by rw [hb.block g (Array.getElem?_eq_some_iff.1 hg).1]; exact hg, hle, hm, hcs, ht⟩
theorem own_only {B : Nat} {w w' : World} {base n size c g : Nat} {e : TypeId} {xs : List Value} (h : OnlyAt B w w') (ho : w.ownsRow base e size (.slice (some ⟨g, 0, none⟩) n c) n xs) (hne : g ≠ B) : w'.ownsRow base e size (.slice (some ⟨g, 0, none⟩) n c) n xs := by
  obtain ⟨h1, h2⟩ := ho
  refine ⟨h1, ?_⟩
  rcases h2 with h2 | ⟨g', cap, cur, hv, hg, hh, r⟩
  · exact .inl h2
  · injection hv with e1 _ e3
    injection e1 with e1
    injection e1 with e1
    subst e1
    exact .inr ⟨g, cap, cur, by rw [e3], hg, by rw [h.2.2 g hne]; exact hh, r⟩
theorem XS_get {l : List Value} {i : Nat} (h : i < l.length) {v : Value} : (l.set i v)[i]? = some v := by simp [h]
theorem fill_next (f : Nat → Nat) (i n : Nat) (h : i < n) (v : Value) (hv : v = .int .i32 (f i : Int)) (z : Value) : (natV ((List.range i).map f) ++ List.replicate (n - i) z).set i v = natV ((List.range (i + 1)).map f) ++ List.replicate (n - (i + 1)) z := by
  have hl : (natV ((List.range i).map f)).length = i := by simp [natV]
  rw [List.set_append_right _ _ (by omega), hl, Nat.sub_self, show n - i = (n - (i + 1)) + 1 by omega, List.replicate_succ, List.set_cons_zero, List.range_succ, List.map_append, hv]
  simp [natV]
set_option maxHeartbeats 8000000 in
set_option maxRecDepth 100000 in
theorem next_any (a b : List Int) (B : Nat) (A A' Al : Option Addr) (ca cb cl : Nat) (e : Nat) (w : World) (hB : B < w.heap.size) (cA : w.cell? ⟨B, 0, none⟩ = some (.slice A a.length ca)) (cB : w.cell? ⟨B, 1, none⟩ = some (.slice A' b.length cb))
    (hsa : Sl w w.heap.size A a.length 1 (i32V a)) (hsb : Sl w w.heap.size A' b.length 1 (i32V b)) (hsl : Sl w w.heap.size Al (e + 1) 1 (natV (lst a b e))) (hn : a.length ≤ 100000) (hm : b.length ≤ 100000) (he : e ≤ 300000) :
    Calls Tryd.prog 130 #[.pointer (some ⟨B, 0, none⟩), .int .i64 ((e + 1 : Nat) : Int), .slice Al (e + 1) cl] w fun r w' => Below w.heap.size w w' ∧ ∃ g c, r = .returned (.slice (some ⟨g, 0, none⟩) (e + 2) c) ∧
      w'.ownsRow w.heap.size 21 1 (.slice (some ⟨g, 0, none⟩) (e + 2) c) (e + 2) (natV (lst a b (e + 1))) := by
  have HSA := Lib.hid hsa; have HSB := Lib.hid hsb; have HSL := Lib.hid hsl; have HCA := Lib.hid cA; have HCB := Lib.hid cB
  have hld : (lst a b e).length = e + 1 := lst_length a b e
  have HLN := Lib.hid (lst_never (a := a) (b := b) (by unfold never; omega) e)
  clear hsa hsb hsl cA cB
  obtain ⟨l, hl⟩ : ∃ l, lst a b e = l := ⟨_, rfl⟩
  rw [hl] at hld
  have HL := Lib.hid hl
  obtain ⟨d, hd⟩ : ∃ d, d = e + 1 := ⟨_, rfl⟩
  have hd1 : 1 ≤ d := by omega
  have hdz : ((d : Int) == 0) = false := by rw [beq_eq_false_iff_ne]; omega
  have HD := Lib.hid hd
  rw [← hd] at hld HSL ⊢
  rw [hl] at HSL HLN
  rw [show e + 2 = d + 1 by omega]
  have hdb : d ≤ 300001 := by omega
  obtain ⟨bl, ol, rfl, hbl, hcl⟩ := HSL.out.2 (by omega)
  have HCL := Lib.hid hcl
  clear hl hd hcl
  go_enter Tryd.func130, Tryd.ntmps130
  have ed : IntKind.i64.wrap ((d : Int) + 1) = ((d + 1 : Nat) : Int) := by rw [IntWalk.i64_in _ (by omega)]; omega
  obtain ⟨im, hmi, hm0, hm1, hm2⟩ := info_parts i32Info
  go_wp2_with (refine wpList_make_full w rfl _ _ 134 rfl w.heap.size 21 im (.int .i32 0) 1 Tryd.underlying134 hmi hm0 hm1 .i64 .i64 _ _ (d + 1) rfl rfl (by omega) (by omega) (by rw [hm2]; omega) (by unfold maxLen; omega) (Nat.le_refl _) ?_; intro w1 hown1 hg1)
  have hb1 : Below w.heap.size w w1 := (Below.refl _ _).grown hg1 (Nat.le_refl _) (fun k e => by cases e)
  have hini : (madeCells (Value.int IntKind.i32 0).cells ((d + 1) * 1)).toList = natV ((List.range 0).map (nextAt a b d l)) ++ List.replicate (d + 1 - 0) (.int .i32 0) := by
    rw [Nat.mul_one]
    exact toList_madeCells_one _ _
  rw [hini] at hown1
  have hgz : w.heap.size < w1.heap.size := (hown1.lt _ rfl).2
  have HO1 := Lib.hid hown1; have HB1 := Lib.hid hb1
  clear hini hown1 hg1 hb1
  go_loopw [38] (fun t wr => ∃ i : Nat, i ≤ d + 1 ∧ t = .int .i64 i ∧ Below w.heap.size w wr ∧ Hid (wr.ownsRow w.heap.size 21 1 (.slice (some ⟨w.heap.size, 0, none⟩) (d + 1) (d + 1)) (d + 1) (natV ((List.range i).map (nextAt a b d l)) ++ List.replicate (d + 1 - i) (.int .i32 0)))) (fun t _ => d + 1 - (intOf t).toNat)
  case atStart => exact ⟨0, by omega, rfl, HB1.out, HO1⟩
  case round =>
    obtain ⟨i, hi, rfl, hbr, hO⟩ := hrel
    by_cases hlt : i < d + 1
    · have hbs := hbr.size
      have hdg := diag_any B A A' a.length b.length ca cb d i wr (Nat.lt_of_lt_of_le hB hbs) ((hbr.cell (p := ⟨B, 0, none⟩) hB).trans HCA.out) ((hbr.cell (p := ⟨B, 1, none⟩) hB).trans HCB.out) hn hm (by omega) (by omega)
      obtain ⟨k, hk⟩ : ∃ k : Int, (a.length : Int) - b.length - d + 2 * (i : Int) = k := ⟨_, rfl⟩
      rw [hk] at hdg
      have HK : Hid (dg a b d i = k) := hk
      have i1 : (i : Int) < (d : Int) + 1 := by omega
      clear hk
      go_upto_region 8 with (go_at_call 131; refine hdg.mono ?_; rintro r w2 ⟨rfl, hg2⟩)
      obtain ⟨z, hz⟩ : ∃ z, w2.heap.size = z := ⟨_, rfl⟩
      obtain ⟨W3, hW3⟩ : ∃ W3, (w2.alloc (.cells #[.int .i64 k] 3)).alloc (.cells #[.int .i64 2147483647] 3) = W3 := ⟨_, rfl⟩
      have K3 : Hid (IBox W3 z k) := by rw [← hW3, ← hz]; exact heap_alloc2_old _ _ _
      have B3 : Hid (IBox W3 (z + 1) ((never : Nat) : Int)) := by rw [← hW3, ← hz]; exact heap_alloc2_new _ _ _
      have hb23 : Below w2.heap.size w2 W3 := by rw [← hW3]; exact ((Below.refl _ _).alloc (Nat.le_refl _) _).alloc (by simp) _
      have hb2 : Below w.heap.size w w2 := hbr.trans (hg2.below.mono hbs)
      have E3 : Hid (Below w.heap.size w W3) := hb2.trans (hb23.mono hb2.size)
      have HZ : Hid (w.heap.size < z) := by
        have h1 := (hO.out.lt _ rfl).2
        have h2 := hg2.below.size
        rw [← hz]
        exact Nat.lt_of_lt_of_le h1 h2
      obtain ⟨XS, hXS⟩ : ∃ XS, natV ((List.range i).map (nextAt a b d l)) ++ List.replicate (d + 1 - i) (Value.int .i32 0) = XS := ⟨_, rfl⟩
      have O3 : Hid (W3.ownsRow w.heap.size 21 1 (.slice (some ⟨w.heap.size, 0, none⟩) (d + 1) (d + 1)) (d + 1) XS) := by
        rw [← hXS]
        exact own_kept (own_kept hO.out hg2.below) hb23
      have hxsl : XS.length = d + 1 := by rw [← hXS]; simp [natV]; omega
      have HXL : Hid (i < XS.length) := by rw [hxsl]; exact hlt
      have hxi : XS[i]? = some (.int .i32 0) := by
        have hl0 : (natV ((List.range i).map (nextAt a b d l))).length = i := by simp [natV]
        rw [← hXS, List.getElem?_append_right (by omega), hl0, Nat.sub_self, List.getElem?_replicate, if_pos (by omega)]
      have HXI := Lib.hid hxi
      have HFILL : Hid (∀ v : Value, v = .int .i32 (nextAt a b d l i : Int) → XS.set i v = natV ((List.range (i + 1)).map (nextAt a b d l)) ++ List.replicate (d + 1 - (i + 1)) (Value.int .i32 0)) := fun v hv => by
        rw [← hXS]
        exact fill_next (nextAt a b d l) i (d + 1) hlt v hv _
      have HBR : Hid (best2 a b d l i ≠ never → R a b d (dg a b d i) (best2 a b d l i)) := by
        have h := best2_R (a := a) (b := b) (d := e) (t := i) (by have := HD.out; omega) (lst_sound e)
        rw [HL.out, ← HD.out] at h
        exact h
      have HAH : Hid (∀ j, j < d → ∃ x : Nat, Hid (l.getD j never = x) ∧ x ≤ never ∧ ∀ u : World, Below w.heap.size w u → u.cell? ⟨bl, ol + j, none⟩ = some (.int .i32 (x : Int))) := fun j hj => by
        have hjl : j < l.length := by omega
        refine ⟨l[j], Lib.hid (by rw [List.getD_eq_getElem?_getD, List.getElem?_eq_getElem hjl]; rfl), HLN.out _ (List.getElem_mem hjl), fun u hu => ?_⟩
        exact (hu.cell (p := ⟨bl, ol + j, none⟩) hbl).trans (HCL.out j _ (by simp [natV, hjl]))
      have HXB : Hid (∀ j, j < d → ∀ x : Nat, x ≠ never → Hid (l.getD j never = x) → x ≤ 100000) := fun j hj x hx hl => by
        have h := lst_sound (a := a) (b := b) e j (by have := HD.out; omega) (by rw [HL.out, hl.out]; exact hx)
        have := h.1.2.1
        rw [HL.out, hl.out] at this
        omega
      have hkr : -1000000 ≤ k ∧ k ≤ 1000000 := by
        have h1 : dg a b d i = (a.length : Int) - b.length - d + 2 * i := rfl
        rw [HK.out] at h1
        omega
      rw [hW3, hz]
      clear hxi hW3 hXS hxsl hb23 hb2 hbr hdg hO hz
      by_cases hid : i < d
      · have i2 : (i : Int) < (d : Int) := by omega
        have i3 : decide ((i : Int) < (d : Int)) = true := by rw [decide_eq_true_iff]; exact i2
        have i4 : (0 : Int) ≤ (i : Int) := by omega
        obtain ⟨x, HX, hx, cx0⟩ := HAH.out i hid
        have cx := cx0 W3 E3.out
        by_cases hxn : x = never
        · have hxb : ((x : Int) != 2147483647) = false := by rw [hxn]; rfl
          have HB1 : Hid (best1 a b d l i = never) := Lib.hid (by unfold best1; rw [if_neg (by rw [HX.out]; exact fun h => h.2 hxn)])
          have HB1L : Hid (never ≤ never) := Nat.le_refl _
          clear hxn
          go_upto_region 11 with fail
          clear cx0
          have HB1LE : Hid (never ≤ never) := HB1L.out
          by_cases hi0 : 0 < i
          · have j1 : decide ((0 : Int) < (i : Int)) = true := by rw [decide_eq_true_iff]; omega
            have j2 : (0 : Int) < (i : Int) := by omega
            obtain ⟨y, HY, hy, ct0⟩ := HAH.out (i - 1) (by omega)
            obtain ⟨q, hq⟩ : ∃ q, q = i - 1 := ⟨_, rfl⟩
            have e9 : IntKind.i64.wrap ((i : Int) - 1) = (q : Int) := by rw [IntWalk.i64_in _ (by omega)]; omega
            have q0 : (0 : Int) ≤ (q : Int) := by omega
            have q1 : (q : Int) < (d : Int) := by omega
            have ey : IntKind.i64.wrap (y : Int) = (y : Int) := IntWalk.i64_in _ (by unfold never at hy; omega)
            rw [← hq] at ct0
            have HIQ := Lib.hid hq
            clear hq
            by_cases hyn : y = never
            · have hyb : ((y : Int) != 2147483647) = false := by rw [hyn]; rfl
              have ct := ct0 W3 E3.out
              clear ct0
              go_upto_region 13 with fail
              have cO := (O3.out.cellAt i (by omega)).trans HXI.out
              have fO := O3.out.frozenAt i
              go_upto_region 14 with fail
              obtain ⟨hO6, _⟩ := O3.out.stored i (.int .i32 2147483647)
              have hb6 : Below w.heap.size w (W3.setCell ⟨w.heap.size, i, none⟩ (.int .i32 2147483647)) := E3.out.setCell (Nat.le_refl _) _
              have hB6 : IBox (W3.setCell ⟨w.heap.size, i, none⟩ (.int .i32 2147483647)) (z + 1) (never : Int) := (Below.heap_setCell _ _ _ _ (by have := HZ.out; show z + 1 ≠ w.heap.size; omega)).trans B3.out
              have hK6 : IBox (W3.setCell ⟨w.heap.size, i, none⟩ (.int .i32 2147483647)) z k := (Below.heap_setCell _ _ _ _ (by have := HZ.out; show z ≠ w.heap.size; omega)).trans K3.out
              generalize W3.setCell ⟨w.heap.size, i, none⟩ (.int .i32 2147483647) = W6 at *
              have cb6 := hB6.cell
              have ck6 := hK6.cell
              have HO6 := Lib.hid hO6; have HB6 := Lib.hid hb6
              clear cO fO hO6 hb6 hB6 hK6
              have hbe : best2 a b d l i = never := by unfold best2; rw [if_neg (by rw [HY.out]; exact fun h => h.2 hyn)]; exact HB1.out
              have hbn : never = never := rfl
              have hna : nextAt a b d l i = never := by unfold nextAt; rw [hbe, if_neg (fun h => h hbn)]
              have hbb : (((never : Nat) : Int) != 2147483647) = false := by rw [hbn]; rfl
              have hfill := HFILL.out (.int .i32 2147483647) (by rw [hna]; rfl)
              rw [hfill] at HO6
              clear hna hbe hbn hfill
              go_wp2_with fail
              go_roundw
              case rel => exact ⟨i + 1, by omega, by go_num, HB6.out, HO6⟩
              case measure => simp [intOf]; omega

            · have hyb : ((y : Int) != 2147483647) = true := bne_iff_ne.2 (by unfold never at hyn; omega)
              have hyle : y ≤ 100000 := HXB.out (i - 1) (by omega) y hyn HY
              have ct := ct0 W3 E3.out
              have t2 := try_any (y : Int) k never z (z + 1) W3 K3.out B3.out (by omega) (by omega) hkr
              clear ct0
              go_upto_region 13 with (go_at_call 143; refine t2.mono ?_; rintro r W5 ⟨rfl, hO5, hb5⟩)
              have K5 : Hid (IBox W5 z k) := (hO5.2.2 z (by omega)).trans K3.out
              have B5 : Hid (IBox W5 (z + 1) (tryS never (y : Int) k : Int)) := hb5
              have E5 : Hid (Below w.heap.size w W5) := E3.out.trans (hO5.1.mono (by have := HZ.out; omega))
              have O5 : Hid (W5.ownsRow w.heap.size 21 1 (.slice (some ⟨w.heap.size, 0, none⟩) (d + 1) (d + 1)) (d + 1) XS) := own_only hO5 O3.out (by have := HZ.out; omega)
              obtain ⟨bs, hbs⟩ : ∃ bs, tryS never (y : Int) k = bs := ⟨_, rfl⟩
              rw [hbs] at B5
              have hbsle : bs ≤ never := by rw [← hbs]; exact Nat.le_trans (try_le _ _ _) HB1LE.out
              have cO := (O5.out.cellAt i (by omega)).trans HXI.out
              have fO := O5.out.frozenAt i
              go_upto_region 14 with fail
              obtain ⟨hO6, _⟩ := O5.out.stored i (.int .i32 2147483647)
              have hb6 : Below w.heap.size w (W5.setCell ⟨w.heap.size, i, none⟩ (.int .i32 2147483647)) := E5.out.setCell (Nat.le_refl _) _
              have hB6 : IBox (W5.setCell ⟨w.heap.size, i, none⟩ (.int .i32 2147483647)) (z + 1) (bs : Int) := (Below.heap_setCell _ _ _ _ (by have := HZ.out; show z + 1 ≠ w.heap.size; omega)).trans B5.out
              have hK6 : IBox (W5.setCell ⟨w.heap.size, i, none⟩ (.int .i32 2147483647)) z k := (Below.heap_setCell _ _ _ _ (by have := HZ.out; show z ≠ w.heap.size; omega)).trans K5.out
              generalize W5.setCell ⟨w.heap.size, i, none⟩ (.int .i32 2147483647) = W6 at *
              have cb6 := hB6.cell
              have ck6 := hK6.cell
              have HO6 := Lib.hid hO6; have HB6 := Lib.hid hb6
              clear cO fO hO6 hb6 hB6 hK6
              have hbe : best2 a b d l i = bs := by unfold best2; rw [if_pos ⟨hi0, by rw [HY.out]; exact hyn⟩, HY.out, HK.out, HB1.out]; exact hbs
              by_cases hbn : bs = never
              · have hna : nextAt a b d l i = never := by unfold nextAt; rw [hbe, if_neg (fun h => h hbn)]
                have hbb : (((bs : Nat) : Int) != 2147483647) = false := by rw [hbn]; rfl
                have hfill := HFILL.out (.int .i32 2147483647) (by rw [hna]; rfl)
                rw [hfill] at HO6
                clear hna hbe hbn hfill
                go_wp2_with fail
                go_roundw
                case rel => exact ⟨i + 1, by omega, by go_num, HB6.out, HO6⟩
                case measure => simp [intOf]; omega
              · have hR := HBR.out (by rw [hbe]; exact hbn)
                rw [hbe, HK.out] at hR
                obtain ⟨⟨o1, o2, o3⟩, _⟩ := hR
                have hna : nextAt a b d l i = slideS a b bs k := by unfold nextAt; rw [hbe, if_pos hbn, HK.out]
                have hbb : (((bs : Nat) : Int) != 2147483647) = true := bne_iff_ne.2 (by unfold never at hbn; omega)
                have hs6 := HB6.out.size
                have hsl := slide_any a b B A A' ca cb bs k W6 (Nat.lt_of_lt_of_le hB hs6) ((HB6.out.cell (p := ⟨B, 0, none⟩) hB).trans HCA.out) ((HB6.out.cell (p := ⟨B, 1, none⟩) hB).trans HCB.out) ((HSA.out.keep HB6.out).more hs6) ((HSB.out.keep HB6.out).more hs6) hn hm o2 o3 hkr
                have HFI := Lib.hid (HFILL.out (.int .i32 (slideS a b bs k : Int)) (by rw [hna]))
                clear hna hbe hbn o1 o2 o3
                go_upto_region 15 with fail
                go_upto_region 16 with (go_at_call 142; refine hsl.mono ?_; rintro r w7 ⟨rfl, hg7⟩
                                        have O7 := own_kept HO6.out hg7.below
                                        have cO7 := (O7.cellAt i (by omega)).trans (XS_get HXL.out)
                                        have fO7 := O7.frozenAt i
                                        have HO7 := Lib.hid O7; have HB7 := Lib.hid (HB6.out.trans (hg7.below.mono HB6.out.size)))
                obtain ⟨hO8, _⟩ := HO7.out.stored i (.int .i32 (slideS a b bs k : Int))
                have hb8 : Below w.heap.size w (w7.setCell ⟨w.heap.size, i, none⟩ (.int .i32 (slideS a b bs k : Int))) := HB7.out.setCell (Nat.le_refl _) _
                rw [List.set_set, HFI.out] at hO8
                go_wp2_with fail
                go_roundw
                case rel => exact ⟨i + 1, by omega, by go_num, hb8, Lib.hid hO8⟩
                case measure => simp [intOf]; omega

          · have j1 : decide ((0 : Int) < (i : Int)) = false := by rw [decide_eq_false_iff_not]; omega
            have j2 : ¬ (0 : Int) < (i : Int) := by omega
            go_upto_region 13 with fail
            have cO := (O3.out.cellAt i (by omega)).trans HXI.out
            have fO := O3.out.frozenAt i
            go_upto_region 14 with fail
            obtain ⟨hO6, _⟩ := O3.out.stored i (.int .i32 2147483647)
            have hb6 : Below w.heap.size w (W3.setCell ⟨w.heap.size, i, none⟩ (.int .i32 2147483647)) := E3.out.setCell (Nat.le_refl _) _
            have hB6 : IBox (W3.setCell ⟨w.heap.size, i, none⟩ (.int .i32 2147483647)) (z + 1) (never : Int) := (Below.heap_setCell _ _ _ _ (by have := HZ.out; show z + 1 ≠ w.heap.size; omega)).trans B3.out
            have hK6 : IBox (W3.setCell ⟨w.heap.size, i, none⟩ (.int .i32 2147483647)) z k := (Below.heap_setCell _ _ _ _ (by have := HZ.out; show z ≠ w.heap.size; omega)).trans K3.out
            generalize W3.setCell ⟨w.heap.size, i, none⟩ (.int .i32 2147483647) = W6 at *
            have cb6 := hB6.cell
            have ck6 := hK6.cell
            have HO6 := Lib.hid hO6; have HB6 := Lib.hid hb6
            clear cO fO hO6 hb6 hB6 hK6
            have hbe : best2 a b d l i = never := by unfold best2; rw [if_neg (fun h => hi0 h.1)]; exact HB1.out
            have hbn : never = never := rfl
            have hna : nextAt a b d l i = never := by unfold nextAt; rw [hbe, if_neg (fun h => h hbn)]
            have hbb : (((never : Nat) : Int) != 2147483647) = false := by rw [hbn]; rfl
            have hfill := HFILL.out (.int .i32 2147483647) (by rw [hna]; rfl)
            rw [hfill] at HO6
            clear hna hbe hbn hfill
            go_wp2_with fail
            go_roundw
            case rel => exact ⟨i + 1, by omega, by go_num, HB6.out, HO6⟩
            case measure => simp [intOf]; omega


        · have hxb : ((x : Int) != 2147483647) = true := bne_iff_ne.2 (by unfold never at hxn; omega)
          have ex : IntKind.i64.wrap (x : Int) = (x : Int) := IntWalk.i64_in _ (by unfold never at hx; omega)
          have ex1 : IntKind.i64.wrap ((x : Int) - 1) = (x : Int) - 1 := IntWalk.i64_in _ (by unfold never at hx; omega)
          have hxle : x ≤ 100000 := HXB.out i hid x hxn HX
          have t1 := try_any ((x : Int) - 1) k never z (z + 1) W3 K3.out B3.out (by omega) (by omega) hkr
          obtain ⟨b1, hb1⟩ : ∃ b1, tryS never ((x : Int) - 1) k = b1 := ⟨_, rfl⟩
          rw [hb1] at t1
          have HB1 : Hid (best1 a b d l i = b1) := Lib.hid (by unfold best1; rw [if_pos ⟨hid, by rw [HX.out]; exact hxn⟩, HX.out, HK.out]; exact hb1)
          have HB1L : Hid (b1 ≤ never) := by rw [← hb1]; exact try_le _ _ _
          clear hb1
          go_upto_region 11 with (go_at_call 143; refine t1.mono ?_; rintro r W4 ⟨rfl, hO4, hb4⟩)
          have K4 : Hid (IBox W4 z k) := (hO4.2.2 z (by omega)).trans K3.out
          have B4 : Hid (IBox W4 (z + 1) (b1 : Int)) := hb4
          have E4 : Hid (Below w.heap.size w W4) := E3.out.trans (hO4.1.mono (by have := HZ.out; omega))
          have O4 : Hid (W4.ownsRow w.heap.size 21 1 (.slice (some ⟨w.heap.size, 0, none⟩) (d + 1) (d + 1)) (d + 1) XS) := own_only hO4 O3.out (by have := HZ.out; omega)

          clear cx cx0 t1 hO4 hb4
          have HB1LE : Hid (b1 ≤ never) := HB1L.out
          by_cases hi0 : 0 < i
          · have j1 : decide ((0 : Int) < (i : Int)) = true := by rw [decide_eq_true_iff]; omega
            have j2 : (0 : Int) < (i : Int) := by omega
            obtain ⟨y, HY, hy, ct0⟩ := HAH.out (i - 1) (by omega)
            obtain ⟨q, hq⟩ : ∃ q, q = i - 1 := ⟨_, rfl⟩
            have e9 : IntKind.i64.wrap ((i : Int) - 1) = (q : Int) := by rw [IntWalk.i64_in _ (by omega)]; omega
            have q0 : (0 : Int) ≤ (q : Int) := by omega
            have q1 : (q : Int) < (d : Int) := by omega
            have ey : IntKind.i64.wrap (y : Int) = (y : Int) := IntWalk.i64_in _ (by unfold never at hy; omega)
            rw [← hq] at ct0
            have HIQ := Lib.hid hq
            clear hq
            by_cases hyn : y = never
            · have hyb : ((y : Int) != 2147483647) = false := by rw [hyn]; rfl
              have ct := ct0 W4 E4.out
              clear ct0
              go_upto_region 13 with fail
              have cO := (O4.out.cellAt i (by omega)).trans HXI.out
              have fO := O4.out.frozenAt i
              go_upto_region 14 with fail
              obtain ⟨hO6, _⟩ := O4.out.stored i (.int .i32 2147483647)
              have hb6 : Below w.heap.size w (W4.setCell ⟨w.heap.size, i, none⟩ (.int .i32 2147483647)) := E4.out.setCell (Nat.le_refl _) _
              have hB6 : IBox (W4.setCell ⟨w.heap.size, i, none⟩ (.int .i32 2147483647)) (z + 1) (b1 : Int) := (Below.heap_setCell _ _ _ _ (by have := HZ.out; show z + 1 ≠ w.heap.size; omega)).trans B4.out
              have hK6 : IBox (W4.setCell ⟨w.heap.size, i, none⟩ (.int .i32 2147483647)) z k := (Below.heap_setCell _ _ _ _ (by have := HZ.out; show z ≠ w.heap.size; omega)).trans K4.out
              generalize W4.setCell ⟨w.heap.size, i, none⟩ (.int .i32 2147483647) = W6 at *
              have cb6 := hB6.cell
              have ck6 := hK6.cell
              have HO6 := Lib.hid hO6; have HB6 := Lib.hid hb6
              clear cO fO hO6 hb6 hB6 hK6
              have hbe : best2 a b d l i = b1 := by unfold best2; rw [if_neg (by rw [HY.out]; exact fun h => h.2 hyn)]; exact HB1.out
              by_cases hbn : b1 = never
              · have hna : nextAt a b d l i = never := by unfold nextAt; rw [hbe, if_neg (fun h => h hbn)]
                have hbb : (((b1 : Nat) : Int) != 2147483647) = false := by rw [hbn]; rfl
                have hfill := HFILL.out (.int .i32 2147483647) (by rw [hna]; rfl)
                rw [hfill] at HO6
                clear hna hbe hbn hfill
                go_wp2_with fail
                go_roundw
                case rel => exact ⟨i + 1, by omega, by go_num, HB6.out, HO6⟩
                case measure => simp [intOf]; omega
              · have hR := HBR.out (by rw [hbe]; exact hbn)
                rw [hbe, HK.out] at hR
                obtain ⟨⟨o1, o2, o3⟩, _⟩ := hR
                have hna : nextAt a b d l i = slideS a b b1 k := by unfold nextAt; rw [hbe, if_pos hbn, HK.out]
                have hbb : (((b1 : Nat) : Int) != 2147483647) = true := bne_iff_ne.2 (by unfold never at hbn; omega)
                have hs6 := HB6.out.size
                have hsl := slide_any a b B A A' ca cb b1 k W6 (Nat.lt_of_lt_of_le hB hs6) ((HB6.out.cell (p := ⟨B, 0, none⟩) hB).trans HCA.out) ((HB6.out.cell (p := ⟨B, 1, none⟩) hB).trans HCB.out) ((HSA.out.keep HB6.out).more hs6) ((HSB.out.keep HB6.out).more hs6) hn hm o2 o3 hkr
                have HFI := Lib.hid (HFILL.out (.int .i32 (slideS a b b1 k : Int)) (by rw [hna]))
                clear hna hbe hbn o1 o2 o3
                go_upto_region 15 with fail
                go_upto_region 16 with (go_at_call 142; refine hsl.mono ?_; rintro r w7 ⟨rfl, hg7⟩
                                        have O7 := own_kept HO6.out hg7.below
                                        have cO7 := (O7.cellAt i (by omega)).trans (XS_get HXL.out)
                                        have fO7 := O7.frozenAt i
                                        have HO7 := Lib.hid O7; have HB7 := Lib.hid (HB6.out.trans (hg7.below.mono HB6.out.size)))
                obtain ⟨hO8, _⟩ := HO7.out.stored i (.int .i32 (slideS a b b1 k : Int))
                have hb8 : Below w.heap.size w (w7.setCell ⟨w.heap.size, i, none⟩ (.int .i32 (slideS a b b1 k : Int))) := HB7.out.setCell (Nat.le_refl _) _
                rw [List.set_set, HFI.out] at hO8
                go_wp2_with fail
                go_roundw
                case rel => exact ⟨i + 1, by omega, by go_num, hb8, Lib.hid hO8⟩
                case measure => simp [intOf]; omega

            · have hyb : ((y : Int) != 2147483647) = true := bne_iff_ne.2 (by unfold never at hyn; omega)
              have hyle : y ≤ 100000 := HXB.out (i - 1) (by omega) y hyn HY
              have ct := ct0 W4 E4.out
              have t2 := try_any (y : Int) k b1 z (z + 1) W4 K4.out B4.out (by omega) (by omega) hkr
              clear ct0
              go_upto_region 13 with (go_at_call 143; refine t2.mono ?_; rintro r W5 ⟨rfl, hO5, hb5⟩)
              have K5 : Hid (IBox W5 z k) := (hO5.2.2 z (by omega)).trans K4.out
              have B5 : Hid (IBox W5 (z + 1) (tryS b1 (y : Int) k : Int)) := hb5
              have E5 : Hid (Below w.heap.size w W5) := E4.out.trans (hO5.1.mono (by have := HZ.out; omega))
              have O5 : Hid (W5.ownsRow w.heap.size 21 1 (.slice (some ⟨w.heap.size, 0, none⟩) (d + 1) (d + 1)) (d + 1) XS) := own_only hO5 O4.out (by have := HZ.out; omega)
              obtain ⟨bs, hbs⟩ : ∃ bs, tryS b1 (y : Int) k = bs := ⟨_, rfl⟩
              rw [hbs] at B5
              have hbsle : bs ≤ never := by rw [← hbs]; exact Nat.le_trans (try_le _ _ _) HB1LE.out
              have cO := (O5.out.cellAt i (by omega)).trans HXI.out
              have fO := O5.out.frozenAt i
              go_upto_region 14 with fail
              obtain ⟨hO6, _⟩ := O5.out.stored i (.int .i32 2147483647)
              have hb6 : Below w.heap.size w (W5.setCell ⟨w.heap.size, i, none⟩ (.int .i32 2147483647)) := E5.out.setCell (Nat.le_refl _) _
              have hB6 : IBox (W5.setCell ⟨w.heap.size, i, none⟩ (.int .i32 2147483647)) (z + 1) (bs : Int) := (Below.heap_setCell _ _ _ _ (by have := HZ.out; show z + 1 ≠ w.heap.size; omega)).trans B5.out
              have hK6 : IBox (W5.setCell ⟨w.heap.size, i, none⟩ (.int .i32 2147483647)) z k := (Below.heap_setCell _ _ _ _ (by have := HZ.out; show z ≠ w.heap.size; omega)).trans K5.out
              generalize W5.setCell ⟨w.heap.size, i, none⟩ (.int .i32 2147483647) = W6 at *
              have cb6 := hB6.cell
              have ck6 := hK6.cell
              have HO6 := Lib.hid hO6; have HB6 := Lib.hid hb6
              clear cO fO hO6 hb6 hB6 hK6
              have hbe : best2 a b d l i = bs := by unfold best2; rw [if_pos ⟨hi0, by rw [HY.out]; exact hyn⟩, HY.out, HK.out, HB1.out]; exact hbs
              by_cases hbn : bs = never
              · have hna : nextAt a b d l i = never := by unfold nextAt; rw [hbe, if_neg (fun h => h hbn)]
                have hbb : (((bs : Nat) : Int) != 2147483647) = false := by rw [hbn]; rfl
                have hfill := HFILL.out (.int .i32 2147483647) (by rw [hna]; rfl)
                rw [hfill] at HO6
                clear hna hbe hbn hfill
                go_wp2_with fail
                go_roundw
                case rel => exact ⟨i + 1, by omega, by go_num, HB6.out, HO6⟩
                case measure => simp [intOf]; omega
              · have hR := HBR.out (by rw [hbe]; exact hbn)
                rw [hbe, HK.out] at hR
                obtain ⟨⟨o1, o2, o3⟩, _⟩ := hR
                have hna : nextAt a b d l i = slideS a b bs k := by unfold nextAt; rw [hbe, if_pos hbn, HK.out]
                have hbb : (((bs : Nat) : Int) != 2147483647) = true := bne_iff_ne.2 (by unfold never at hbn; omega)
                have hs6 := HB6.out.size
                have hsl := slide_any a b B A A' ca cb bs k W6 (Nat.lt_of_lt_of_le hB hs6) ((HB6.out.cell (p := ⟨B, 0, none⟩) hB).trans HCA.out) ((HB6.out.cell (p := ⟨B, 1, none⟩) hB).trans HCB.out) ((HSA.out.keep HB6.out).more hs6) ((HSB.out.keep HB6.out).more hs6) hn hm o2 o3 hkr
                have HFI := Lib.hid (HFILL.out (.int .i32 (slideS a b bs k : Int)) (by rw [hna]))
                clear hna hbe hbn o1 o2 o3
                go_upto_region 15 with fail
                go_upto_region 16 with (go_at_call 142; refine hsl.mono ?_; rintro r w7 ⟨rfl, hg7⟩
                                        have O7 := own_kept HO6.out hg7.below
                                        have cO7 := (O7.cellAt i (by omega)).trans (XS_get HXL.out)
                                        have fO7 := O7.frozenAt i
                                        have HO7 := Lib.hid O7; have HB7 := Lib.hid (HB6.out.trans (hg7.below.mono HB6.out.size)))
                obtain ⟨hO8, _⟩ := HO7.out.stored i (.int .i32 (slideS a b bs k : Int))
                have hb8 : Below w.heap.size w (w7.setCell ⟨w.heap.size, i, none⟩ (.int .i32 (slideS a b bs k : Int))) := HB7.out.setCell (Nat.le_refl _) _
                rw [List.set_set, HFI.out] at hO8
                go_wp2_with fail
                go_roundw
                case rel => exact ⟨i + 1, by omega, by go_num, hb8, Lib.hid hO8⟩
                case measure => simp [intOf]; omega

          · have j1 : decide ((0 : Int) < (i : Int)) = false := by rw [decide_eq_false_iff_not]; omega
            have j2 : ¬ (0 : Int) < (i : Int) := by omega
            go_upto_region 13 with fail
            have cO := (O4.out.cellAt i (by omega)).trans HXI.out
            have fO := O4.out.frozenAt i
            go_upto_region 14 with fail
            obtain ⟨hO6, _⟩ := O4.out.stored i (.int .i32 2147483647)
            have hb6 : Below w.heap.size w (W4.setCell ⟨w.heap.size, i, none⟩ (.int .i32 2147483647)) := E4.out.setCell (Nat.le_refl _) _
            have hB6 : IBox (W4.setCell ⟨w.heap.size, i, none⟩ (.int .i32 2147483647)) (z + 1) (b1 : Int) := (Below.heap_setCell _ _ _ _ (by have := HZ.out; show z + 1 ≠ w.heap.size; omega)).trans B4.out
            have hK6 : IBox (W4.setCell ⟨w.heap.size, i, none⟩ (.int .i32 2147483647)) z k := (Below.heap_setCell _ _ _ _ (by have := HZ.out; show z ≠ w.heap.size; omega)).trans K4.out
            generalize W4.setCell ⟨w.heap.size, i, none⟩ (.int .i32 2147483647) = W6 at *
            have cb6 := hB6.cell
            have ck6 := hK6.cell
            have HO6 := Lib.hid hO6; have HB6 := Lib.hid hb6
            clear cO fO hO6 hb6 hB6 hK6
            have hbe : best2 a b d l i = b1 := by unfold best2; rw [if_neg (fun h => hi0 h.1)]; exact HB1.out
            by_cases hbn : b1 = never
            · have hna : nextAt a b d l i = never := by unfold nextAt; rw [hbe, if_neg (fun h => h hbn)]
              have hbb : (((b1 : Nat) : Int) != 2147483647) = false := by rw [hbn]; rfl
              have hfill := HFILL.out (.int .i32 2147483647) (by rw [hna]; rfl)
              rw [hfill] at HO6
              clear hna hbe hbn hfill
              go_wp2_with fail
              go_roundw
              case rel => exact ⟨i + 1, by omega, by go_num, HB6.out, HO6⟩
              case measure => simp [intOf]; omega
            · have hR := HBR.out (by rw [hbe]; exact hbn)
              rw [hbe, HK.out] at hR
              obtain ⟨⟨o1, o2, o3⟩, _⟩ := hR
              have hna : nextAt a b d l i = slideS a b b1 k := by unfold nextAt; rw [hbe, if_pos hbn, HK.out]
              have hbb : (((b1 : Nat) : Int) != 2147483647) = true := bne_iff_ne.2 (by unfold never at hbn; omega)
              have hs6 := HB6.out.size
              have hsl := slide_any a b B A A' ca cb b1 k W6 (Nat.lt_of_lt_of_le hB hs6) ((HB6.out.cell (p := ⟨B, 0, none⟩) hB).trans HCA.out) ((HB6.out.cell (p := ⟨B, 1, none⟩) hB).trans HCB.out) ((HSA.out.keep HB6.out).more hs6) ((HSB.out.keep HB6.out).more hs6) hn hm o2 o3 hkr
              have HFI := Lib.hid (HFILL.out (.int .i32 (slideS a b b1 k : Int)) (by rw [hna]))
              clear hna hbe hbn o1 o2 o3
              go_upto_region 15 with fail
              go_upto_region 16 with (go_at_call 142; refine hsl.mono ?_; rintro r w7 ⟨rfl, hg7⟩
                                      have O7 := own_kept HO6.out hg7.below
                                      have cO7 := (O7.cellAt i (by omega)).trans (XS_get HXL.out)
                                      have fO7 := O7.frozenAt i
                                      have HO7 := Lib.hid O7; have HB7 := Lib.hid (HB6.out.trans (hg7.below.mono HB6.out.size)))
              obtain ⟨hO8, _⟩ := HO7.out.stored i (.int .i32 (slideS a b b1 k : Int))
              have hb8 : Below w.heap.size w (w7.setCell ⟨w.heap.size, i, none⟩ (.int .i32 (slideS a b b1 k : Int))) := HB7.out.setCell (Nat.le_refl _) _
              rw [List.set_set, HFI.out] at hO8
              go_wp2_with fail
              go_roundw
              case rel => exact ⟨i + 1, by omega, by go_num, hb8, Lib.hid hO8⟩
              case measure => simp [intOf]; omega


      · have i2 : ¬ (i : Int) < (d : Int) := by omega
        have i3 : decide ((i : Int) < (d : Int)) = false := by rw [decide_eq_false_iff_not]; exact i2
        have HB1 : Hid (best1 a b d l i = never) := Lib.hid (by unfold best1; rw [if_neg (fun h => hid h.1)])
        have HB1L : Hid (never ≤ never) := Nat.le_refl _
        go_upto_region 11 with fail
        have HB1LE : Hid (never ≤ never) := HB1L.out
        have hi0 : 0 < i := by omega
        have j1 : decide ((0 : Int) < (i : Int)) = true := by rw [decide_eq_true_iff]; omega
        have j2 : (0 : Int) < (i : Int) := by omega
        obtain ⟨y, HY, hy, ct0⟩ := HAH.out (i - 1) (by omega)
        obtain ⟨q, hq⟩ : ∃ q, q = i - 1 := ⟨_, rfl⟩
        have e9 : IntKind.i64.wrap ((i : Int) - 1) = (q : Int) := by rw [IntWalk.i64_in _ (by omega)]; omega
        have q0 : (0 : Int) ≤ (q : Int) := by omega
        have q1 : (q : Int) < (d : Int) := by omega
        have ey : IntKind.i64.wrap (y : Int) = (y : Int) := IntWalk.i64_in _ (by unfold never at hy; omega)
        rw [← hq] at ct0
        have HIQ := Lib.hid hq
        clear hq
        by_cases hyn : y = never
        · have hyb : ((y : Int) != 2147483647) = false := by rw [hyn]; rfl
          have ct := ct0 W3 E3.out
          clear ct0
          go_upto_region 13 with fail
          have cO := (O3.out.cellAt i (by omega)).trans HXI.out
          have fO := O3.out.frozenAt i
          go_upto_region 14 with fail
          obtain ⟨hO6, _⟩ := O3.out.stored i (.int .i32 2147483647)
          have hb6 : Below w.heap.size w (W3.setCell ⟨w.heap.size, i, none⟩ (.int .i32 2147483647)) := E3.out.setCell (Nat.le_refl _) _
          have hB6 : IBox (W3.setCell ⟨w.heap.size, i, none⟩ (.int .i32 2147483647)) (z + 1) (never : Int) := (Below.heap_setCell _ _ _ _ (by have := HZ.out; show z + 1 ≠ w.heap.size; omega)).trans B3.out
          have hK6 : IBox (W3.setCell ⟨w.heap.size, i, none⟩ (.int .i32 2147483647)) z k := (Below.heap_setCell _ _ _ _ (by have := HZ.out; show z ≠ w.heap.size; omega)).trans K3.out
          generalize W3.setCell ⟨w.heap.size, i, none⟩ (.int .i32 2147483647) = W6 at *
          have cb6 := hB6.cell
          have ck6 := hK6.cell
          have HO6 := Lib.hid hO6; have HB6 := Lib.hid hb6
          clear cO fO hO6 hb6 hB6 hK6
          have hbe : best2 a b d l i = never := by unfold best2; rw [if_neg (by rw [HY.out]; exact fun h => h.2 hyn)]; exact HB1.out
          have hbn : never = never := rfl
          have hna : nextAt a b d l i = never := by unfold nextAt; rw [hbe, if_neg (fun h => h hbn)]
          have hbb : (((never : Nat) : Int) != 2147483647) = false := by rw [hbn]; rfl
          have hfill := HFILL.out (.int .i32 2147483647) (by rw [hna]; rfl)
          rw [hfill] at HO6
          clear hna hbe hbn hfill
          go_wp2_with fail
          go_roundw
          case rel => exact ⟨i + 1, by omega, by go_num, HB6.out, HO6⟩
          case measure => simp [intOf]; omega

        · have hyb : ((y : Int) != 2147483647) = true := bne_iff_ne.2 (by unfold never at hyn; omega)
          have hyle : y ≤ 100000 := HXB.out (i - 1) (by omega) y hyn HY
          have ct := ct0 W3 E3.out
          have t2 := try_any (y : Int) k never z (z + 1) W3 K3.out B3.out (by omega) (by omega) hkr
          clear ct0
          go_upto_region 13 with (go_at_call 143; refine t2.mono ?_; rintro r W5 ⟨rfl, hO5, hb5⟩)
          have K5 : Hid (IBox W5 z k) := (hO5.2.2 z (by omega)).trans K3.out
          have B5 : Hid (IBox W5 (z + 1) (tryS never (y : Int) k : Int)) := hb5
          have E5 : Hid (Below w.heap.size w W5) := E3.out.trans (hO5.1.mono (by have := HZ.out; omega))
          have O5 : Hid (W5.ownsRow w.heap.size 21 1 (.slice (some ⟨w.heap.size, 0, none⟩) (d + 1) (d + 1)) (d + 1) XS) := own_only hO5 O3.out (by have := HZ.out; omega)
          obtain ⟨bs, hbs⟩ : ∃ bs, tryS never (y : Int) k = bs := ⟨_, rfl⟩
          rw [hbs] at B5
          have hbsle : bs ≤ never := by rw [← hbs]; exact Nat.le_trans (try_le _ _ _) HB1LE.out
          have cO := (O5.out.cellAt i (by omega)).trans HXI.out
          have fO := O5.out.frozenAt i
          go_upto_region 14 with fail
          obtain ⟨hO6, _⟩ := O5.out.stored i (.int .i32 2147483647)
          have hb6 : Below w.heap.size w (W5.setCell ⟨w.heap.size, i, none⟩ (.int .i32 2147483647)) := E5.out.setCell (Nat.le_refl _) _
          have hB6 : IBox (W5.setCell ⟨w.heap.size, i, none⟩ (.int .i32 2147483647)) (z + 1) (bs : Int) := (Below.heap_setCell _ _ _ _ (by have := HZ.out; show z + 1 ≠ w.heap.size; omega)).trans B5.out
          have hK6 : IBox (W5.setCell ⟨w.heap.size, i, none⟩ (.int .i32 2147483647)) z k := (Below.heap_setCell _ _ _ _ (by have := HZ.out; show z ≠ w.heap.size; omega)).trans K5.out
          generalize W5.setCell ⟨w.heap.size, i, none⟩ (.int .i32 2147483647) = W6 at *
          have cb6 := hB6.cell
          have ck6 := hK6.cell
          have HO6 := Lib.hid hO6; have HB6 := Lib.hid hb6
          clear cO fO hO6 hb6 hB6 hK6
          have hbe : best2 a b d l i = bs := by unfold best2; rw [if_pos ⟨hi0, by rw [HY.out]; exact hyn⟩, HY.out, HK.out, HB1.out]; exact hbs
          by_cases hbn : bs = never
          · have hna : nextAt a b d l i = never := by unfold nextAt; rw [hbe, if_neg (fun h => h hbn)]
            have hbb : (((bs : Nat) : Int) != 2147483647) = false := by rw [hbn]; rfl
            have hfill := HFILL.out (.int .i32 2147483647) (by rw [hna]; rfl)
            rw [hfill] at HO6
            clear hna hbe hbn hfill
            go_wp2_with fail
            go_roundw
            case rel => exact ⟨i + 1, by omega, by go_num, HB6.out, HO6⟩
            case measure => simp [intOf]; omega
          · have hR := HBR.out (by rw [hbe]; exact hbn)
            rw [hbe, HK.out] at hR
            obtain ⟨⟨o1, o2, o3⟩, _⟩ := hR
            have hna : nextAt a b d l i = slideS a b bs k := by unfold nextAt; rw [hbe, if_pos hbn, HK.out]
            have hbb : (((bs : Nat) : Int) != 2147483647) = true := bne_iff_ne.2 (by unfold never at hbn; omega)
            have hs6 := HB6.out.size
            have hsl := slide_any a b B A A' ca cb bs k W6 (Nat.lt_of_lt_of_le hB hs6) ((HB6.out.cell (p := ⟨B, 0, none⟩) hB).trans HCA.out) ((HB6.out.cell (p := ⟨B, 1, none⟩) hB).trans HCB.out) ((HSA.out.keep HB6.out).more hs6) ((HSB.out.keep HB6.out).more hs6) hn hm o2 o3 hkr
            have HFI := Lib.hid (HFILL.out (.int .i32 (slideS a b bs k : Int)) (by rw [hna]))
            clear hna hbe hbn o1 o2 o3
            go_upto_region 15 with fail
            go_upto_region 16 with (go_at_call 142; refine hsl.mono ?_; rintro r w7 ⟨rfl, hg7⟩
                                    have O7 := own_kept HO6.out hg7.below
                                    have cO7 := (O7.cellAt i (by omega)).trans (XS_get HXL.out)
                                    have fO7 := O7.frozenAt i
                                    have HO7 := Lib.hid O7; have HB7 := Lib.hid (HB6.out.trans (hg7.below.mono HB6.out.size)))
            obtain ⟨hO8, _⟩ := HO7.out.stored i (.int .i32 (slideS a b bs k : Int))
            have hb8 : Below w.heap.size w (w7.setCell ⟨w.heap.size, i, none⟩ (.int .i32 (slideS a b bs k : Int))) := HB7.out.setCell (Nat.le_refl _) _
            rw [List.set_set, HFI.out] at hO8
            go_wp2_with fail
            go_roundw
            case rel => exact ⟨i + 1, by omega, by go_num, hb8, Lib.hid hO8⟩
            case measure => simp [intOf]; omega
    · have hie : i = d + 1 := by omega
      rw [hie] at hO
      simp only [Nat.sub_self, List.replicate_zero, List.append_nil] at hO
      have HBQ := Lib.hid hbr
      clear hie hbr
      go_wp2_with fail
      go_ret
      refine ⟨HBQ.out, _, _, rfl, ?_⟩
      have h := hO.out
      have hnx := lst_next (a := a) (b := b) HD.out HL.out
      rw [hnx]
      exact h
end Go.Proofs.YthjaepmfkgejkaaDoor
namespace Go.Proofs.YthjaepmfkgejkaaDoor
open Go.RowKit Go.Maps Go.Shelf
set_option linter.unusedVariables false
set_option linter.unusedSimpArgs false

theorem Gr.ownNew {w w' : World} (h : Gr w w') (base : Nat) (hb : base ≤ w'.heap.size) (v : Value) (e : TypeId) : (w'.alloc (.cells #[v] e)).ownsRow base e 1 (.slice (some ⟨w'.heap.size, 0, none⟩) 1 1) 1 [v] :=
  ⟨by simp, .inr ⟨w'.heap.size, 1, #[v], rfl, hb, heap_alloc_new _ _, Nat.le_refl _, by decide, by simp, by simp⟩⟩
set_option maxHeartbeats 4000000 in
set_option maxRecDepth 100000 in
theorem next0_any (a b : List Int) (B : Nat) (A A' Al : Option Addr) (ca cb cl nl : Nat) (w : World) (hB : B < w.heap.size) (cA : w.cell? ⟨B, 0, none⟩ = some (.slice A a.length ca)) (cB : w.cell? ⟨B, 1, none⟩ = some (.slice A' b.length cb))
    (hsa : Sl w w.heap.size A a.length 1 (i32V a)) (hsb : Sl w w.heap.size A' b.length 1 (i32V b)) (hn : a.length ≤ 100000) (hm : b.length ≤ 100000) :
    Calls Tryd.prog 130 #[.pointer (some ⟨B, 0, none⟩), .int .i64 0, .slice Al nl cl] w fun r w' => Below w.heap.size w w' ∧ ∃ g c, r = .returned (.slice (some ⟨g, 0, none⟩) 1 c) ∧
      w'.ownsRow w.heap.size 21 1 (.slice (some ⟨g, 0, none⟩) 1 c) 1 (natV (lst a b 0)) := by
  have c1 := Wg.cell cA hB
  have c2 := Wg.cell cB hB
  have e1 : IntKind.i64.wrap ((a.length : Int) - (b.length : Int)) = (a.length : Int) - b.length := IntWalk.i64_in _ (by omega)
  have hsl : ∀ u : World, Gr w u → Calls Tryd.prog 142 #[.pointer (some ⟨B, 0, none⟩), .int .i64 (a.length : Int), .int .i64 ((a.length : Int) - b.length)] u fun e w' => e = .returned (.int .i32 (slideS a b a.length ((a.length : Int) - b.length) : Int)) ∧ Gr u w' := fun u hu =>
    slide_any a b B A A' ca cb a.length _ u (Nat.lt_of_lt_of_le hB hu.below.size) ((hu.below.cell (p := ⟨B, 0, none⟩) hB).trans cA) ((hu.below.cell (p := ⟨B, 1, none⟩) hB).trans cB) ((hsa.keep hu.below).more hu.below.size) ((hsb.keep hu.below).more hu.below.size) hn hm (Nat.le_refl _) (by omega) (by omega)
  have HS := Lib.hid hsl
  clear hsl hsa hsb cA cB
  go_enter Tryd.func130, Tryd.ntmps130
  go_upto_region 2 with fail
  refine wp_region_tail_wg 18 (by kernel_rfl) (by kernel_rfl) (by kernel_rfl) (by kernel_rfl) (by kernel_rfl) ?_
  simp only [List.take_succ_cons, List.take_zero, List.drop_succ_cons, List.drop_zero]
  repeat (first
    | go_big_quiet_skip
    | (go_big_quiet_want
       go_big_quiet_op
       first
         | go_big_quiet_on
         | go_big_quiet_call (first | (go_at_call 142; rename_i n; exact (HS.out n.val n.2).mono fun e w'' ⟨he, hw⟩ => ⟨he, ⟨⟨w'', n.2.trans hw⟩, rfl⟩⟩))))
  refine wpQuiet_nil ?_
  rintro w' ⟨kk, rfl⟩
  have hkk := kk.2
  generalize kk.val = w2 at *
  clear c1 c2
  go_wp2_with fail
  go_ret
  refine ⟨hkk.below.alloc hkk.below.size _, _, _, rfl, ?_⟩
  exact hkk.ownNew w.heap.size hkk.below.size _ _
end Go.Proofs.YthjaepmfkgejkaaDoor
namespace Go.Proofs.YthjaepmfkgejkaaDoor
open Go.RowKit Go.Maps
set_option linter.unusedVariables false

/-- Keys of a plain type, as a map's keys. -/
structure KeyEnc (P : Program) (K : TypeId) {κ : Type} (ok : κ → Prop) (val : κ → Value) (kl : κ → Lit) : Prop where
  keyed : Keyed P K
  of : ∀ k, ok k → keyOf P K (val k) = some (kl k)
  inj : ∀ a b, val a = val b → a = b

def Rv (v : Value) : Option (DataW Value × List MemPlace) := some (.held v, [])

/-- A map, and all its keys are such as are meant. -/
def MapK {κ : Type} (ok : κ → Prop) (kl : κ → Lit) (D : DataW Value) : Prop := IsMap D ∧ ∀ l, has D l = true → ∃ k, ok k ∧ l = kl k
/-- Block b is a map of at most n entries that holds just what m says. -/
def MapV (w : World) (P : Program) (K : TypeId) {κ : Type} (ok : κ → Prop) (kl : κ → Lit) (b n : Nat) (m : κ → Option Value) : Prop :=
  ∃ D : DataW Value, w.ownsMap P K Rv b n D ∧ MapK ok kl D ∧ (∀ k, ok k → has D (kl k) = (m k).isSome) ∧ ∀ k v, ok k → m k = some v → ∀ z, D.atKey (kl k) z = .held v

section
variable {P : Program} {K : TypeId} {κ : Type} {ok : κ → Prop} {val : κ → Value} {kl : κ → Lit} {w : World} {b n : Nat} {m : κ → Option Value}

theorem KeyEnc.klInj (E : KeyEnc P K ok val kl) {x y : κ} (hx : ok x) (hy : ok y) (h : kl x = kl y) : x = y :=
  E.inj _ _ (E.keyed.inj (E.of x hx) (by rw [h]; exact E.of y hy))

theorem MapV.made (w : World) (P : Program) (K : TypeId) (ok : κ → Prop) (kl : κ → Lit) : MapV (w.alloc (.map #[] 0)) P K ok kl w.heap.size 0 (fun _ => none) :=
  ⟨.map [], World.ownsMap_made w P K Rv, ⟨isMap_empty, fun l h => by cases h⟩, fun _ _ => rfl, fun _ _ _ h => by cases h⟩
theorem MapV.lt (h : MapV w P K ok kl b n m) : b < w.heap.size := by
  obtain ⟨D, h1, _⟩ := h
  exact h1.lt
theorem MapV.below {w' : World} (h : MapV w P K ok kl b n m) (hb : Below w.heap.size w w') : MapV w' P K ok kl b n m := by
  have hlt := h.lt
  obtain ⟨D, h1, h2⟩ := h
  obtain ⟨es, clock, hbk, F, hs, hD⟩ := h1
  exact ⟨D, ⟨es, clock, (hb.block b hlt).trans hbk, F, hs, hD⟩, h2⟩
theorem MapV.kept {w' : World} {row : Option Nat} (h : MapV w P K ok kl b n m) (hg : w.grownBy w' row) (hne : some b ≠ row) : MapV w' P K ok kl b n m := by
  obtain ⟨D, h1, h2⟩ := h
  exact ⟨D, h1.kept hg hne, h2⟩
theorem MapV.alloc (h : MapV w P K ok kl b n m) (o : Obj) : MapV (w.alloc o) P K ok kl b n m := by
  obtain ⟨D, h1, h2⟩ := h
  exact ⟨D, h1.alloc o, h2⟩
theorem MapV.drew (h : MapV w P K ok kl b n m) : MapV w.drew P K ok kl b n m := by
  obtain ⟨D, h1, h2⟩ := h
  exact ⟨D, h1.drew, h2⟩

theorem put_view {D : DataW Value} (E : KeyEnc P K ok val kl) (hm0 : MapK ok kl D) (h1 : ∀ k, ok k → has D (kl k) = (m k).isSome) (h2 : ∀ k v, ok k → m k = some v → ∀ z, D.atKey (kl k) z = .held v) [DecidableEq κ] {k0 : κ} (hk : ok k0) (v0 : Value) :
    MapK ok kl (D.put (kl k0) (.held v0)) ∧ (∀ k, ok k → has (D.put (kl k0) (.held v0)) (kl k) = (if k = k0 then some v0 else m k).isSome) ∧ ∀ k v, ok k → (if k = k0 then some v0 else m k) = some v → ∀ z, (D.put (kl k0) (.held v0)).atKey (kl k) z = .held v := by
  have hlit := E.keyed.key (E.of k0 hk)
  have hm := hm0.1
  refine ⟨⟨hm.put _ _, fun l hl => ?_⟩, fun k ho => ?_, fun k v ho h z => ?_⟩
  · by_cases e : l = kl k0
    · exact ⟨k0, hk, e⟩
    · rw [has_put_other e] at hl
      exact hm0.2 l hl
  · by_cases e : k = k0
    · subst e
      rw [if_pos rfl, has_put_same hm hlit]; rfl
    · rw [if_neg e, has_put_other (fun he => e (E.klInj ho hk he)), h1 k ho]
  · by_cases e : k = k0
    · subst e
      rw [if_pos rfl] at h
      cases h
      exact atKey_put_same hm hlit _ _
    · rw [if_neg e] at h
      rw [atKey_put_other (fun he => e (E.klInj ho hk he))]
      exact h2 k v ho h z

/-- 'm[k] = v'. -/
theorem wp_mapPut {ops : Array Oper} {rest : List Oper} {o : Oper} {a : Act} {Q : Exit → Act → World → Prop} [DecidableEq κ] (hg : o.guard = none) (mo x v : Operand) (t : TypeId) (hop : o.op = Op.mapUpdate t mo x v)
    (e : TypeId) (E : KeyEnc P K ok val kl) (ht : P.underlying t = some (.map K e)) (hm : a.eval mo = .map (some b)) (hown : MapV w P K ok kl b n m) (hn : n < maxLen) (k0 : κ) (hk : ok k0) (hx : a.eval x = val k0) (v0 : Value) (hv : a.eval v = v0)
    (h : ∀ w', MapV w' P K ok kl b (n + 1) (fun k => if k = k0 then some v0 else m k) → w.grownBy w' (some b) → wpList P ops Q rest (a.put o.dst undef) w') :
    wpList P ops Q (o :: rest) a w := by
  obtain ⟨D, h1, h2, h3, h4⟩ := hown
  refine wpList_mapUpdate_own w hg mo x v t hop K e E.keyed ht Rv b n D hm h1 hn (val k0) v0 (kl k0) hx hv (E.of k0 hk) (.held v0) [] rfl fun w' hw hgr => ?_
  obtain ⟨g1, g2, g3⟩ := put_view E h2 h3 h4 hk v0
  exact h w' ⟨_, hw, g1, g2, g3⟩ hgr
/-- 'v, ok := m[k]'. -/
theorem wp_mapGet2 {ops : Array Oper} {rest : List Oper} {o : Oper} {a : Act} {Q : Exit → Act → World → Prop} (hg : o.guard = none) (mo x : Operand) (t : TypeId) (hop : o.op = Op.lookup t mo x true)
    (e : TypeId) (E : KeyEnc P K ok val kl) (ht : P.underlying t = some (.map K e)) (z : Value) (hz : (zeroValue e).run P w = .ok z w) (hm : a.eval mo = .map (some b)) (hown : MapV w P K ok kl b n m) (k0 : κ) (hk : ok k0) (hx : a.eval x = val k0)
    (h : wpList P ops Q rest (a.put o.dst (.tuple #[(m k0).getD z, .bool (m k0).isSome])) w) :
    wpList P ops Q (o :: rest) a w := by
  obtain ⟨D, h1, h2, h3, h4⟩ := hown
  refine wpList_lookup_own_ok w hg mo x t hop K e E.keyed ht Rv hz (.held z) [] rfl b n D hm h1 (val k0) (kl k0) hx (E.of k0 hk) fun v ps hv => ?_
  rw [h3 k0 hk]
  have hv' : v = (m k0).getD z := by
    have e1 : (DataW.held v : DataW Value) = D.atKey (kl k0) (.held z) := congrArg Prod.fst (Option.some.inj hv)
    rcases hmk : m k0 with _ | u
    · have hh : has D (kl k0) = false := by rw [h3 k0 hk, hmk]; rfl
      rw [atKey_of_not_has hh] at e1
      injection e1
    · rw [h4 k0 u hk hmk] at e1
      injection e1
  rw [hv']; exact h
/-- 'm[k]'. -/
theorem wp_mapGet1 {ops : Array Oper} {rest : List Oper} {o : Oper} {a : Act} {Q : Exit → Act → World → Prop} (hg : o.guard = none) (mo x : Operand) (t : TypeId) (hop : o.op = Op.lookup t mo x false)
    (e : TypeId) (E : KeyEnc P K ok val kl) (ht : P.underlying t = some (.map K e)) (z : Value) (hz : (zeroValue e).run P w = .ok z w) (hm : a.eval mo = .map (some b)) (hown : MapV w P K ok kl b n m) (k0 : κ) (hk : ok k0) (hx : a.eval x = val k0)
    (h : wpList P ops Q rest (a.put o.dst ((m k0).getD z)) w) :
    wpList P ops Q (o :: rest) a w := by
  obtain ⟨D, h1, h2, h3, h4⟩ := hown
  refine wpList_plain hg fun K' hK' => ?_
  obtain ⟨v, ps, hrun, hv⟩ := h1.lookup E.keyed ht hz (zd := .held z) (zp := []) rfl (E.of k0 hk)
  have hv' : v = (m k0).getD z := by
    have e1 : (DataW.held v : DataW Value) = D.atKey (kl k0) (.held z) := congrArg Prod.fst (Option.some.inj hv)
    rcases hmk : m k0 with _ | u
    · have hh : has D (kl k0) = false := by rw [h3 k0 hk, hmk]; rfl
      rw [atKey_of_not_has hh] at e1
      injection e1
    · rw [h4 k0 u hk hmk] at e1
      injection e1
  subst hv'
  unfold Oper.wp
  simp [execOp, hop, hm, hx, hrun, Result.andThen]
  exact hK' _ _ h
end
end Go.Proofs.YthjaepmfkgejkaaDoor
namespace Go.Proofs.YthjaepmfkgejkaaDoor
open Go.RowKit Go.Maps
set_option linter.unusedVariables false

def IntOk (n : Int) : Prop := (Lit.int .i64 n).wf = true
def intK (n : Int) : Value := .int .i64 n
def intL (n : Int) : Lit := .int .i64 n
def StrOk (s : ByteArray) : Prop := s.size ≤ maxLen
def strL (s : ByteArray) : Lit := .string s.data.toList
theorem keyedInt : Keyed Tryd.prog 3 := int_keyed Tryd.underlying3
theorem keyedStr : Keyed Tryd.prog 9 := string_keyed Tryd.underlying9
theorem intEnc : KeyEnc Tryd.prog 3 IntOk intK intL := ⟨keyedInt, fun k hk => by
  unfold IntOk at hk
  simp [keyOf, mapKey, intK, intL, Tryd.underlying3, hk], fun a b h => by injection h⟩
theorem strEnc : KeyEnc Tryd.prog 9 StrOk Value.string strL := ⟨keyedStr, fun k hk => by
  unfold StrOk at hk
  simp [keyOf, mapKey, strL, Tryd.underlying9, hk], fun a b h => by injection h⟩
end Go.Proofs.YthjaepmfkgejkaaDoor
namespace Go.Proofs.YthjaepmfkgejkaaDoor
open Go.RowKit Go.Maps Go.Shelf
set_option linter.unusedVariables false
set_option linter.unusedSimpArgs false

theorem Sl.grown {w w' : World} {A : Option Addr} {n M : Nat} {xs : List Value} (h : Sl w w.heap.size A n 1 xs) (hM : ∃ es c, w.heap[M]? = some (.map es c)) (hg : w.grownBy w' (some M)) : Sl w' w'.heap.size A n 1 xs := by
  refine ⟨h.1, fun hn => ?_⟩
  obtain ⟨b, off, e, hb, hc⟩ := h.2 hn
  have hx : 0 < xs.length := by have := h.1; omega
  have hbM : b ≠ M := by
    rintro rfl
    obtain ⟨es, c, hm⟩ := hM
    have h0 := hc 0 xs[0] (by simp [hx])
    simp [World.cell?, hm] at h0
  have hbk : w'.heap[b]? = w.heap[b]? := hg.block b hb fun q => hbM (Option.some.inj q)
  refine ⟨b, off, e, Nat.lt_of_lt_of_le hb hg.size, fun j u hj => ?_⟩
  have h1 := hc j u hj
  unfold World.cell? at h1 ⊢
  rw [hbk]
  exact h1
theorem next0_any' (a b : List Int) (B : Nat) (A A' Al : Option Addr) (ca cb cl nl : Nat) (d : Nat) (hd : d = 0) (w : World) (hB : B < w.heap.size) (cA : w.cell? ⟨B, 0, none⟩ = some (.slice A a.length ca)) (cB : w.cell? ⟨B, 1, none⟩ = some (.slice A' b.length cb))
    (hsa : Sl w w.heap.size A a.length 1 (i32V a)) (hsb : Sl w w.heap.size A' b.length 1 (i32V b)) (hn : a.length ≤ 100000) (hm : b.length ≤ 100000) :
    Calls Tryd.prog 130 #[.pointer (some ⟨B, 0, none⟩), .int .i64 (d : Int), .slice Al nl cl] w fun r w' => Below w.heap.size w w' ∧ ∃ g c, r = .returned (.slice (some ⟨g, 0, none⟩) (d + 1) c) ∧
      w'.ownsRow w.heap.size 21 1 (.slice (some ⟨g, 0, none⟩) (d + 1) c) (d + 1) (natV (lst a b d)) := by
  subst hd
  have h := next0_any a b B A A' Al ca cb cl nl w hB cA cB hsa hsb hn hm
  first
    | exact h
    | simpa using h
def SavedOk (a b : List Int) (w : World) (mm : Int → Option Value) (j : Nat) : Prop := ∃ g c, mm (j : Int) = some (.slice (some ⟨g, 0, none⟩) (j + 1) c) ∧ Sl w w.heap.size (some ⟨g, 0, none⟩) (j + 1) 1 (natV (lst a b j))
/-- What stands while the search goes on. -/
structure CostAt (a b : List Int) (B M base : Nat) (A A' : Option Addr) (ca cb : Nat) (v3 v4 : Value) (w : World) (d : Nat) (wr : World) : Prop where
  bel : Below base w wr
  box : wr.heap[B]? = some (.cells #[.slice A a.length ca, .slice A' b.length cb, .map (some M), v3, v4] 182 (0, 0))
  map : ∃ nn mm, nn ≤ d ∧ MapV wr Tryd.prog 3 IntOk intL M nn mm ∧ ∀ j, j < d → j % 64 = 0 → SavedOk a b wr mm j
  ra : Sl wr wr.heap.size A a.length 1 (i32V a)
  rb : Sl wr wr.heap.size A' b.length 1 (i32V b)
section
variable {a b : List Int} {B M base d ca cb : Nat} {A A' : Option Addr} {v3 v4 : Value} {w wr w' : World}
theorem CostAt.below (h : CostAt a b B M base A A' ca cb v3 v4 w d wr) (hbs : base ≤ wr.heap.size) (hb : Below wr.heap.size wr w') : CostAt a b B M base A A' ca cb v3 v4 w d w' := by
  obtain ⟨nn, mm, h1, h2, h3⟩ := h.map
  refine ⟨h.bel.trans (hb.mono hbs), (hb.block B (Array.getElem?_eq_some_iff.1 h.box).1).trans h.box, ⟨nn, mm, h1, h2.below hb, fun j hj h0 => ?_⟩, (h.ra.keep hb).more hb.size, (h.rb.keep hb).more hb.size⟩
  obtain ⟨g, c, e, hs⟩ := h3 j hj h0
  exact ⟨g, c, e, (hs.keep hb).more hb.size⟩
theorem CostAt.skip (h : CostAt a b B M base A A' ca cb v3 v4 w d wr) (hd : d % 64 ≠ 0) : CostAt a b B M base A A' ca cb v3 v4 w (d + 1) wr := by
  obtain ⟨nn, mm, h1, h2, h3⟩ := h.map
  exact ⟨h.bel, h.box, ⟨nn, mm, by omega, h2, fun j hj h0 => h3 j (by by_cases e : j = d; exact absurd (e ▸ h0) hd; omega) h0⟩, h.ra, h.rb⟩
theorem CostAt.put (h : CostAt a b B M base A A' ca cb v3 v4 w d wr) (hMb : base ≤ M) (hBM : B ≠ M) (hbs : base ≤ wr.heap.size) {nn : Nat} {mm : Int → Option Value} (h1 : nn ≤ d) (h2 : MapV wr Tryd.prog 3 IntOk intL M nn mm) (h3 : ∀ j, j < d → j % 64 = 0 → SavedOk a b wr mm j) {g c : Nat}
    (hs : Sl wr wr.heap.size (some ⟨g, 0, none⟩) (d + 1) 1 (natV (lst a b d))) (hm' : MapV w' Tryd.prog 3 IntOk intL M (nn + 1) (fun k => if k = (d : Int) then some (.slice (some ⟨g, 0, none⟩) (d + 1) c) else mm k)) (hg : wr.grownBy w' (some M)) :
    CostAt a b B M base A A' ca cb v3 v4 w (d + 1) w' := by
  have hM : ∃ es c, wr.heap[M]? = some (.map es c) := by
    obtain ⟨D, ⟨es, clock, hbk, _⟩, _⟩ := h2
    exact ⟨es, clock, hbk⟩
  refine ⟨h.bel.grown hg hbs (fun k e => by rw [← Option.some.inj e]; exact hMb), (hg.block B (Array.getElem?_eq_some_iff.1 h.box).1 (fun q => hBM (Option.some.inj q))).trans h.box, ⟨nn + 1, _, by omega, hm', fun j hj h0 => ?_⟩, h.ra.grown hM hg, h.rb.grown hM hg⟩
  by_cases e : j = d
  · subst e
    exact ⟨g, c, by simp, hs.grown hM hg⟩
  · obtain ⟨g', c', e', hs'⟩ := h3 j (by omega) h0
    refine ⟨g', c', ?_, hs'.grown hM hg⟩
    show (if (j : Int) = (d : Int) then _ else _) = _
    rw [if_neg (by omega)]
    exact e'
end
set_option maxHeartbeats 8000000 in
set_option maxRecDepth 100000 in
theorem cost_any (a b : List Int) (B M base : Nat) (A A' : Option Addr) (ca cb : Nat) (v3 v4 : Value) (w : World) (hC : CostAt a b B M base A A' ca cb v3 v4 w 0 w) (hbs : base ≤ w.heap.size) (hBb : base ≤ B) (hMb : base ≤ M) (hBM : B ≠ M) (hn : a.length ≤ 100000) (hm : b.length ≤ 100000) :
    Calls Tryd.prog 110 #[.pointer (some ⟨B, 0, none⟩)] w fun e w' => e = .returned (.int .i64 (C a b 0 0 : Int)) ∧ CostAt a b B M base A A' ca cb v3 v4 w (C a b 0 0 + 1) w' := by
  have hDb : C a b 0 0 ≤ 200000 := by
    have h1 := C_zero_i (a := a) (b := b) a.length (Nat.le_refl _)
    have h2 := C_end (a := a) (b := b) (i := a.length) (j := 0) rfl
    omega
  have HC0 := Lib.hid hC
  clear hC
  go_enter Tryd.func110, Tryd.ntmps110
  go_wp2_with fail
  go_loopw [3, 4] (fun l t wr => ∃ d : Nat, d ≤ C a b 0 0 ∧ t = .int .i64 d ∧ w.heap.size ≤ wr.heap.size ∧ Hid (CostAt a b B M base A A' ca cb v3 v4 w d wr) ∧ Hid ((d = 0 ∧ l = .slice none 0 0) ∨ (∃ e g c, d = e + 1 ∧ l = .slice (some ⟨g, 0, none⟩) d c ∧ Sl wr wr.heap.size (some ⟨g, 0, none⟩) d 1 (natV (lst a b e))))) (fun _ t _ => C a b 0 0 + 1 - (intOf t).toNat)
  case atStart => exact ⟨0, Nat.zero_le _, rfl, Nat.le_refl _, HC0, Lib.hid (.inl ⟨rfl, rfl⟩)⟩
  case round =>
    obtain ⟨d, hd, rfl, hsz, HC, HLL⟩ := hrel
    have hbox := HC.out.box
    have hBz : B < wr.heap.size := (Array.getElem?_eq_some_iff.1 hbox).1
    have hbw : base ≤ wr.heap.size := Nat.le_trans hbs hsz
    have cA : wr.cell? ⟨B, 0, none⟩ = some (.slice A a.length ca) := cells_box hbox 0
    have cB : wr.cell? ⟨B, 1, none⟩ = some (.slice A' b.length cb) := cells_box hbox 1
    have hmt : (d : Int).tmod 64 = ((d % 64 : Nat) : Int) := by rw [Int.tmod_eq_emod_of_nonneg (by omega)]; omega
    rcases HLL.out with ⟨hd0, rfl⟩ | ⟨e, g, c, hde, rfl, hsl⟩
    · have hnx := next0_any' a b B A A' none ca cb 0 0 d hd0 wr hBz cA cB HC.out.ra HC.out.rb hn hm
      have HD0 := Lib.hid hd0
      clear hd0
      go_upto_region 5 with (go_at_call 130; refine hnx.mono ?_; rintro r w2 ⟨hb2, g2, c2, rfl, hown2⟩)
      clear hnx
      have C2 : Hid (CostAt a b B M base A A' ca cb v3 v4 w d w2) := HC.out.below hbw hb2
      have S2 : Hid (Sl w2 w2.heap.size (some ⟨g2, 0, none⟩) (d + 1) 1 (natV (lst a b d))) := Sl.of_own hown2
      have hz2 : w.heap.size ≤ w2.heap.size := Nat.le_trans hsz hb2.size
      clear hb2 hown2 cA cB hbox
      by_cases hmod : d % 64 = 0
      · rw [hmod] at hmt
        obtain ⟨nn, mm, hnn, hM, hsv⟩ := C2.out.map
        have cM : w2.cell? ⟨B, 2, none⟩ = some (.map (some M)) := cells_box C2.out.box 2
        have HM := Lib.hid hM; have HSV := Lib.hid hsv
        clear hM hsv
        go_upto_region 7 with (refine wp_mapPut rfl _ _ _ 179 rfl 134 intEnc Tryd.underlying179 rfl HM.out (by unfold maxLen; omega) (d : Int) (by unfold IntOk; simp [Lit.wf, IntKind.min, IntKind.max, IntKind.signed, IntKind.bits]; omega) rfl _ rfl ?_; intro w3 hm3 hg3)
        have C3 : Hid (CostAt a b B M base A A' ca cb v3 v4 w (d + 1) w3) := C2.out.put hMb hBM (Nat.le_trans hbs hz2) hnn HM.out HSV.out S2.out hm3 hg3
        have S3 : Hid (Sl w3 w3.heap.size (some ⟨g2, 0, none⟩) (d + 1) 1 (natV (lst a b d))) := S2.out.grown (by obtain ⟨D, ⟨es, clock, hbk, _⟩, _⟩ := HM.out; exact ⟨es, clock, hbk⟩) hg3
        have hz3 : w.heap.size ≤ w3.heap.size := Nat.le_trans hz2 hg3.size
        clear cM hm3 hg3
        have hbx := C3.out.box
        have hle := least_any a b B A A' (some ⟨g2, 0, none⟩) ca cb c2 d (lst a b d) 0 w3 (Array.getElem?_eq_some_iff.1 hbx).1 (cells_box hbx 0) (cells_box hbx 1) (by rw [lst_length]; exact S3.out) (by rw [lst_length]; omega) (lst_never (by unfold never; omega) d) hn hm (by omega) (by omega)
        rw [lst_length] at hle
        have hlz := least_zero (a := a) (b := b) (d := d) (by unfold never; omega) hd
        obtain ⟨lv, hlv⟩ : ∃ lv, leastS a b d (lst a b d) 0 = lv := ⟨_, rfl⟩
        rw [hlv] at hle hlz
        clear hbx hlv
        by_cases hlv0 : lv = 0
        · have hdD := hlz.1 hlv0
          have HDD := Lib.hid hdD
          have hlb : ((lv : Int) == 0) = true := by rw [hlv0]; rfl
          clear hdD hlz hlv0
          go_wp2_with (go_at_call 111; refine hle.mono ?_; rintro r w4 ⟨rfl, hg4⟩)
          go_ret
          have h4 := C3.out.below (Nat.le_trans hbs hz3) hg4.below
          rw [HDD.out] at h4
          exact ⟨by rw [← HDD.out]; rfl, h4⟩
        · have hlb : ((lv : Int) == 0) = false := by rw [beq_eq_false_iff_ne]; omega
          have hdD : d < C a b 0 0 := by
            rcases Nat.lt_or_eq_of_le hd with h | h
            · exact h
            · exact absurd (hlz.2 h) hlv0
          clear hlz hlv0
          go_wp2_with (go_at_call 111; refine hle.mono ?_; rintro r w4 ⟨rfl, hg4⟩)
          go_roundw
          case rel => exact ⟨d + 1, hdD, by go_num, Nat.le_trans hz3 hg4.below.size, Lib.hid (C3.out.below (Nat.le_trans hbs hz3) hg4.below), Lib.hid (.inr ⟨d, g2, c2, rfl, rfl, (S3.out.keep hg4.below).more hg4.below.size⟩)⟩
          case measure => simp [intOf]; omega

      · have hmi : (((d % 64 : Nat) : Int) == 0) = false := by rw [beq_eq_false_iff_ne]; omega
        have C3 : Hid (CostAt a b B M base A A' ca cb v3 v4 w (d + 1) w2) := C2.out.skip hmod
        go_upto_region 7 with fail
        have hbx := C3.out.box
        have hle := least_any a b B A A' (some ⟨g2, 0, none⟩) ca cb c2 d (lst a b d) 0 w2 (Array.getElem?_eq_some_iff.1 hbx).1 (cells_box hbx 0) (cells_box hbx 1) (by rw [lst_length]; exact S2.out) (by rw [lst_length]; omega) (lst_never (by unfold never; omega) d) hn hm (by omega) (by omega)
        rw [lst_length] at hle
        have hlz := least_zero (a := a) (b := b) (d := d) (by unfold never; omega) hd
        obtain ⟨lv, hlv⟩ : ∃ lv, leastS a b d (lst a b d) 0 = lv := ⟨_, rfl⟩
        rw [hlv] at hle hlz
        clear hbx hlv
        by_cases hlv0 : lv = 0
        · have hdD := hlz.1 hlv0
          have HDD := Lib.hid hdD
          have hlb : ((lv : Int) == 0) = true := by rw [hlv0]; rfl
          clear hdD hlz hlv0
          go_wp2_with (go_at_call 111; refine hle.mono ?_; rintro r w4 ⟨rfl, hg4⟩)
          go_ret
          have h4 := C3.out.below (Nat.le_trans hbs hz2) hg4.below
          rw [HDD.out] at h4
          exact ⟨by rw [← HDD.out]; rfl, h4⟩
        · have hlb : ((lv : Int) == 0) = false := by rw [beq_eq_false_iff_ne]; omega
          have hdD : d < C a b 0 0 := by
            rcases Nat.lt_or_eq_of_le hd with h | h
            · exact h
            · exact absurd (hlz.2 h) hlv0
          clear hlz hlv0
          go_wp2_with (go_at_call 111; refine hle.mono ?_; rintro r w4 ⟨rfl, hg4⟩)
          go_roundw
          case rel => exact ⟨d + 1, hdD, by go_num, Nat.le_trans hz2 hg4.below.size, Lib.hid (C3.out.below (Nat.le_trans hbs hz2) hg4.below), Lib.hid (.inr ⟨d, g2, c2, rfl, rfl, (S2.out.keep hg4.below).more hg4.below.size⟩)⟩
          case measure => simp [intOf]; omega
    · have hnx := next_any a b B A A' (some ⟨g, 0, none⟩) ca cb c e wr hBz cA cB HC.out.ra HC.out.rb (by rw [← hde]; exact hsl) hn hm (by omega)
      rw [show e + 2 = d + 1 by omega, ← hde] at hnx
      have HDE := Lib.hid hde
      clear hde
      clear hsl
      go_upto_region 5 with (go_at_call 130; refine hnx.mono ?_; rintro r w2 ⟨hb2, g2, c2, rfl, hown2⟩)
      clear hnx
      have C2 : Hid (CostAt a b B M base A A' ca cb v3 v4 w d w2) := HC.out.below hbw hb2
      have S2 : Hid (Sl w2 w2.heap.size (some ⟨g2, 0, none⟩) (d + 1) 1 (natV (lst a b d))) := Sl.of_own hown2
      have hz2 : w.heap.size ≤ w2.heap.size := Nat.le_trans hsz hb2.size
      clear hb2 hown2 cA cB hbox
      by_cases hmod : d % 64 = 0
      · rw [hmod] at hmt
        obtain ⟨nn, mm, hnn, hM, hsv⟩ := C2.out.map
        have cM : w2.cell? ⟨B, 2, none⟩ = some (.map (some M)) := cells_box C2.out.box 2
        have HM := Lib.hid hM; have HSV := Lib.hid hsv
        clear hM hsv
        go_upto_region 7 with (refine wp_mapPut rfl _ _ _ 179 rfl 134 intEnc Tryd.underlying179 rfl HM.out (by unfold maxLen; omega) (d : Int) (by unfold IntOk; simp [Lit.wf, IntKind.min, IntKind.max, IntKind.signed, IntKind.bits]; omega) rfl _ rfl ?_; intro w3 hm3 hg3)
        have C3 : Hid (CostAt a b B M base A A' ca cb v3 v4 w (d + 1) w3) := C2.out.put hMb hBM (Nat.le_trans hbs hz2) hnn HM.out HSV.out S2.out hm3 hg3
        have S3 : Hid (Sl w3 w3.heap.size (some ⟨g2, 0, none⟩) (d + 1) 1 (natV (lst a b d))) := S2.out.grown (by obtain ⟨D, ⟨es, clock, hbk, _⟩, _⟩ := HM.out; exact ⟨es, clock, hbk⟩) hg3
        have hz3 : w.heap.size ≤ w3.heap.size := Nat.le_trans hz2 hg3.size
        clear cM hm3 hg3
        have hbx := C3.out.box
        have hle := least_any a b B A A' (some ⟨g2, 0, none⟩) ca cb c2 d (lst a b d) 0 w3 (Array.getElem?_eq_some_iff.1 hbx).1 (cells_box hbx 0) (cells_box hbx 1) (by rw [lst_length]; exact S3.out) (by rw [lst_length]; omega) (lst_never (by unfold never; omega) d) hn hm (by omega) (by omega)
        rw [lst_length] at hle
        have hlz := least_zero (a := a) (b := b) (d := d) (by unfold never; omega) hd
        obtain ⟨lv, hlv⟩ : ∃ lv, leastS a b d (lst a b d) 0 = lv := ⟨_, rfl⟩
        rw [hlv] at hle hlz
        clear hbx hlv
        by_cases hlv0 : lv = 0
        · have hdD := hlz.1 hlv0
          have HDD := Lib.hid hdD
          have hlb : ((lv : Int) == 0) = true := by rw [hlv0]; rfl
          clear hdD hlz hlv0
          go_wp2_with (go_at_call 111; refine hle.mono ?_; rintro r w4 ⟨rfl, hg4⟩)
          go_ret
          have h4 := C3.out.below (Nat.le_trans hbs hz3) hg4.below
          rw [HDD.out] at h4
          exact ⟨by rw [← HDD.out]; rfl, h4⟩
        · have hlb : ((lv : Int) == 0) = false := by rw [beq_eq_false_iff_ne]; omega
          have hdD : d < C a b 0 0 := by
            rcases Nat.lt_or_eq_of_le hd with h | h
            · exact h
            · exact absurd (hlz.2 h) hlv0
          clear hlz hlv0
          go_wp2_with (go_at_call 111; refine hle.mono ?_; rintro r w4 ⟨rfl, hg4⟩)
          go_roundw
          case rel => exact ⟨d + 1, hdD, by go_num, Nat.le_trans hz3 hg4.below.size, Lib.hid (C3.out.below (Nat.le_trans hbs hz3) hg4.below), Lib.hid (.inr ⟨d, g2, c2, rfl, rfl, (S3.out.keep hg4.below).more hg4.below.size⟩)⟩
          case measure => simp [intOf]; omega

      · have hmi : (((d % 64 : Nat) : Int) == 0) = false := by rw [beq_eq_false_iff_ne]; omega
        have C3 : Hid (CostAt a b B M base A A' ca cb v3 v4 w (d + 1) w2) := C2.out.skip hmod
        go_upto_region 7 with fail
        have hbx := C3.out.box
        have hle := least_any a b B A A' (some ⟨g2, 0, none⟩) ca cb c2 d (lst a b d) 0 w2 (Array.getElem?_eq_some_iff.1 hbx).1 (cells_box hbx 0) (cells_box hbx 1) (by rw [lst_length]; exact S2.out) (by rw [lst_length]; omega) (lst_never (by unfold never; omega) d) hn hm (by omega) (by omega)
        rw [lst_length] at hle
        have hlz := least_zero (a := a) (b := b) (d := d) (by unfold never; omega) hd
        obtain ⟨lv, hlv⟩ : ∃ lv, leastS a b d (lst a b d) 0 = lv := ⟨_, rfl⟩
        rw [hlv] at hle hlz
        clear hbx hlv
        by_cases hlv0 : lv = 0
        · have hdD := hlz.1 hlv0
          have HDD := Lib.hid hdD
          have hlb : ((lv : Int) == 0) = true := by rw [hlv0]; rfl
          clear hdD hlz hlv0
          go_wp2_with (go_at_call 111; refine hle.mono ?_; rintro r w4 ⟨rfl, hg4⟩)
          go_ret
          have h4 := C3.out.below (Nat.le_trans hbs hz2) hg4.below
          rw [HDD.out] at h4
          exact ⟨by rw [← HDD.out]; rfl, h4⟩
        · have hlb : ((lv : Int) == 0) = false := by rw [beq_eq_false_iff_ne]; omega
          have hdD : d < C a b 0 0 := by
            rcases Nat.lt_or_eq_of_le hd with h | h
            · exact h
            · exact absurd (hlz.2 h) hlv0
          clear hlz hlv0
          go_wp2_with (go_at_call 111; refine hle.mono ?_; rintro r w4 ⟨rfl, hg4⟩)
          go_roundw
          case rel => exact ⟨d + 1, hdD, by go_num, Nat.le_trans hz2 hg4.below.size, Lib.hid (C3.out.below (Nat.le_trans hbs hz2) hg4.below), Lib.hid (.inr ⟨d, g2, c2, rfl, rfl, (S2.out.keep hg4.below).more hg4.below.size⟩)⟩
          case measure => simp [intOf]; omega
end Go.Proofs.YthjaepmfkgejkaaDoor
namespace Go.Proofs.YthjaepmfkgejkaaDoor
open Go.RowKit Go.Maps
set_option linter.unusedVariables false


theorem oper_wp_val {P : Program} {o : Oper} {a : Act} {w w' : World} {v : Value} {K : Act → World → Prop} {Q : Exit → Act → World → Prop} (h : (execOp a.eval o).run P w = .ok (.value v) w') (hk : K (a.put o.dst v) w') : o.wp P a w K Q := by
  unfold Oper.wp
  rw [h]
  exact hk
theorem oper_wp_skip {P : Program} {o : Oper} {a : Act} {w w' : World} {K : Act → World → Prop} {Q : Exit → Act → World → Prop} (h : (execOp a.eval o).run P w = .ok .skip w') (hk : K (a.put o.dst undef) w') : o.wp P a w K Q := by
  unfold Oper.wp
  rw [h]
  exact hk
theorem wpOp_val {P : Program} {ops : Array Oper} {Q : Exit → Act → World → Prop} {i : Nat} {K : Act → World → Prop} {a : Act} {w w' : World} {v : Value} (o : Oper) (hi : ops[i]? = some o) (hw : Region.wanted o (yielded ops a.tmps) = true)
    (h : (execOp a.eval o).run P w = .ok (.value v) w') (hk : K (a.put o.dst v) w') : wpOp P ops Q i K a w := by
  unfold wpOp
  simp only [hi, if_pos hw]
  exact .inl (oper_wp_val h hk)
theorem wpOp_skip {P : Program} {ops : Array Oper} {Q : Exit → Act → World → Prop} {i : Nat} {K : Act → World → Prop} {a : Act} {w w' : World} (o : Oper) (hi : ops[i]? = some o) (hw : Region.wanted o (yielded ops a.tmps) = true)
    (h : (execOp a.eval o).run P w = .ok .skip w') (hk : K (a.put o.dst undef) w') : wpOp P ops Q i K a w := by
  unfold wpOp
  simp only [hi, if_pos hw]
  exact .inl (oper_wp_skip h hk)
theorem wpOp_call {P : Program} {ops : Array Oper} {Q : Exit → Act → World → Prop} {i : Nat} {K : Act → World → Prop} {a : Act} {w : World} {f : FuncId} {args : Array Value} (o : Oper) (hi : ops[i]? = some o) (hw : Region.wanted o (yielded ops a.tmps) = true)
    (h : (execOp a.eval o).run P w = .ok (.enter f args) w) (hc : Calls P f args w fun e w' => ∃ v, e = .returned v ∧ K (a.put o.dst v) w') : wpOp P ops Q i K a w := by
  unfold wpOp
  simp only [hi, if_pos hw]
  refine .inl ?_
  unfold Oper.wp
  rw [h]
  exact hc.mono fun e w' ⟨v, he, hk⟩ => by subst he; exact hk
section
variable {P : Program} {ρ : Operand → Value} {o : Oper} {w : World}
theorem ex_callFn {f : FuncId} {xs : Array Operand} {ts : Array TypeId} {args : Array Value} (ho : o.op = .call { callee := .value (.func f), args := xs, argTypes := ts }) (hf : ρ (.func f) = .func (.func f) #[] #[]) (hE : ∀ args w, (callFunc f args).run P w = .ok (.enter f args) w) (ha : xs.map ρ = args) :
    (execOp ρ o).run P w = .ok (.enter f args) w := by
  unfold execOp
  simp only [ho, resolve, hf, Deferred.ofValue, ha, Array.empty_append, Sem.run_bind, Sem.run_pure, Result.andThen_ok, invoke, Array.append_empty, hE]
theorem ex_alloc {t : TypeId} {cs : Array Value} (ho : o.op = .alloc t) (hz : (zeroValue t).run P w = .ok (.agg cs) w) : (execOp ρ o).run P w = .ok (.value (.pointer (some ⟨w.heap.size, 0, none⟩))) (w.alloc (.cells cs t)) := by
  unfold execOp
  simp [ho, Instr.alloc, newVar, newRow, hz, Result.andThen, Sem.run_bind, Value.cells]
theorem ex_lookup2 (t : TypeId) (x ix : Operand) (ho : o.op = .lookup t x ix true) {vm vk v : Value} {w' : World} (hx : ρ x = vm) (hk : ρ ix = vk) (h : (Instr.lookup t vm vk true).run P w = .ok v w') : (execOp ρ o).run P w = .ok (.value v) w' := by
  unfold execOp
  simp only [ho, hx, hk, Sem.run_bind, h, Result.andThen_ok, Sem.run_pure]
end
/-- 'v, ok := m[k]', as the run has it. -/
theorem MapV.look2 {P : Program} {K t e : TypeId} {κ : Type} {ok : κ → Prop} {val : κ → Value} {kl : κ → Lit} {w : World} {b n : Nat} {m : κ → Option Value} (E : KeyEnc P K ok val kl) (ht : P.underlying t = some (.map K e)) {z : Value} (hz : ∀ u : World, (zeroValue e).run P u = .ok z u) (h : MapV w P K ok kl b n m) {k0 : κ} (hk : ok k0) :
    (Instr.lookup t (.map (some b)) (val k0) true).run P w = .ok (.tuple #[(m k0).getD z, .bool (m k0).isSome]) w := by
  obtain ⟨D, h1, hm, h3, h4⟩ := h
  obtain ⟨v, ps, hrun, hv⟩ := h1.look_ok E.keyed ht (hz w) (zd := .held z) (zp := []) rfl (E.of k0 hk)
  have hv' : v = (m k0).getD z := by
    have e1 : (DataW.held v : DataW Value) = D.atKey (kl k0) (.held z) := congrArg Prod.fst (Option.some.inj hv)
    rcases hmk : m k0 with _ | u
    · have hh : has D (kl k0) = false := by rw [h3 k0 hk, hmk]; rfl
      rw [atKey_of_not_has hh] at e1
      injection e1
    · rw [h4 k0 u hk hmk] at e1
      injection e1
  rw [hrun, hv', h3 k0 hk]


theorem wpOp_wp {P : Program} {ops : Array Oper} {Q : Exit → Act → World → Prop} {i : Nat} {K : Act → World → Prop} {a : Act} {w : World} (o : Oper) (hi : ops[i]? = some o) (hw : Region.wanted o (yielded ops a.tmps) = true)
    (h : o.wp P a w K Q) : wpOp P ops Q i K a w := by
  unfold wpOp
  simp only [hi, if_pos hw]
  exact .inl h
section
variable {P : Program} {w : World}
theorem ex_build0 {ρ : Operand → Value} {o : Oper} (t : TypeId) (ho : o.op = .buildSlice t 0 #[]) (e : TypeId) (ht : P.underlying t = some (.slice e)) (i : TypeInfo) (hi : P.info? e = some i) :
    (execOp ρ o).run P w = .ok (.value (.slice (some ⟨w.heap.size, 0, none⟩) 0 0)) (w.alloc (.cells #[] e)) := by
  have h0 : ∀ f : Nat → Value, Array.map f (Array.range 0) = #[] := fun f => Array.eq_empty_of_size_eq_zero (by simp)
  unfold execOp
  simp [ho, Instr.buildSlice, Sem.run_bind, run_underlying ht, Result.andThen, sizeOf, typeInfo, hi, Instr.fill, newRow, h0]
theorem own_made0 (w : World) (base : Nat) (e : TypeId) (size : Nat) (hb : base ≤ w.heap.size) : (w.alloc (.cells #[] e)).ownsRow base e size (.slice (some ⟨w.heap.size, 0, none⟩) 0 0) 0 [] :=
  ⟨by simp, .inr ⟨w.heap.size, 0, #[], rfl, hb, heap_alloc_new _ _, Nat.le_refl _, by decide, by simp, by simp⟩⟩
theorem wp_append_sl {o : Oper} {a : Act} {K : Act → World → Prop} {Q : Exit → Act → World → Prop} (s x : Operand) (t : TypeId)
    (ho : o.op = .call { callee := .builtin .append, args := #[s, x], argTypes := #[t, t] })
    (base : Nat) (e : TypeId) (i : TypeInfo) (z : Value) (size bytes : Nat) (ht : P.underlying t = some (.slice e)) (hi : P.info? e = some i) (hz : i.zero = some z)
    (hsize : i.size = size) (hby : i.bytes = bytes) (hzs : z.cells.size = size) (hsz : 0 < size)
    (v : Value) (n : Nat) (xs : List Value) (hs : a.eval s = v) (hown : w.ownsRow base e size v n xs)
    (A : Option Addr) (m c B : Nat) (news : List Value) (hx : a.eval x = .slice A m c) (hsl : Sl w B A m size news) (h1 : ∀ u ∈ news, u.oneCell' = true)
    (h63 : n + m ≤ maxLen) (hbytes : (n + m) * bytes ≤ 140737488355328) (hbase : base ≤ w.heap.size)
    (h : ∀ v' w', w'.ownsRow base e size v' (n + m) (xs ++ news) → w.grownBy w' v.ownBlock → K (a.put o.dst v') w') : o.wp P a w K Q := by
  have hnil : m = 0 → news = [] := fun h0 => List.eq_nil_of_length_eq_zero (by rw [hsl.1, h0, Nat.zero_mul])
  rcases A with _ | ad
  · have hm : m = 0 := by
      rcases Nat.eq_zero_or_pos m with h0 | hp
      · exact h0
      · obtain ⟨b, off, e1, _⟩ := hsl.2 hp; cases e1
    subst hm
    obtain rfl := hnil rfl
    have hgr : w.grownBy w v.ownBlock := ⟨rfl, rfl, rfl, Nat.le_refl _, fun _ _ _ => rfl⟩
    have hle : ∃ A0 c0, v = .slice A0 n c0 ∧ n ≤ c0 := by
      rcases hown.2 with ⟨rfl, rfl⟩ | ⟨g, cap, cur, rfl, _, _, hnc, _⟩
      · exact ⟨_, _, rfl, Nat.le_refl _⟩
      · exact ⟨_, _, rfl, hnc⟩
    obtain ⟨A0, c0, rfl, hnc⟩ := hle
    have hr : (Builtin.append_ #[t, t] o.type #[.slice A0 n c0, .slice none 0 c]).run P w = .ok (.slice A0 n c0) w := by
      rcases A0 with _ | a0
      · simp [Builtin.append_, run_underlying ht, sizeOf, typeInfo, hi, Builtin.lenOf, Builtin.firstCells, hnc]
      · simp [Builtin.append_, run_underlying ht, sizeOf, typeInfo, hi, Builtin.lenOf, Builtin.firstCells, hnc, storeCells]
    unfold Oper.wp execOp
    simp only [ho, resolve, invoke, builtin, Sem.run_bind, Sem.run_pure, Result.andThen_ok, List.map_toArray, List.map_cons, List.map_nil, hs, hx, hr]
    exact h _ w (by simpa using hown) hgr
  · refine wp_append_own w s x t ho base e i z size bytes ht hi hz hsize hby hzs hsz v n xs hs hown ad m c news hx hsl.1 ?_ h1 h63 hbytes hbase fun v' w' h2 h3 _ => h v' w' h2 h3
    intro j u hj
    rcases Nat.eq_zero_or_pos m with h0 | hp
    · rw [hnil h0] at hj; cases hj
    · obtain ⟨b, off, e1, _, hc⟩ := hsl.2 hp
      obtain rfl := Option.some.inj e1
      rw [Addr.add_mid]
      exact hc j u hj
end


theorem ex_store1 {P : Program} {o : Oper} {w : World} {ρ : Operand → Value} (ty : TypeId) (x y : Operand) (ho : o.op = .store ty x y) (g j : Nat) (v : Value) (hx : ρ x = .pointer (some ⟨g, j, none⟩)) (hy : ρ y = v) (h1 : v.oneCell' = true) (hv : v.cells = #[v])
    (hi : (P.info? ty).map (·.size) = some 1) {u : Value} (hc : w.cell? ⟨g, j, none⟩ = some u) (hf : w.frozen? ⟨g, j, none⟩ = false) : (execOp ρ o).run P w = .ok .skip (w.setCell ⟨g, j, none⟩ v) := by
  have h := run_storeCells_cells (P := P) g j [v] 0 w (fun i hi => by
      have : i = 0 := by simpa using hi
      subst this; simp [hc]) (fun i hi => by
      have : i = 0 := by simpa using hi
      subst this; simpa using hf) (fun q hq => by rw [List.mem_singleton.1 hq]; exact h1)
  have hset : w.setCells g (j + 0) [v] = w.setCell ⟨g, j, none⟩ v := rfl
  rw [hset] at h
  unfold execOp
  cases hq : P.info? ty with
  | none => simp [hq] at hi
  | some i =>
    have hs : i.size = 1 := by simpa [hq] using hi
    simp only [ho, hx, hy, Instr.storeAt, Instr.sureAddr, Sem.run_bind, Sem.run_pure, Result.andThen_ok]
    simp [storeVar, sizeOf, typeInfo, hq, hv, hs, h]
end Go.Proofs.YthjaepmfkgejkaaDoor
namespace Go.Proofs.YthjaepmfkgejkaaDoor
open Go.RowKit Go.Maps Go.Shelf
set_option linter.unusedVariables false
set_option linter.unusedSimpArgs false

theorem set_block {w : World} {b j : Nat} {cs : Array Value} {t : TypeId} {fz : Nat × Nat} (h : w.heap[b]? = some (.cells cs t fz)) (v : Value) : (w.setCell ⟨b, j, none⟩ v).heap[b]? = some (.cells (cs.setIfInBounds j v) t fz) := by
  have hlt := lt_of_block h
  have h' : w.heap[b] = .cells cs t fz := by simpa [Array.getElem?_eq_getElem hlt] using h
  show (w.heap.modify b _)[b]? = _
  rw [Array.getElem?_eq_getElem (by simpa using hlt), Array.getElem_modify_self, h']
  rfl
/-- A list of the search, as a slice at its block's beginning. -/
def LstAt (a b : List Int) (w : World) (v : Value) (d : Nat) : Prop := ∃ g c, v = .slice (some ⟨g, 0, none⟩) (d + 1) c ∧ Sl w w.heap.size (some ⟨g, 0, none⟩) (d + 1) 1 (natV (lst a b d))
section
variable {a b : List Int} {w w' : World} {v : Value} {d X g : Nat}
theorem LstAt.below (h : LstAt a b w v d) (hb : Below w.heap.size w w') : LstAt a b w' v d := by
  obtain ⟨g, c, e, hs⟩ := h
  exact ⟨g, c, e, (hs.keep hb).more hb.size⟩
/-- No place of the block's beginning holds a list's number: it is none of the lists' blocks. -/
theorem sl_but (h : Sl w w.heap.size (some ⟨g, 0, none⟩) (d + 1) 1 (natV (lst a b d))) (hX : ∀ k, w.cell? ⟨X, 0, none⟩ ≠ some (.int .i32 k)) (hz : w.heap.size ≤ w'.heap.size) (hk : ∀ k, k < w.heap.size → k ≠ X → w'.heap[k]? = w.heap[k]?) :
    Sl w' w'.heap.size (some ⟨g, 0, none⟩) (d + 1) 1 (natV (lst a b d)) := by
  refine ⟨h.1, fun hn => ?_⟩
  obtain ⟨b0, off, e, hb, hc⟩ := h.2 hn
  have hl : 0 < (natV (lst a b d)).length := by have := h.1; omega
  obtain ⟨e1, e2⟩ := addr_eq e
  subst e1 e2
  have hgX : b0 ≠ X := by
    rintro rfl
    have h0 := hc 0 _ (List.getElem?_eq_getElem hl)
    obtain ⟨k, hk⟩ : ∃ k, (natV (lst a b d))[0] = .int .i32 k := by
      have hm := List.getElem_mem hl
      obtain ⟨x, _, hx⟩ := List.mem_map.1 hm
      exact ⟨_, hx.symm⟩
    rw [hk] at h0
    exact hX k h0
  refine ⟨b0, 0, rfl, Nat.lt_of_lt_of_le hb hz, fun j u hj => ?_⟩
  have h1 := hc j u hj
  unfold World.cell? at h1 ⊢
  rw [hk b0 hb hgX]
  exact h1
theorem LstAt.but (h : LstAt a b w v d) (hX : ∀ k, w.cell? ⟨X, 0, none⟩ ≠ some (.int .i32 k)) (hz : w.heap.size ≤ w'.heap.size) (hk : ∀ k, k < w.heap.size → k ≠ X → w'.heap[k]? = w.heap[k]?) : LstAt a b w' v d := by
  obtain ⟨g, c, e, hs⟩ := h
  exact ⟨g, c, e, sl_but hs hX hz hk⟩
end
section
variable {a b : List Int} {B M base d ca cb : Nat} {A A' : Option Addr} {v3 v4 : Value} {w wr w' : World}
/-- One block has changed, none of those that the search reads but its box or the row of its lists. -/
theorem CostAt.but (h : CostAt a b B M base A A' ca cb v3 v4 w d wr) (hMb : base ≤ M) {X : Nat} (hXb : base ≤ X) (hXM : X ≠ M) (hX : ∀ k, wr.cell? ⟨X, 0, none⟩ ≠ some (.int .i32 k)) (hz : wr.heap.size ≤ w'.heap.size) (hbel : Below base wr w')
    (hk : ∀ k, k < wr.heap.size → k ≠ X → w'.heap[k]? = wr.heap[k]?) (hsa : Sl w base A a.length 1 (i32V a)) (hsb : Sl w base A' b.length 1 (i32V b)) (hbs : base ≤ w'.heap.size) {v3' v4' : Value}
    (hbox : w'.heap[B]? = some (.cells #[.slice A a.length ca, .slice A' b.length cb, .map (some M), v3', v4'] 182 (0, 0))) : CostAt a b B M base A A' ca cb v3' v4' w d w' := by
  obtain ⟨nn, mm, h1, h2, h3⟩ := h.map
  refine ⟨h.bel.trans hbel, hbox, ⟨nn, mm, h1, ?_, fun j hj h0 => ?_⟩, (hsa.keep (h.bel.trans hbel)).more hbs, (hsb.keep (h.bel.trans hbel)).more hbs⟩
  · obtain ⟨D, ⟨es, clock, hbk, F, hs, hD⟩, h4⟩ := h2
    exact ⟨D, ⟨es, clock, (hk M (Array.getElem?_eq_some_iff.1 hbk).1 (fun e => hXM e.symm)).trans hbk, F, hs, hD⟩, h4⟩
  · obtain ⟨g, c, e, hs⟩ := h3 j hj h0
    exact ⟨g, c, e, sl_but hs hX hz hk⟩
/-- The lists from the last saved one on. -/
structure ListAt (a b : List Int) (B M base : Nat) (A A' : Option Addr) (ca cb : Nat) (w : World) (from' k : Nat) (v3 : Value) (wr : World) : Prop where
  cost : CostAt a b B M base A A' ca cb v3 (.int .i64 (from' : Int)) w (C a b 0 0 + 1) wr
  pos : 0 < k
  row : ∃ vs, wr.ownsRow base 134 1 v3 k vs ∧ ∀ j, j < k → ∃ v, vs[j]? = some v ∧ LstAt a b wr v (from' + j)
theorem ListAt.below {from' k : Nat} (h : ListAt a b B M base A A' ca cb w from' k v3 wr) (hbs : base ≤ wr.heap.size) (hb : Below wr.heap.size wr w') : ListAt a b B M base A A' ca cb w from' k v3 w' := by
  obtain ⟨vs, h1, h2⟩ := h.row
  exact ⟨h.cost.below hbs hb, h.pos, vs, own_kept h1 hb, fun j hj => by obtain ⟨v, e, hl⟩ := h2 j hj; exact ⟨v, e, hl.below hb⟩⟩
/-- What the search's going forward leaves alone: all but its box and the rows of its lists. -/
def ForKept (B : Nat) (w w' : World) : Prop := w.heap.size ≤ w'.heap.size ∧ ∀ k, k < w.heap.size → k ≠ B → (∀ cur fz, w.heap[k]? ≠ some (.cells cur 134 fz)) → w'.heap[k]? = w.heap[k]?
theorem ForKept.refl (B : Nat) (w : World) : ForKept B w w := ⟨Nat.le_refl _, fun _ _ _ _ => rfl⟩
theorem ForKept.trans {B : Nat} {w1 w2 w3 : World} (h : ForKept B w1 w2) (k : ForKept B w2 w3) : ForKept B w1 w3 :=
  ⟨Nat.le_trans h.1 k.1, fun i hi hB ht => by
    have e := h.2 i hi hB ht
    exact (k.2 i (Nat.lt_of_lt_of_le hi h.1) hB (fun cur fz => by rw [e]; exact ht cur fz)).trans e⟩
theorem ForKept.of_below {B : Nat} {w w' : World} (h : Below w.heap.size w w') : ForKept B w w' := ⟨h.size, fun k hk _ _ => h.block k hk⟩
theorem ForKept.setCell {B : Nat} (w : World) (j : Nat) (v : Value) : ForKept B w (w.setCell ⟨B, j, none⟩ v) := ⟨by simp [World.setCell], fun k hk hB _ => Below.heap_setCell _ _ _ _ hB⟩
theorem ForKept.own {B base k : Nat} {v : Value} {vs : List Value} (h : w.ownsRow base 134 1 v k vs) (hg : w.grownBy w' v.ownBlock) : ForKept B w w' := by
  refine ⟨hg.size, fun i hi hB ht => hg.block i hi fun e => ?_⟩
  rcases h.2 with ⟨rfl, _⟩ | ⟨g, cap, cur, rfl, _, hh, _⟩
  · simp [Value.ownBlock] at e
  · have : g = i := by simpa [Value.ownBlock] using e.symm
    subst this
    exact ht cur (0, 0) hh
/-- A row of other elements stays. -/
theorem ForKept.row {B base n size : Nat} {e : TypeId} {v : Value} {xs : List Value} (h : ForKept B w w') (ho : w.ownsRow base e size v n xs) (he : e ≠ 134) (hB : v.ownBlock ≠ some B) : w'.ownsRow base e size v n xs := by
  obtain ⟨h1, h2⟩ := ho
  refine ⟨h1, ?_⟩
  rcases h2 with h2 | ⟨g, cap, cur, rfl, hg, hh, r⟩
  · exact .inl h2
  · refine .inr ⟨g, cap, cur, rfl, hg, ?_, r⟩
    rw [h.2 g (Array.getElem?_eq_some_iff.1 hh).1 (fun e => hB (by simp [Value.ownBlock, e])) (fun c2 fz q => by
      rw [hh] at q
      injection q with q
      injection q with _ q2 _
      exact he q2)]
    exact hh
end
end Go.Proofs.YthjaepmfkgejkaaDoor
namespace Go.Proofs.YthjaepmfkgejkaaDoor
open Go.RowKit Go.Maps
set_option linter.unusedVariables false

/-- Operation j waits for i, by itself or by others. -/
def behindB (md : Region.Mode) (ops : Array Oper) : Nat → Nat → Nat → Bool
  | 0, _, _ => false
  | f + 1, j, i => match ops[j]? with
    | some o => o.after.any fun e => Region.binds md e && (decide (e.on = i) || behindB md ops f e.on i)
    | none => false
/-- Each operation from number n on waits for i. -/
def lateB (md : Region.Mode) (ops : Array Oper) (n i : Nat) : Bool := (List.range ops.size).all fun j => decide (j < n) || behindB md ops 6 j i
/-- What has come up has all that it waits for behind it. -/
def Shut (md : Region.Mode) (ops : Array Oper) (listed : Array Bool) : Prop := ∀ j o, ops[j]? = some o → listed.getD j false = true → ∀ e ∈ o.after, Region.binds md e = true → listed.getD e.on false = true
def shutB (md : Region.Mode) (ops : Array Oper) (listed : Array Bool) : Bool := (List.range ops.size).all fun j => !listed.getD j false || (match ops[j]? with
  | some o => o.after.all fun e => !Region.binds md e || listed.getD e.on false
  | none => true)
theorem shutB_spec {md : Region.Mode} {ops : Array Oper} {listed : Array Bool} (h : shutB md ops listed = true) : Shut md ops listed := by
  intro j o ho hl e he hb
  have h1 := List.all_eq_true.1 h j (List.mem_range.2 (Array.getElem?_eq_some_iff.1 ho).1)
  rw [ho, hl] at h1
  have h2 : (o.after.all fun e => !Region.binds md e || listed.getD e.on false) = true := by simpa only [Bool.not_true, Bool.false_or] using h1
  have h3 := Array.all_eq_true'.1 h2 e he
  rw [hb] at h3
  simpa only [Bool.not_true, Bool.false_or] using h3
theorem behindB_spec {md : Region.Mode} {ops : Array Oper} {listed : Array Bool} (hs : Shut md ops listed) : ∀ (f j i : Nat), behindB md ops f j i = true → (∀ o, ops[j]? = some o → ∀ e ∈ o.after, Region.binds md e = true → listed.getD e.on false = true) → listed.getD i false = true
  | 0, _, _, h, _ => by cases h
  | f + 1, j, i, h, hr => by
    unfold behindB at h
    split at h
    · rename_i o ho
      obtain ⟨e, he, h2⟩ := Array.any_eq_true'.1 h
      rw [Bool.and_eq_true, Bool.or_eq_true, decide_eq_true_eq] at h2
      have hl := hr o ho e he h2.1
      rcases h2.2 with q | q
      · rw [← q]; exact hl
      · exact behindB_spec hs f e.on i q fun o' ho' e' he' hb' => hs e.on o' ho' hl e' he' hb'
    · cases h
theorem Shut.set {md : Region.Mode} {ops : Array Oper} {listed : Array Bool} (h : Shut md ops listed) {j : Nat} (hj : j ∈ Region.ready md ops listed) : Shut md ops (listed.setIfInBounds j true) := by
  intro k o ho hl e he hb
  by_cases hjk : j = k
  · subst hjk
    obtain ⟨_, o', ho', hall⟩ := mem_ready.1 hj
    rw [ho] at ho'
    obtain rfl := Option.some.inj ho'
    exact getD_set_true (hall e he hb)
  · rw [getD_set_ne false hjk] at hl
    exact getD_set_true (h k o ho hl e he hb)
/-- Whatever order is picked from here on; F holds behind each of the first n. -/
def wpAnyN (P : Program) (md : Region.Mode) (ops : Array Oper) (Q : Exit → Act → World → Prop) (n : Nat) (F : World → Prop) : Nat → Array Bool → Act → World → Prop
  | 0, listed, a, w => Region.ready md ops listed = [] ∧ Q .normal a w
  | fuel + 1, listed, a, w =>
    (Region.ready md ops listed = [] → Q .normal a w) ∧
    ∀ i ∈ Region.ready md ops listed, wpOp P ops Q i (fun a' w' => (i < n → F w → F w') ∧ wpAnyN P md ops Q n F fuel (listed.setIfInBounds i true) a' w') a w
section
variable {P : Program} {md : Region.Mode} {ops : Array Oper} {Q : Exit → Act → World → Prop} {n : Nat} {F : World → Prop}
theorem wpAny_of_N : ∀ (fuel : Nat) (listed : Array Bool) (a : Act) (w : World), wpAnyN P md ops Q n F fuel listed a w → wpAny P md ops Q fuel listed a w
  | 0, _, _, _, h => h
  | fuel + 1, _, _, _, h => ⟨h.1, fun i hi => wpOp_mono (fun a' w' h' => wpAny_of_N fuel _ a' w' h'.2) (h.2 i hi)⟩
theorem wpAnyN_first {G : World → Prop} {i : Nat} {oi : Oper} {v : Value} (hi : ops[i]? = some oi) (hsel : ∀ (j : Nat) (o : Oper) cs b, ops[j]? = some o → o.op ≠ .select cs b)
    (hQ : ∀ c a w, Q (.panic c) (a.put oi.dst v) w → Q (.panic c) a w)
    (hG : ∀ (listed : Array Bool) j, Shut md ops listed → j ∈ Region.ready md ops listed → listed.getD i true = false → ∀ w w', G w → (j < n → F w → F w') → G w') :
    ∀ (fuel : Nat) (listed : Array Bool) (a : Act) (w : World), Shut md ops listed →
      (∀ j oj, ops[j]? = some oj → j ≠ i → listed.getD j true = false → (∀ e ∈ oj.after, Region.binds md e = true → e.on ≠ i) → oi.apart ops oj = true) →
      i ∈ Region.ready md ops listed → YieldsIf P ops G oi v a → G w →
      wpAnyN P md ops Q n F fuel (listed.setIfInBounds i true) (a.put oi.dst v) w → wpAnyN P md ops Q n F (fuel + 1) listed a w := by
  intro fuel
  induction fuel with
  | zero =>
    intro listed a w _ _ hr hy hg H
    refine ⟨fun h => (by rw [h] at hr; cases hr), fun j hj => ?_⟩
    by_cases hji : j = i
    · subst hji; exact hy.wpOp hi hg ⟨fun _ h => h, H⟩
    · have := ready_mono hj hji
      rw [H.1] at this
      cases this
  | succ fuel ih =>
    intro listed a w hsh hfree hr hy hg H
    refine ⟨fun h => (by rw [h] at hr; cases hr), fun j hj => ?_⟩
    by_cases hji : j = i
    · subst hji; exact hy.wpOp hi hg ⟨fun _ h => h, H⟩
    · have h1 := H.2 j (ready_mono hj hji)
      obtain ⟨hjun, oj, hoj, hall⟩ := mem_ready.1 hj
      have hiun := (mem_ready.1 hr).1
      have hnot : ∀ e ∈ oj.after, Region.binds md e = true → e.on ≠ i := fun e he hb heq => by
        have h2 := hall e he hb
        rw [heq, getD_both hiun] at h2
        cases h2
      have h2 := wpOp_putIf hoj (hfree j oj hoj hji hjun hnot) (fun cs b => hsel i oi cs b hi) (fun cs b => hsel j oj cs b hoj) hQ hy h1
      have hfree' : ∀ k ok, ops[k]? = some ok → k ≠ i → (listed.setIfInBounds j true).getD k true = false →
          (∀ e ∈ ok.after, Region.binds md e = true → e.on ≠ i) → oi.apart ops ok = true := fun k ok hk hki hun hno => by
        refine hfree k ok hk hki ?_ hno
        by_cases hjk : j = k
        · subst hjk; exact hjun
        · rw [getD_set_ne true hjk] at hun; exact hun
      refine wpOp_mono (fun a' w' h3 => ⟨h3.2.1, ih (listed.setIfInBounds j true) a' w' (hsh.set hj) hfree' (ready_mono hr (Ne.symm hji)) h3.1 (hG listed j hsh hj hiun w w' hg h3.2.1) ?_⟩) h2
      rw [Array.setIfInBounds_comm _ _ hji]
      exact h3.2.2
theorem wpAnyN_take {i : Nat} {oi : Oper} {v : Value} {fuel : Nat} {listed : Array Bool} {a : Act} {w : World} (hL : lateB md ops n i = true) (hsh : shutB md ops listed = true) (hi : ops[i]? = some oi)
    (hs : Region.noSelect ops = true) (hf : Region.free md ops listed i = true) (hr : (Region.ready md ops listed).contains i = true)
    (hQ : ∀ c a w, Q (.panic c) (a.put oi.dst v) w → Q (.panic c) a w) (hy : YieldsIf P ops F oi v a) (hF : F w)
    (h : wpAnyN P md ops Q n F fuel (listed.setIfInBounds i true) (a.put oi.dst v) w) : wpAnyN P md ops Q n F (fuel + 1) listed a w :=
  wpAnyN_first (G := F) hi (Region.noSelect_spec hs) hQ (fun listed' j hs' hj hiun w w' hw hww => by
    obtain ⟨_, oj, hoj, hall⟩ := mem_ready.1 hj
    have hjn : j < n := by
      have h1 := List.all_eq_true.1 hL j (List.mem_range.2 (Array.getElem?_eq_some_iff.1 hoj).1)
      rw [Bool.or_eq_true, decide_eq_true_eq] at h1
      rcases h1 with h1 | h1
      · exact h1
      · have h2 := behindB_spec hs' 6 j i h1 (fun o ho e he hb => by
          rw [hoj] at ho
          obtain rfl := Option.some.inj ho
          exact hall e he hb)
        rw [getD_both hiun] at h2
        cases h2
    exact hww hjn hw) fuel listed a w (shutB_spec hsh) (Region.free_spec hi hf) (by simpa using hr) hy hF h
/-- An operation that looks at no world. -/
theorem wpAnyN_takeW {i : Nat} {oi : Oper} {v : Value} {fuel : Nat} {listed : Array Bool} {a : Act} {w : World} (hsh : shutB md ops listed = true) (hi : ops[i]? = some oi)
    (hs : Region.noSelect ops = true) (hf : Region.free md ops listed i = true) (hr : (Region.ready md ops listed).contains i = true)
    (hQ : ∀ c a w, Q (.panic c) (a.put oi.dst v) w → Q (.panic c) a w) (hy : YieldsIf P ops (fun _ => True) oi v a)
    (h : wpAnyN P md ops Q n F fuel (listed.setIfInBounds i true) (a.put oi.dst v) w) : wpAnyN P md ops Q n F (fuel + 1) listed a w :=
  wpAnyN_first (G := fun _ => True) hi (Region.noSelect_spec hs) hQ (fun _ _ _ _ _ _ _ _ _ => trivial) fuel listed a w (shutB_spec hsh) (Region.free_spec hi hf) (by simpa using hr) hy trivial h
theorem wpAnyN_all {rs : List Nat} {fuel : Nat} {listed : Array Bool} {a : Act} {w : World} (hr : Region.ready md ops listed = rs) (hne : rs ≠ [])
    (h : ∀ i ∈ rs, wpOp P ops Q i (fun a' w' => (i < n → F w → F w') ∧ wpAnyN P md ops Q n F fuel (listed.setIfInBounds i true) a' w') a w) : wpAnyN P md ops Q n F (fuel + 1) listed a w :=
  ⟨fun h0 => absurd (hr ▸ h0) hne, hr ▸ h⟩
theorem wpAnyN_done {listed : Array Bool} {a : Act} {w : World} (hr : Region.ready md ops listed = []) (h : Q .normal a w) : ∀ fuel, wpAnyN P md ops Q n F fuel listed a w
  | 0 => ⟨hr, h⟩
  | _ + 1 => ⟨fun _ => h, by rw [hr]; simp⟩
/-- The beginning. -/
theorem wp_region_N {id : Nat} {a : Act} {w : World} (n : Nat) (F : World → Prop) (hm : P.follows .mixedOrders = true)
    (h : wpAnyN P .any ops Q n F ops.size (Array.replicate ops.size false) a w.drew) : (Code.region id ops true).wp P Q a w :=
  wp_region_any hm (wpAny_of_N _ _ _ _ h)
end

section
variable {P : Program} {ρ : Operand → Value} {o : Oper} {w : World}
/-- A load of one cell. -/
theorem ex_load1 (ty : TypeId) (x : Operand) (ho : o.op = .load ty x) {p : Addr} (hx : ρ x = .pointer (some p)) {d : TypeDesc} (hu : P.underlying ty = some d) (hd : (match d with | .struct _ | .array _ _ => true | _ => false) = false) {v : Value} (hc : w.cell? p = some v) :
    (execOp ρ o).run P w = .ok (.value v) w := by
  refine ex_load ty x ho hx ?_
  unfold loadVar isAgg
  simp only [Sem.run_bind, run_underlying hu, Result.andThen_ok]
  cases d <;> first | (cases hd; done) | simp [Result.andThen, hc]
/-- An element's place, elements of one cell. -/
theorem ex_index1 (t : TypeId) (x y : Operand) (ho : o.op = .indexAddr t x y) {X n c q : Nat} (hx : ρ x = .slice (some ⟨X, 0, none⟩) n c) (hy : ρ y = .int .i64 (q : Int)) (hq : q < n) {e : TypeId} (ht : P.underlying t = some (.slice e)) (hi : (P.info? e).map (·.size) = some 1) :
    (execOp ρ o).run P w = .ok (.value (.pointer (some ⟨X, q, none⟩))) w := by
  cases hp : P.info? e with
  | none => simp [hp] at hi
  | some i =>
    have hs : i.size = 1 := by simpa [hp] using hi
    unfold execOp
    simp [ho, hx, hy, Instr.indexAt, asIntOf, run_underlying ht, sizeOf, typeInfo, hp, hs, Sem.run_bind, Result.andThen, hq, Addr.add]
    try omega
/-- A slice's length. -/
theorem ex_len (t : TypeId) (x : Operand) (ho : o.op = .call { callee := .builtin .len, args := #[x], argTypes := #[t] }) {A : Option Addr} {n c : Nat} (hx : ρ x = .slice A n c) {e : TypeId} (ht : P.underlying t = some (.slice e)) : (execOp ρ o).run P w = .ok (.value (.int .i64 (n : Int))) w := by
  unfold execOp
  simp [ho, resolve, invoke, builtin, Builtin.len_, run_underlying ht, Result.andThen, hx]
  rfl
end
end Go.Proofs.YthjaepmfkgejkaaDoor
namespace Go.Proofs.YthjaepmfkgejkaaDoor
open Go.RowKit Go.Maps Go.Shelf
set_option linter.unusedVariables false
set_option linter.unusedSimpArgs false

/-- What stands between the calls of list. -/
def BlkAt (a b : List Int) (B M base : Nat) (A A' : Option Addr) (ca cb : Nat) (w0 w : World) : Prop :=
  CostAt a b B M base A A' ca cb (.slice none 0 0) (.int .i64 ((0 : Nat) : Int)) w0 (C a b 0 0 + 1) w ∨ ∃ from' k v3, from' % 64 = 0 ∧ k ≤ 64 ∧ ListAt a b B M base A A' ca cb w0 from' k v3 w
def ListGives (a b : List Int) (B M base : Nat) (A A' : Option Addr) (ca cb : Nat) (w0 w : World) (d : Nat) (e : Ending) (w' : World) : Prop :=
  ∃ g c, e = .returned (.slice (some ⟨g, 0, none⟩) (d + 1) c) ∧ BlkAt a b B M base A A' ca cb w0 w' ∧ Sl w' w'.heap.size (some ⟨g, 0, none⟩) (d + 1) 1 (natV (lst a b d)) ∧ ForKept B w w' ∧ Below base w w'
theorem slsInfo : (Tryd.prog.info? 134).map (fun i => (i.zero, i.size, i.bytes)) = some (some (.slice none 0 0), 1, 24) := by kernel_rfl
theorem zeroSls (w : World) : (zeroValue 134).run Tryd.prog w = .ok (.slice none 0 0) w := by
  obtain ⟨i, h1, h2, _, _⟩ := info_parts slsInfo
  simp [zeroValue, typeInfo, h1, h2]
section
variable {a b : List Int} {B M base ca cb d : Nat} {A A' : Option Addr} {v3 v4 : Value} {w0 w w' : World}
/-- Behind the box's stores: a new row of lists. -/
theorem CostAt.fresh {v : Value} {fr : Nat} (h : CostAt a b B M base A A' ca cb v3 v4 w0 (C a b 0 0 + 1) w) (hbs : base ≤ w.heap.size) (hBb : base ≤ B) (hMb : base ≤ M) (hBM : B ≠ M) (hsa : Sl w0 base A a.length 1 (i32V a)) (hsb : Sl w0 base A' b.length 1 (i32V b)) (hv : LstAt a b w v fr) :
    ListAt a b B M base A A' ca cb w0 fr 1 (.slice (some ⟨w.heap.size, 0, none⟩) 1 1) (((w.setCell ⟨B, 4, none⟩ (.int .i64 (fr : Int))).setCell ⟨B, 3, none⟩ (.slice (some ⟨w.heap.size, 0, none⟩) 1 1)).alloc (.cells #[v] 134)) := by
  have hBz : B < w.heap.size := (Array.getElem?_eq_some_iff.1 h.box).1
  have hbox2 := set_block (j := 3) (set_block (j := 4) h.box (.int .i64 (fr : Int))) (.slice (some ⟨w.heap.size, 0, none⟩) 1 1)
  have hoth : ∀ k, k ≠ B → ((w.setCell ⟨B, 4, none⟩ (.int .i64 (fr : Int))).setCell ⟨B, 3, none⟩ (.slice (some ⟨w.heap.size, 0, none⟩) 1 1)).heap[k]? = w.heap[k]? := fun k hk => (Below.heap_setCell _ _ _ _ hk).trans (Below.heap_setCell _ _ _ _ hk)
  have hbel : Below base w ((w.setCell ⟨B, 4, none⟩ (.int .i64 (fr : Int))).setCell ⟨B, 3, none⟩ (.slice (some ⟨w.heap.size, 0, none⟩) 1 1)) := ((Below.refl _ _).setCell hBb _).setCell hBb _
  have hsz2 : ((w.setCell ⟨B, 4, none⟩ (.int .i64 (fr : Int))).setCell ⟨B, 3, none⟩ (.slice (some ⟨w.heap.size, 0, none⟩) 1 1)).heap.size = w.heap.size := by simp [World.setCell]
  generalize (w.setCell ⟨B, 4, none⟩ (.int .i64 (fr : Int))).setCell ⟨B, 3, none⟩ (.slice (some ⟨w.heap.size, 0, none⟩) 1 1) = w1 at *
  have hX : ∀ k, w.cell? ⟨B, 0, none⟩ ≠ some (.int .i32 k) := fun k e => by rw [cells_box h.box 0] at e; cases e
  have h1 := h.but hMb hBb hBM hX (by omega) hbel (fun k hk hkB => hoth k hkB) hsa hsb (by omega) hbox2
  have hv1 := hv.but hX (by omega) fun k hk hkB => hoth k hkB
  have hal : Below w1.heap.size w1 (w1.alloc (.cells #[v] 134)) := (Below.refl _ _).alloc (Nat.le_refl _) _
  have hnew : (w1.alloc (.cells #[v] 134)).heap[w1.heap.size]? = some (.cells #[v] 134 (0, 0)) := heap_alloc_new _ _
  rw [hsz2] at hnew
  refine ⟨h1.below (by omega) hal, by decide, [v], ⟨by simp, .inr ⟨w.heap.size, 1, #[v], rfl, hbs, hnew, Nat.le_refl _, by decide, by simp, by simp⟩⟩, fun j hj => ?_⟩
  obtain rfl : j = 0 := by omega
  exact ⟨v, rfl, hv1.below hal⟩
theorem row_noI32 {k : Nat} (h : ListAt a b B M base A A' ca cb w0 d k v3 w) : ∃ X c, v3 = .slice (some ⟨X, 0, none⟩) k c ∧ base ≤ X ∧ X ≠ B ∧ X ≠ M ∧ ∀ i, w.cell? ⟨X, 0, none⟩ ≠ some (.int .i32 i) := by
  obtain ⟨vs, ho, hl⟩ := h.row
  have hp := h.pos
  have ho' := ho
  obtain ⟨_, h2⟩ := ho
  rcases h2 with ⟨rfl, h0⟩ | ⟨g, cap, cur, rfl, hg, hh, r⟩
  · omega
  · refine ⟨g, cap, rfl, hg, ?_, ?_, fun i e => ?_⟩
    · rintro rfl
      have hb := h.cost.box
      rw [hh] at hb
      injection hb with hb
      injection hb with _ hb _
      revert hb
      decide
    · rintro rfl
      obtain ⟨nn, mm, _, ⟨D, ⟨es, clock, hbk, _⟩, _⟩, _⟩ := h.cost.map
      rw [hh] at hbk
      cases hbk
    · obtain ⟨v, hv, g2, c2, rfl, _⟩ := hl 0 hp
      have hc := ho'.cellAt 0 (by omega)
      rw [hv] at hc
      rw [hc] at e
      cases e
/-- Behind the append and the box's store: one list more. -/
theorem ListAt.grow {k fr : Nat} {v v3' : Value} {vs : List Value} (h : ListAt a b B M base A A' ca cb w0 fr k v3 w) (hbs : base ≤ w.heap.size) (hBb : base ≤ B) (hMb : base ≤ M) (hBM : B ≠ M) (hsa : Sl w0 base A a.length 1 (i32V a)) (hsb : Sl w0 base A' b.length 1 (i32V b))
    (hl : ∀ j, j < k → ∃ v, vs[j]? = some v ∧ LstAt a b w v (fr + j)) (hlen : vs.length = k) (hv : LstAt a b w v (fr + k)) (ho : w'.ownsRow base 134 1 v3' (k + 1) (vs ++ [v])) (hg : w.grownBy w' v3.ownBlock) (hne : v3'.ownBlock ≠ some B) :
    ListAt a b B M base A A' ca cb w0 fr (k + 1) v3' (w'.setCell ⟨B, 3, none⟩ v3') := by
  obtain ⟨X, c, rfl, hXb, hXB, hXM, hX⟩ := row_noI32 h
  have hk1 : ∀ i, i < w.heap.size → i ≠ X → w'.heap[i]? = w.heap[i]? := fun i hi hiX => hg.block i hi fun e => hiX (by simpa [Value.ownBlock] using e)
  have hbel : Below base w w' := (Below.refl _ _).grown hg hbs (fun i e => by have : i = X := by simpa [Value.ownBlock] using e.symm
                                                                              omega)
  have hBz : B < w.heap.size := (Array.getElem?_eq_some_iff.1 h.cost.box).1
  have hbox1 : w'.heap[B]? = some (.cells #[.slice A a.length ca, .slice A' b.length cb, .map (some M), .slice (some ⟨X, 0, none⟩) k c, .int .i64 (fr : Int)] 182 (0, 0)) := (hk1 B hBz (fun e => hXB e.symm)).trans h.cost.box
  have hc1 := h.cost.but hMb hXb hXM hX hg.size hbel hk1 hsa hsb (Nat.le_trans hbs hg.size) hbox1
  have hX1 : ∀ i, w'.cell? ⟨B, 0, none⟩ ≠ some (.int .i32 i) := fun i e => by rw [cells_box hbox1 0] at e; cases e
  have hsz : (w'.setCell ⟨B, 3, none⟩ v3').heap.size = w'.heap.size := by simp [World.setCell]
  have hoth : ∀ i, i < w'.heap.size → i ≠ B → (w'.setCell ⟨B, 3, none⟩ v3').heap[i]? = w'.heap[i]? := fun i _ hi => Below.heap_setCell _ _ _ _ hi
  have hcost := hc1.but hMb hBb hBM hX1 (by omega) ((Below.refl _ _).setCell hBb _) hoth hsa hsb (by have := hg.size; omega) (set_block (j := 3) hbox1 v3')
  refine ⟨hcost, by omega, vs ++ [v], ownsRow_setCell_other ho hne _, fun j hj => ?_⟩
  have key : ∀ u e, LstAt a b w u e → LstAt a b (w'.setCell ⟨B, 3, none⟩ v3') u e := fun u e hu => (hu.but hX hg.size hk1).but hX1 (by omega) hoth
  rcases (by omega : j < k ∨ j = k) with q | rfl
  · obtain ⟨u, e, hu⟩ := hl j q
    exact ⟨u, by rw [List.getElem?_append_left (by omega)]; exact e, key u _ hu⟩
  · exact ⟨v, by rw [List.getElem?_append_right (by omega), hlen]; simp, key v _ hv⟩
end
end Go.Proofs.YthjaepmfkgejkaaDoor
namespace Go.Proofs.YthjaepmfkgejkaaDoor
open Go.RowKit
set_option linter.unusedVariables false

theorem splice_is {A M B C : List Value} (hB : B.length = M.length) (v : Value) (hv : v.cells.toList = B) :
    v.cells.zipIdx.foldl (fun cs (x : Value × Nat) => cs.setIfInBounds (A.length + x.2) x.1) (A ++ (M ++ C)).toArray = (A ++ (B ++ C)).toArray := by
  obtain ⟨g1, g2⟩ := Go.Great.foldl_set A.length v.cells.toList 0 (A ++ (M ++ C)).toArray
  rw [← Array.foldl_toList, Array.toList_zipIdx]
  apply Array.ext_getElem?
  intro k
  rw [g2 k, hv]
  simp only [Nat.add_zero, List.size_toArray, List.length_append, List.getElem?_toArray]
  by_cases h1 : k < A.length
  · rw [if_neg (by omega), List.getElem?_append_left h1, List.getElem?_append_left h1]
  · by_cases h2 : k < A.length + B.length
    · rw [if_pos (by omega), List.getElem?_append_right (by omega), List.getElem?_append_left (by omega)]
    · rw [if_neg (by omega), List.getElem?_append_right (by omega), List.getElem?_append_right (by omega), List.getElem?_append_right (by omega), List.getElem?_append_right (by omega), hB]

theorem fill_chunks (place : Nat → Option (Nat × Nat)) : ∀ (parts : List (Nat × Value)) (ch : List (List Value)), (∀ i (h : i < ch.length), place i = some ((ch.take i).flatten.length, ch[i].length)) →
    (∀ p ∈ parts, ∃ h : p.1 < ch.length, p.2.cells.size = ch[p.1].length) → Instr.fill place ch.flatten.toArray parts = some ((parts.foldl (fun c p => c.set p.1 p.2.cells.toList) ch).flatten.toArray)
  | [], ch, _, _ => rfl
  | (i, v) :: rest, ch, hp, hs => by
    obtain ⟨hi, hsz⟩ := hs (i, v) (by simp)
    have hi' : i < ch.length := hi
    have hsz' : v.cells.size = ch[i].length := hsz
    have hsplit : ch = ch.take i ++ (ch[i] :: ch.drop (i + 1)) := by
      rw [← List.drop_eq_getElem_cons hi', List.take_append_drop]
    have hfl : ch.flatten = (ch.take i).flatten ++ (ch[i] ++ (ch.drop (i + 1)).flatten) := by
      have h := congrArg List.flatten hsplit
      rw [List.flatten_append, List.flatten_cons] at h
      exact h
    have hset : (ch.set i v.cells.toList).flatten = (ch.take i).flatten ++ (v.cells.toList ++ (ch.drop (i + 1)).flatten) := by
      rw [List.set_eq_take_append_cons_drop, if_pos hi']
      simp
    unfold Instr.fill
    simp only [hp i hi']
    rw [if_neg (by
      simp only [hsz', ne_eq, not_true_eq_false, decide_false, Bool.false_or, decide_eq_true_eq, List.size_toArray, Nat.not_lt]
      rw [hfl]; simp)]
    rw [show (v.cells.zipIdx.foldl (fun cs (x : Value × Nat) => cs.setIfInBounds ((ch.take i).flatten.length + x.2) x.1) ch.flatten.toArray) = (ch.set i v.cells.toList).flatten.toArray by
      rw [hset, hfl]
      exact splice_is (by simpa using hsz') v rfl]
    have hlen : ∀ k (h : k < (ch.set i v.cells.toList).length), (ch.set i v.cells.toList)[k].length = (ch[k]'(by simpa using h)).length := by
      intro k h
      rw [List.getElem_set]
      split
      · rename_i e; subst e; simpa using hsz'
      · rfl
    refine (fill_chunks place rest (ch.set i v.cells.toList) ?_ ?_).trans rfl
    · intro k hk
      have hk' : k < ch.length := by simpa using hk
      rw [hp k hk', hlen k hk]
      congr 2
      have : ∀ n, n ≤ ch.length → (((ch.set i v.cells.toList).take n).flatten).length = ((ch.take n).flatten).length := by
        intro n
        induction n with
        | zero => intro _; rfl
        | succ n ih =>
          intro hn
          rw [List.take_succ_eq_append_getElem (by simp; omega), List.take_succ_eq_append_getElem (by omega)]
          simp only [List.flatten_append, List.length_append, ih (by omega), List.flatten_cons, List.flatten_nil, List.append_nil]
          rw [hlen n (by simp; omega)]
      exact (this k (by omega)).symm
    · intro p hpm
      obtain ⟨h1, h2⟩ := hs p (by simp [hpm])
      refine ⟨by simpa using h1, ?_⟩
      rw [h2, hlen]

/-- A struct from parts. -/
theorem built_struct {P : Program} {t : TypeId} {i : TypeInfo} {fs : Array Field} (hi : P.info? t = some i) (hu : P.underlying t = some (.struct fs)) {z : Value} (hz : i.zero = some z) (ch : List (List Value)) (hc : z.cells.toList = ch.flatten)
    {places : List (Nat × Nat)} (hpl : fs.toList.mapM (fun f => (P.info? f.type).map fun i => (f.offset, i.size)) = some places) (hp : places = (List.range ch.length).map fun k => (((ch.take k).flatten.length), (ch.getD k []).length))
    (parts : List (Nat × Value)) (hs : ∀ p ∈ parts, ∃ h : p.1 < ch.length, p.2.cells.size = ch[p.1].length) : P.built t parts = some ((parts.foldl (fun c p => c.set p.1 p.2.cells.toList) ch).flatten.toArray) := by
  unfold Program.built
  simp only [hi, hu, hz, hpl]
  rw [show z.cells = ch.flatten.toArray by rw [← hc]]
  refine fill_chunks _ parts ch (fun k hk => ?_) hs
  rw [hp]
  simp [hk, List.getD_eq_getElem?_getD]

/-- A slice literal of elements of several cells. -/
theorem run_buildSliceN {P : Program} (w : World) (t e : TypeId) (ht : P.underlying t = some (.slice e)) (z : Value) (size bytes : Nat) (hinf : (P.info? e).map (fun i => (i.zero, i.size, i.bytes)) = some (some z, size, bytes)) (hz1 : z.cells.size = size) (hsz : 0 < size)
    (vs : List Value) (hv : ∀ v ∈ vs, v.cells.size = size) (hn0 : 0 < vs.length) (hmax : vs.length * size ≤ 16777216) :
    (Instr.buildSlice t vs.length ((vs.zipIdx 0).map fun x => (x.2, x.1)).toArray).run P w = .ok (.slice (some ⟨w.heap.size, 0, none⟩) vs.length vs.length) (w.alloc (.cells (vs.flatMap fun v => v.cells.toList).toArray e)) := by
  obtain ⟨i, hi, hi0, hi1, hi2⟩ : ∃ i, P.info? e = some i ∧ i.zero = some z ∧ i.size = size ∧ i.bytes = bytes := by
    cases hq : P.info? e with
    | none => simp [hq] at hinf
    | some i => simp [hq] at hinf; exact ⟨i, rfl, hinf.1, hinf.2.1, hinf.2.2⟩
  have hpos : vs.length * size ≠ 0 := Nat.mul_ne_zero (by omega) (by omega)
  have hne : ¬ (vs.length * size > 2 ^ 24) := by omega
  have hfill : Instr.fill (fun k => some (k * size, size)) ((Array.range (vs.length * size)).map (z.cells[· % z.cells.size]!)) ((vs.zipIdx 0).map fun x => (x.2, x.1)) = some (vs.flatMap fun v => v.cells.toList).toArray :=
    Go.Great.fill_whole hsz vs _ hv (by simp)
  unfold Instr.buildSlice
  have hsize : (sizeOf e).run P w = .ok size w := by simp [sizeOf, typeInfo, hi, hi1]
  have hzero : (zeroValue e).run P w = .ok z w := by simp [zeroValue, typeInfo, hi, hi0]
  simp only [Sem.run_bind, run_underlying ht, Result.andThen_ok, hsize, if_neg hne, if_neg hpos, hzero, Sem.run_pure, hfill]
  rfl
/-- '[]T{x}' with x of several cells. -/
theorem wp_buildSlice1 {P : Program} {ops : Array Oper} {rest : List Oper} {o : Oper} {a : Act} {w : World} {Q : Exit → Act → World → Prop} (hw : Region.wanted o (yielded ops a.tmps) = true) (t : TypeId) (x : Operand) (ho : o.op = .buildSlice t 1 #[(0, x)])
    (e : TypeId) (ht : P.underlying t = some (.slice e)) (z : Value) (size bytes : Nat) (hinf : (P.info? e).map (fun i => (i.zero, i.size, i.bytes)) = some (some z, size, bytes)) (hz1 : z.cells.size = size) (hsz : 0 < size) (hmax : size ≤ 16777216)
    (us : List Value) (hl : us.length = size) (hx : a.eval x = .agg us.toArray)
    (h : wpList P ops Q rest (a.put o.dst (.slice (some ⟨w.heap.size, 0, none⟩) 1 1)) (w.alloc (.cells us.toArray e))) : wpList P ops Q (o :: rest) a w := by
  have hrun := run_buildSliceN w t e ht z size bytes hinf hz1 hsz [.agg us.toArray] (fun v hv => by rw [List.mem_singleton.1 hv]; exact hl) (by simp) (by simpa using hmax)
  simp only [List.flatMap_cons, List.flatMap_nil, List.append_nil] at hrun
  refine BigFrame.wpList_want hw fun K hK => ?_
  have := hK _ _ h
  unfold Oper.wp execOp
  simp only [ho, List.map_toArray, List.map_cons, List.map_nil, hx, Sem.run_bind]
  have h2 : (Instr.buildSlice t 1 #[(0, .agg us.toArray)]).run P w = .ok (.slice (some ⟨w.heap.size, 0, none⟩) 1 1) (w.alloc (.cells us.toArray e)) := hrun
  rw [h2]
  exact this
end Go.Proofs.YthjaepmfkgejkaaDoor
namespace Go.Proofs.YthjaepmfkgejkaaDoor
open Go.RowKit Go.Maps
set_option linter.unusedVariables false

theorem ex_build1c {P : Program} {ρ : Operand → Value} {o : Oper} {w : World} (t : TypeId) (x : Operand) (ho : o.op = .buildSlice t 1 #[(0, x)]) (e : TypeId) (ht : P.underlying t = some (.slice e)) (z : Value) (bytes : Nat) (hinf : (P.info? e).map (fun i => (i.zero, i.size, i.bytes)) = some (some z, 1, bytes)) (hz1 : z.cells.size = 1)
    (v : Value) (hx : ρ x = v) (hv : v.cells = #[v]) : (execOp ρ o).run P w = .ok (.value (.slice (some ⟨w.heap.size, 0, none⟩) 1 1)) (w.alloc (.cells #[v] e)) := by
  have hrun := run_buildSliceN w t e ht z 1 bytes hinf hz1 (by decide) [v] (fun u hu => by rw [List.mem_singleton.1 hu, hv]; rfl) (by simp) (by simp)
  simp only [List.flatMap_cons, List.flatMap_nil, List.append_nil, hv] at hrun
  unfold execOp
  have h2 : (Instr.buildSlice t 1 #[(0, v)]).run P w = .ok (.slice (some ⟨w.heap.size, 0, none⟩) 1 1) (w.alloc (.cells #[v] e)) := hrun
  simp only [ho, List.map_toArray, List.map_cons, List.map_nil, hx, Sem.run_bind, h2, Result.andThen_ok, Sem.run_pure]
end Go.Proofs.YthjaepmfkgejkaaDoor
