/-
  What hunk's numbers gives: the same lines the same numbers. Conditions: at most 100000 lines; a map that the caller made.
-/
import Derived.Test.YthjaepmfkgejkaaDoorMapCount
import Derived.Test.YthjaepmfkgejkaaDoorMerged2
namespace Go.Proofs.YthjaepmfkgejkaaDoor
open Go.RowKit Go.Maps Go.Shelf
set_option linter.unusedVariables false
set_option linter.unusedSimpArgs false

def idx : List ByteArray → ByteArray → Nat
  | [], _ => 0
  | k :: K, s => if k = s then 0 else idx K s + 1
theorem idx_app {T : List ByteArray} {s : ByteArray} : ∀ {K : List ByteArray}, s ∈ K → idx (K ++ T) s = idx K s
  | [], h => absurd h (by simp)
  | k :: K, h => by
    show (if k = s then 0 else idx (K ++ T) s + 1) = if k = s then 0 else idx K s + 1
    by_cases e : k = s
    · rw [if_pos e, if_pos e]
    · rw [if_neg e, if_neg e, idx_app ((List.mem_cons.1 h).resolve_left fun q => e q.symm)]
theorem idx_last {s : ByteArray} : ∀ {K : List ByteArray}, s ∉ K → idx (K ++ [s]) s = K.length
  | [], _ => by simp [idx]
  | k :: K, h => by
    show (if k = s then 0 else idx (K ++ [s]) s + 1) = K.length + 1
    rw [if_neg (fun e => h (by rw [e]; exact List.mem_cons_self)), idx_last (fun q => h (List.mem_cons_of_mem _ q))]
theorem idx_inj {s t : ByteArray} : ∀ {K : List ByteArray}, s ∈ K → t ∈ K → idx K s = idx K t → s = t
  | [], h, _, _ => absurd h (by simp)
  | k :: K, h, h', e => by
    unfold idx at e
    by_cases e1 : k = s
    · by_cases e2 : k = t
      · exact e1.symm.trans e2
      · rw [if_pos e1, if_neg e2] at e; omega
    · by_cases e2 : k = t
      · rw [if_neg e1, if_pos e2] at e; omega
      · rw [if_neg e1, if_neg e2] at e
        exact idx_inj ((List.mem_cons.1 h).resolve_left fun q => e1 q.symm) ((List.mem_cons.1 h').resolve_left fun q => e2 q.symm) (by omega)
theorem idx_lt {s : ByteArray} : ∀ {K : List ByteArray}, s ∈ K → idx K s < K.length
  | [], h => absurd h (by simp)
  | k :: K, h => by
    unfold idx
    by_cases e : k = s
    · rw [if_pos e]; simp
    · rw [if_neg e]
      have := idx_lt ((List.mem_cons.1 h).resolve_left fun q => e q.symm)
      simp; omega
instance decMem (s : ByteArray) (K : List ByteArray) : Decidable (s ∈ K) := decidable_of_iff (K.any (fun k => decide (k = s)) = true) (by simp)
/-- The lines that have numbers, one line more. -/
def numS (K : List ByteArray) (s : ByteArray) : List ByteArray := if s ∈ K then K else K ++ [s]
def numsS (K l : List ByteArray) : List ByteArray := l.foldl numS K
theorem numS_mem (K : List ByteArray) (s : ByteArray) : s ∈ numS K s := by unfold numS; split <;> simp_all
theorem numS_ext (K : List ByteArray) (s : ByteArray) : ∃ T, numS K s = K ++ T := by
  unfold numS
  split
  · exact ⟨[], by simp⟩
  · exact ⟨[s], rfl⟩
theorem numsS_snoc (K l : List ByteArray) (s : ByteArray) : numsS K (l ++ [s]) = numS (numsS K l) s := by simp [numsS]
theorem numsS_length (K : List ByteArray) : ∀ l : List ByteArray, (numsS K l).length ≤ K.length + l.length := by
  intro l
  induction l generalizing K with
  | nil => simp [numsS]
  | cons s l ih =>
    have h1 := ih (numS K s)
    have h2 : (numS K s).length ≤ K.length + 1 := by unfold numS; split <;> simp
    show (numsS (numS K s) l).length ≤ _
    simp; omega
theorem numsS_ext : ∀ (l K : List ByteArray), ∃ T, numsS K l = K ++ T
  | [], K => ⟨[], by simp [numsS]⟩
  | s :: l, K => by
    obtain ⟨T, h⟩ := numS_ext K s
    obtain ⟨T', h'⟩ := numsS_ext l (numS K s)
    exact ⟨T ++ T', by show numsS (numS K s) l = _; rw [h', h, List.append_assoc]⟩
theorem numsS_mem : ∀ (l K : List ByteArray) (s : ByteArray), s ∈ l → s ∈ numsS K l
  | [], K, s, h => absurd h (by simp)
  | t :: l, K, s, h => by
    show s ∈ numsS (numS K t) l
    rcases List.mem_cons.1 h with rfl | h
    · obtain ⟨T, e⟩ := numsS_ext l (numS K s)
      rw [e]
      exact List.mem_append_left _ (numS_mem K s)
    · exact numsS_mem l _ s h
noncomputable def mOf (K : List ByteArray) (s : ByteArray) : Option Value := if s ∈ K then some (.int .i32 (idx K s : Int)) else none
theorem mOf_put {K : List ByteArray} {s : ByteArray} (h : s ∉ K) : (fun k => if k = s then some (Value.int .i32 (K.length : Int)) else mOf K k) = mOf (K ++ [s]) := by
  funext k
  by_cases e : k = s
  · subst e
    rw [if_pos rfl]
    unfold mOf
    rw [if_pos (by simp), idx_last h]
  · rw [if_neg e]
    unfold mOf
    by_cases hk : k ∈ K
    · rw [if_pos hk, if_pos (List.mem_append_left _ hk), idx_app hk]
    · rw [if_neg hk, if_neg (by simp [hk, e])]
def nosOf (K : List ByteArray) (l : List ByteArray) : List Int := l.map fun s => (idx K s : Int)
end Go.Proofs.YthjaepmfkgejkaaDoor
