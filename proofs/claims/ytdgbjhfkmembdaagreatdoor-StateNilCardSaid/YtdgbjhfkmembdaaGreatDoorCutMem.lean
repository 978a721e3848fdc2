/-
  A run in two, as it lies in memory. Conditions: the run lies in memory, its indexes are small.
-/
import Derived.Test.YtdgbjhfkmembdaaGreatDoorDocRun
import Derived.Test.YtdgbjhfkmembdaaGreatDoorBlockIx
namespace Go.Proofs.YtdgbjhfkmembdaaGreatDoor
open Go.RowKit
set_option linter.unusedVariables false

def headM (r : RunM) (g off n : Nat) : RunM := (r.1, .slice (some ⟨g, off, none⟩) n n, r.2.2.1.take n, r.2.2.2)
def tailM (r : RunM) (g off cap n : Nat) : RunM := (laterD r.1 (n : Int), .slice (some ⟨g, off + n, none⟩) (r.2.2.1.length - n) (cap - n), r.2.2.1.drop n, r.2.2.2)
theorem headM_of (r : RunM) (g off n : Nat) : runOf (headM r g off n) = headR (runOf r) n := rfl
theorem tailM_of (r : RunM) (g off cap n : Nat) : runOf (tailM r g off cap n) = tailR (runOf r) n := rfl
theorem laterD_ok {k : KeyD} (h : KeyOk k) {n : Nat} (h0 : 0 ≤ k.2.2) (h1 : k.2.2 + (n : Int) ≤ 2147483648) : KeyOk (laterD k (n : Int)) := ⟨h.1, h.2.1, by
  show (Lit.int .i64 (k.2.2 + (n : Int))).wf = true
  simp only [Lit.wf, IntKind.min, IntKind.max, IntKind.signed, IntKind.bits, Bool.and_eq_true]
  simp
  omega⟩
section
variable {w : World} {r : RunM} {g off cap n : Nat}
theorem RunIn.head (h : RunIn w r) (hv : r.2.1 = .slice (some ⟨g, off, none⟩) r.2.2.1.length cap) (h0 : 0 < n) (hn : n < r.2.2.1.length) : RunIn w (headM r g off n) := by
  refine ⟨h.1, ?_, fun e => ?_⟩
  · have := h.2.1
    rw [hv] at this
    exact this.take (by omega)
  · have := congrArg List.length e
    simp only [headM, List.length_take, List.length_nil] at this
    omega
theorem RunIn.tail (h : RunIn w r) (hv : r.2.1 = .slice (some ⟨g, off, none⟩) r.2.2.1.length cap) (hn : n < r.2.2.1.length) (hx : 0 ≤ r.1.2.2) (hy : r.1.2.2 + (r.2.2.1.length : Int) ≤ 2147483648) : RunIn w (tailM r g off cap n) := by
  refine ⟨laterD_ok h.1 hx (by omega), ?_, fun e => ?_⟩
  · have := h.2.1
    rw [hv] at this
    exact this.drop (by omega)
  · have := congrArg List.length e
    simp only [tailM, List.length_drop, List.length_nil] at this
    omega
end
/-- The runs behind a cut. -/
theorem cutM_map {rs : List RunM} {i n : Nat} (hi : i < rs.length) (h0 : 0 < n) (hn : n < rs[i].2.2.1.length) (g off cap : Nat) :
    (rs.take i ++ headM rs[i] g off n :: tailM rs[i] g off cap n :: rs.drop (i + 1)).map runOf = cutR (rs.map runOf) i n := by
  unfold cutR
  rw [List.getElem?_map, List.getElem?_eq_getElem hi]
  simp only [Option.map_some]
  rw [if_pos ⟨h0, hn⟩]
  simp only [List.map_append, List.map_cons, List.map_take, List.map_drop, headM_of, tailM_of]
theorem cut_same {d : List RunD} {i n : Nat} {r : RunD} (hr : d[i]? = some r) (h : n = 0 ∨ r.2.1.length ≤ n) : cutR d i n = d := by
  unfold cutR
  rw [hr]
  dsimp only
  rw [if_neg (by omega)]
/-- A run is put behind the i-th, which then is turned. -/
theorem put_set {α : Type} {l : List α} {i : Nat} (hi : i < l.length) (a b : α) : ((l.take (i + 1) ++ b :: l.drop (i + 1)).take i ++ a :: (l.take (i + 1) ++ b :: l.drop (i + 1)).drop (i + 1)) = l.take i ++ a :: b :: l.drop (i + 1) := by
  have h1 : (l.take (i + 1)).length = i + 1 := by rw [List.length_take]; omega
  rw [List.take_append_of_le_length (by omega), List.take_take, Nat.min_eq_left (by omega), List.drop_append_of_le_length (by omega), List.drop_of_length_le (by omega)]
  rfl
end Go.Proofs.YtdgbjhfkmembdaaGreatDoor
