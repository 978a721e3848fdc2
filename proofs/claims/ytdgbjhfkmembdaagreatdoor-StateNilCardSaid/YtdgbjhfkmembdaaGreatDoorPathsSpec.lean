/-
  The paths that documents have, one document more; rows of unlike elements stand apart. No conditions; no program.
-/
import Derived.Test.YtdgbjhfkmembdaaGreatDoorRegSpec
import Derived.Test.YtdgbjhfkmembdaaGreatDoorApartSpec
namespace Go.Proofs.YtdgbjhfkmembdaaGreatDoor

def pathStep (f : KeyD → Option ClaimD) (r : List (KeyD × List UInt8)) (d : KeyD) (T : List (List UInt8)) : List (KeyD × List UInt8) :=
  match f d with
  | some c => if c.2.2.1 = 5 then r else r ++ [(d, freshS (L c.2.2.2) (T ++ r.map (·.2)))]
  | none => r
theorem pathsGo_snoc (f : KeyD → Option ClaimD) (d : KeyD) : ∀ (ds : List KeyD) (T : List (List UInt8)), pathsGo f (ds ++ [d]) T = pathStep f (pathsGo f ds T) d T
  | [], T => by
    unfold pathStep
    simp only [List.nil_append, pathsGo, List.map_nil, List.append_nil]
    try (cases f d <;> rfl)
  | e :: r, T => by
    rw [List.cons_append]
    unfold pathsGo
    cases h : f e with
    | none => exact pathsGo_snoc f d r T
    | some c =>
      by_cases hk : c.2.2.1 = 5
      · simp only [hk, if_true]
        exact pathsGo_snoc f d r T
      · simp only [hk, if_false]
        rw [pathsGo_snoc f d r _]
        unfold pathStep
        cases f d with
        | none => rfl
        | some c' =>
          simp only
          split
          · rfl
          · simp
theorem pathsGo_length (f : KeyD → Option ClaimD) : ∀ (ds : List KeyD) (T : List (List UInt8)), (pathsGo f ds T).length ≤ ds.length
  | [], _ => by simp [pathsGo]
  | e :: r, T => by
    unfold pathsGo
    cases h : f e with
    | none => have := pathsGo_length f r T; simp; omega
    | some c =>
      simp only
      split
      · have := pathsGo_length f r T; simp; omega
      · have := pathsGo_length f r (T ++ [freshS (L c.2.2.2) T]); simp; omega
theorem insK_length (k : KeyD) : ∀ l : List KeyD, (insK k l).length ≤ l.length + 1
  | [] => by simp [insK]
  | y :: l => by
    unfold insK
    split
    · simp
    · split
      · simp
      · have := insK_length k l; simp; omega
theorem sortK_length : ∀ l : List KeyD, (sortK l).length ≤ l.length
  | [] => by simp [sortK]
  | y :: l => by
    have h1 := insK_length y (sortK l)
    have h2 := sortK_length l
    show (insK y (sortK l)).length ≤ _
    simp; omega
theorem docsS_length (l : List ClaimD) : (docsS l).length ≤ l.length := by
  have := sortK_length (l.map (·.2.1))
  unfold docsS; simpa using this
end Go.Proofs.YtdgbjhfkmembdaaGreatDoor
