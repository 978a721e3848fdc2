/-
  The indexes of a document's runs stay small. No conditions; no program.
-/
import Derived.Test.YtdgbjhfkmembdaaGreatDoorBlockSize
namespace Go.Proofs.YtdgbjhfkmembdaaGreatDoor
set_option linter.unusedVariables false

/-- Every run's indexes are from 0 up, below 2^31. -/
def RunIx (d : List RunD) : Prop := ∀ r ∈ d, 0 ≤ r.1.2.2 ∧ r.1.2.2 + (r.2.1.length : Int) ≤ 2147483648
section
variable {d : List RunD}
theorem RunIx.put (h : RunIx d) {i : Nat} {r : RunD} (h1 : 0 ≤ r.1.2.2) (h2 : r.1.2.2 + (r.2.1.length : Int) ≤ 2147483648) : RunIx (putR d i r) := fun q hq => by
  unfold putR at hq
  rcases List.mem_append.1 hq with hq | hq
  · exact h q (List.mem_of_mem_take hq)
  · rcases List.mem_cons.1 hq with rfl | hq
    · exact ⟨h1, h2⟩
    · exact h q (List.mem_of_mem_drop hq)
theorem ix_head {r : RunD} (h1 : 0 ≤ r.1.2.2) (h2 : r.1.2.2 + (r.2.1.length : Int) ≤ 2147483648) (n : Nat) : 0 ≤ (headR r n).1.2.2 ∧ (headR r n).1.2.2 + ((headR r n).2.1.length : Int) ≤ 2147483648 := by
  refine ⟨h1, ?_⟩
  show r.1.2.2 + ((r.2.1.take n).length : Int) ≤ 2147483648
  rw [List.length_take]
  omega
theorem ix_tail {r : RunD} (h1 : 0 ≤ r.1.2.2) (h2 : r.1.2.2 + (r.2.1.length : Int) ≤ 2147483648) {n : Nat} (hn : n ≤ r.2.1.length) : 0 ≤ (tailR r n).1.2.2 ∧ (tailR r n).1.2.2 + ((tailR r n).2.1.length : Int) ≤ 2147483648 := by
  show 0 ≤ r.1.2.2 + (n : Int) ∧ r.1.2.2 + (n : Int) + ((r.2.1.drop n).length : Int) ≤ 2147483648
  rw [List.length_drop]
  omega
theorem RunIx.cut (h : RunIx d) (i n : Nat) : RunIx (cutR d i n) := by
  unfold cutR
  split
  · exact h
  · rename_i r hr
    have hm : r ∈ d := List.mem_of_getElem? hr
    obtain ⟨h1, h2⟩ := h r hm
    split
    · rename_i hn
      intro q hq
      rcases List.mem_append.1 hq with hq | hq
      · exact h q (List.mem_of_mem_take hq)
      · rcases List.mem_cons.1 hq with rfl | hq
        · exact ix_head h1 h2 n
        · rcases List.mem_cons.1 hq with rfl | hq
          · exact ix_tail h1 h2 (by omega)
          · exact h q (List.mem_of_mem_drop hq)
    · exact h
theorem RunIx.insert (h : RunIx d) (key at' : KeyD) (first : Bool) (rs : List Nat) : RunIx (insertR d key at' first rs).1 := by
  unfold insertR
  split
  · exact h
  · rename_i h0
    have h1 : 0 ≤ key.2.2 := by
      by_cases hq : key.2.2 < 0
      · exact absurd (.inr (.inl hq)) h0
      · omega
    have h2 : key.2.2 + (rs.length : Int) ≤ 2147483648 := by
      by_cases hq : 2147483648 - (rs.length : Int) < key.2.2
      · exact absurd (.inr (.inr hq)) h0
      · omega
    split
    · split
      · exact h.put h1 h2
      · exact h
    · split
      · exact h
      · split
        · exact h
        · split
          · exact (h.cut _ _).put h1 h2
          · exact h
theorem RunIx.kill {r : RunD} (h1 : 0 ≤ r.1.2.2) (h2 : r.1.2.2 + (r.2.1.length : Int) ≤ 2147483648) (k : KeyD) (n : Int) (hn : 1 ≤ n) : RunIx (killR r k n) := by
  have hk2 : ∀ {q : RunD}, 0 ≤ q.1.2.2 → q.1.2.2 + (q.2.1.length : Int) ≤ 2147483648 → ¬ q.1.2.2 < k.2.2 → RunIx (killR q k n) := fun {q} g1 g2 hlt => by
    by_cases hm : meetsR q k n = true
    · by_cases hb : (k.2.2 + n - q.1.2.2).toNat < q.2.1.length
      · obtain ⟨e, h0⟩ := kill_cut2 hm hlt hb
        have hm2 : meetsR (tailR q (k.2.2 + n - q.1.2.2).toNat) k n = false := by
          have e : (tailR q (k.2.2 + n - q.1.2.2).toNat).1.2.2 = k.2.2 + n := by show q.1.2.2 + ((k.2.2 + n - q.1.2.2).toNat : Int) = k.2.2 + n; omega
          unfold meetsR
          rw [e, decide_eq_false (show ¬ k.2.2 + n < k.2.2 + n by omega)]
          simp
        rw [e, kill_keep hm2]
        intro x hx
        rcases List.mem_cons.1 hx with rfl | hx
        · exact ix_head g1 g2 _
        · rw [List.mem_singleton] at hx
          subst hx
          exact ix_tail g1 g2 (by omega)
      · rw [kill_all hm hlt hb]
        intro x hx
        rw [List.mem_singleton] at hx
        subst hx
        exact ⟨g1, g2⟩
    · rw [kill_keep (by simpa using hm)]
      intro x hx
      rw [List.mem_singleton] at hx
      subst hx
      exact ⟨g1, g2⟩
  by_cases hlt : r.1.2.2 < k.2.2
  · by_cases hm : meetsR r k n = true
    · obtain ⟨e, h0, h3⟩ := kill_cut1 hm hn hlt
      obtain ⟨g1, g2⟩ := ix_tail h1 h2 (n := (k.2.2 - r.1.2.2).toNat) (by omega)
      rw [e]
      intro x hx
      rcases List.mem_cons.1 hx with rfl | hx
      · exact ix_head h1 h2 _
      · refine hk2 g1 g2 ?_ x hx
        show ¬ r.1.2.2 + ((k.2.2 - r.1.2.2).toNat : Int) < k.2.2
        omega
    · rw [kill_keep (by simpa using hm)]
      intro x hx
      rw [List.mem_singleton] at hx
      subst hx
      exact ⟨h1, h2⟩
  · exact hk2 h1 h2 hlt
theorem RunIx.delete (h : RunIx d) (k : KeyD) (n : Int) : RunIx (deleteR d k n).1 := by
  unfold deleteR
  split
  · exact h
  · split
    · exact h
    · intro q hq
      obtain ⟨r, hr, hq⟩ := List.mem_flatMap.1 hq
      exact RunIx.kill (h r hr).1 (h r hr).2 k n (by omega) q hq
theorem RunIx.len (h : RunIx d) {r : RunD} (hr : r ∈ d) : r.2.1.length ≤ 2147483648 := by
  obtain ⟨h1, h2⟩ := h r hr
  omega
end
end Go.Proofs.YtdgbjhfkmembdaaGreatDoor
