/-
  How many elements, how many runs a document has. No conditions; no program.
-/
import Derived.Test.YtdgbjhfkmembdaaGreatDoorBlockSpec
namespace Go.Proofs.YtdgbjhfkmembdaaGreatDoor
set_option linter.unusedVariables false

theorem sizeR_app (a b : List RunD) : sizeR (a ++ b) = sizeR a + sizeR b := by simp [sizeR]
theorem sizeR_cons (r : RunD) (b : List RunD) : sizeR (r :: b) = r.2.1.length + sizeR b := by simp [sizeR]
theorem sizeR_put (d : List RunD) (i : Nat) (r : RunD) : sizeR (putR d i r) = sizeR d + r.2.1.length := by
  unfold putR
  conv => rhs; rw [← List.take_append_drop i d]
  rw [sizeR_app, sizeR_cons, sizeR_app]
  omega
theorem sizeR_cut (d : List RunD) (i n : Nat) : sizeR (cutR d i n) = sizeR d := by
  unfold cutR
  split
  · rfl
  · rename_i r hr
    split
    · rename_i hn
      obtain ⟨hi, e⟩ := List.getElem?_eq_some_iff.1 hr
      have hd : d = d.take i ++ r :: d.drop (i + 1) := by
        conv => lhs; rw [← List.take_append_drop i d]
        rw [List.drop_eq_getElem_cons hi, e]
      conv => rhs; rw [hd]
      simp only [sizeR_app, sizeR_cons, headR, tailR, List.length_take, List.length_drop]
      omega
    · rfl
theorem sizeR_insert (d : List RunD) (key at' : KeyD) (first : Bool) (rs : List Nat) : sizeR (insertR d key at' first rs).1 ≤ sizeR d + rs.length := by
  unfold insertR
  split
  · simp
  · split
    · split
      · rw [sizeR_put]; exact Nat.le_refl _
      · simp
    · split
      · simp
      · split
        · simp
        · split
          · rw [sizeR_put, sizeR_cut]; exact Nat.le_refl _
          · simp
theorem sizeR_kill2 (r : RunD) (k : KeyD) (n : Int) (hlt : ¬ r.1.2.2 < k.2.2) : sizeR (killR r k n) = r.2.1.length := by
  by_cases hm : meetsR r k n = true
  · by_cases hb : (k.2.2 + n - r.1.2.2).toNat < r.2.1.length
    · obtain ⟨e, h0⟩ := kill_cut2 hm hlt hb
      have hm2 : meetsR (tailR r (k.2.2 + n - r.1.2.2).toNat) k n = false := by
        have e : (tailR r (k.2.2 + n - r.1.2.2).toNat).1.2.2 = k.2.2 + n := by show r.1.2.2 + ((k.2.2 + n - r.1.2.2).toNat : Int) = k.2.2 + n; omega
        unfold meetsR
        rw [e, decide_eq_false (show ¬ k.2.2 + n < k.2.2 + n by omega)]
        simp
      rw [e, kill_keep hm2]
      simp only [tailR, sizeR, List.map_cons, List.sum_cons, List.length_take, List.length_drop, List.map_nil, List.sum_nil]
      omega
    · rw [kill_all hm hlt hb]; simp [sizeR]
  · rw [kill_keep (by simpa using hm)]; simp [sizeR]
theorem sizeR_kill (r : RunD) (k : KeyD) (n : Int) (hn : 1 ≤ n) : sizeR (killR r k n) = r.2.1.length := by
  by_cases hlt : r.1.2.2 < k.2.2
  · by_cases hm : meetsR r k n = true
    · obtain ⟨e, h0, h1⟩ := kill_cut1 hm hn hlt
      have e2 : (tailR r (k.2.2 - r.1.2.2).toNat).1.2.2 = k.2.2 := by show r.1.2.2 + ((k.2.2 - r.1.2.2).toNat : Int) = k.2.2; omega
      rw [e, sizeR_cons, sizeR_kill2 _ k n (by rw [e2]; omega)]
      simp only [headR, tailR, List.length_take, List.length_drop]
      omega
    · rw [kill_keep (by simpa using hm)]; simp [sizeR]
  · exact sizeR_kill2 r k n hlt
theorem sizeR_delete (d : List RunD) (k : KeyD) (n : Int) : sizeR (deleteR d k n).1 = sizeR d := by
  unfold deleteR
  split
  · rfl
  · rename_i hn
    split
    · rfl
    · rename_i hc
      clear hc
      show sizeR (d.flatMap fun r => killR r k n) = sizeR d
      induction d with
      | nil => rfl
      | cons r d ih => rw [List.flatMap_cons, sizeR_app, sizeR_kill _ _ _ (by omega), sizeR_cons, ih]
theorem len_le_size {p : KeyD → Prop} : ∀ {d : List RunD}, RunsOf p d → d.length ≤ sizeR d
  | [], _ => by simp [sizeR]
  | r :: d, h => by
    have h1 := List.length_pos_iff.2 (h r (by simp)).2
    have h2 := len_le_size (d := d) fun q hq => h q (List.mem_cons_of_mem _ hq)
    rw [sizeR_cons, List.length_cons]
    omega
theorem sum_erase {α : Type} [DecidableEq α] (f : α → Nat) {x : α} : ∀ {l : List α}, x ∈ l → (l.map f).sum = f x + ((l.erase x).map f).sum
  | [], h => by cases h
  | y :: l, h => by
    by_cases e : y = x
    · subst e; simp
    · have hx : x ∈ l := by
        rcases List.mem_cons.1 h with h | h
        · exact absurd h.symm e
        · exact h
      rw [List.erase_cons_tail (by simpa using e), List.map_cons, List.sum_cons, List.map_cons, List.sum_cons, sum_erase f hx]
      omega
/-- What is told apart, and lies in a list, comes to no more than the list. -/
theorem sum_sub {α : Type} [DecidableEq α] (f : α → Nat) : ∀ (L l : List α), L.Nodup → (∀ x ∈ L, x ∈ l) → (L.map f).sum ≤ (l.map f).sum
  | [], l, _, _ => by simp
  | x :: L, l, hn, hs => by
    have hx := hs x (by simp)
    obtain ⟨h1, h2⟩ := List.nodup_cons.1 hn
    have ih := sum_sub f L (l.erase x) h2 fun y hy => (List.mem_erase_of_ne (fun e => h1 (by rw [← e]; exact hy))).2 (hs y (List.mem_cons_of_mem _ hy))
    rw [sum_erase f hx, List.map_cons, List.sum_cons]
    omega
end Go.Proofs.YtdgbjhfkmembdaaGreatDoor
