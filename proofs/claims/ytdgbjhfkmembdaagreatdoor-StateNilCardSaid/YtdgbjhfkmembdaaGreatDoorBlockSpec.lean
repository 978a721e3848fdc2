/-
  A document's elements in pieces, as plain functions. No conditions; no program.
-/
import Derived.Test.YtdgbjhfkmembdaaGreatDoorKeySpec
namespace Go.Proofs.YtdgbjhfkmembdaaGreatDoor
set_option linter.unusedVariables false

/-- Elements of one change, one behind the other: the first one's key, their runes, whether they are dead. -/
abbrev RunD := KeyD × List Nat × Bool
def laterD (k : KeyD) (n : Int) : KeyD := (k.1, k.2.1, k.2.2 + n)
def sameRow (a b : KeyD) : Bool := decide (a.1 = b.1) && decide (a.2.1 = b.2.1)
def holdsR (r : RunD) (k : KeyD) : Bool := sameRow r.1 k && (decide (r.1.2.2 ≤ k.2.2) && decide (k.2.2 < r.1.2.2 + (r.2.1.length : Int)))
def meetsR (r : RunD) (k : KeyD) (n : Int) : Bool := sameRow r.1 k && (decide (r.1.2.2 < k.2.2 + n) && decide (k.2.2 < r.1.2.2 + (r.2.1.length : Int)))
/-- Which run holds a key, and where. -/
def findR : List RunD → KeyD → Option (Nat × Nat)
  | [], _ => none
  | r :: d, k => if holdsR r k then some (0, (k.2.2 - r.1.2.2).toNat) else (findR d k).map fun x => (x.1 + 1, x.2)
def putR (d : List RunD) (i : Nat) (r : RunD) : List RunD := d.take i ++ r :: d.drop i
def headR (r : RunD) (n : Nat) : RunD := (r.1, r.2.1.take n, r.2.2)
def tailR (r : RunD) (n : Nat) : RunD := (laterD r.1 (n : Int), r.2.1.drop n, r.2.2)
def cutR (d : List RunD) (i n : Nat) : List RunD := match d[i]? with
  | none => d
  | some r => if 0 < n ∧ n < r.2.1.length then d.take i ++ headR r n :: tailR r n :: d.drop (i + 1) else d
def freshR (d : List RunD) (k : KeyD) (n : Int) : Bool := d.all fun r => !meetsR r k n
/-- How many runs stand ahead of a key's place. -/
def aheadR (d : List RunD) (k : KeyD) : Nat := match d with
  | [] => 0
  | r :: d => if 0 < cmpK r.1 k then aheadR d k + 1 else 0
def placeR (d : List RunD) (k : KeyD) (i : Nat) : Nat := i + aheadR (d.drop i) k
def insertR (d : List RunD) (key at' : KeyD) (first : Bool) (rs : List Nat) : List RunD × Nat :=
  if rs = [] ∨ key.2.2 < 0 ∨ 2147483648 - (rs.length : Int) < key.2.2 then (d, 1)
  else if first then (if freshR d key rs.length then (putR d (placeR d key 0) (key, rs, false), 0) else (d, 11))
  else match findR d at' with
    | none => (d, 12)
    | some (i, k) =>
      if 0 ≤ cmpK at' key then (d, 21)
      else if freshR d key rs.length then (putR (cutR d i (k + 1)) (placeR (cutR d i (k + 1)) key (i + 1)) (key, rs, false), 0) else (d, 11)
def overR (r : RunD) (k : KeyD) (n : Int) : Int := min (k.2.2 + n) (r.1.2.2 + (r.2.1.length : Int)) - max k.2.2 r.1.2.2
def countR (d : List RunD) (k : KeyD) (n : Int) : Int := (d.map fun r => if n ≤ 2147483647 ∧ 0 ≤ k.2.2 ∧ meetsR r k n = true then overR r k n else 0).sum
/-- A run, with what is met dead. -/
def killR (r : RunD) (k : KeyD) (n : Int) : List RunD :=
  if meetsR r k n then
    let a := (k.2.2 - r.1.2.2).toNat
    let q := if r.1.2.2 < k.2.2 then tailR r a else r
    let b := (k.2.2 + n - q.1.2.2).toNat
    (if r.1.2.2 < k.2.2 then [headR r a] else []) ++ (if b < q.2.1.length then [(q.1, q.2.1.take b, true), tailR q b] else [(q.1, q.2.1, true)])
  else [r]
def deleteR (d : List RunD) (k : KeyD) (n : Int) : List RunD × Nat :=
  if n < 1 then (d, 1) else if countR d k n ≠ n then (d, 12) else (d.flatMap fun r => killR r k n, 0)
def sizeR (d : List RunD) : Nat := (d.map fun r => r.2.1.length).sum
def liveR (d : List RunD) : Nat := (d.map fun r => if r.2.2 then 0 else r.2.1.length).sum

theorem findR_hit {k : KeyD} : ∀ {d : List RunD} {i : Nat} (hi : i < d.length), (∀ j (hj : j < d.length), j < i → holdsR d[j] k = false) → holdsR d[i] k = true → findR d k = some (i, (k.2.2 - d[i].1.2.2).toNat)
  | r :: d, 0, hi, _, hh => by
    have hh' : holdsR r k = true := hh
    unfold findR
    rw [if_pos hh']
    rfl
  | r :: d, i + 1, hi, h, hh => by
    have h0 : holdsR r k = false := h 0 (by simp) (by omega)
    have ih := findR_hit (d := d) (i := i) (k := k) (by simpa using hi) (fun j hj hji => h (j + 1) (by simpa using hj) (by omega)) hh
    unfold findR
    rw [if_neg (by rw [h0]; exact Bool.false_ne_true), ih]
    rfl
theorem findR_none {k : KeyD} : ∀ {d : List RunD}, (∀ j (hj : j < d.length), holdsR d[j] k = false) → findR d k = none
  | [], _ => rfl
  | r :: d, h => by
    have h0 : holdsR r k = false := h 0 (by simp)
    unfold findR
    rw [if_neg (by rw [h0]; exact Bool.false_ne_true), findR_none (d := d) fun j hj => h (j + 1) (by simpa using hj)]
    rfl
theorem findR_lt {k : KeyD} : ∀ {d : List RunD} {i n : Nat}, findR d k = some (i, n) → ∃ h : i < d.length, holdsR d[i] k = true ∧ n = (k.2.2 - d[i].1.2.2).toNat
  | [], _, _, h => by cases h
  | r :: d, i, n, h => by
    unfold findR at h
    split at h
    · rename_i hh
      cases h
      exact ⟨by simp, hh, rfl⟩
    · obtain ⟨x, hx, e⟩ := Option.map_eq_some_iff.1 h
      cases e
      obtain ⟨h1, h2, h3⟩ := findR_lt (d := d) hx
      exact ⟨by simpa using h1, h2, h3⟩
theorem aheadR_is {k : KeyD} : ∀ {d : List RunD} {n : Nat}, n ≤ d.length → (∀ j (hj : j < d.length), j < n → 0 < cmpK d[j].1 k) → (∀ hn : n < d.length, ¬ 0 < cmpK d[n].1 k) → aheadR d k = n
  | [], n, hn, _, _ => by simp at hn; subst hn; rfl
  | r :: d, 0, _, _, h2 => by
    unfold aheadR
    have : ¬ 0 < cmpK r.1 k := h2 (by simp)
    rw [if_neg this]
  | r :: d, n + 1, hn, h1, h2 => by
    unfold aheadR
    have h0 : 0 < cmpK r.1 k := h1 0 (by simp) (by omega)
    rw [if_pos h0, aheadR_is (d := d) (n := n) (by simpa using hn) (fun j hj hjn => h1 (j + 1) (by simpa using hj) (by omega)) (fun hn' => h2 (by simpa using hn'))]
theorem placeR_is {d : List RunD} {k : KeyD} {i p : Nat} (hip : i ≤ p) (hp : p ≤ d.length) (h1 : ∀ j (hj : j < d.length), i ≤ j → j < p → 0 < cmpK d[j].1 k) (h2 : ∀ hn : p < d.length, ¬ 0 < cmpK d[p].1 k) : placeR d k i = p := by
  unfold placeR
  rw [aheadR_is (n := p - i) (by rw [List.length_drop]; omega) (fun j hj hjn => ?_) (fun hn => ?_)]
  · omega
  · rw [List.getElem_drop]; exact h1 _ _ (by omega) (by omega)
  · rw [List.getElem_drop]
    have := h2 (by rw [List.length_drop] at hn; omega)
    simpa [show i + (p - i) = p by omega] using this
theorem countR_next {d : List RunD} {k : KeyD} {n : Int} {i : Nat} (hi : i < d.length) : countR (d.take (i + 1)) k n = countR (d.take i) k n + (if n ≤ 2147483647 ∧ 0 ≤ k.2.2 ∧ meetsR d[i] k n = true then overR d[i] k n else 0) := by
  unfold countR
  rw [List.take_succ_eq_append_getElem hi, List.map_append, List.sum_append]
  simp

theorem kill_keep {r : RunD} {k : KeyD} {n : Int} (h : meetsR r k n = false) : killR r k n = [r] := by
  unfold killR
  rw [if_neg (by rw [h]; exact Bool.false_ne_true)]
theorem meets_parts {r : RunD} {k : KeyD} {n : Int} (h : meetsR r k n = true) : sameRow r.1 k = true ∧ r.1.2.2 < k.2.2 + n ∧ k.2.2 < r.1.2.2 + (r.2.1.length : Int) := by
  simpa only [meetsR, Bool.and_eq_true, decide_eq_true_eq] using h
theorem kill_cut1 {r : RunD} {k : KeyD} {n : Int} (h : meetsR r k n = true) (hn : 1 ≤ n) (hlt : r.1.2.2 < k.2.2) :
    killR r k n = headR r (k.2.2 - r.1.2.2).toNat :: killR (tailR r (k.2.2 - r.1.2.2).toNat) k n ∧ 0 < (k.2.2 - r.1.2.2).toNat ∧ (k.2.2 - r.1.2.2).toNat < r.2.1.length := by
  obtain ⟨h1, h2, h3⟩ := meets_parts h
  have ha : 0 < (k.2.2 - r.1.2.2).toNat ∧ (k.2.2 - r.1.2.2).toNat < r.2.1.length := by omega
  refine ⟨?_, ha⟩
  have e : (tailR r (k.2.2 - r.1.2.2).toNat).1.2.2 = k.2.2 := by show r.1.2.2 + ((k.2.2 - r.1.2.2).toNat : Int) = k.2.2; omega
  have hm : meetsR (tailR r (k.2.2 - r.1.2.2).toNat) k n = true := by
    have hs : sameRow (tailR r (k.2.2 - r.1.2.2).toNat).1 k = true := h1
    have hl : (tailR r (k.2.2 - r.1.2.2).toNat).2.1.length = r.2.1.length - (k.2.2 - r.1.2.2).toNat := by simp [tailR]
    unfold meetsR
    rw [hs, e, hl, decide_eq_true (by omega), decide_eq_true (by omega)]
    rfl
  have hnl : ¬ (tailR r (k.2.2 - r.1.2.2).toNat).1.2.2 < k.2.2 := by rw [e]; omega
  conv => lhs; unfold killR
  conv => rhs; rhs; unfold killR
  rw [if_pos h, if_pos hm]
  simp only [if_pos hlt, if_neg hnl, List.nil_append, List.singleton_append]
theorem kill_cut2 {r : RunD} {k : KeyD} {n : Int} (h : meetsR r k n = true) (hlt : ¬ r.1.2.2 < k.2.2) (hb : (k.2.2 + n - r.1.2.2).toNat < r.2.1.length) :
    killR r k n = (r.1, r.2.1.take (k.2.2 + n - r.1.2.2).toNat, true) :: killR (tailR r (k.2.2 + n - r.1.2.2).toNat) k n ∧ 0 < (k.2.2 + n - r.1.2.2).toNat := by
  obtain ⟨h1, h2, h3⟩ := meets_parts h
  have ha : 0 < (k.2.2 + n - r.1.2.2).toNat := by omega
  refine ⟨?_, ha⟩
  have hm : meetsR (tailR r (k.2.2 + n - r.1.2.2).toNat) k n = false := by
    have e : (tailR r (k.2.2 + n - r.1.2.2).toNat).1.2.2 = k.2.2 + n := by show r.1.2.2 + ((k.2.2 + n - r.1.2.2).toNat : Int) = k.2.2 + n; omega
    unfold meetsR
    rw [e, decide_eq_false (show ¬ k.2.2 + n < k.2.2 + n by omega)]
    simp
  rw [kill_keep hm]
  unfold killR
  rw [if_pos h]
  simp only [if_neg hlt, List.nil_append, if_pos hb]
theorem kill_all {r : RunD} {k : KeyD} {n : Int} (h : meetsR r k n = true) (hlt : ¬ r.1.2.2 < k.2.2) (hb : ¬ (k.2.2 + n - r.1.2.2).toNat < r.2.1.length) : killR r k n = [(r.1, r.2.1, true)] := by
  unfold killR
  rw [if_pos h]
  simp only [if_neg hlt, List.nil_append, if_neg hb]

/-- Every run is of one of some changes, and has an element. -/
def RunsOf (p : KeyD → Prop) (d : List RunD) : Prop := ∀ r ∈ d, p r.1 ∧ r.2.1 ≠ []
section
variable {p : KeyD → Prop} {d : List RunD}
theorem RunsOf.put (h : RunsOf p d) {i : Nat} {r : RunD} (h1 : p r.1) (h2 : r.2.1 ≠ []) : RunsOf p (putR d i r) := fun q hq => by
  unfold putR at hq
  rcases List.mem_append.1 hq with hq | hq
  · exact h q (List.mem_of_mem_take hq)
  · rcases List.mem_cons.1 hq with rfl | hq
    · exact ⟨h1, h2⟩
    · exact h q (List.mem_of_mem_drop hq)
theorem RunsOf.cut (hp : ∀ k n, p k → p (laterD k n)) (h : RunsOf p d) (i n : Nat) : RunsOf p (cutR d i n) := by
  unfold cutR
  split
  · exact h
  · rename_i r hr
    have hm : r ∈ d := List.mem_of_getElem? hr
    split
    · rename_i hn
      intro q hq
      rcases List.mem_append.1 hq with hq | hq
      · exact h q (List.mem_of_mem_take hq)
      · rcases List.mem_cons.1 hq with rfl | hq
        · refine ⟨(h r hm).1, fun e => ?_⟩
          have := congrArg List.length e
          simp only [headR, List.length_take, List.length_nil] at this
          omega
        · rcases List.mem_cons.1 hq with rfl | hq
          · refine ⟨hp _ _ (h r hm).1, fun e => ?_⟩
            have := congrArg List.length e
            simp only [tailR, List.length_drop, List.length_nil] at this
            omega
          · exact h q (List.mem_of_mem_drop hq)
    · exact h
theorem RunsOf.insert (hp : ∀ k n, p k → p (laterD k n)) (h : RunsOf p d) {key at' : KeyD} {first : Bool} {rs : List Nat} (hk : p key) : RunsOf p (insertR d key at' first rs).1 := by
  unfold insertR
  split
  · exact h
  · rename_i h0
    have hrs : rs ≠ [] := fun e => h0 (.inl e)
    split
    · split
      · exact h.put hk hrs
      · exact h
    · split
      · exact h
      · split
        · exact h
        · split
          · exact (h.cut hp _ _).put hk hrs
          · exact h
theorem RunsOf.kill (hp : ∀ k n, p k → p (laterD k n)) {r : RunD} (h1 : p r.1) (h2 : r.2.1 ≠ []) (k : KeyD) (n : Int) (hn : 1 ≤ n) : RunsOf p (killR r k n) := by
  have hl : 0 < r.2.1.length := List.length_pos_iff.2 h2
  unfold killR
  split
  · rename_i hm
    simp only [meetsR, Bool.and_eq_true, decide_eq_true_eq] at hm
    obtain ⟨-, hm1, hm2⟩ := hm
    intro q hq
    dsimp only at hq
    by_cases hlt : r.1.2.2 < k.2.2
    · simp only [if_pos hlt] at hq
      rcases List.mem_append.1 hq with hq | hq
      · rw [List.mem_singleton] at hq
        subst hq
        refine ⟨h1, fun e => ?_⟩
        have := congrArg List.length e
        simp only [headR, List.length_take, List.length_nil] at this
        omega
      · have hq1 : p (tailR r (k.2.2 - r.1.2.2).toNat).1 := hp _ _ h1
        have hq2 : (tailR r (k.2.2 - r.1.2.2).toNat).2.1.length = r.2.1.length - (k.2.2 - r.1.2.2).toNat := by simp [tailR]
        have hq3 : (tailR r (k.2.2 - r.1.2.2).toNat).1.2.2 = r.1.2.2 + ((k.2.2 - r.1.2.2).toNat : Int) := rfl
        generalize tailR r (k.2.2 - r.1.2.2).toNat = t at *
        split at hq
        · rename_i hb
          rcases List.mem_cons.1 hq with rfl | hq
          · refine ⟨hq1, fun e => ?_⟩
            have := congrArg List.length e
            simp only [List.length_take, List.length_nil] at this
            omega
          · rw [List.mem_singleton] at hq
            subst hq
            refine ⟨hp _ _ hq1, fun e => ?_⟩
            have := congrArg List.length e
            simp only [tailR, List.length_drop, List.length_nil] at this
            omega
        · rw [List.mem_singleton] at hq
          subst hq
          refine ⟨hq1, fun e => ?_⟩
          have := congrArg List.length e
          simp only [List.length_nil] at this
          omega
    · simp only [if_neg hlt, List.nil_append] at hq
      split at hq
      · rename_i hb
        rcases List.mem_cons.1 hq with rfl | hq
        · refine ⟨h1, fun e => ?_⟩
          have := congrArg List.length e
          simp only [List.length_take, List.length_nil] at this
          omega
        · rw [List.mem_singleton] at hq
          subst hq
          refine ⟨hp _ _ h1, fun e => ?_⟩
          have := congrArg List.length e
          simp only [tailR, List.length_drop, List.length_nil] at this
          omega
      · rw [List.mem_singleton] at hq
        subst hq
        exact ⟨h1, h2⟩
  · intro q hq
    rw [List.mem_singleton] at hq
    subst hq
    exact ⟨h1, h2⟩
theorem RunsOf.delete (hp : ∀ k n, p k → p (laterD k n)) (h : RunsOf p d) (k : KeyD) (n : Int) : RunsOf p (deleteR d k n).1 := by
  unfold deleteR
  split
  · exact h
  · rename_i hn
    split
    · exact h
    · intro q hq
      obtain ⟨r, hr, hq⟩ := List.mem_flatMap.1 hq
      exact RunsOf.kill hp (h r hr).1 (h r hr).2 k n (by omega) q hq
end
end Go.Proofs.YtdgbjhfkmembdaaGreatDoor
