/-
  Merging two sorted lists of ids, and striking doubles out of a sorted one, step by step. No conditions; no program runs here.
-/
import Derived.Test.YtdgbjhfkmembdaaGreatDoorIdsSpec
namespace Go.Proofs.YtdgbjhfkmembdaaGreatDoor
set_option linter.unusedVariables false

/-- Ids that rise, each as often as it stands there. -/
def SortedL (l : List (List UInt8)) : Prop := l.Pairwise fun a b => cmpB a b ≤ 0
theorem idLe_trans {a b c : List UInt8} (h1 : cmpB a b ≤ 0) (h2 : cmpB b c ≤ 0) : cmpB a c ≤ 0 := by
  rcases (by omega : cmpB a b < 0 ∨ cmpB a b = 0) with q | q
  · rcases (by omega : cmpB b c < 0 ∨ cmpB b c = 0) with r | r
    · have := cmpB_trans q r; omega
    · rw [← cmpB_zero.1 r]; exact h1
  · rw [cmpB_zero.1 q]; exact h2
/-- Where merging stands: what has come out, what is left of each. -/
structure Mg (a b out ra rb : List (List UInt8)) : Prop where
  perm : (out ++ ra ++ rb).Perm (a ++ b)
  sorted : SortedL out
  le : ∀ x ∈ out, ∀ y ∈ ra ++ rb, cmpB x y ≤ 0
  sra : SortedL ra
  srb : SortedL rb
theorem Mg.start {a b : List (List UInt8)} (ha : SortedL a) (hb : SortedL b) : Mg a b [] a b := ⟨List.Perm.refl _, List.Pairwise.nil, fun x hx => absurd hx (by simp), ha, hb⟩
section
variable {a b out ra rb : List (List UInt8)} {x : List UInt8}
theorem Mg.left (h : Mg a b out (x :: ra) rb) (hc : ∀ y t, rb = y :: t → cmpB x y ≤ 0) : Mg a b (out ++ [x]) ra rb := by
  have hs := List.pairwise_cons.1 h.sra
  refine ⟨by rw [show out ++ [x] ++ ra ++ rb = out ++ (x :: ra) ++ rb by simp]; exact h.perm, List.pairwise_append.2 ⟨h.sorted, List.pairwise_singleton _ _, fun p hp q hq => ?_⟩, fun p hp q hq => ?_, hs.2, h.srb⟩
  · obtain rfl : q = x := by simpa using hq
    exact h.le p hp _ (by simp)
  · rcases List.mem_append.1 hp with hp | hp
    · refine h.le p hp q ?_
      rcases List.mem_append.1 hq with hq | hq
      · simp [hq]
      · simp [hq]
    · obtain rfl : p = x := by simpa using hp
      rcases List.mem_append.1 hq with hq | hq
      · exact hs.1 q hq
      · cases rb with
        | nil => cases hq
        | cons y t =>
          have h1 := hc y t rfl
          rcases List.mem_cons.1 hq with rfl | hq
          · exact h1
          · exact idLe_trans h1 ((List.pairwise_cons.1 h.srb).1 q hq)
theorem Mg.swap (h : Mg a b out ra rb) : Mg b a out rb ra :=
  ⟨by
    rw [List.append_assoc]
    refine (List.Perm.append_left out List.perm_append_comm).trans ?_
    rw [← List.append_assoc]
    exact h.perm.trans List.perm_append_comm, h.sorted, fun p hp q hq => h.le p hp q (by simp only [List.mem_append] at hq ⊢; exact hq.symm), h.srb, h.sra⟩
theorem Mg.right (h : Mg a b out ra (x :: rb)) (hc : ∀ y t, ra = y :: t → cmpB x y ≤ 0) : Mg a b (out ++ [x]) ra rb := (h.swap.left hc).swap
theorem Mg.done (h : Mg a b out ra rb) (he : ra = [] ∨ rb = []) : SortedL (out ++ ra ++ rb) ∧ (out ++ ra ++ rb).Perm (a ++ b) := by
  refine ⟨?_, h.perm⟩
  rw [List.append_assoc]
  refine List.pairwise_append.2 ⟨h.sorted, ?_, h.le⟩
  rcases he with rfl | rfl
  · exact h.srb
  · rw [List.append_nil]; exact h.sra
end
/-- Where striking out stands. -/
structure Dd (s out : List (List UInt8)) (k : Nat) : Prop where
  set : out.Pairwise fun a b => cmpB a b < 0
  mem : ∀ x, x ∈ out ↔ x ∈ s.take k
theorem Dd.start (s : List (List UInt8)) : Dd s [] 0 := ⟨List.Pairwise.nil, fun x => by simp⟩
section
variable {s out : List (List UInt8)} {k : Nat}
theorem Dd.add (h : Dd s out k) (hs : SortedL s) (hk : k < s.length) (hn : ∀ ho : 0 < out.length, out[out.length - 1] ≠ s[k]) : Dd s (out ++ [s[k]]) (k + 1) := by
  refine ⟨List.pairwise_append.2 ⟨h.set, List.pairwise_singleton _ _, fun x hx y hy => ?_⟩, fun x => ?_⟩
  · obtain rfl : y = s[k] := by simpa using hy
    obtain ⟨q, hq, rfl⟩ := List.getElem_of_mem hx
    have ho : 0 < out.length := by omega
    have hl : out[out.length - 1] ∈ s.take k := (h.mem _).1 (List.getElem_mem _)
    obtain ⟨p, hp, ep⟩ := List.getElem_of_mem hl
    rw [List.length_take] at hp
    rw [List.getElem_take] at ep
    have h1 : cmpB out[out.length - 1] s[k] ≤ 0 := by
      rw [← ep]
      exact (List.pairwise_iff_getElem.1 hs) p k (by omega) hk (by omega)
    have h2 : cmpB out[out.length - 1] s[k] ≠ 0 := fun e => hn ho (cmpB_zero.1 e)
    rcases (by omega : q = out.length - 1 ∨ q < out.length - 1) with r | r
    · subst r; omega
    · exact cmpB_trans ((List.pairwise_iff_getElem.1 h.set) q (out.length - 1) hq (by omega) r) (by omega)
  · rw [List.take_succ_eq_append_getElem hk, List.mem_append, List.mem_append, h.mem]
theorem Dd.skip (h : Dd s out k) (hk : k < s.length) (ho : 0 < out.length) (he : out[out.length - 1] = s[k]) : Dd s out (k + 1) := by
  refine ⟨h.set, fun x => ?_⟩
  rw [List.take_succ_eq_append_getElem hk, List.mem_append, ← h.mem]
  constructor
  · exact .inl
  · rintro (q | q)
    · exact q
    · obtain rfl : x = s[k] := by simpa using q
      rw [← he]; exact List.getElem_mem _
theorem Dd.done (h : Dd s out k) (hk : s.length ≤ k) : isSetB out = true ∧ ∀ x, x ∈ out ↔ x ∈ s := ⟨isSetB_of_pair h.set, fun x => by rw [h.mem, List.take_of_length_le hk]⟩
end
theorem nodup_le {α : Type} [BEq α] [LawfulBEq α] : ∀ {a l : List α}, a.Nodup → (∀ x, x ∈ a → x ∈ l) → a.length ≤ l.length
  | [], l, _, _ => Nat.zero_le _
  | x :: t, l, hn, hm => by
    rw [List.nodup_cons] at hn
    have hx := hm x List.mem_cons_self
    have h := nodup_le (l := l.erase x) hn.2 fun y hy => (List.mem_erase_of_ne (fun e : y = x => hn.1 (by rw [← e]; exact hy))).2 (hm y (List.mem_cons_of_mem _ hy))
    rw [List.length_erase_of_mem hx] at h
    have := List.length_pos_of_mem hx
    simp only [List.length_cons]
    omega
theorem set_length_le {out l : List (List UInt8)} (hs : isSetB out = true) (hm : ∀ x, x ∈ out → x ∈ l) : out.length ≤ l.length := by
  have hn : out.Nodup := (isSetB_pair hs).imp fun {a b} h e => by rw [e, cmpB_self] at h; omega
  exact nodup_le hn hm
/-- Two sets of the same ids are one. -/
theorem set_unique : ∀ {a b : List (List UInt8)}, isSetB a = true → isSetB b = true → (∀ x, x ∈ a ↔ x ∈ b) → a = b := by
  intro a
  induction a with
  | nil => intro b ha hb h; cases b with
    | nil => rfl
    | cons y t => exact absurd ((h y).2 List.mem_cons_self) (by simp)
  | cons x s ih =>
    intro b ha hb h
    cases b with
    | nil => exact absurd ((h x).1 List.mem_cons_self) (by simp)
    | cons y t =>
      have pa := List.pairwise_cons.1 (isSetB_pair ha)
      have pb := List.pairwise_cons.1 (isSetB_pair hb)
      have exy : x = y := by
        rcases List.mem_cons.1 ((h x).1 List.mem_cons_self) with q | q
        · exact q
        · rcases List.mem_cons.1 ((h y).2 List.mem_cons_self) with r | r
          · exact r.symm
          · have h1 := pb.1 x q
            have h2 := pa.1 y r
            have := cmpB_trans h1 h2
            rw [cmpB_self] at this; omega
      subst exy
      rw [ih (isSetB_of_pair pa.2) (isSetB_of_pair pb.2) fun z => ⟨fun hz => ?_, fun hz => ?_⟩]
      · rcases List.mem_cons.1 ((h z).1 (List.mem_cons_of_mem _ hz)) with q | q
        · subst q
          have := pa.1 _ hz
          rw [cmpB_self] at this; omega
        · exact q
      · rcases List.mem_cons.1 ((h z).2 (List.mem_cons_of_mem _ hz)) with q | q
        · subst q
          have := pb.1 _ hz
          rw [cmpB_self] at this; omega
        · exact q
end Go.Proofs.YtdgbjhfkmembdaaGreatDoor
