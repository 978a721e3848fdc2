/-
  A text by its runes: a string is a text of such runes just if its bytes are those runes' bytes, one behind the other; cut at a slash, both sides are texts. No conditions; no program.
-/
import Derived.Test.YtmlkhloonmgkpaaDoorFreshSpec
namespace Go.Proofs.YtmlkhloonmgkpaaDoor

/-- Runes' bytes, one behind the other. -/
def encs : List Nat → List Int
  | [] => []
  | r :: rs => encB (r : Int) ++ encs rs
/-- Bytes that are runes' bytes, each of which may be and is right. -/
def TextL (p : Nat → Bool) (l : List UInt8) : Prop := ∃ rs : List Nat, num l = encs rs ∧ ∀ r ∈ rs, mayB (r : Int) = true ∧ p r = true

theorem num_append (a b : List UInt8) : num (a ++ b) = num a ++ num b := List.map_append

theorem encB_length {r : Int} : 1 ≤ (encB r).length ∧ (encB r).length ≤ 4 := by
  unfold encB
  split
  · simp
  · split
    · simp
    · split <;> simp

theorem runesAt_num : ∀ (n : Nat) (s : ByteArray) (k : Nat) (rs : List Nat), s.size - k ≤ n → runesAt s k = some rs → num ((L s).drop k) = encs rs ∧ ∀ r ∈ rs, mayB (r : Int) = true := by
  intro n
  induction n with
  | zero =>
    intro s k rs hk h
    rw [runesAt_end (by omega)] at h
    cases h
    rw [List.drop_eq_nil_of_le (by rw [L_length]; omega)]
    exact ⟨rfl, fun r hr => by cases hr⟩
  | succ n ih =>
    intro s k rs hk h
    by_cases hp : k < s.size
    · cases ho : okAt s k
      · rw [runesAt_bad hp ho] at h; cases h
      · rw [runesAt_ok hp ho] at h
        obtain ⟨l, hl, rfl⟩ := Option.map_eq_some_iff.1 h
        obtain ⟨d1, d2, d3⟩ := dec_in hp
        obtain ⟨_, hm, he, _, _⟩ := vOf_hit (s := s) (i := k) ⟨ho, rfl⟩
        obtain ⟨h1, h2⟩ := ih s (k + (Utf8.decode s k).2) l (by omega) hl
        refine ⟨?_, fun r hr => ?_⟩
        · rw [drop_split (s := s) (f := k) (k := k + (Utf8.decode s k).2) (by omega), num_append, h1, num_extract d2 d3 d1, ← he]
          rfl
        · rcases List.mem_cons.1 hr with rfl | hr
          · exact hm
          · exact h2 r hr
    · rw [runesAt_end (by omega)] at h
      cases h
      rw [List.drop_eq_nil_of_le (by rw [L_length]; omega)]
      exact ⟨rfl, fun r hr => by cases hr⟩

theorem bytesAt_num {s : ByteArray} {k n : Nat} (h1 : 1 ≤ n) (h4 : n ≤ 4) (hin : k + n ≤ s.size) : num ((L s).drop k) = bytesAt s k n ++ num ((L s).drop (k + n)) := by
  rw [drop_split (s := s) (f := k) (k := k + n) (by omega), num_append, num_extract h1 h4 hin]

theorem vOf_enc {s : ByteArray} {k : Nat} {r : Int} (h0 : 0 ≤ r) (h1 : r ≤ 1114111) (h : encB r = bytesAt s k (encB r).length) : vOf s k (encB r).length = r := by
  rcases (by omega : r < 128 ∨ (128 ≤ r ∧ r < 2048) ∨ (2048 ≤ r ∧ r < 65536) ∨ 65536 ≤ r) with a | ⟨a, b⟩ | ⟨a, b⟩ | a
  · rw [encB1 a] at h ⊢
    simp [bytesAt] at h
    simp [vOf]; omega
  · rw [encB2 a b] at h ⊢
    simp [bytesAt] at h
    simp [vOf]; omega
  · rw [encB3 a b] at h ⊢
    simp [bytesAt] at h
    simp [vOf]; omega
  · rw [encB4 a] at h ⊢
    simp [bytesAt] at h
    simp [vOf]; omega

theorem bytesAt_length {s : ByteArray} {k n : Nat} (h1 : 1 ≤ n) (h4 : n ≤ 4) : (bytesAt s k n).length = n := by
  rcases (by omega : n = 1 ∨ n = 2 ∨ n = 3 ∨ n = 4) with rfl | rfl | rfl | rfl <;> rfl

theorem num_runesAt : ∀ (rs : List Nat) (s : ByteArray) (k : Nat), k ≤ s.size → num ((L s).drop k) = encs rs → (∀ r ∈ rs, mayB (r : Int) = true) → runesAt s k = some rs := by
  intro rs
  induction rs with
  | nil =>
    intro s k hk h _
    have h2 := congrArg List.length h
    simp [num, encs] at h2
    exact runesAt_end (by omega)
  | cons r rs ih =>
    intro s k hk h hm
    have hr := hm r (by simp)
    have hrg := may_range hr
    have he : num ((L s).drop k) = encB (r : Int) ++ encs rs := h
    obtain ⟨e1, e4⟩ := encB_length (r := (r : Int))
    have hlen := congrArg List.length he
    simp only [num, List.length_map, List.length_drop, L_length, List.length_append] at hlen
    have hin : k + (encB (r : Int)).length ≤ s.size := by omega
    rw [bytesAt_num e1 e4 hin] at he
    obtain ⟨h5, h6⟩ := List.append_inj he (by rw [bytesAt_length e1 e4])
    have hv := vOf_enc (s := s) (k := k) hrg.1 hrg.2.1 h5.symm
    have hhit := vOf_miss (s := s) (i := k) e1 e4 hin (by rw [hv]; exact hr) (by rw [hv]; exact h5.symm)
    have hh := vOf_hit hhit
    rw [runesAt_ok (by omega) hhit.1, hhit.2, ih s _ hin h6 (fun x hx => hm x (by simp [hx]))]
    have : (Utf8.decode s k).1 = r := by
      have := hh.1
      rw [hv] at this
      omega
    rw [this]; rfl

theorem plainB_iff (s : ByteArray) (p : Nat → Bool) : plainB s p = true ↔ TextL p (L s) := by
  unfold plainB
  rw [runesOf_eq]
  constructor
  · intro h
    split at h
    · rename_i l hl
      obtain ⟨h1, h2⟩ := runesAt_num _ s 0 l (Nat.le_refl _) hl
      rw [List.drop_zero] at h1
      rw [List.all_eq_true] at h
      exact ⟨l, h1, fun r hr => ⟨h2 r hr, h r hr⟩⟩
    · cases h
  · rintro ⟨rs, h1, h2⟩
    rw [num_runesAt rs s 0 (Nat.zero_le _) (by rw [List.drop_zero]; exact h1) (fun r hr => (h2 r hr).1)]
    simp only [List.all_eq_true]
    exact fun r hr => (h2 r hr).2

/-- A byte 47 among a rune's bytes is that rune. -/
theorem enc_slash {r : Int} (h0 : mayB r = true) (h : (47 : Int) ∈ encB r) : encB r = [47] := by
  have hr := may_range h0
  rcases (by omega : r < 128 ∨ (128 ≤ r ∧ r < 2048) ∨ (2048 ≤ r ∧ r < 65536) ∨ 65536 ≤ r) with a | ⟨a, b⟩ | ⟨a, b⟩ | a
  · rw [encB1 a] at h ⊢; simp at h; rw [h]
  · rw [encB2 a b] at h; simp at h; omega
  · rw [encB3 a b] at h; simp at h; omega
  · rw [encB4 a] at h; simp at h; omega

theorem flat_cut : ∀ (rs : List Nat) (A C : List Int), (∀ r ∈ rs, mayB (r : Int) = true) → encs rs = A ++ 47 :: C →
    ∃ ra rc, (∀ r ∈ ra, r ∈ rs) ∧ (∀ r ∈ rc, r ∈ rs) ∧ A = encs ra ∧ C = encs rc := by
  intro rs
  induction rs with
  | nil => intro A C _ h; simp [encs] at h
  | cons r rs ih =>
    intro A C hm h
    have h' : encB (r : Int) ++ encs rs = A ++ 47 :: C := h
    rcases List.append_eq_append_iff.1 h' with ⟨X, hA, hX⟩ | ⟨X, hE, hX⟩
    · obtain ⟨ra, rc, h1, h2, h3, h4⟩ := ih X C (fun x hx => hm x (by simp [hx])) hX
      refine ⟨r :: ra, rc, ?_, fun x hx => by simp [h2 x hx], ?_, h4⟩
      · intro x hx
        rcases List.mem_cons.1 hx with rfl | hx
        · simp
        · simp [h1 x hx]
      · rw [hA, h3]; rfl
    · cases X with
      | nil =>
        rw [List.append_nil] at hE
        rw [List.nil_append] at hX
        obtain ⟨ra, rc, h1, h2, h3, h4⟩ := ih [] C (fun x hx => hm x (by simp [hx])) hX.symm
        refine ⟨r :: ra, rc, ?_, fun x hx => by simp [h2 x hx], ?_, h4⟩
        · intro x hx
          rcases List.mem_cons.1 hx with rfl | hx
          · simp
          · simp [h1 x hx]
        · have : encs (r :: ra) = encB (r : Int) ++ encs ra := rfl
          rw [this, ← h3, List.append_nil, hE]
      | cons x X =>
        simp only [List.cons_append, List.cons.injEq] at hX
        obtain ⟨hx, hC⟩ := hX
        subst hx
        have hs := enc_slash (hm r (by simp)) (by rw [hE]; simp)
        rw [hs] at hE
        have hl := congrArg List.length hE
        simp only [List.length_append, List.length_cons, List.length_nil] at hl
        have hA0 : A = [] := List.length_eq_zero_iff.1 (by omega)
        have hX0 : X = [] := List.length_eq_zero_iff.1 (by omega)
        subst hA0 hX0
        refine ⟨[], rs, fun x hx => absurd hx (by simp), fun x hx => by simp [hx], rfl, ?_⟩
        rw [hC]; rfl

theorem TextL.cut {p : Nat → Bool} {a b : List UInt8} (h : TextL p (a ++ 47 :: b)) : TextL p a ∧ TextL p b := by
  obtain ⟨rs, h1, h2⟩ := h
  rw [num_append] at h1
  obtain ⟨ra, rc, g1, g2, g3, g4⟩ := flat_cut rs (num a) (num b) (fun r hr => (h2 r hr).1) h1.symm
  exact ⟨⟨ra, g3, fun r hr => h2 r (g1 r hr)⟩, ⟨rc, g4, fun r hr => h2 r (g2 r hr)⟩⟩

/-- Parts put together, with a slash between each two. -/
def joinB : List (List UInt8) → List UInt8
  | [] => []
  | [p] => p
  | p :: q :: r => p ++ 47 :: joinB (q :: r)
theorem joinB_cons {p : List UInt8} {r : List (List UInt8)} (h : r ≠ []) : joinB (p :: r) = p ++ 47 :: joinB r := by
  cases r with
  | nil => exact absurd rfl h
  | cons q r => rfl
theorem joinB_app {a b : List (List UInt8)} (ha : a ≠ []) (hb : b ≠ []) : joinB (a ++ b) = joinB a ++ 47 :: joinB b := by
  induction a with
  | nil => exact absurd rfl ha
  | cons p a ih =>
    by_cases h : a = []
    · subst h
      rw [List.singleton_append, joinB_cons hb]; rfl
    · rw [List.cons_append, joinB_cons (by simp [h]), ih h, joinB_cons h]
      simp
theorem joinB_snoc (a : List (List UInt8)) (p : List UInt8) : joinB (a ++ [p]) = if a = [] then p else joinB a ++ [47] ++ p := by
  split
  · rename_i h; subst h; rfl
  · rename_i h
    rw [joinB_app h (by simp)]
    simp [joinB]
theorem join_pieces (l : List UInt8) : joinB (pieces l) = l := by
  induction l with
  | nil => rfl
  | cons c l ih =>
    unfold pieces
    split
    · rename_i h
      subst h
      rw [joinB_cons (pieces_ne l), ih]; rfl
    · split
      · rename_i p ps hp
        rw [hp] at ih
        by_cases h : ps = []
        · subst h
          rw [show joinB [c :: p] = c :: p from rfl, ← ih]; rfl
        · rw [joinB_cons h] at ih ⊢
          rw [← ih]; rfl
      · rename_i hp
        exact absurd hp (pieces_ne l)
theorem pieces_no (l : List UInt8) : ∀ p ∈ pieces l, (47 : UInt8) ∉ p := by
  induction l with
  | nil => intro p hp; simp [pieces] at hp; subst hp; simp
  | cons c l ih =>
    intro p hp
    unfold pieces at hp
    split at hp
    · rcases List.mem_cons.1 hp with rfl | hp
      · simp
      · exact ih p hp
    · rename_i hc
      split at hp
      · rename_i q qs hq
        rcases List.mem_cons.1 hp with rfl | hp
        · intro h
          rcases List.mem_cons.1 h with h | h
          · exact hc h.symm
          · exact ih q (by rw [hq]; simp) h
        · exact ih p (by rw [hq]; simp [hp])
      · rename_i hq
        exact absurd hq (pieces_ne l)
theorem pieces_join : ∀ (q : List (List UInt8)), q ≠ [] → (∀ p ∈ q, (47 : UInt8) ∉ p) → pieces (joinB q) = q := by
  intro q
  induction q with
  | nil => intro h; exact absurd rfl h
  | cons p q ih =>
    intro _ h
    by_cases hq : q = []
    · subst hq
      exact pieces_lone (h p (by simp))
    · rw [joinB_cons hq, pieces_cut (h p (by simp)), ih hq (fun x hx => h x (by simp [hx]))]

theorem pieces_count (l : List UInt8) : (pieces l).length ≤ l.length + 1 := by
  induction l with
  | nil => simp [pieces]
  | cons c l ih =>
    unfold pieces
    split
    · simp; omega
    · split
      · rename_i p ps hp
        rw [hp] at ih
        simp at ih ⊢; omega
      · simp
/-- A path, by its bytes. -/
def PathL (l : List UInt8) : Prop := 1 ≤ l.length ∧ l.length ≤ 64 ∧ TextL shownB l ∧ ∀ p ∈ pieces l, pieceB p = true
theorem pathB_iff (s : ByteArray) : pathB s = true ↔ PathL (L s) := by
  unfold pathB PathL
  simp only [Bool.and_eq_true, decide_eq_true_eq, plainB_iff, List.all_eq_true, L_length, and_assoc]

theorem PathL.head {l : List UInt8} (h : PathL l) {k : Nat} (h1 : 0 < k) : PathL (joinB ((pieces l).take k)) ∧ (joinB ((pieces l).take k) = l ∨ joinB ((pieces l).take k) ++ [47] <+: l) := by
  have hne : (pieces l).take k ≠ [] := by
    intro e
    have := congrArg List.length e
    rw [List.length_take] at this
    simp at this
    rcases this with h | h
    · omega
    · exact pieces_ne l h
  have hno : ∀ p ∈ (pieces l).take k, (47 : UInt8) ∉ p := fun p hp => pieces_no l p (List.mem_of_mem_take hp)
  have hpj := pieces_join _ hne hno
  have hpb : ∀ p ∈ pieces (joinB ((pieces l).take k)), pieceB p = true := by
    rw [hpj]
    exact fun p hp => h.2.2.2 p (List.mem_of_mem_take hp)
  have hlen1 : 1 ≤ (joinB ((pieces l).take k)).length := by
    rcases Nat.eq_zero_or_pos (joinB ((pieces l).take k)).length with e | e
    · have e0 : joinB ((pieces l).take k) = [] := List.length_eq_zero_iff.1 e
      have := hpb [] (by rw [e0]; simp [pieces])
      simp [pieceB] at this
    · exact e
  rcases Nat.lt_or_ge k (pieces l).length with hlt | hge
  · have hd : (pieces l).drop k ≠ [] := by
      intro e
      have := congrArg List.length e
      rw [List.length_drop] at this
      simp at this
      omega
    have hsp : l = joinB ((pieces l).take k) ++ 47 :: joinB ((pieces l).drop k) := by
      rw [← joinB_app hne hd, List.take_append_drop, join_pieces]
    have ht := h.2.2.1
    rw [hsp] at ht
    have hlen := congrArg List.length hsp
    rw [List.length_append] at hlen
    have := h.2.1
    refine ⟨⟨hlen1, by omega, ht.cut.1, hpb⟩, .inr ⟨joinB ((pieces l).drop k), ?_⟩⟩
    conv => rhs; rw [hsp]
    simp
  · have e : (pieces l).take k = pieces l := List.take_of_length_le hge
    rw [e, join_pieces]
    exact ⟨h, .inl rfl⟩
theorem PathL.part {l : List UInt8} (h : PathL l) : ∀ p ∈ pieces l, PathL p := by
  intro p hp
  obtain ⟨k, hk, rfl⟩ := List.getElem_of_mem hp
  obtain ⟨hh, _⟩ := h.head (k := k + 1) (by omega)
  have hb := h.2.2.2 _ hp
  have hno := pieces_no l _ hp
  have hsn : (pieces l).take (k + 1) = (pieces l).take k ++ [(pieces l)[k]] := List.take_succ_eq_append_getElem hk
  rw [hsn, joinB_snoc] at hh
  have hpc : ∀ x ∈ pieces (pieces l)[k], pieceB x = true := by
    rw [pieces_lone hno]
    intro x hx
    rw [List.mem_singleton] at hx
    rw [hx]; exact hb
  have hl1 : 1 ≤ ((pieces l)[k]).length := by
    rcases Nat.eq_zero_or_pos ((pieces l)[k]).length with e | e
    · rw [List.length_eq_zero_iff.1 e] at hb
      simp [pieceB] at hb
    · exact e
  split at hh
  · exact hh
  · refine ⟨hl1, ?_, ?_, hpc⟩
    · have := hh.2.1
      rw [List.length_append] at this
      omega
    · have := hh.2.2.1
      rw [List.append_assoc] at this
      exact this.cut.2
end Go.Proofs.YtmlkhloonmgkpaaDoor
