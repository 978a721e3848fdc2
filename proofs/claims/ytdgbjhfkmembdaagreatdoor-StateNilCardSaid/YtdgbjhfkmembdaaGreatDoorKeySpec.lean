/-
  Ids and keys in their order, as plain functions. No conditions; no program.
-/
import Derived.Lib.Bytealg
namespace Go.Proofs.YtdgbjhfkmembdaaGreatDoor

/-- A key: a time, an id's bytes, an index. -/
abbrev KeyD := Int × List UInt8 × Int
def cmpI (a b : Int) : Int := if a < b then -1 else if b < a then 1 else 0
def cmpB (a b : List UInt8) : Int := Lib.compareBytes a b
def cmpK (a b : KeyD) : Int := if cmpI a.1 b.1 ≠ 0 then cmpI a.1 b.1 else if cmpB a.2.1 b.2.1 ≠ 0 then cmpB a.2.1 b.2.1 else cmpI a.2.2 b.2.2

theorem cmpI_zero {a b : Int} : cmpI a b = 0 ↔ a = b := by unfold cmpI; split <;> (try split) <;> omega
theorem cmpI_neg {a b : Int} : cmpI a b < 0 ↔ a < b := by unfold cmpI; split <;> (try split) <;> omega
theorem cmpI_pos {a b : Int} : 0 < cmpI a b ↔ b < a := by unfold cmpI; split <;> (try split) <;> omega
theorem cmpI_cases (a b : Int) : cmpI a b = -1 ∨ cmpI a b = 0 ∨ cmpI a b = 1 := by unfold cmpI; split <;> (try split) <;> simp

theorem cmpB_nil : cmpB [] [] = 0 := by unfold cmpB; unfold Lib.compareBytes; rfl
theorem cmpB_nil_cons (b : UInt8) (bs : List UInt8) : cmpB [] (b :: bs) = -1 := by unfold cmpB; unfold Lib.compareBytes; rfl
theorem cmpB_cons_nil (a : UInt8) (as : List UInt8) : cmpB (a :: as) [] = 1 := by unfold cmpB; unfold Lib.compareBytes; rfl
theorem cmpB_cons (a b : UInt8) (as bs : List UInt8) : cmpB (a :: as) (b :: bs) = if a < b then -1 else if b < a then 1 else cmpB as bs := by
  unfold cmpB
  rw [Lib.compareBytes]
theorem u8_cases (a b : UInt8) : a < b ∨ b < a ∨ a = b := by
  rcases (by omega : a.toNat < b.toNat ∨ b.toNat < a.toNat ∨ a.toNat = b.toNat) with h | h | h
  · exact .inl (UInt8.lt_iff_toNat_lt.2 h)
  · exact .inr (.inl (UInt8.lt_iff_toNat_lt.2 h))
  · exact .inr (.inr (UInt8.toNat_inj.1 h))
theorem u8_irr (a : UInt8) : ¬ a < a := by rw [UInt8.lt_iff_toNat_lt]; omega
theorem u8_asymm {a b : UInt8} (h : a < b) : ¬ b < a := by rw [UInt8.lt_iff_toNat_lt] at *; omega

theorem cmpB_cases : ∀ (a b : List UInt8), cmpB a b = -1 ∨ cmpB a b = 0 ∨ cmpB a b = 1
  | [], [] => .inr (.inl cmpB_nil)
  | [], _ :: _ => .inl (cmpB_nil_cons _ _)
  | _ :: _, [] => .inr (.inr (cmpB_cons_nil _ _))
  | a :: as, b :: bs => by
    rw [cmpB_cons]
    split
    · simp
    · split
      · simp
      · exact cmpB_cases as bs
theorem cmpB_self : ∀ a, cmpB a a = 0
  | [] => cmpB_nil
  | a :: as => by rw [cmpB_cons, if_neg (u8_irr a), if_neg (u8_irr a)]; exact cmpB_self as
theorem cmpB_zero : ∀ {a b : List UInt8}, cmpB a b = 0 ↔ a = b
  | [], [] => by simp [cmpB_nil]
  | [], _ :: _ => by simp [cmpB_nil_cons]
  | _ :: _, [] => by simp [cmpB_cons_nil]
  | a :: as, b :: bs => by
    rw [cmpB_cons]
    rcases u8_cases a b with h | h | h
    · rw [if_pos h]
      refine ⟨fun e => by omega, fun e => ?_⟩
      have : a = b := by injection e
      subst this
      exact absurd h (u8_irr a)
    · rw [if_neg (u8_asymm h), if_pos h]
      refine ⟨fun e => by omega, fun e => ?_⟩
      have : a = b := by injection e
      subst this
      exact absurd h (u8_irr a)
    · subst h
      rw [if_neg (u8_irr a), if_neg (u8_irr a), cmpB_zero (a := as) (b := bs)]
      simp
theorem cmpB_swap : ∀ (a b : List UInt8), cmpB b a = - cmpB a b
  | [], [] => by rw [cmpB_nil]; rfl
  | [], _ :: _ => by rw [cmpB_nil_cons, cmpB_cons_nil]; rfl
  | _ :: _, [] => by rw [cmpB_nil_cons, cmpB_cons_nil]
  | a :: as, b :: bs => by
    rw [cmpB_cons, cmpB_cons]
    rcases u8_cases a b with h | h | h
    · rw [if_neg (u8_asymm h), if_pos h, if_pos h]; rfl
    · rw [if_pos h, if_neg (u8_asymm h), if_pos h]
    · subst h
      simp only [u8_irr, if_false]
      exact cmpB_swap as bs
theorem cmpB_trans : ∀ {a b c : List UInt8}, cmpB a b < 0 → cmpB b c < 0 → cmpB a c < 0
  | [], [], _, h, _ => by rw [cmpB_nil] at h; omega
  | _ :: _, [], _, h, _ => by rw [cmpB_cons_nil] at h; omega
  | _, _ :: _, [], _, h => by rw [cmpB_cons_nil] at h; omega
  | [], _ :: _, c :: cs, _, _ => by rw [cmpB_nil_cons]; omega
  | a :: as, b :: bs, c :: cs, h1, h2 => by
    rw [cmpB_cons] at h1 h2 ⊢
    rcases u8_cases a b with h | h | h
    · rcases u8_cases b c with g | g | g
      · rw [if_pos (by rw [UInt8.lt_iff_toNat_lt] at *; omega)]; omega
      · rw [if_neg (u8_asymm g), if_pos g] at h2; omega
      · subst g
        rw [if_pos h]; omega
    · rw [if_neg (u8_asymm h), if_pos h] at h1; omega
    · subst h
      rw [if_neg (u8_irr a), if_neg (u8_irr a)] at h1
      rcases u8_cases a c with g | g | g
      · rw [if_pos g]; omega
      · rw [if_neg (u8_asymm g), if_pos g] at h2; omega
      · subst g
        rw [if_neg (u8_irr a), if_neg (u8_irr a)] at h2 ⊢
        exact cmpB_trans h1 h2

theorem cmpK_zero {a b : KeyD} : cmpK a b = 0 ↔ a = b := by
  unfold cmpK
  by_cases h1 : cmpI a.1 b.1 = 0
  · rw [if_neg (by simpa using h1)]
    by_cases h2 : cmpB a.2.1 b.2.1 = 0
    · rw [if_neg (by simpa using h2), cmpI_zero]
      constructor
      · intro h
        exact Prod.ext (cmpI_zero.1 h1) (Prod.ext (cmpB_zero.1 h2) h)
      · rintro rfl; rfl
    · rw [if_pos h2]
      refine ⟨fun h => absurd h h2, ?_⟩
      rintro rfl
      exact absurd (cmpB_self _) h2
  · rw [if_pos h1]
    refine ⟨fun h => absurd h h1, ?_⟩
    rintro rfl
    exact absurd (cmpI_zero.2 rfl) h1
theorem cmpK_self (a : KeyD) : cmpK a a = 0 := cmpK_zero.2 rfl
theorem cmpI_swap (a b : Int) : cmpI b a = - cmpI a b := by unfold cmpI; split <;> split <;> (try split) <;> omega
theorem cmpK_swap (a b : KeyD) : cmpK b a = - cmpK a b := by
  unfold cmpK
  rw [cmpI_swap a.1 b.1, cmpB_swap a.2.1 b.2.1, cmpI_swap a.2.2 b.2.2]
  generalize cmpI a.1 b.1 = x
  generalize cmpB a.2.1 b.2.1 = y
  by_cases h1 : x = 0 <;> by_cases h2 : y = 0 <;> simp [h1, h2]
theorem cmpK_neg {a b : KeyD} : cmpK a b < 0 ↔ a.1 < b.1 ∨ (a.1 = b.1 ∧ (cmpB a.2.1 b.2.1 < 0 ∨ (a.2.1 = b.2.1 ∧ a.2.2 < b.2.2))) := by
  unfold cmpK
  by_cases h1 : cmpI a.1 b.1 = 0
  · have e1 := cmpI_zero.1 h1
    rw [if_neg (by simpa using h1)]
    by_cases h2 : cmpB a.2.1 b.2.1 = 0
    · have e2 := cmpB_zero.1 h2
      rw [if_neg (by simpa using h2), cmpI_neg]
      constructor
      · intro h; exact .inr ⟨e1, .inr ⟨e2, h⟩⟩
      · rintro (h | ⟨_, h | ⟨_, h⟩⟩)
        · omega
        · omega
        · exact h
    · rw [if_pos h2]
      constructor
      · intro h; exact .inr ⟨e1, .inl h⟩
      · rintro (h | ⟨_, h | ⟨h, _⟩⟩)
        · omega
        · exact h
        · exact absurd (cmpB_zero.2 h) h2
  · rw [if_pos h1, cmpI_neg]
    constructor
    · exact .inl
    · rintro (h | ⟨h, _⟩)
      · exact h
      · exact absurd (cmpI_zero.2 h) h1
theorem cmpK_trans {a b c : KeyD} (h1 : cmpK a b < 0) (h2 : cmpK b c < 0) : cmpK a c < 0 := by
  rw [cmpK_neg] at *
  rcases h1 with h1 | ⟨e1, h1⟩
  · rcases h2 with h2 | ⟨e2, h2⟩
    · exact .inl (by omega)
    · exact .inl (by omega)
  · rcases h2 with h2 | ⟨e2, h2⟩
    · exact .inl (by omega)
    · refine .inr ⟨by omega, ?_⟩
      rcases h1 with h1 | ⟨g1, h1⟩
      · rcases h2 with h2 | ⟨g2, h2⟩
        · exact .inl (cmpB_trans h1 h2)
        · rw [g2] at h1; exact .inl h1
      · rcases h2 with h2 | ⟨g2, h2⟩
        · rw [← g1] at h2; exact .inl h2
        · exact .inr ⟨g1.trans g2, by omega⟩
theorem cmpK_pos {a b : KeyD} : 0 < cmpK a b ↔ cmpK b a < 0 := by rw [cmpK_swap a b]; omega
theorem cmpK_cases (a b : KeyD) : cmpK a b < 0 ∨ a = b ∨ cmpK b a < 0 := by
  rcases (by omega : cmpK a b < 0 ∨ cmpK a b = 0 ∨ 0 < cmpK a b) with h | h | h
  · exact .inl h
  · exact .inr (.inl (cmpK_zero.1 h))
  · exact .inr (.inr (cmpK_pos.1 h))
theorem cmpK_range (a b : KeyD) : cmpK a b = -1 ∨ cmpK a b = 0 ∨ cmpK a b = 1 := by
  unfold cmpK
  split
  · exact cmpI_cases _ _
  · split
    · exact cmpB_cases _ _
    · exact cmpI_cases _ _

/-- Keys that rise strictly. -/
def Rising (l : List KeyD) : Prop := l.Pairwise fun a b => cmpK a b < 0
theorem Rising.ext : ∀ {a b : List KeyD}, Rising a → Rising b → (∀ k, k ∈ a ↔ k ∈ b) → a = b
  | [], [], _, _, _ => rfl
  | [], y :: b, _, _, h => absurd ((h y).2 (by simp)) (by simp)
  | x :: a, [], _, _, h => absurd ((h x).1 (by simp)) (by simp)
  | x :: a, y :: b, ha, hb, h => by
    unfold Rising at ha hb
    rw [List.pairwise_cons] at ha hb
    have hxy : x = y := by
      rcases List.mem_cons.1 ((h x).1 (by simp)) with e | e
      · exact e
      · have h1 := hb.1 x e
        rcases List.mem_cons.1 ((h y).2 (by simp)) with e' | e'
        · exact e'.symm
        · have h2 := ha.1 y e'
          have := cmpK_trans h1 h2
          rw [cmpK_self] at this
          omega
    subst hxy
    congr 1
    refine Rising.ext ha.2 hb.2 fun k => ?_
    constructor
    · intro hk
      rcases List.mem_cons.1 ((h k).1 (by simp [hk])) with e | e
      · subst e
        have := ha.1 k hk
        rw [cmpK_self] at this
        omega
      · exact e
    · intro hk
      rcases List.mem_cons.1 ((h k).2 (by simp [hk])) with e | e
      · subst e
        have := hb.1 k hk
        rw [cmpK_self] at this
        omega
      · exact e
/-- A key put where it belongs, unless it stands there. -/
def insK (k : KeyD) : List KeyD → List KeyD
  | [] => [k]
  | x :: l => if cmpK k x < 0 then k :: x :: l else if k = x then x :: l else x :: insK k l
theorem mem_insK {k y : KeyD} : ∀ {l : List KeyD}, y ∈ insK k l ↔ y = k ∨ y ∈ l
  | [] => by simp [insK]
  | x :: l => by
    unfold insK
    split
    · simp
    · split
      · rename_i h
        subst h
        simp
      · simp only [List.mem_cons, mem_insK (l := l)]
        constructor
        · rintro (h | h | h)
          · exact .inr (.inl h)
          · exact .inl h
          · exact .inr (.inr h)
        · rintro (h | h | h)
          · exact .inr (.inl h)
          · exact .inl h
          · exact .inr (.inr h)
theorem Rising.ins {k : KeyD} : ∀ {l : List KeyD}, Rising l → Rising (insK k l)
  | [], _ => by simp [insK, Rising]
  | x :: l, h => by
    unfold Rising at h
    rw [List.pairwise_cons] at h
    unfold insK
    split
    · rename_i hk
      unfold Rising
      rw [List.pairwise_cons]
      refine ⟨fun y hy => ?_, List.pairwise_cons.2 h⟩
      rcases List.mem_cons.1 hy with rfl | hy
      · exact hk
      · exact cmpK_trans hk (h.1 y hy)
    · split
      · exact List.pairwise_cons.2 h
      · rename_i h1 h2
        unfold Rising
        rw [List.pairwise_cons]
        refine ⟨fun y hy => ?_, Rising.ins h.2⟩
        rcases mem_insK.1 hy with rfl | hy
        · rcases cmpK_cases y x with c | c | c
          · exact absurd c h1
          · exact absurd c h2
          · exact c
        · exact h.1 y hy
def sortK (l : List KeyD) : List KeyD := l.foldr insK []
theorem mem_sortK {y : KeyD} : ∀ {l : List KeyD}, y ∈ sortK l ↔ y ∈ l
  | [] => by simp [sortK]
  | x :: l => by
    have : sortK (x :: l) = insK x (sortK l) := rfl
    rw [this, mem_insK, mem_sortK (l := l)]
    simp
theorem sortK_rising : ∀ (l : List KeyD), Rising (sortK l)
  | [] => List.Pairwise.nil
  | _ :: l => (sortK_rising l).ins
end Go.Proofs.YtdgbjhfkmembdaaGreatDoor
