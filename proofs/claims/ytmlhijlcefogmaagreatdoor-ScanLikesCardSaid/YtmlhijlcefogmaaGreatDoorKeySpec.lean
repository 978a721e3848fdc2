/-
  Ids and keys in their order, as plain functions. No conditions; no program.
-/
import Derived.Lib.Bytealg
namespace Go.Proofs.YtmlhijlcefogmaaGreatDoor

/-- A key: a time, an id's bytes, an index. -/
abbrev KeyD := Int × List UInt8 × Int
def cmpI (a b : Int) : Int := if a < b then -1 else if b < a then 1 else 0
def cmpB (a b : List UInt8) : Int := Lib.compareBytes a b
def cmpK (a b : KeyD) : Int := if cmpI a.1 b.1 ≠ 0 then cmpI a.1 b.1 else if cmpB a.2.1 b.2.1 ≠ 0 then cmpB a.2.1 b.2.1 else cmpI a.2.2 b.2.2

theorem cmpI_zero {a b : Int} : cmpI a b = 0 ↔ a = b := by unfold cmpI; split <;> (try split) <;> omega
theorem cmpI_neg {a b : Int} : cmpI a b < 0 ↔ a < b := by unfold cmpI; split <;> (try split) <;> omega
theorem cmpB_nil : cmpB [] [] = 0 := by unfold cmpB; unfold Lib.compareBytes; rfl
theorem cmpB_nil_cons (b : UInt8) (bs : List UInt8) : cmpB [] (b :: bs) = -1 := by unfold cmpB; unfold Lib.compareBytes; rfl
theorem cmpB_cons_nil (a : UInt8) (as : List UInt8) : cmpB (a :: as) [] = 1 := by unfold cmpB; unfold Lib.compareBytes; rfl
theorem cmpB_cons (a b : UInt8) (as bs : List UInt8) : cmpB (a :: as) (b :: bs) = if a < b then -1 else if b < a then 1 else cmpB as bs := by
  unfold cmpB
  rw [Lib.compareBytes]
theorem u8_cases (a b : UInt8) : a < b ∨ b < a ∨ a = b := by
  rcases (by omega : a.toNat < b.toNat ∨ b.toNat < a.toNat ∨ a.toNat = b.toNat) with h | h | h
  · exact .inl (UInt8.lt_iff_toNat_lt.2 h)
  · exact .inr (.inl (UInt8.lt_iff_toNat_lt.2 h))
  · exact .inr (.inr (UInt8.toNat_inj.1 h))
theorem u8_irr (a : UInt8) : ¬ a < a := by rw [UInt8.lt_iff_toNat_lt]; omega
theorem u8_asymm {a b : UInt8} (h : a < b) : ¬ b < a := by rw [UInt8.lt_iff_toNat_lt] at *; omega

theorem cmpB_self : ∀ a, cmpB a a = 0
  | [] => cmpB_nil
  | a :: as => by rw [cmpB_cons, if_neg (u8_irr a), if_neg (u8_irr a)]; exact cmpB_self as
theorem cmpB_zero : ∀ {a b : List UInt8}, cmpB a b = 0 ↔ a = b
  | [], [] => by simp [cmpB_nil]
  | [], _ :: _ => by simp [cmpB_nil_cons]
  | _ :: _, [] => by simp [cmpB_cons_nil]
  | a :: as, b :: bs => by
    rw [cmpB_cons]
    rcases u8_cases a b with h | h | h
    · rw [if_pos h]
      refine ⟨fun e => by omega, fun e => ?_⟩
      have : a = b := by injection e
      subst this
      exact absurd h (u8_irr a)
    · rw [if_neg (u8_asymm h), if_pos h]
      refine ⟨fun e => by omega, fun e => ?_⟩
      have : a = b := by injection e
      subst this
      exact absurd h (u8_irr a)
    · subst h
      rw [if_neg (u8_irr a), if_neg (u8_irr a), cmpB_zero (a := as) (b := bs)]
      simp
theorem cmpB_trans : ∀ {a b c : List UInt8}, cmpB a b < 0 → cmpB b c < 0 → cmpB a c < 0
  | [], [], _, h, _ => by rw [cmpB_nil] at h; omega
  | _ :: _, [], _, h, _ => by rw [cmpB_cons_nil] at h; omega
  | _, _ :: _, [], _, h => by rw [cmpB_cons_nil] at h; omega
  | [], _ :: _, c :: cs, _, _ => by rw [cmpB_nil_cons]; omega
  | a :: as, b :: bs, c :: cs, h1, h2 => by
    rw [cmpB_cons] at h1 h2 ⊢
    rcases u8_cases a b with h | h | h
    · rcases u8_cases b c with g | g | g
      · rw [if_pos (by rw [UInt8.lt_iff_toNat_lt] at *; omega)]; omega
      · rw [if_neg (u8_asymm g), if_pos g] at h2; omega
      · subst g
        rw [if_pos h]; omega
    · rw [if_neg (u8_asymm h), if_pos h] at h1; omega
    · subst h
      rw [if_neg (u8_irr a), if_neg (u8_irr a)] at h1
      rcases u8_cases a c with g | g | g
      · rw [if_pos g]; omega
      · rw [if_neg (u8_asymm g), if_pos g] at h2; omega
      · subst g
        rw [if_neg (u8_irr a), if_neg (u8_irr a)] at h2 ⊢
        exact cmpB_trans h1 h2

theorem cmpK_zero {a b : KeyD} : cmpK a b = 0 ↔ a = b := by
  unfold cmpK
  by_cases h1 : cmpI a.1 b.1 = 0
  · rw [if_neg (by simpa using h1)]
    by_cases h2 : cmpB a.2.1 b.2.1 = 0
    · rw [if_neg (by simpa using h2), cmpI_zero]
      constructor
      · intro h
        exact Prod.ext (cmpI_zero.1 h1) (Prod.ext (cmpB_zero.1 h2) h)
      · rintro rfl; rfl
    · rw [if_pos h2]
      refine ⟨fun h => absurd h h2, ?_⟩
      rintro rfl
      exact absurd (cmpB_self _) h2
  · rw [if_pos h1]
    refine ⟨fun h => absurd h h1, ?_⟩
    rintro rfl
    exact absurd (cmpI_zero.2 rfl) h1
theorem cmpK_self (a : KeyD) : cmpK a a = 0 := cmpK_zero.2 rfl
theorem cmpK_neg {a b : KeyD} : cmpK a b < 0 ↔ a.1 < b.1 ∨ (a.1 = b.1 ∧ (cmpB a.2.1 b.2.1 < 0 ∨ (a.2.1 = b.2.1 ∧ a.2.2 < b.2.2))) := by
  unfold cmpK
  by_cases h1 : cmpI a.1 b.1 = 0
  · have e1 := cmpI_zero.1 h1
    rw [if_neg (by simpa using h1)]
    by_cases h2 : cmpB a.2.1 b.2.1 = 0
    · have e2 := cmpB_zero.1 h2
      rw [if_neg (by simpa using h2), cmpI_neg]
      constructor
      · intro h; exact .inr ⟨e1, .inr ⟨e2, h⟩⟩
      · rintro (h | ⟨_, h | ⟨_, h⟩⟩)
        · omega
        · omega
        · exact h
    · rw [if_pos h2]
      constructor
      · intro h; exact .inr ⟨e1, .inl h⟩
      · rintro (h | ⟨_, h | ⟨h, _⟩⟩)
        · omega
        · exact h
        · exact absurd (cmpB_zero.2 h) h2
  · rw [if_pos h1, cmpI_neg]
    constructor
    · exact .inl
    · rintro (h | ⟨h, _⟩)
      · exact h
      · exact absurd (cmpI_zero.2 h) h1
theorem cmpK_trans {a b c : KeyD} (h1 : cmpK a b < 0) (h2 : cmpK b c < 0) : cmpK a c < 0 := by
  rw [cmpK_neg] at *
  rcases h1 with h1 | ⟨e1, h1⟩
  · rcases h2 with h2 | ⟨e2, h2⟩
    · exact .inl (by omega)
    · exact .inl (by omega)
  · rcases h2 with h2 | ⟨e2, h2⟩
    · exact .inl (by omega)
    · refine .inr ⟨by omega, ?_⟩
      rcases h1 with h1 | ⟨g1, h1⟩
      · rcases h2 with h2 | ⟨g2, h2⟩
        · exact .inl (cmpB_trans h1 h2)
        · rw [g2] at h1; exact .inl h1
      · rcases h2 with h2 | ⟨g2, h2⟩
        · rw [← g1] at h2; exact .inl h2
        · exact .inr ⟨g1.trans g2, by omega⟩
/-- Keys that rise strictly. -/
def Rising (l : List KeyD) : Prop := l.Pairwise fun a b => cmpK a b < 0
theorem Rising.ext : ∀ {a b : List KeyD}, Rising a → Rising b → (∀ k, k ∈ a ↔ k ∈ b) → a = b
  | [], [], _, _, _ => rfl
  | [], y :: b, _, _, h => absurd ((h y).2 (by simp)) (by simp)
  | x :: a, [], _, _, h => absurd ((h x).1 (by simp)) (by simp)
  | x :: a, y :: b, ha, hb, h => by
    unfold Rising at ha hb
    rw [List.pairwise_cons] at ha hb
    have hxy : x = y := by
      rcases List.mem_cons.1 ((h x).1 (by simp)) with e | e
      · exact e
      · have h1 := hb.1 x e
        rcases List.mem_cons.1 ((h y).2 (by simp)) with e' | e'
        · exact e'.symm
        · have h2 := ha.1 y e'
          have := cmpK_trans h1 h2
          rw [cmpK_self] at this
          omega
    subst hxy
    congr 1
    refine Rising.ext ha.2 hb.2 fun k => ?_
    constructor
    · intro hk
      rcases List.mem_cons.1 ((h k).1 (by simp [hk])) with e | e
      · subst e
        have := ha.1 k hk
        rw [cmpK_self] at this
        omega
      · exact e
    · intro hk
      rcases List.mem_cons.1 ((h k).2 (by simp [hk])) with e | e
      · subst e
        have := hb.1 k hk
        rw [cmpK_self] at this
        omega
      · exact e
end Go.Proofs.YtmlhijlcefogmaaGreatDoor
