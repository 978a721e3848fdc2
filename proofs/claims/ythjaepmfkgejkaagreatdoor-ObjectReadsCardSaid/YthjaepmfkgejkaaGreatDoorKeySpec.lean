/-
  Ids and keys in their order, as plain functions. No conditions; no program.
-/
import Derived.Lib.Bytealg
namespace Go.Proofs.YthjaepmfkgejkaaGreatDoor
abbrev KeyD := Int × List UInt8 × Int
def q7 (a b : Int) : Int := if a < b then -1 else if b < a then 1 else 0
def jJ (a b : List UInt8) : Int := Lib.compareBytes a b
def q9 (a b : KeyD) : Int := if q7 a.1 b.1 ≠ 0 then q7 a.1 b.1 else if jJ a.2.1 b.2.1 ≠ 0 then jJ a.2.1 b.2.1 else q7 a.2.2 b.2.2
theorem JW {a b : Int} : q7 a b = 0 ↔ a = b := by unfold q7; split <;> (try split) <;> omega
theorem cmpI_neg {a b : Int} : q7 a b < 0 ↔ a < b := by unfold q7; split <;> (try split) <;> omega
theorem Zt : jJ [] [] = 0 := by unfold jJ; unfold Lib.compareBytes; rfl
theorem Jg (b : UInt8) (bs : List UInt8) : jJ [] (b :: bs) = -1 := by unfold jJ; unfold Lib.compareBytes; rfl
theorem Kv (a : UInt8) (as : List UInt8) : jJ (a :: as) [] = 1 := by unfold jJ; unfold Lib.compareBytes; rfl
theorem KH (a b : UInt8) (as bs : List UInt8) : jJ (a :: as) (b :: bs) = if a < b then -1 else if b < a then 1 else jJ as bs := by
  unfold jJ
  rw [Lib.compareBytes]
theorem JA (a b : UInt8) : a < b ∨ b < a ∨ a = b := by
  rcases (by omega : a.toNat < b.toNat ∨ b.toNat < a.toNat ∨ a.toNat = b.toNat) with h | h | h
  · exact .inl (UInt8.lt_iff_toNat_lt.2 h)
  · exact .inr (.inl (UInt8.lt_iff_toNat_lt.2 h))
  · exact .inr (.inr (UInt8.toNat_inj.1 h))
theorem KC (a : UInt8) : ¬ a < a := by rw [UInt8.lt_iff_toNat_lt]; omega
theorem JB {a b : UInt8} (h : a < b) : ¬ b < a := by rw [UInt8.lt_iff_toNat_lt] at *; omega
theorem JX : ∀ a, jJ a a = 0
  | [] => Zt
  | a :: as => by rw [KH, if_neg (KC a), if_neg (KC a)]; exact JX as
theorem Kj : ∀ {a b : List UInt8}, jJ a b = 0 ↔ a = b
  | [], [] => by simp [Zt]
  | [], _ :: _ => by simp [Jg]
  | _ :: _, [] => by simp [Kv]
  | a :: as, b :: bs => by
    rw [KH]
    rcases JA a b with h | h | h
    ·
     rw [if_pos h]
     refine ⟨fun e => by omega, fun e => ?_⟩
     have : a = b := by injection e
     subst this
     exact absurd h (KC a)
    ·
     rw [if_neg (JB h), if_pos h]
     refine ⟨fun e => by omega, fun e => ?_⟩
     have : a = b := by injection e
     subst this
     exact absurd h (KC a)
    · subst h
      rw [if_neg (KC a), if_neg (KC a), Kj (a := as) (b := bs)]
      simp
theorem vY : ∀ (a b : List UInt8), jJ b a = - jJ a b
  | [], [] => by rw [Zt]; rfl
  | [], _ :: _ => by rw [Jg, Kv]; rfl
  | _ :: _, [] => by rw [Jg, Kv]
  | a :: as, b :: bs => by
    rw [KH, KH]
    rcases JA a b with h | h | h
    · rw [if_neg (JB h), if_pos h, if_pos h]; rfl
    · rw [if_pos h, if_neg (JB h), if_pos h]
    · subst h
      simp only [KC, if_false]
      exact vY as bs
theorem KD : ∀ {a b c : List UInt8}, jJ a b < 0 → jJ b c < 0 → jJ a c < 0
  | [], [], _, h, _ => by rw [Zt] at h; omega
  | _ :: _, [], _, h, _ => by rw [Kv] at h; omega
  | _, _ :: _, [], _, h => by rw [Kv] at h; omega
  | [], _ :: _, c :: cs, _, _ => by rw [Jg]; omega
  | a :: as, b :: bs, c :: cs, h1, h2 => by
    rw [KH] at h1 h2 ⊢
    rcases JA a b with h | h | h
    ·
     rcases JA b c with g | g | g
     · rw [if_pos (by rw [UInt8.lt_iff_toNat_lt] at *; omega)]; omega
     · rw [if_neg (JB g), if_pos g] at h2; omega
     · subst g
       rw [if_pos h]; omega
    · rw [if_neg (JB h), if_pos h] at h1; omega
    ·
     subst h
     rw [if_neg (KC a), if_neg (KC a)] at h1
     rcases JA a c with g | g | g
     · rw [if_pos g]; omega
     · rw [if_neg (JB g), if_pos g] at h2; omega
     · subst g
       rw [if_neg (KC a), if_neg (KC a)] at h2 ⊢
       exact KD h1 h2
theorem cmpK_zero {a b : KeyD} : q9 a b = 0 ↔ a = b := by
  unfold q9
  by_cases h1 : q7 a.1 b.1 = 0
  ·
   rw [if_neg (by simpa using h1)]
   by_cases h2 : jJ a.2.1 b.2.1 = 0
   ·
    rw [if_neg (by simpa using h2), JW]
    constructor
    · intro h
      exact Prod.ext (JW.1 h1) (Prod.ext (Kj.1 h2) h)
    · rintro rfl; rfl
   ·
    rw [if_pos h2]
    refine ⟨fun h => absurd h h2, ?_⟩
    rintro rfl
    exact absurd (JX _) h2
  ·
   rw [if_pos h1]
   refine ⟨fun h => absurd h h1, ?_⟩
   rintro rfl
   exact absurd (JW.2 rfl) h1
theorem vZ (a : KeyD) : q9 a a = 0 := cmpK_zero.2 rfl
theorem cmpK_neg {a b : KeyD} : q9 a b < 0 ↔ a.1 < b.1 ∨ (a.1 = b.1 ∧ (jJ a.2.1 b.2.1 < 0 ∨ (a.2.1 = b.2.1 ∧ a.2.2 < b.2.2))) := by
  unfold q9
  by_cases h1 : q7 a.1 b.1 = 0
  ·
   have e1 := JW.1 h1
   rw [if_neg (by simpa using h1)]
   by_cases h2 : jJ a.2.1 b.2.1 = 0
   ·
    have e2 := Kj.1 h2
    rw [if_neg (by simpa using h2), cmpI_neg]
    constructor
    · intro h; exact .inr ⟨e1, .inr ⟨e2, h⟩⟩
    ·
     rintro (h | ⟨_, h | ⟨_, h⟩⟩)
     · omega
     · omega
     · exact h
   ·
    rw [if_pos h2]
    constructor
    · intro h; exact .inr ⟨e1, .inl h⟩
    ·
     rintro (h | ⟨_, h | ⟨h, _⟩⟩)
     · omega
     · exact h
     · exact absurd (Kj.2 h) h2
  ·
   rw [if_pos h1, cmpI_neg]
   constructor
   · exact .inl
   · rintro (h | ⟨h, _⟩)
     · exact h
     · exact absurd (JW.2 h) h1
theorem cmpK_trans {a b c : KeyD} (h1 : q9 a b < 0) (h2 : q9 b c < 0) : q9 a c < 0 := by
  rw [cmpK_neg] at *
  rcases h1 with h1 | ⟨e1, h1⟩
  · rcases h2 with h2 | ⟨e2, h2⟩
    · exact .inl (by omega)
    · exact .inl (by omega)
  ·
   rcases h2 with h2 | ⟨e2, h2⟩
   · exact .inl (by omega)
   ·
    refine .inr ⟨by omega, ?_⟩
    rcases h1 with h1 | ⟨g1, h1⟩
    · rcases h2 with h2 | ⟨g2, h2⟩
      · exact .inl (KD h1 h2)
      · rw [g2] at h1; exact .inl h1
    · rcases h2 with h2 | ⟨g2, h2⟩
      · rw [← g1] at h2; exact .inl h2
      · exact .inr ⟨g1.trans g2, by omega⟩
def Rising (l : List KeyD) : Prop := l.Pairwise fun a b => q9 a b < 0
theorem Rising.ext : ∀ {a b : List KeyD}, Rising a → Rising b → (∀ k, k ∈ a ↔ k ∈ b) → a = b
  | [], [], _, _, _ => rfl
  | [], y :: b, _, _, h => absurd ((h y).2 (by simp)) (by simp)
  | x :: a, [], _, _, h => absurd ((h x).1 (by simp)) (by simp)
  | x :: a, y :: b, ha, hb, h => by
    unfold Rising at ha hb
    rw [List.pairwise_cons] at ha hb
    have hxy : x = y := by
      rcases List.mem_cons.1 ((h x).1 (by simp)) with e | e
      · exact e
      ·
       have h1 := hb.1 x e
       rcases List.mem_cons.1 ((h y).2 (by simp)) with e' | e'
       · exact e'.symm
       ·
        have h2 := ha.1 y e'
        have := cmpK_trans h1 h2
        rw [vZ] at this
        omega
    subst hxy
    congr 1
    refine Rising.ext ha.2 hb.2 fun k => ?_
    constructor
    ·
     intro hk
     rcases List.mem_cons.1 ((h k).1 (by simp [hk])) with e | e
     ·
      subst e
      have := ha.1 k hk
      rw [vZ] at this
      omega
     · exact e
    ·
     intro hk
     rcases List.mem_cons.1 ((h k).2 (by simp [hk])) with e | e
     ·
      subst e
      have := hb.1 k hk
      rw [vZ] at this
      omega
     · exact e
end Go.Proofs.YthjaepmfkgejkaaGreatDoor
