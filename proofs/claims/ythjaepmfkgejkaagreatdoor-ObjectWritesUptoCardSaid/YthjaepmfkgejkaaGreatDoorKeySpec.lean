/-
  Ids and keys in their order, as plain functions. No conditions; no program.
-/
import Derived.Lib.Bytealg
namespace Go.Proofs.YthjaepmfkgejkaaGreatDoor
abbrev KeyD := Int × List UInt8 × Int
def Qm (a b : Int) : Int := if a < b then -1 else if b < a then 1 else 0
def kX (a b : List UInt8) : Int := Lib.compareBytes a b
def Qn (a b : KeyD) : Int := if Qm a.1 b.1 ≠ 0 then Qm a.1 b.1 else if kX a.2.1 b.2.1 ≠ 0 then kX a.2.1 b.2.1 else Qm a.2.2 b.2.2
theorem Zd {a b : Int} : Qm a b = 0 ↔ a = b := by unfold Qm; split <;> (try split) <;> omega
theorem cmpI_neg {a b : Int} : Qm a b < 0 ↔ a < b := by unfold Qm; split <;> (try split) <;> omega
theorem ZO : kX [] [] = 0 := by unfold kX; unfold Lib.compareBytes; rfl
theorem Jl (b : UInt8) (bs : List UInt8) : kX [] (b :: bs) = -1 := by unfold kX; unfold Lib.compareBytes; rfl
theorem Kx (a : UInt8) (as : List UInt8) : kX (a :: as) [] = 1 := by unfold kX; unfold Lib.compareBytes; rfl
theorem KL (a b : UInt8) (as bs : List UInt8) : kX (a :: as) (b :: bs) = if a < b then -1 else if b < a then 1 else kX as bs := by
  unfold kX
  rw [Lib.compareBytes]
theorem JM (a b : UInt8) : a < b ∨ b < a ∨ a = b := by
  rcases (by omega : a.toNat < b.toNat ∨ b.toNat < a.toNat ∨ a.toNat = b.toNat) with h | h | h
  · exact .inl (UInt8.lt_iff_toNat_lt.2 h)
  · exact .inr (.inl (UInt8.lt_iff_toNat_lt.2 h))
  · exact .inr (.inr (UInt8.toNat_inj.1 h))
theorem KI (a : UInt8) : ¬ a < a := by rw [UInt8.lt_iff_toNat_lt]; omega
theorem JN {a b : UInt8} (h : a < b) : ¬ b < a := by rw [UInt8.lt_iff_toNat_lt] at *; omega
theorem Kp : ∀ a, kX a a = 0
  | [] => ZO
  | a :: as => by rw [KL, if_neg (KI a), if_neg (KI a)]; exact Kp as
theorem K6 : ∀ {a b : List UInt8}, kX a b = 0 ↔ a = b
  | [], [] => by simp [ZO]
  | [], _ :: _ => by simp [Jl]
  | _ :: _, [] => by simp [Kx]
  | a :: as, b :: bs => by
    rw [KL]
    rcases JM a b with h | h | h
    ·
     rw [if_pos h]
     refine ⟨fun e => by omega, fun e => ?_⟩
     have : a = b := by injection e
     subst this
     exact absurd h (KI a)
    ·
     rw [if_neg (JN h), if_pos h]
     refine ⟨fun e => by omega, fun e => ?_⟩
     have : a = b := by injection e
     subst this
     exact absurd h (KI a)
    · subst h
      rw [if_neg (KI a), if_neg (KI a), K6 (a := as) (b := bs)]
      simp
theorem Ze : ∀ (a b : List UInt8), kX b a = - kX a b
  | [], [] => by rw [ZO]; rfl
  | [], _ :: _ => by rw [Jl, Kx]; rfl
  | _ :: _, [] => by rw [Jl, Kx]
  | a :: as, b :: bs => by
    rw [KL, KL]
    rcases JM a b with h | h | h
    · rw [if_neg (JN h), if_pos h, if_pos h]; rfl
    · rw [if_pos h, if_neg (JN h), if_pos h]
    · subst h
      simp only [KI, if_false]
      exact Ze as bs
theorem Kf : ∀ {a b c : List UInt8}, kX a b < 0 → kX b c < 0 → kX a c < 0
  | [], [], _, h, _ => by rw [ZO] at h; omega
  | _ :: _, [], _, h, _ => by rw [Kx] at h; omega
  | _, _ :: _, [], _, h => by rw [Kx] at h; omega
  | [], _ :: _, c :: cs, _, _ => by rw [Jl]; omega
  | a :: as, b :: bs, c :: cs, h1, h2 => by
    rw [KL] at h1 h2 ⊢
    rcases JM a b with h | h | h
    ·
     rcases JM b c with g | g | g
     · rw [if_pos (by rw [UInt8.lt_iff_toNat_lt] at *; omega)]; omega
     · rw [if_neg (JN g), if_pos g] at h2; omega
     · subst g
       rw [if_pos h]; omega
    · rw [if_neg (JN h), if_pos h] at h1; omega
    ·
     subst h
     rw [if_neg (KI a), if_neg (KI a)] at h1
     rcases JM a c with g | g | g
     · rw [if_pos g]; omega
     · rw [if_neg (JN g), if_pos g] at h2; omega
     · subst g
       rw [if_neg (KI a), if_neg (KI a)] at h2 ⊢
       exact Kf h1 h2
theorem cmpK_zero {a b : KeyD} : Qn a b = 0 ↔ a = b := by
  unfold Qn
  by_cases h1 : Qm a.1 b.1 = 0
  ·
   rw [if_neg (by simpa using h1)]
   by_cases h2 : kX a.2.1 b.2.1 = 0
   ·
    rw [if_neg (by simpa using h2), Zd]
    constructor
    · intro h
      exact Prod.ext (Zd.1 h1) (Prod.ext (K6.1 h2) h)
    · rintro rfl; rfl
   ·
    rw [if_pos h2]
    refine ⟨fun h => absurd h h2, ?_⟩
    rintro rfl
    exact absurd (Kp _) h2
  ·
   rw [if_pos h1]
   refine ⟨fun h => absurd h h1, ?_⟩
   rintro rfl
   exact absurd (Zd.2 rfl) h1
theorem uO (a : KeyD) : Qn a a = 0 := cmpK_zero.2 rfl
theorem cmpK_neg {a b : KeyD} : Qn a b < 0 ↔ a.1 < b.1 ∨ (a.1 = b.1 ∧ (kX a.2.1 b.2.1 < 0 ∨ (a.2.1 = b.2.1 ∧ a.2.2 < b.2.2))) := by
  unfold Qn
  by_cases h1 : Qm a.1 b.1 = 0
  ·
   have e1 := Zd.1 h1
   rw [if_neg (by simpa using h1)]
   by_cases h2 : kX a.2.1 b.2.1 = 0
   ·
    have e2 := K6.1 h2
    rw [if_neg (by simpa using h2), cmpI_neg]
    constructor
    · intro h; exact .inr ⟨e1, .inr ⟨e2, h⟩⟩
    ·
     rintro (h | ⟨_, h | ⟨_, h⟩⟩)
     · omega
     · omega
     · exact h
   ·
    rw [if_pos h2]
    constructor
    · intro h; exact .inr ⟨e1, .inl h⟩
    ·
     rintro (h | ⟨_, h | ⟨h, _⟩⟩)
     · omega
     · exact h
     · exact absurd (K6.2 h) h2
  ·
   rw [if_pos h1, cmpI_neg]
   constructor
   · exact .inl
   · rintro (h | ⟨h, _⟩)
     · exact h
     · exact absurd (Zd.2 h) h1
theorem cmpK_trans {a b c : KeyD} (h1 : Qn a b < 0) (h2 : Qn b c < 0) : Qn a c < 0 := by
  rw [cmpK_neg] at *
  rcases h1 with h1 | ⟨e1, h1⟩
  · rcases h2 with h2 | ⟨e2, h2⟩
    · exact .inl (by omega)
    · exact .inl (by omega)
  ·
   rcases h2 with h2 | ⟨e2, h2⟩
   · exact .inl (by omega)
   ·
    refine .inr ⟨by omega, ?_⟩
    rcases h1 with h1 | ⟨g1, h1⟩
    · rcases h2 with h2 | ⟨g2, h2⟩
      · exact .inl (Kf h1 h2)
      · rw [g2] at h1; exact .inl h1
    · rcases h2 with h2 | ⟨g2, h2⟩
      · rw [← g1] at h2; exact .inl h2
      · exact .inr ⟨g1.trans g2, by omega⟩
def Rising (l : List KeyD) : Prop := l.Pairwise fun a b => Qn a b < 0
theorem Rising.ext : ∀ {a b : List KeyD}, Rising a → Rising b → (∀ k, k ∈ a ↔ k ∈ b) → a = b
  | [], [], _, _, _ => rfl
  | [], y :: b, _, _, h => absurd ((h y).2 (by simp)) (by simp)
  | x :: a, [], _, _, h => absurd ((h x).1 (by simp)) (by simp)
  | x :: a, y :: b, ha, hb, h => by
    unfold Rising at ha hb
    rw [List.pairwise_cons] at ha hb
    have hxy : x = y := by
      rcases List.mem_cons.1 ((h x).1 (by simp)) with e | e
      · exact e
      ·
       have h1 := hb.1 x e
       rcases List.mem_cons.1 ((h y).2 (by simp)) with e' | e'
       · exact e'.symm
       ·
        have h2 := ha.1 y e'
        have := cmpK_trans h1 h2
        rw [uO] at this
        omega
    subst hxy
    congr 1
    refine Rising.ext ha.2 hb.2 fun k => ?_
    constructor
    ·
     intro hk
     rcases List.mem_cons.1 ((h k).1 (by simp [hk])) with e | e
     ·
      subst e
      have := ha.1 k hk
      rw [uO] at this
      omega
     · exact e
    ·
     intro hk
     rcases List.mem_cons.1 ((h k).2 (by simp [hk])) with e | e
     ·
      subst e
      have := hb.1 k hk
      rw [uO] at this
      omega
     · exact e
end Go.Proofs.YthjaepmfkgejkaaGreatDoor
