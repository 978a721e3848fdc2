/-
  Evaluation of closed runs, part A: trees by paths, values of the abstract machine, words that force numbers. No conditions; no program.
-/
import Derived.WalkKit
set_option linter.unusedVariables false
namespace Go.Proofs.YtmlhijlcefogmaaGreatDoor
namespace Ev

/-- A place's path. -/
inductive P4 where
  | e
  | a (p : P4)
  | b (p : P4)
  | c (p : P4)
  | d (p : P4)
/-- A tree of four sons; a place is a path. -/
inductive T0 (α : Type) where
  | nil
  | node (v : Option α) (a b c d : T0 α)

noncomputable section
variable {α β R : Type}
instance : DecidableEq P4 := fun _ _ => Classical.propDecidable _

def T0.get (t : T0 α) (p : P4) : Option α :=
  P4.rec (motive := fun _ => T0 α → Option α) (fun t => T0.rec (motive := fun _ => Option α) none (fun v _ _ _ _ _ _ _ _ => v) t)
    (fun _ ih t => T0.rec (motive := fun _ => Option α) none (fun _ a _ _ _ _ _ _ _ => ih a) t) (fun _ ih t => T0.rec (motive := fun _ => Option α) none (fun _ _ b _ _ _ _ _ _ => ih b) t)
    (fun _ ih t => T0.rec (motive := fun _ => Option α) none (fun _ _ _ c _ _ _ _ _ => ih c) t) (fun _ ih t => T0.rec (motive := fun _ => Option α) none (fun _ _ _ _ d _ _ _ _ => ih d) t) p t

/-- The tree with 'o' at a path: given on to k, built. -/
def T0.setK (o : Option α) (p : P4) (t : T0 α) (k : T0 α → R) : R :=
  P4.rec (motive := fun _ => T0 α → Option α → (T0 α → R) → R)
    (fun t o k => T0.rec (motive := fun _ => R) (k (.node o .nil .nil .nil .nil)) (fun _ a b c d _ _ _ _ => k (.node o a b c d)) t)
    (fun _ ih t o k => T0.rec (motive := fun _ => R) (ih .nil o fun x => k (.node none x .nil .nil .nil)) (fun v a b c d _ _ _ _ => ih a o fun x => k (.node v x b c d)) t)
    (fun _ ih t o k => T0.rec (motive := fun _ => R) (ih .nil o fun x => k (.node none .nil x .nil .nil)) (fun v a b c d _ _ _ _ => ih b o fun x => k (.node v a x c d)) t)
    (fun _ ih t o k => T0.rec (motive := fun _ => R) (ih .nil o fun x => k (.node none .nil .nil x .nil)) (fun v a b c d _ _ _ _ => ih c o fun x => k (.node v a b x d)) t)
    (fun _ ih t o k => T0.rec (motive := fun _ => R) (ih .nil o fun x => k (.node none .nil .nil .nil x)) (fun v a b c d _ _ _ _ => ih d o fun x => k (.node v a b c x)) t) p t o k

def T0.set (o : Option α) : P4 → T0 α → T0 α
  | .e, .nil => .node o .nil .nil .nil .nil
  | .e, .node _ a b c d => .node o a b c d
  | .a p, .nil => .node none (T0.set o p .nil) .nil .nil .nil
  | .a p, .node v a b c d => .node v (T0.set o p a) b c d
  | .b p, .nil => .node none .nil (T0.set o p .nil) .nil .nil
  | .b p, .node v a b c d => .node v a (T0.set o p b) c d
  | .c p, .nil => .node none .nil .nil (T0.set o p .nil) .nil
  | .c p, .node v a b c d => .node v a b (T0.set o p c) d
  | .d p, .nil => .node none .nil .nil .nil (T0.set o p .nil)
  | .d p, .node v a b c d => .node v a b c (T0.set o p d)

theorem T0.get_nil (p : P4) : (T0.nil : T0 α).get p = none := by cases p <;> rfl

theorem T0.setK_eq (o : Option α) : ∀ (p : P4) (t : T0 α) (k : T0 α → R), T0.setK o p t k = k (T0.set o p t) := by
  intro p
  induction p with
  | e => intro t k; cases t <;> rfl
  | a p ih => intro t k; cases t with | nil => exact ih .nil _ | node v a b c d => exact ih a _
  | b p ih => intro t k; cases t with | nil => exact ih .nil _ | node v a b c d => exact ih b _
  | c p ih => intro t k; cases t with | nil => exact ih .nil _ | node v a b c d => exact ih c _
  | d p ih => intro t k; cases t with | nil => exact ih .nil _ | node v a b c d => exact ih d _

theorem T0.get_set (o : Option α) : ∀ (p q : P4) (t : T0 α), (T0.set o p t).get q = if q = p then o else t.get q := by
  intro p
  induction p with
  | e =>
    intro q t
    cases q with
    | e => rw [if_pos rfl]; cases t <;> rfl
    | _ => rw [if_neg (by intro h; cases h)]; cases t <;> first | rfl | (rw [T0.get_nil]; exact T0.get_nil _)
  | a p ih =>
    intro q t
    cases q with
    | a q =>
      by_cases h : q = p
      · subst h
        rw [if_pos rfl]
        cases t with
        | nil => exact (ih q .nil).trans (if_pos rfl)
        | node v a b c d => exact (ih q a).trans (if_pos rfl)
      · rw [if_neg (by intro e; cases e; exact h rfl)]
        cases t with
        | nil => rw [T0.get_nil]; exact ((ih q .nil).trans (if_neg h)).trans (T0.get_nil _)
        | node v a b c d => exact (ih q a).trans (if_neg h)
    | _ => rw [if_neg (by intro h; cases h)]; cases t <;> first | rfl | (rw [T0.get_nil]; exact T0.get_nil _) | (rw [T0.get_nil]; rfl)
  | b p ih =>
    intro q t
    cases q with
    | b q =>
      by_cases h : q = p
      · subst h
        rw [if_pos rfl]
        cases t with
        | nil => exact (ih q .nil).trans (if_pos rfl)
        | node v a b c d => exact (ih q b).trans (if_pos rfl)
      · rw [if_neg (by intro e; cases e; exact h rfl)]
        cases t with
        | nil => rw [T0.get_nil]; exact ((ih q .nil).trans (if_neg h)).trans (T0.get_nil _)
        | node v a b c d => exact (ih q b).trans (if_neg h)
    | _ => rw [if_neg (by intro h; cases h)]; cases t <;> first | rfl | (rw [T0.get_nil]; exact T0.get_nil _) | (rw [T0.get_nil]; rfl)
  | c p ih =>
    intro q t
    cases q with
    | c q =>
      by_cases h : q = p
      · subst h
        rw [if_pos rfl]
        cases t with
        | nil => exact (ih q .nil).trans (if_pos rfl)
        | node v a b c d => exact (ih q c).trans (if_pos rfl)
      · rw [if_neg (by intro e; cases e; exact h rfl)]
        cases t with
        | nil => rw [T0.get_nil]; exact ((ih q .nil).trans (if_neg h)).trans (T0.get_nil _)
        | node v a b c d => exact (ih q c).trans (if_neg h)
    | _ => rw [if_neg (by intro h; cases h)]; cases t <;> first | rfl | (rw [T0.get_nil]; exact T0.get_nil _) | (rw [T0.get_nil]; rfl)
  | d p ih =>
    intro q t
    cases q with
    | d q =>
      by_cases h : q = p
      · subst h
        rw [if_pos rfl]
        cases t with
        | nil => exact (ih q .nil).trans (if_pos rfl)
        | node v a b c d => exact (ih q d).trans (if_pos rfl)
      · rw [if_neg (by intro e; cases e; exact h rfl)]
        cases t with
        | nil => rw [T0.get_nil]; exact ((ih q .nil).trans (if_neg h)).trans (T0.get_nil _)
        | node v a b c d => exact (ih q d).trans (if_neg h)
    | _ => rw [if_neg (by intro h; cases h)]; cases t <;> first | rfl | (rw [T0.get_nil]; exact T0.get_nil _) | (rw [T0.get_nil]; rfl)

/-- A digit ahead of a path. -/
def digK (p : P4) (n : Nat) : P4 :=
  Nat.rec (motive := fun _ => P4) (.a p) (fun r _ => Nat.rec (motive := fun _ => P4) (.b p) (fun r _ => Nat.rec (motive := fun _ => P4) (.c p) (fun _ _ => .d p) r) r) n
/-- The path of a number: its digits to the base of four. -/
def pthF : Nat → Nat → P4 :=
  Nat.rec (motive := fun _ => Nat → P4) (fun _ => .e)
    (fun _ ih n => Bool.rec (motive := fun _ => P4) (digK (ih (Nat.div n 4)) (Nat.mod n 4)) .e (Nat.beq n 0))
def pth (n : Nat) : P4 := pthF n n

theorem pthF_zero (f : Nat) : pthF f 0 = .e := by cases f <;> rfl
theorem pthF_succ (f n : Nat) (h : n ≠ 0) : pthF (f + 1) n = digK (pthF f (n / 4)) (n % 4) := by
  show Bool.rec (motive := fun _ => P4) _ _ (Nat.beq n 0) = _
  cases hb : Nat.beq n 0 with
  | true => exact absurd (Nat.eq_of_beq_eq_true hb) h
  | false => rfl
theorem digK_ne (p : P4) (n : Nat) : digK p n ≠ .e := by
  rcases n with _ | _ | _ | n <;> (intro h; cases h)
theorem digK_inj {p q : P4} {n m : Nat} (hn : n < 4) (hm : m < 4) (h : digK p n = digK q m) : p = q ∧ n = m := by
  have n4 : n = 0 ∨ n = 1 ∨ n = 2 ∨ n = 3 := by omega
  have m4 : m = 0 ∨ m = 1 ∨ m = 2 ∨ m = 3 := by omega
  rcases n4 with rfl | rfl | rfl | rfl <;> rcases m4 with rfl | rfl | rfl | rfl <;> first | (injection h with h; exact ⟨h, rfl⟩) | cases h
theorem pthF_inj : ∀ (f g n m : Nat), n ≤ f → m ≤ g → pthF f n = pthF g m → n = m := by
  intro f
  induction f with
  | zero =>
    intro g n m hn hm h
    have h0 : n = 0 := by omega
    subst h0
    rcases Nat.eq_zero_or_pos m with e | e
    · exact e.symm
    · obtain ⟨g', rfl⟩ : ∃ g', g = g' + 1 := ⟨g - 1, by omega⟩
      rw [pthF_zero, pthF_succ _ _ (by omega)] at h
      exact absurd h.symm (digK_ne _ _)
  | succ f ih =>
    intro g n m hn hm h
    rcases Nat.eq_zero_or_pos n with e | e
    · subst e
      rcases Nat.eq_zero_or_pos m with e' | e'
      · exact e'.symm
      · obtain ⟨g', rfl⟩ : ∃ g', g = g' + 1 := ⟨g - 1, by omega⟩
        rw [pthF_zero, pthF_succ _ _ (by omega)] at h
        exact absurd h.symm (digK_ne _ _)
    · rw [pthF_succ _ _ (by omega)] at h
      rcases Nat.eq_zero_or_pos m with e' | e'
      · subst e'
        rw [pthF_zero] at h
        exact absurd h (digK_ne _ _)
      · obtain ⟨g', rfl⟩ : ∃ g', g = g' + 1 := ⟨g - 1, by omega⟩
        rw [pthF_succ _ _ (by omega)] at h
        obtain ⟨h1, h2⟩ := digK_inj (Nat.mod_lt _ (by omega)) (Nat.mod_lt _ (by omega)) h
        have := ih g' (n / 4) (m / 4) (by omega) (by omega) h1
        omega
theorem pth_inj {n m : Nat} (h : pth n = pth m) : n = m := pthF_inj n m n m (Nat.le_refl _) (Nat.le_refl _) h

/-- A place in a short row. -/
def nthO (l : List (Option α)) : Nat → Option α :=
  List.rec (motive := fun _ => Nat → Option α) (fun _ => none) (fun x _ ih i => Nat.rec (motive := fun _ => Option α) x (fun j _ => ih j) i) l
def setOK (o : Option α) (i : Nat) : List (Option α) → (List (Option α) → R) → R :=
  Nat.rec (motive := fun _ => List (Option α) → (List (Option α) → R) → R) (fun l k => List.rec (motive := fun _ => R) (k [o]) (fun _ r _ => k (o :: r)) l)
    (fun _ ih l k => List.rec (motive := fun _ => R) (ih [] fun r => k (none :: r)) (fun x r _ => ih r fun r => k (x :: r)) l) i
def setO (o : Option α) : Nat → List (Option α) → List (Option α)
  | 0, [] => [o]
  | 0, _ :: r => o :: r
  | i + 1, [] => none :: setO o i []
  | i + 1, x :: r => x :: setO o i r
theorem setOK_eq (o : Option α) : ∀ (i : Nat) (l : List (Option α)) (k : List (Option α) → R), setOK o i l k = k (setO o i l) := by
  intro i
  induction i with
  | zero => intro l k; cases l <;> rfl
  | succ i ih =>
    intro l k
    cases l with
    | nil => show setOK o i [] _ = _; rw [ih]; rfl
    | cons x r => show setOK o i r _ = _; rw [ih]; rfl
theorem nthO_nil (i : Nat) : nthO ([] : List (Option α)) i = none := rfl
theorem nthO_zero (x : Option α) (r : List (Option α)) : nthO (x :: r) 0 = x := rfl
theorem nthO_succ (x : Option α) (r : List (Option α)) (i : Nat) : nthO (x :: r) (i + 1) = nthO r i := rfl
theorem nthO_set (o : Option α) : ∀ (i : Nat) (l : List (Option α)) (j : Nat), nthO (setO o i l) j = if j = i then o else nthO l j := by
  intro i
  induction i with
  | zero =>
    intro l j
    cases l <;> cases j <;> simp [setO, nthO_zero, nthO_succ, nthO_nil]
  | succ i ih =>
    intro l j
    cases l <;> cases j <;> simp [setO, nthO_zero, nthO_succ, nthO_nil, ih]
/-- A tree by numbers, of short rows. -/
abbrev T (α : Type) : Type := T0 (List (Option α))
def T.nil {α : Type} : T α := T0.nil
def T.chunk (t : T α) (p : P4) : List (Option α) := Option.rec (motive := fun _ => List (Option α)) [] (fun l => l) (T0.get t p)
def T.at (t : T α) (n : Nat) : Option α := nthO (t.chunk (pth (Nat.div n 4))) (Nat.mod n 4)
def T.putK (t : T α) (n : Nat) (o : Option α) (k : T α → R) : R := setOK o (Nat.mod n 4) (t.chunk (pth (Nat.div n 4))) fun l => T0.setK (some l) (pth (Nat.div n 4)) t k
def T.put (t : T α) (n : Nat) (o : Option α) : T α := T0.set (some (setO o (Nat.mod n 4) (t.chunk (pth (Nat.div n 4))))) (pth (Nat.div n 4)) t
theorem T.putK_eq (t : T α) (n : Nat) (o : Option α) (k : T α → R) : t.putK n o k = k (t.put n o) := by
  unfold T.putK T.put
  rw [setOK_eq, T0.setK_eq]
theorem T.chunk_set (t : T α) (l : List (Option α)) (p q : P4) : T.chunk (T0.set (some l) p t) q = if q = p then l else t.chunk q := by
  unfold T.chunk
  rw [T0.get_set]
  split <;> rfl
theorem T.at_put (t : T α) (n m : Nat) (o : Option α) : (t.put n o).at m = if m = n then o else t.at m := by
  unfold T.at T.put
  rw [T.chunk_set]
  by_cases h : pth (Nat.div m 4) = pth (Nat.div n 4)
  · rw [if_pos h, nthO_set]
    have hd : m / 4 = n / 4 := pth_inj h
    by_cases hm : m = n
    · subst hm; simp
    · rw [if_neg hm, if_neg (fun (e : Nat.mod m 4 = Nat.mod n 4) => hm (by have e2 : m % 4 = n % 4 := e; omega)), h]
  · rw [if_neg h, if_neg (fun e => h (by rw [e]))]
theorem T.at_nil (n : Nat) : (T.nil : T α).at n = none := by
  have h : (T.nil : T α).chunk (pth (Nat.div n 4)) = [] := by unfold T.chunk T.nil; rw [T0.get_nil]
  unfold T.at
  rw [h]
  rfl

/-- Numbers written out. -/
def fN (n : Nat) (k : Nat → R) : R := Nat.rec (motive := fun _ => R) (k 0) (fun m _ => k (Nat.succ m)) n
theorem fN_eq (n : Nat) (k : Nat → R) : fN n k = k n := by cases n <;> rfl
def fI (n : Int) (k : Int → R) : R := Int.rec (motive := fun _ => R) (fun m => fN m fun m => k (.ofNat m)) (fun m => fN m fun m => k (.negSucc m)) n
theorem fI_eq (n : Int) (k : Int → R) : fI n k = k n := by
  cases n with
  | ofNat m => exact fN_eq m (fun m => k (.ofNat m))
  | negSucc m => exact fN_eq m (fun m => k (.negSucc m))
def fB (b : Bool) (k : Bool → R) : R := Bool.rec (motive := fun _ => R) (k false) (k true) b
theorem fB_eq (b : Bool) (k : Bool → R) : fB b k = k b := by cases b <;> rfl
end

/-- The values of the abstract machine. 'g': the very value of the model. 'p', 's', 'm', 'y' (the yield of a loop): by the number of an abstract block. A slice: block, place, length, capacity, cells of an element; 'open': the capacity may be greater. -/
inductive V where
  | g (v : Value)
  | i (k : IntKind) (n : Int)
  | b (b : Bool)
  | str (l : List Nat)
  | p (b o : Nat)
  | s (b o len cap z : Nat) (op : Bool)
  | m (b : Nat)
  | f (fn : Fn) (caps : List V)
  | a (cs : List V)
  | t (vs : List V)
  | it (t : TypeId) (v : V)
  | y (l : Nat)
  | e
  | n

/-- The bits of a NaN. -/
def nanB (b : Nat) : Prop := (FloatKind.f64.format.read b).isNaN = true
/-- Where an abstract block lies: the block, the first cell, the block's size. -/
structure Loc where
  blk : Nat
  sh : Nat
  sz : Nat

def bytesOf (l : List Nat) : ByteArray := ⟨(l.map UInt8.ofNat).toArray⟩

mutual
/-- An abstract value and a value: S says which abstract blocks there are, μ where they lie. -/
inductive VR (S : Nat → Prop) (μ : Nat → Loc) : V → Value → Prop where
  | g (v : Value) : VR S μ (.g v) v
  | i (k : IntKind) (z : Int) : VR S μ (.i k z) (.int k z)
  | b (x : Bool) : VR S μ (.b x) (.bool x)
  | str (l : List Nat) (h : ∀ x ∈ l, x < 256) : VR S μ (.str l) (.string (bytesOf l))
  | p (b o : Nat) (h : S b) : VR S μ (.p b o) (.pointer (some ⟨(μ b).blk, (μ b).sh + o, none⟩))
  | s (b o len cap z : Nat) (op : Bool) (cap' : Nat) (h : S b) (hl : len ≤ cap) (hc : cap ≤ cap') (he : op = false → cap' = cap) (hs : (μ b).sh + o + cap' * z ≤ (μ b).sz) :
      VR S μ (.s b o len cap z op) (.slice (some ⟨(μ b).blk, (μ b).sh + o, none⟩) len cap')
  | m (b : Nat) (h : S b) : VR S μ (.m b) (.map (some (μ b).blk))
  | f (fn : Fn) (caps : List V) (cs : List Value) (h : VRs S μ caps cs) : VR S μ (.f fn caps) (.func fn #[] cs.toArray)
  | a (vs : List V) (cs : List Value) (h : VRs S μ vs cs) : VR S μ (.a vs) (.agg cs.toArray)
  | t (vs : List V) (cs : List Value) (h : VRs S μ vs cs) : VR S μ (.t vs) (.tuple cs.toArray)
  | it (t : TypeId) (v : V) (x : Value) (h : VR S μ v x) : VR S μ (.it t v) (.iface t x)
  | y (l : Nat) (h : S l) : VR S μ (.y l) (.func (.yield (μ l).blk) #[] #[])
  | e (A : Option Addr) (c : Nat) : VR S μ .e (.slice A 0 c)
  | n (x : Nat) (h : nanB x) : VR S μ .n (.float .f64 x)
inductive VRs (S : Nat → Prop) (μ : Nat → Loc) : List V → List Value → Prop where
  | nil : VRs S μ [] []
  | cons {v : V} {x : Value} {vs : List V} {xs : List Value} (h : VR S μ v x) (hs : VRs S μ vs xs) : VRs S μ (v :: vs) (x :: xs)
end

mutual
theorem VR.mono {S S' : Nat → Prop} {μ μ' : Nat → Loc} (hn : ∀ b, S b → S' b) (hμ : ∀ b, S b → μ' b = μ b) {v : V} {x : Value} (h : VR S μ v x) : VR S' μ' v x := by
  cases h with
  | g => exact .g _
  | i => exact .i _ _
  | b => exact .b _
  | str l h => exact .str _ h
  | p b o h => rw [← hμ b h]; exact .p b o (hn b h)
  | s b o len cap z op cap' h hl hc he hs => rw [← hμ b h]; exact .s b o len cap z op cap' (hn b h) hl hc he (by rw [hμ b h]; exact hs)
  | m b h => rw [← hμ b h]; exact .m b (hn b h)
  | f fn caps cs h => exact .f fn caps cs (VRs.mono hn hμ h)
  | a vs cs h => exact .a vs cs (VRs.mono hn hμ h)
  | t vs cs h => exact .t vs cs (VRs.mono hn hμ h)
  | it t v x h => exact .it t v x (VR.mono hn hμ h)
  | y l h => rw [← hμ l h]; exact .y l (hn l h)
  | e A c => exact .e A c
  | n x h => exact .n x h
theorem VRs.mono {S S' : Nat → Prop} {μ μ' : Nat → Loc} (hn : ∀ b, S b → S' b) (hμ : ∀ b, S b → μ' b = μ b) {v : List V} {x : List Value} (h : VRs S μ v x) : VRs S' μ' v x := by
  cases h with
  | nil => exact .nil
  | cons h hs => exact .cons (VR.mono hn hμ h) (VRs.mono hn hμ hs)
end

section
variable {S : Nat → Prop} {μ : Nat → Loc}
theorem VRs.length {vs : List V} {xs : List Value} (h : VRs S μ vs xs) : xs.length = vs.length := by
  induction vs generalizing xs with
  | nil => cases h; rfl
  | cons v vs ih => cases h with | cons h hs => simp [ih hs]
theorem VRs.at {vs : List V} {xs : List Value} (h : VRs S μ vs xs) : ∀ (i : Nat) (v : V), vs[i]? = some v → ∃ x, xs[i]? = some x ∧ VR S μ v x := by
  induction vs generalizing xs with
  | nil => intro i v hv; simp at hv
  | cons v vs ih =>
    cases h with
    | cons h hs =>
      intro i u hu
      cases i with
      | zero => simp at hu; subst hu; exact ⟨_, by simp, h⟩
      | succ i => simp at hu; obtain ⟨x, hx, hr⟩ := ih hs i u hu; exact ⟨x, by simpa using hx, hr⟩
theorem VRs.append {vs us : List V} {xs ys : List Value} (h : VRs S μ vs xs) (h' : VRs S μ us ys) : VRs S μ (vs ++ us) (xs ++ ys) := by
  induction vs generalizing xs with
  | nil => cases h; exact h'
  | cons v vs ih => cases h with | cons h hs => exact .cons h (ih hs)
theorem VRs.drop {vs : List V} {xs : List Value} (h : VRs S μ vs xs) (n : Nat) : VRs S μ (vs.drop n) (xs.drop n) := by
  induction n generalizing vs xs with
  | zero => exact h
  | succ n ih => cases h with | nil => exact .nil | cons h hs => exact ih hs
theorem VRs.take {vs : List V} {xs : List Value} (h : VRs S μ vs xs) (n : Nat) : VRs S μ (vs.take n) (xs.take n) := by
  induction n generalizing vs xs with
  | zero => exact .nil
  | succ n ih => cases h with | nil => exact .nil | cons h hs => exact .cons h (ih hs)
theorem VRs.of {vs : List V} : ∀ {xs : List Value}, xs.length = vs.length → (∀ (i : Nat) (v : V), vs[i]? = some v → ∃ x, xs[i]? = some x ∧ VR S μ v x) → VRs S μ vs xs := by
  induction vs with
  | nil => intro xs hl _; simp at hl; subst hl; exact .nil
  | cons v vs ih =>
    intro xs hl h
    cases xs with
    | nil => simp at hl
    | cons x xs =>
      obtain ⟨y, hy, hr⟩ := h 0 v (by simp)
      simp at hy
      subst hy
      exact .cons hr (ih (by simpa using hl) fun i u hu => by have := h (i + 1) u (by simpa using hu); simpa using this)
end

/-- One cell? -/
def V.one : V → Bool
  | .g v => v.oneCell'
  | .a _ | .t _ => false
  | _ => true
theorem VR.one {S : Nat → Prop} {μ : Nat → Loc} {v : V} {x : Value} (h : VR S μ v x) : x.oneCell' = v.one := by cases h <;> rfl
/-- A value's cells. -/
def V.cells : V → List V
  | .a cs => cs
  | v => [v]

/-- A value of the model as an abstract one. -/
def ofAtom : Value → V
  | .bool x => .b x
  | .int k n => .i k n
  | .string s => .str (s.data.toList.map UInt8.toNat)
  | v => .g v
def ofVal : Value → V
  | .agg cs => .a (cs.toList.map ofAtom)
  | v => ofAtom v
theorem bytesOf_toNat (s : ByteArray) : bytesOf (s.data.toList.map UInt8.toNat) = s := by
  cases s with
  | mk d =>
    unfold bytesOf
    have : List.map UInt8.ofNat (List.map UInt8.toNat d.toList) = d.toList := by
      rw [List.map_map]
      have : (UInt8.ofNat ∘ UInt8.toNat) = id := by funext x; simp
      rw [this, List.map_id]
    simp only
    rw [this]
theorem VR.ofAtom {S : Nat → Prop} {μ : Nat → Loc} (v : Value) : VR S μ (ofAtom v) v := by
  cases v <;> try exact .g _
  · exact .b _
  · exact .i _ _
  · rename_i s
    have := VR.str (S := S) (μ := μ) (s.data.toList.map UInt8.toNat) (fun x hx => by obtain ⟨c, _, rfl⟩ := List.mem_map.1 hx; exact c.toNat_lt)
    rwa [bytesOf_toNat] at this
theorem VRs.ofAtoms {S : Nat → Prop} {μ : Nat → Loc} (l : List Value) : VRs S μ (l.map ofAtom) l := by
  induction l with
  | nil => exact .nil
  | cons v l ih => exact .cons (VR.ofAtom v) ih
theorem VR.ofVal {S : Nat → Prop} {μ : Nat → Loc} (v : Value) : VR S μ (ofVal v) v := by
  unfold Ev.ofVal
  split
  · rename_i cs
    exact VR.a (S := S) (μ := μ) _ _ (VRs.ofAtoms cs.toList)
  · exact VR.ofAtom _
end Ev
end Go.Proofs.YtmlhijlcefogmaaGreatDoor
