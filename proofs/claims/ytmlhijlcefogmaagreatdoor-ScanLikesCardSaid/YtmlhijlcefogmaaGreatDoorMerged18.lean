/-
  Evaluation of closed runs, part B: the abstract heap, what it says of a world, what a step may turn. No conditions; no program.
  Evaluation of closed runs, part C: operations, first part. No conditions; no program.
-/
import Derived.Test.YtmlhijlcefogmaaGreatDoorEvA
import Derived.Laws.IdiomCopy
import Derived.Deep.Upon
import Derived.Below
import Derived.Deep.MidRow
import Derived.Orders
set_option linter.unusedVariables false
namespace Go.Proofs.YtmlhijlcefogmaaGreatDoor
namespace Ev

/-- A deferred call: a function with what it has caught and its arguments; or a loop's block of calls. -/
inductive DV where
  | fn (fn : Fn) (caps args : List V)
  | col (b : Nat)

/-- How many of a row's first cells may be frozen; whether it may bear the mark of a string's bytes; whether it is the whole of its block. -/
structure Fz where
  n : Nat
  st : Bool
  ex : Bool

/-- An abstract block. A row: its cells, how many are known, its element's type, how many of the first cells are frozen at most, whether it is only read. -/
inductive O where
  | row (cs : T V) (len : Nat) (el : TypeId) (fz : Fz) (ro : Bool)
  | map (es : List (V × V × Nat)) (clock : Nat)
  | sit (s : List Nat) (pos : Nat)
  | mit (m : Option Nat) (since : Nat) (seen : List Nat) (stepped : Nat)
  | loop (st : LoopState) (pend : Option Code) (fn : FuncId) (F : T V) (nt : Nat) (params : Array Tmp) (asg body : Code) (dfr : Nat)
  | dfr (gone : Bool)

def O.ro : O → Bool
  | .row _ _ _ _ ro => ro
  | _ => false

/-- Temporaries. -/
def TR (S : Nat → Prop) (μ : Nat → Loc) (nt : Nat) (F : T V) (tm : Array Value) : Prop :=
  tm.size = nt ∧ ∀ t v, F.at t = some v → t < nt ∧ ∃ x, tm[t]? = some x ∧ VR S μ v x

inductive ER (S : Nat → Prop) (μ : Nat → Loc) : List (V × V × Nat) → List MapEntry → Prop where
  | nil : ER S μ [] []
  | cons {k v : V} {n : Nat} {x y : Value} {es : List (V × V × Nat)} {xs : List MapEntry} (hk : VR S μ k x) (hv : VR S μ v y) (h : ER S μ es xs) : ER S μ ((k, v, n) :: es) ({ key := x, val := y, born := n } :: xs)

def frOk (fr : Nat × Nat) (l : Loc) (len : Nat) (fz : Fz) : Prop := (fz.ex = true → l.sh = 0 ∧ l.sz = len) ∧ (fz.st = false → fr.2 ≤ l.sh + fz.n) ∧ ∀ o, l.sh + fz.n ≤ o → o < l.sz → ¬ (fr.1 ≤ o ∧ o < fr.2)

/-- What an abstract block says of the block at its place. -/
def OR (S : Nat → Prop) (μ : Nat → Loc) (l : Loc) (x : Obj) : O → Prop
  | .row cs len el fz ro => ∃ c fr, x = .cells c el fr ∧ c.size = l.sz ∧ l.sh + len ≤ l.sz ∧ frOk fr l len fz ∧
      ∀ i v, cs.at i = some v → i < len ∧ ∃ y, c[l.sh + i]? = some y ∧ v.one = true ∧ VR S μ v y
  | .map es clock => ∃ es', x = .map es'.toArray clock ∧ ER S μ es es'
  | .sit s pos => l.sh = 0 ∧ x = .stringIter (bytesOf s) pos ∧ ∀ b ∈ s, b < 256
  | .mit m since seen stepped => l.sh = 0 ∧ x = .mapIter (m.map fun b => (μ b).blk) since seen.toArray stepped ∧ ∀ b, m = some b → S b
  | .loop st pend fn F nt params asg body dfr => S dfr ∧ ∃ tm, x = .loop { state := st, pending := pend, fn := fn, tmps := tm, params := params, assign := asg, body := body, defers := (μ dfr).blk } ∧ TR S μ nt F tm
  | .dfr gone => x = .deferred (if gone then none else some [])

section
variable {S S' S'' : Nat → Prop} {μ μ' μ'' : Nat → Loc}
theorem TR.mono (hn : ∀ b, S b → S' b) (hμ : ∀ b, S b → μ' b = μ b) {nt : Nat} {F : T V} {tm : Array Value} (h : TR S μ nt F tm) : TR S' μ' nt F tm :=
  ⟨h.1, fun t v hv => let ⟨a, x, hx, hr⟩ := h.2 t v hv; ⟨a, x, hx, hr.mono hn hμ⟩⟩
theorem ER.mono (hn : ∀ b, S b → S' b) (hμ : ∀ b, S b → μ' b = μ b) {es : List (V × V × Nat)} {xs : List MapEntry} (h : ER S μ es xs) : ER S' μ' es xs := by
  induction h with
  | nil => exact .nil
  | cons hk hv _ ih => exact .cons (hk.mono hn hμ) (hv.mono hn hμ) ih
theorem OR.mono (hn : ∀ b, S b → S' b) (hμ : ∀ b, S b → μ' b = μ b) {l : Loc} {x : Obj} {o : O} (h : OR S μ l x o) : OR S' μ' l x o := by
  cases o with
  | row cs len el fz ro =>
    obtain ⟨c, fr, h1, h2, h3, h4, h5⟩ := h
    exact ⟨c, fr, h1, h2, h3, h4, fun i v hv => let ⟨a, y, hy, h1, hr⟩ := h5 i v hv; ⟨a, y, hy, h1, hr.mono hn hμ⟩⟩
  | map es clock => obtain ⟨es', h1, h2⟩ := h; exact ⟨es', h1, h2.mono hn hμ⟩
  | sit s pos => exact h
  | mit m since seen stepped =>
    obtain ⟨h0, h1, h2⟩ := h
    refine ⟨h0, ?_, fun b hb => hn b (h2 b hb)⟩
    rw [h1]
    cases m with
    | none => rfl
    | some b => simp [hμ b (h2 b rfl)]
  | loop st pend fn F nt params asg body dfr =>
    obtain ⟨h1, tm, h2, h3⟩ := h
    exact ⟨hn _ h1, tm, by rw [hμ _ h1]; exact h2, h3.mono hn hμ⟩
  | dfr n => exact h
end

/-- The abstract heap, as a function, says the truth of a world. G: how many package variables there are. -/
structure RH (G : Nat) (S : Nat → Prop) (μ : Nat → Loc) (h : Nat → Option O) (w : World) : Prop where
  ok : ∀ b o, h b = some o → S b ∧ ∃ x, w.heap[(μ b).blk]? = some x ∧ OR S μ (μ b) x o
  inj : ∀ b b' o o', h b = some o → h b' = some o' → (μ b).blk = (μ b').blk → b = b'
  glob : ∀ g, g < G → S g ∧ (μ g).blk = g ∧ (μ g).sh = 0

/-- What a stretch of the run has turned: numbers from n to n' are new; blocks that are not held stand. -/
structure Go (S : Nat → Prop) (μ : Nat → Loc) (h : Nat → Option O) (w : World) (n : Nat) (S' : Nat → Prop) (μ' : Nat → Loc) (h' : Nat → Option O) (w' : World) (n' : Nat) : Prop where
  le : n ≤ n'
  new : ∀ b, S' b ↔ S b ∨ (n ≤ b ∧ b < n')
  same : ∀ b, S b → μ' b = μ b
  os : w'.os = w.os
  tape : w'.tape = w.tape
  output : w'.output = w.output
  size : w.heap.size ≤ w'.heap.size
  still : ∀ r, r < w.heap.size → (∀ b o, h b = some o → (μ b).blk = r → o.ro = true) → w'.heap[r]? = w.heap[r]?
  dom : ∀ b o, h' b = some o → (S b ∧ ∃ o, h b = some o) ∨ (n ≤ b ∧ b < n')
  own : ∀ b o, h' b = some o → (o.ro = true ∧ h b = some o) ∨ w.heap.size ≤ (μ' b).blk ∨ ∃ b₀ o₀, h b₀ = some o₀ ∧ o₀.ro = false ∧ (μ b₀).blk = (μ' b).blk

theorem Go.refl {G : Nat} {S : Nat → Prop} {μ : Nat → Loc} {h : Nat → Option O} {w : World} {n : Nat} (hr : RH G S μ h w) : Go S μ h w n S μ h w n where
  le := Nat.le_refl _
  new b := ⟨.inl, fun h => h.elim id (fun h => by omega)⟩
  same _ _ := rfl
  os := rfl
  tape := rfl
  output := rfl
  size := Nat.le_refl _
  still _ _ _ := rfl
  dom b o ho := .inl ⟨(hr.ok b o ho).1, o, ho⟩
  own b o ho := by
    cases hr : o.ro
    · exact .inr (.inr ⟨b, o, ho, hr, rfl⟩)
    · exact .inl ⟨rfl, ho⟩

theorem Go.drew {G : Nat} {S : Nat → Prop} {μ : Nat → Loc} {h : Nat → Option O} {w : World} {n : Nat} (hr : RH G S μ h w) : Go S μ h w n S μ h { w with drawn := w.drawn + 1 } n := { Go.refl (n := n) hr with }
theorem RH.drew {G : Nat} {S : Nat → Prop} {μ : Nat → Loc} {h : Nat → Option O} {w : World} (hr : RH G S μ h w) : RH G S μ h { w with drawn := w.drawn + 1 } := { hr with }

section
variable {S S' S'' : Nat → Prop} {μ μ' μ'' : Nat → Loc} {h h' h'' : Nat → Option O} {w w' w'' : World} {n n' n'' : Nat} {G : Nat}
theorem Go.up (a : Go S μ h w n S' μ' h' w' n') {b : Nat} (hb : S b) : S' b := (a.new b).2 (.inl hb)
theorem Go.isNew (a : Go S μ h w n S' μ' h' w' n') {b : Nat} {o : O} (ho : h' b = some o) : S' b := (a.new b).2 ((a.dom b o ho).imp (·.1) id)
theorem Go.trans (a : Go S μ h w n S' μ' h' w' n') (c : Go S' μ' h' w' n' S'' μ'' h'' w'' n'') : Go S μ h w n S'' μ'' h'' w'' n'' where
  le := Nat.le_trans a.le c.le
  new b := by
    rw [c.new, a.new]
    have := a.le; have := c.le
    constructor
    · rintro ((h | h) | h)
      · exact .inl h
      · exact .inr (by omega)
      · exact .inr (by omega)
    · rintro (h | h)
      · exact .inl (.inl h)
      · by_cases hb : b < n'
        · exact .inl (.inr ⟨h.1, hb⟩)
        · exact .inr (by omega)
  same b hb := (c.same b (a.up hb)).trans (a.same b hb)
  os := c.os.trans a.os
  tape := c.tape.trans a.tape
  output := c.output.trans a.output
  size := Nat.le_trans a.size c.size
  still r hr hf := by
    rw [c.still r (Nat.lt_of_lt_of_le hr a.size), a.still r hr hf]
    intro b o ho hbr
    rcases a.own b o ho with ⟨h1, _⟩ | h1 | ⟨b₀, o₀, h1, h2, h3⟩
    · exact h1
    · omega
    · have := hf b₀ o₀ h1 (h3.trans hbr)
      rw [h2] at this
      cases this
  dom b o ho := by
    have := a.le; have := c.le
    rcases c.dom b o ho with ⟨_, o1, h1⟩ | h1
    · rcases a.dom b o1 h1 with h2 | h2
      · exact .inl h2
      · exact .inr (by omega)
    · exact .inr (by omega)
  own b o ho := by
    rcases c.own b o ho with ⟨h1, h2⟩ | h1 | ⟨b₀, o₀, h1, h2, h3⟩
    · rcases a.own b o h2 with h4 | h4 | ⟨b₁, o₁, h4, h5, h6⟩
      · exact .inl h4
      · exact .inr (.inl (by rw [c.same b (a.isNew h2)]; exact h4))
      · exact .inr (.inr ⟨b₁, o₁, h4, h5, by rw [c.same b (a.isNew h2)]; exact h6⟩)
    · exact .inr (.inl (Nat.le_trans a.size h1))
    · rcases a.own b₀ o₀ h1 with ⟨h4, h5⟩ | h4 | ⟨b₁, o₁, h4, h5, h6⟩
      · rw [h2] at h4; cases h4
      · exact .inr (.inl (h3 ▸ h4))
      · exact .inr (.inr ⟨b₁, o₁, h4, h5, h6.trans h3⟩)

/-- A read-only block stands. -/
theorem RH.sub (a : RH G S μ h w) (hs : ∀ b o, h' b = some o → h b = some o) : RH G S μ h' w where
  ok b o ho := a.ok b o (hs b o ho)
  inj b b' o o' ho ho' := a.inj b b' o o' (hs b o ho) (hs b' o' ho')
  glob := a.glob

/-- THE FRAME: what a stretch that was shown for a part of the heap does to the whole. -/
def over (h₀ h h₀' : Nat → Option O) (b : Nat) : Option O := if (h₀ b).isNone && (h b).isSome then h b else h₀' b

theorem RH.frame {h₀ h₀' : Nat → Option O} (hs : ∀ b o, h₀ b = some o → h b = some o) (r : RH G S μ h w) (hn : ∀ b, S b → b < n ∨ n' ≤ b) (a : Go S μ h₀ w n S' μ' h₀' w' n') (r' : RH G S' μ' h₀' w') :
    RH G S' μ' (over h₀ h h₀') w' ∧ Go S μ h w n S' μ' (over h₀ h h₀') w' n' := by
  -- a block of the whole that is no part's
  have rest : ∀ b o, (h₀ b).isNone = true → h b = some o → S b ∧ ∃ x, w'.heap[(μ b).blk]? = some x ∧ w.heap[(μ b).blk]? = some x ∧ OR S μ (μ b) x o := by
    intro b o h0 hb
    obtain ⟨hS, x, hx, hor⟩ := r.ok b o hb
    refine ⟨hS, x, ?_, hx, hor⟩
    have hlt : (μ b).blk < w.heap.size := (Array.getElem?_eq_some_iff.1 hx).1
    rw [a.still _ hlt, hx]
    intro b1 o1 h1 h2
    have := r.inj b1 b o1 o (hs b1 o1 h1) hb h2
    subst this
    rw [h1] at h0
    cases h0
  have apart : ∀ b b' o o', (h₀ b).isNone = true → h b = some o → h₀' b' = some o' → (μ b).blk ≠ (μ' b').blk := by
    intro b b' o o' h0 hb hb' he
    obtain ⟨hS, x, hx, hor⟩ := r.ok b o hb
    have hlt : (μ b).blk < w.heap.size := (Array.getElem?_eq_some_iff.1 hx).1
    rcases a.own b' o' hb' with ⟨_, h1⟩ | h1 | ⟨b₀, o₀, h1, h2, h3⟩
    · have hS' := (r.ok b' o' (hs _ _ h1)).1
      rw [a.same b' hS'] at he
      have := r.inj b b' o o' hb (hs _ _ h1) he
      subst this
      rw [h1] at h0
      cases h0
    · omega
    · have := r.inj b b₀ o o₀ hb (hs _ _ h1) (he.trans h3.symm)
      subst this
      rw [h1] at h0
      cases h0
  constructor
  · refine ⟨fun b o ho => ?_, fun b b' o o' ho ho' he => ?_, r'.glob⟩
    · unfold over at ho
      split at ho
      · rename_i hc
        simp at hc
        obtain ⟨hS, x, h1, _, h2⟩ := rest b o (by simp [hc.1]) ho
        exact ⟨a.up hS, x, by rw [a.same b hS]; exact h1, by rw [a.same b hS]; exact h2.mono (fun _ => a.up) a.same⟩
      · exact r'.ok b o ho
    · unfold over at ho ho'
      split at ho <;> split at ho'
      · rename_i hc hc'
        simp at hc hc'
        have hS := (r.ok b o ho).1
        have hS' := (r.ok b' o' ho').1
        rw [a.same b hS, a.same b' hS'] at he
        exact r.inj b b' o o' ho ho' he
      · rename_i hc hc'
        simp at hc
        have hS := (r.ok b o ho).1
        rw [a.same b hS] at he
        exact absurd he (apart b b' o o' (by simp [hc.1]) ho ho')
      · rename_i hc hc'
        simp at hc'
        have hS := (r.ok b' o' ho').1
        rw [a.same b' hS] at he
        exact absurd he.symm (apart b' b o' o (by simp [hc'.1]) ho' ho)
      · exact r'.inj b b' o o' ho ho' he
  · refine ⟨a.le, a.new, a.same, a.os, a.tape, a.output, a.size, fun k hk hf => a.still k hk fun b o ho => hf b o (hs b o ho), fun b o ho => ?_, fun b o ho => ?_⟩
    · unfold over at ho
      split at ho
      · exact .inl ⟨(r.ok b o ho).1, o, ho⟩
      · rcases a.dom b o ho with ⟨h1, o1, h2⟩ | h1
        · exact .inl ⟨h1, o1, hs _ _ h2⟩
        · exact .inr h1
    · unfold over at ho
      split at ho
      · rename_i hc
        have hS := (r.ok b o ho).1
        rw [a.same b hS]
        cases hr : o.ro
        · exact .inr (.inr ⟨b, o, ho, hr, rfl⟩)
        · exact .inl ⟨rfl, ho⟩
      · rcases a.own b o ho with ⟨h1, h2⟩ | h1 | ⟨b₀, o₀, h1, h2, h3⟩
        · exact .inl ⟨h1, hs _ _ h2⟩
        · exact .inr (.inl h1)
        · exact .inr (.inr ⟨b₀, o₀, hs _ _ h1, h2, h3⟩)

/-- A new block. -/
def S1 (S : Nat → Prop) (n : Nat) : Nat → Prop := fun b => S b ∨ (n ≤ b ∧ b < n + 1)
def μ1 (μ : Nat → Loc) (n : Nat) (l : Loc) : Nat → Loc := fun b => if b = n then l else μ b
def h1 (h : Nat → Option O) (n : Nat) (o : O) : Nat → Option O := fun b => if b = n then some o else h b
theorem μ1_same {n : Nat} {l : Loc} (hn : ¬ S n) : ∀ b, S b → μ1 μ n l b = μ b := fun b hb => if_neg fun (e : b = n) => hn (e ▸ hb)
theorem μ1_new (n : Nat) (l : Loc) : μ1 μ n l n = l := if_pos rfl

theorem RH.alloc (r : RH G S μ h w) (hn : ¬ S n) (x : Obj) (sz : Nat) (o : O) (ho : OR (S1 S n) (μ1 μ n ⟨w.heap.size, 0, sz⟩) ⟨w.heap.size, 0, sz⟩ x o) :
    RH G (S1 S n) (μ1 μ n ⟨w.heap.size, 0, sz⟩) (h1 h n o) (w.alloc x) ∧ Go S μ h w n (S1 S n) (μ1 μ n ⟨w.heap.size, 0, sz⟩) (h1 h n o) (w.alloc x) (n + 1) := by
  have same := μ1_same (μ := μ) (l := ⟨w.heap.size, 0, sz⟩) hn
  have old : ∀ b o, h b = some o → S b ∧ (μ b).blk < w.heap.size ∧ (w.alloc x).heap[(μ b).blk]? = w.heap[(μ b).blk]? := fun b o hb => by
    obtain ⟨hS, y, hy, _⟩ := r.ok b o hb
    have hlt := (Array.getElem?_eq_some_iff.1 hy).1
    exact ⟨hS, hlt, heap_alloc_old w x hlt⟩
  constructor
  · refine ⟨fun b o' hb => ?_, fun b b' o1 o2 hb hb' he => ?_, fun g hg => ?_⟩
    · unfold h1 at hb
      split at hb
      · rename_i e
        subst e
        injection hb with hb
        subst hb
        rw [μ1_new]
        exact ⟨.inr ⟨Nat.le_refl _, Nat.lt_succ_self _⟩, x, heap_alloc_new w x, ho⟩
      · obtain ⟨hS, hlt, he⟩ := old b o' hb
        obtain ⟨_, y, hy, hor⟩ := r.ok b o' hb
        rw [same b hS]
        exact ⟨.inl hS, y, he.trans hy, hor.mono (fun _ => .inl) same⟩
    · unfold h1 at hb hb'
      split at hb <;> split at hb'
      · rename_i e e'; rw [e, e']
      · rename_i e _
        obtain ⟨hS, hlt, _⟩ := old b' o2 hb'
        rw [e, μ1_new, same b' hS] at he
        simp only at he
        omega
      · rename_i _ e
        obtain ⟨hS, hlt, _⟩ := old b o1 hb
        rw [e, μ1_new, same b hS] at he
        simp only at he
        omega
      · rw [same b (old b o1 hb).1, same b' (old b' o2 hb').1] at he
        exact r.inj b b' o1 o2 hb hb' he
    · obtain ⟨hS, h1, h2⟩ := r.glob g hg
      rw [same g hS]
      exact ⟨.inl hS, h1, h2⟩
  · refine ⟨by omega, fun b => Iff.rfl, same, rfl, rfl, rfl, by simp, fun k hk _ => heap_alloc_old w x hk, fun b o' hb => ?_, fun b o' hb => ?_⟩
    · unfold h1 at hb
      split at hb
      · exact .inr (by omega)
      · exact .inl ⟨(old b o' hb).1, o', hb⟩
    · unfold h1 at hb
      split at hb
      · rename_i e
        rw [e, μ1_new]
        exact .inr (.inl (Nat.le_refl _))
      · rw [same b (old b o' hb).1]
        cases hr : o'.ro
        · exact .inr (.inr ⟨b, o', hb, hr, rfl⟩)
        · exact .inl ⟨rfl, hb⟩

/-- A held block turned. -/
theorem RH.upd (r : RH G S μ h w) {b : Nat} {o : O} (hb : h b = some o) (hro : o.ro = false) (x : Obj) (o' : O) (ho : OR S μ (μ b) x o') (hos : w'.os = w.os) (htape : w'.tape = w.tape) (hout : w'.output = w.output)
    (hsz : w'.heap.size = w.heap.size) (hx : w'.heap[(μ b).blk]? = some x) (hoth : ∀ k, k < w.heap.size → k ≠ (μ b).blk → w'.heap[k]? = w.heap[k]?) :
    RH G S μ (h1 h b o') w' ∧ Go S μ h w n S μ (h1 h b o') w' n := by
  constructor
  · refine ⟨fun c o1 hc => ?_, fun c c' o1 o2 hc hc' he => ?_, r.glob⟩
    · unfold h1 at hc
      split at hc
      · rename_i e
        subst e
        injection hc with hc
        subst hc
        exact ⟨(r.ok _ o hb).1, x, hx, ho⟩
      · rename_i hne
        obtain ⟨hS, y, hy, hor⟩ := r.ok c o1 hc
        refine ⟨hS, y, ?_, hor⟩
        rw [hoth _ (Array.getElem?_eq_some_iff.1 hy).1 (fun e => hne (r.inj c b o1 o hc hb e)), hy]
    · unfold h1 at hc hc'
      split at hc <;> split at hc'
      · rename_i e e'; rw [e, e']
      · rename_i e hne; subst e; exact r.inj _ c' o o2 hb hc' he
      · rename_i hne e; subst e; exact r.inj c _ o1 o hc hb he
      · exact r.inj c c' o1 o2 hc hc' he
  · refine ⟨Nat.le_refl _, fun c => ⟨.inl, fun h => h.elim id fun h => by omega⟩, fun _ _ => rfl, hos, htape, hout, by omega, fun k hk hf => hoth k hk fun e => ?_, fun c o1 hc => ?_, fun c o1 hc => ?_⟩
    · have := hf b o hb e.symm
      rw [hro] at this
      cases this
    · unfold h1 at hc
      split at hc
      · rename_i e; subst e; exact .inl ⟨(r.ok _ o hb).1, o, hb⟩
      · exact .inl ⟨(r.ok c o1 hc).1, o1, hc⟩
    · unfold h1 at hc
      split at hc
      · rename_i e; subst e; exact .inr (.inr ⟨_, o, hb, hro, rfl⟩)
      · cases hr : o1.ro
        · exact .inr (.inr ⟨c, o1, hc, hr, rfl⟩)
        · exact .inl ⟨rfl, hc⟩

/-- A held block that goes on under a new number. -/
def h2 (h : Nat → Option O) (b n : Nat) (o : O) : Nat → Option O := fun c => if c = n then some o else if c = b then none else h c
theorem RH.move (r : RH G S μ h w) (hn : ¬ S n) {b : Nat} {o : O} (hb : h b = some o) (hro : o.ro = false) (l : Loc) (hl : l.blk = (μ b).blk) (x : Obj) (o' : O) (ho : OR (S1 S n) (μ1 μ n l) l x o') (hos : w'.os = w.os) (htape : w'.tape = w.tape) (hout : w'.output = w.output)
    (hsz : w'.heap.size = w.heap.size) (hx : w'.heap[(μ b).blk]? = some x) (hoth : ∀ k, k < w.heap.size → k ≠ (μ b).blk → w'.heap[k]? = w.heap[k]?) :
    RH G (S1 S n) (μ1 μ n l) (h2 h b n o') w' ∧ Go S μ h w n (S1 S n) (μ1 μ n l) (h2 h b n o') w' (n + 1) := by
  have same := μ1_same (μ := μ) (l := l) hn
  constructor
  · refine ⟨fun c o1 hc => ?_, fun c c' o1 o2 hc hc' he => ?_, fun g hg => ?_⟩
    · unfold h2 at hc
      split at hc
      · rename_i e
        subst e
        injection hc with hc
        subst hc
        rw [μ1_new, hl]
        exact ⟨.inr ⟨Nat.le_refl _, Nat.lt_succ_self _⟩, x, hx, ho⟩
      · split at hc
        · cases hc
        · rename_i hne
          obtain ⟨hS, y, hy, hor⟩ := r.ok c o1 hc
          rw [same c hS]
          refine ⟨.inl hS, y, ?_, hor.mono (fun _ => .inl) same⟩
          rw [hoth _ (Array.getElem?_eq_some_iff.1 hy).1 (fun e => hne (r.inj c b o1 o hc hb e)), hy]
    · unfold h2 at hc hc'
      split at hc <;> split at hc'
      · rename_i e e'; rw [e, e']
      · rename_i e _
        split at hc'
        · cases hc'
        · rename_i hne
          rw [e, μ1_new, same c' (r.ok c' o2 hc').1, hl] at he
          exact absurd (r.inj b c' o o2 hb hc' he).symm hne
      · rename_i _ e
        split at hc
        · cases hc
        · rename_i hne
          rw [e, μ1_new, same c (r.ok c o1 hc).1, hl] at he
          exact absurd (r.inj c b o1 o hc hb he) hne
      · split at hc
        · cases hc
        · split at hc'
          · cases hc'
          · rw [same c (r.ok c o1 hc).1, same c' (r.ok c' o2 hc').1] at he
            exact r.inj c c' o1 o2 hc hc' he
    · obtain ⟨hS, h1, h2⟩ := r.glob g hg
      rw [same g hS]
      exact ⟨.inl hS, h1, h2⟩
  · refine ⟨by omega, fun b => Iff.rfl, same, hos, htape, hout, by omega, fun k hk hf => hoth k hk fun e => ?_, fun c o1 hc => ?_, fun c o1 hc => ?_⟩
    · have := hf b o hb e.symm
      rw [hro] at this
      cases this
    · unfold h2 at hc
      split at hc
      · exact .inr (by omega)
      · split at hc
        · cases hc
        · exact .inl ⟨(r.ok c o1 hc).1, o1, hc⟩
    · unfold h2 at hc
      split at hc
      · rename_i e
        rw [e, μ1_new, hl]
        exact .inr (.inr ⟨b, o, hb, hro, rfl⟩)
      · split at hc
        · cases hc
        · rw [same c (r.ok c o1 hc).1]
          cases hr : o1.ro
          · exact .inr (.inr ⟨c, o1, hc, hr, rfl⟩)
          · exact .inl ⟨rfl, hc⟩
end

theorem at_put1 (H : T O) (n : Nat) (o : O) : (H.put n (some o)).at = h1 H.at n o := by
  funext b
  rw [T.at_put]
  rfl
theorem at_put2 (H : T O) (b n : Nat) (o : O) : ((H.put b none).put n (some o)).at = h2 H.at b n o := by
  funext c
  rw [T.at_put, T.at_put]
  rfl

/-- A row behind stores into it. -/
theorem setCells_block (b : Nat) (el : TypeId) (fr : Nat × Nat) : ∀ (vs : List Value) (o : Nat) (w : World) (c : Array Value), w.heap[b]? = some (.cells c el fr) → o + vs.length ≤ c.size →
    ∃ c', (w.setCells b o vs).heap[b]? = some (.cells c' el fr) ∧ c'.size = c.size ∧ ∀ i, c'[i]? = if o ≤ i ∧ i < o + vs.length then vs[i - o]? else c[i]? := by
  intro vs
  induction vs with
  | nil => intro o w c hc _; exact ⟨c, hc, rfl, fun i => by rw [if_neg (by simp)]⟩
  | cons v vs ih =>
    intro o w c hc hl
    simp at hl
    have h0 : (w.setCell ⟨b, o, none⟩ v).heap[b]? = some (.cells (c.setIfInBounds o v) el fr) := by
      simp [World.setCell, Array.getElem?_modify, hc]
    obtain ⟨c', h1, h2, h3⟩ := ih (o + 1) _ _ h0 (by simp; omega)
    refine ⟨c', h1, by simpa using h2, fun i => ?_⟩
    rw [h3 i]
    by_cases hi : o + 1 ≤ i ∧ i < o + 1 + vs.length
    · rw [if_pos hi, if_pos (by simp; omega)]
      have : i - o = (i - (o + 1)) + 1 := by omega
      rw [this, List.getElem?_cons_succ]
    · rw [if_neg hi]
      by_cases he : i = o
      · subst he
        rw [if_pos (by simp), Nat.sub_self, List.getElem?_cons_zero, Array.getElem?_setIfInBounds_self, if_pos (by omega)]
      · rw [if_neg (by simp; omega), Array.getElem?_setIfInBounds_ne (Ne.symm he)]
theorem setCells_size (w : World) (b o : Nat) (vs : List Value) : (w.setCells b o vs).heap.size = w.heap.size := by
  induction vs generalizing o w with
  | nil => rfl
  | cons v vs ih => rw [World.setCells, ih]; simp [World.setCell]
theorem setCells_tape (w : World) (b o : Nat) (vs : List Value) : (w.setCells b o vs).tape = w.tape := by
  induction vs generalizing o w with
  | nil => rfl
  | cons v vs ih => rw [World.setCells, ih]; simp [World.setCell]
end Ev
end Go.Proofs.YtmlhijlcefogmaaGreatDoor
namespace Go.Proofs.YtmlhijlcefogmaaGreatDoor
namespace Ev

/-- What an operation comes to: 'lt': a value, the world stands; 'val': a value and a heap; a call; a deferred call; a panic; recover; a round of a loop over a function. -/
inductive Nx where
  | lt (v : V)
  | val (v : V) (H : T O) (n : Nat)
  | call (f : FuncId) (args : List V)
  | dfr (d : DV)
  | pan (v : V)
  | rcv
  | rnd (l : Nat) (args : List V)

noncomputable section
/-- An operand's value. -/
def ev (F : T V) (x : Operand) : Option V := Operand.rec (motive := fun _ => Option V) (fun t => F.at t) (fun v => some (ofVal v)) (fun g => Bool.rec (motive := fun _ => Option V) none (some (.p g 0)) (Nat.blt g 1024)) (fun f => some (.f (.func f) [])) x
def evs (F : T V) (l : List Operand) : Option (List V) :=
  List.rec (motive := fun _ => Option (List V)) (some []) (fun x _ ih => Option.rec (motive := fun _ => Option (List V)) none (fun v => Option.rec (motive := fun _ => Option (List V)) none (fun vs => some (v :: vs)) ih) (ev F x)) l

/-- The value of a ground one. -/
def toAt (v : V) : Option Value :=
  match v with
  | .g v => some v
  | .i k n => some (.int k n)
  | .b x => some (.bool x)
  | .str l => some (.string (bytesOf l))
  | _ => none
def toAts (l : List V) : Option (List Value) :=
  List.rec (motive := fun _ => Option (List Value)) (some []) (fun x _ ih => Option.rec (motive := fun _ => Option (List Value)) none (fun v => Option.rec (motive := fun _ => Option (List Value)) none (fun vs => some (v :: vs)) ih) (toAt x)) l
def toVal (v : V) : Option Value :=
  match v with
  | .a cs => (toAts cs).map fun l => .agg l.toArray
  | .t cs => (toAts cs).map fun l => .tuple l.toArray
  | .it t v => (toAt v).map fun x => .iface t x
  | .f fn [] => some (.func fn #[] #[])
  | v => toAt v
end

section
variable {S : Nat → Prop} {μ : Nat → Loc}
theorem toAt_vr {v : V} {y x : Value} (h : toAt v = some y) (r : VR S μ v x) : x = y := by
  cases r <;> simp_all [toAt]
theorem toAts_cons (x : V) (l : List V) : toAts (x :: l) = (toAt x).bind fun v => (toAts l).map fun vs => v :: vs := by
  show Option.rec (motive := fun _ => Option (List Value)) _ _ (toAt x) = _
  cases toAt x with
  | none => rfl
  | some v => show Option.rec (motive := fun _ => Option (List Value)) _ _ (toAts l) = _; cases toAts l <;> rfl
theorem toAts_vr {vs : List V} : ∀ {ys xs : List Value}, toAts vs = some ys → VRs S μ vs xs → xs = ys := by
  induction vs with
  | nil => intro ys xs h r; cases r; injection h
  | cons v vs ih =>
    intro ys xs h r
    cases r with
    | cons r rs =>
      rw [toAts_cons] at h
      cases h1 : toAt v with
      | none => simp [h1] at h
      | some y =>
        cases h2 : toAts vs with
        | none => simp [h1, h2] at h
        | some ys' =>
          simp [h1, h2] at h
          rw [← h, toAt_vr h1 r, ih h2 rs]
theorem toVal_vr {v : V} {y x : Value} (h : toVal v = some y) (r : VR S μ v x) : x = y := by
  cases r with
  | a vs cs r =>
    simp only [toVal, Option.map_eq_some_iff] at h
    obtain ⟨l, h1, h2⟩ := h
    rw [← h2, toAts_vr h1 r]
  | t vs cs r =>
    simp only [toVal, Option.map_eq_some_iff] at h
    obtain ⟨l, h1, h2⟩ := h
    rw [← h2, toAts_vr h1 r]
  | it t v x r =>
    simp only [toVal, Option.map_eq_some_iff] at h
    obtain ⟨l, h1, h2⟩ := h
    rw [← h2, toAt_vr h1 r]
  | f fn caps cs r =>
    cases caps with
    | nil => cases r; simp [toVal] at h; exact h
    | cons c caps => simp [toVal, toAt] at h
  | _ => simp_all [toVal, toAt]
end

noncomputable section
/-- A run that looks at no world. -/
def semN (P : Program) (s : Sem Next) : Option Nx :=
  Sem.rec (motive := fun _ => Option Nx)
    (fun n => match n with | .value v => some (.lt (ofVal v)) | _ => none)
    (fun _ _ _ _ => none) (fun _ _ _ _ _ => none) (fun _ _ _ => none) (fun _ _ _ => none) (fun _ _ _ _ => none) (fun _ _ _ => none) (fun _ _ _ => none) (fun _ _ _ _ => none)
    (fun q k ih => match q.forced with | true => ih 0 | false => none) (fun _ _ _ => none) (fun k ih => ih P) (fun _ _ ih => ih)
    (fun h => match h with | .panic v => some (.pan (ofVal v)) | _ => none) s
/-- The ground values of operands. -/
def gr (F : T V) (x : Operand) : Value := ((ev F x).bind toVal).getD undef
def grAll (F : T V) (l : List Operand) : Bool := List.rec (motive := fun _ => Bool) true (fun x _ ih => match (ev F x).bind toVal with | some _ => ih | none => false) l
def isSelect : Op → Bool | .select .. => true | _ => false
/-- An operation whose operands are ground. -/
def evG (P : Program) (o : Oper) (F : T V) : Option Nx := match grAll F o.op.operands.toList && !isSelect o.op with | true => semN P (execOp (gr F) o) | false => none
end

/-- What is said of an operation's run. -/
def OpOk (P : Program) (G : Nat) (S : Nat → Prop) (μ : Nat → Loc) (h : Nat → Option O) (s : Result Next) (w : World) (n : Nat) : Nx → Prop
  | .lt v => ∃ x, s = .ok (.value x) w ∧ VR S μ v x
  | .val v H' n' => ∃ x w' S' μ', (s = .ok (.value x) w' ∨ (s = .ok .skip w' ∧ x = undef)) ∧ VR S' μ' v x ∧ RH G S' μ' H'.at w' ∧ Go S μ h w n S' μ' H'.at w' n'
  | .call f args => ∃ xs : Array Value, s = .ok (.enter f xs) w ∧ VRs S μ args xs.toList ∧ (∃ fn, P.funcs[f]? = some fn)
  | .dfr d => ∃ x, s = .ok (.defer x) w ∧ match d with | .fn fn caps args => ∃ cs xs : Array Value, x = { target := .fn fn cs, args := xs } ∧ VRs S μ caps cs.toList ∧ VRs S μ args xs.toList | .col _ => False
  | .pan v => ∃ x, s = .halt (.panic x) w ∧ VR S μ v x
  | .rcv => s = .ok .recover w
  | .rnd l args => S l ∧ ∃ xs : Array Value, s = (Instr.yield (μ l).blk xs).run P w ∧ VRs S μ args xs.toList

/-- Operands and their values. -/
def ρOk (S : Nat → Prop) (μ : Nat → Loc) (F : T V) (ρ : Operand → Value) (l : List Operand) : Prop := ∀ x ∈ l, ∀ v, ev F x = some v → VR S μ v (ρ x)

theorem semN_ok {P : Program} {G : Nat} {S : Nat → Prop} {μ : Nat → Loc} {h : Nat → Option O} {w : World} {n : Nat} : ∀ (s : Sem Next) {r : Nx}, semN P s = some r → OpOk P G S μ h (s.run P w) w n r := by
  intro s
  induction s with
  | pure a =>
    intro r hr
    cases a <;> simp [semN] at hr
    subst hr
    exact ⟨_, rfl, .ofVal _⟩
  | choose q k ih =>
    intro r hr
    simp only [semN] at hr
    cases hq : q.forced with
    | false => simp [hq] at hr
    | true =>
      simp only [hq] at hr
      have := ih 0 hr
      simp only [Sem.run, hq, if_true]
      exact this
  | program k ih => intro r hr; exact ih P hr
  | mark m k ih => intro r hr; exact ih hr
  | halt a =>
    intro r hr
    cases a <;> simp [semN] at hr
    subst hr
    exact ⟨_, rfl, .ofVal _⟩
  | _ => intro r hr; simp [semN] at hr

theorem grAll_spec {F : T V} : ∀ {l : List Operand}, grAll F l = true → ∀ x ∈ l, ∃ v y, ev F x = some v ∧ toVal v = some y := by
  intro l
  induction l with
  | nil => intro _ x hx; cases hx
  | cons a l ih =>
    intro h x hx
    have h' : (match (ev F a).bind toVal with | some _ => grAll F l | none => false) = true := h
    cases h1 : ev F a with
    | none => simp [h1] at h'
    | some v =>
      cases h2 : toVal v with
      | none => simp [h1, h2] at h'
      | some y =>
        simp [h1, h2] at h'
        cases hx with
        | head => exact ⟨v, y, h1, h2⟩
        | tail _ hx => exact ih h' x hx

theorem evG_ok {P : Program} {G : Nat} {S : Nat → Prop} {μ : Nat → Loc} {h : Nat → Option O} {w : World} {n : Nat} {o : Oper} {F : T V} {r : Nx} {ρ : Operand → Value} (he : evG P o F = some r) (hρ : ρOk S μ F ρ o.op.operands.toList) :
    OpOk P G S μ h ((execOp ρ o).run P w) w n r := by
  unfold evG at he
  split at he
  · rename_i hc
    simp only [Bool.and_eq_true, Bool.not_eq_true'] at hc
    have : execOp ρ o = execOp (gr F) o := by
      refine execOp_congr o (fun cs b e => by rw [e] at hc; simp [isSelect] at hc) fun x hx => ?_
      obtain ⟨v, y, h1, h2⟩ := grAll_spec hc.1 x (by simpa using hx)
      have := toVal_vr h2 (hρ x (by simpa using hx) v h1)
      simp [gr, h1, h2, this]
    rw [this]
    exact semN_ok _ he
  · cases he
end Ev
end Go.Proofs.YtmlhijlcefogmaaGreatDoor
