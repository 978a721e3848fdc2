/-
  Evaluation of closed runs, part R: a region that draws its order, evaluated. No conditions; no program.
  Evaluation of closed runs, part S: the facts of a region that draws its order, from its evaluation. No conditions; no program.
-/
import Derived.Test.YtmlhijlcefogmaaGreatDoorEvQ
set_option linter.unusedVariables false
set_option linter.unusedSimpArgs false
namespace Go.Proofs.YtmlhijlcefogmaaGreatDoor
namespace Ev

/-! ### Equality of values, as far as it is needed -/
def valEq : Value → Value → Bool
  | .pointer none, .pointer none => true
  | .slice none a b, .slice none c d => Nat.beq a c && Nat.beq b d
  | .map none, .map none => true
  | .nilFunc, .nilFunc => true
  | .nilIface, .nilIface => true
  | .float .f32 a, .float .f32 b => Nat.beq a b
  | .float .f64 a, .float .f64 b => Nat.beq a b
  | _, _ => false
def natsEq : List Nat → List Nat → Bool
  | [], [] => true
  | a :: l, b :: m => Nat.beq a b && natsEq l m
  | _, _ => false
def intEq : Int → Int → Bool
  | .ofNat a, .ofNat b => Nat.beq a b
  | .negSucc a, .negSucc b => Nat.beq a b
  | _, _ => false
def kindNo : IntKind → Nat
  | .i8 => 0 | .i16 => 1 | .i32 => 2 | .i64 => 3 | .u8 => 4 | .u16 => 5 | .u32 => 6 | .u64 => 7
def boolEq : Bool → Bool → Bool
  | true, true => true
  | false, false => true
  | _, _ => false
def atEq : V → V → Bool
  | .g a, .g b => valEq a b
  | .i k a, .i l b => Nat.beq (kindNo k) (kindNo l) && intEq a b
  | .b a, .b b => boolEq a b
  | .str a, .str b => natsEq a b
  | .p a b, .p c d => Nat.beq a c && Nat.beq b d
  | .s a b c d e f, .s a' b' c' d' e' f' => Nat.beq a a' && Nat.beq b b' && Nat.beq c c' && Nat.beq d d' && Nat.beq e e' && boolEq f f'
  | .m a, .m b => Nat.beq a b
  | .y a, .y b => Nat.beq a b
  | _, _ => false
def atsEq : List V → List V → Bool
  | [], [] => true
  | a :: l, b :: m => atEq a b && atsEq l m
  | _, _ => false
def vEq : V → V → Bool
  | .a l, .a m => atsEq l m
  | .t l, .t m => atsEq l m
  | .f (.func a) l, .f (.func b) m => Nat.beq a b && atsEq l m
  | a, b => atEq a b
theorem beqN {a b : Nat} (h : Nat.beq a b = true) : a = b := Nat.eq_of_beq_eq_true h
theorem boolEq_ok {a b : Bool} (h : boolEq a b = true) : a = b := by cases a <;> cases b <;> first | rfl | cases h
theorem valEq_ok {a b : Value} (h : valEq a b = true) : a = b := by
  unfold valEq at h
  split at h <;> first | rfl | (simp only [Bool.and_eq_true] at h; rw [beqN h.1, beqN h.2]) | (rw [beqN h]) | cases h
theorem natsEq_ok : ∀ {a b : List Nat}, natsEq a b = true → a = b := by
  intro a
  induction a with
  | nil => intro b h; cases b with | nil => rfl | cons _ _ => cases h
  | cons x a ih => intro b h; cases b with | nil => cases h | cons y b => simp only [natsEq, Bool.and_eq_true] at h; rw [beqN h.1, ih h.2]
theorem intEq_ok {a b : Int} (h : intEq a b = true) : a = b := by
  cases a <;> cases b <;> simp only [intEq] at h <;> first | (rw [beqN h]) | cases h
theorem kindNo_inj {a b : IntKind} (h : kindNo a = kindNo b) : a = b := by cases a <;> cases b <;> first | rfl | cases h
theorem atEq_ok {a b : V} (h : atEq a b = true) : a = b := by
  unfold atEq at h
  split at h
  · rw [valEq_ok h]
  · simp only [Bool.and_eq_true] at h; rw [kindNo_inj (beqN h.1), intEq_ok h.2]
  · rw [boolEq_ok h]
  · rw [natsEq_ok h]
  · simp only [Bool.and_eq_true] at h; rw [beqN h.1, beqN h.2]
  · simp only [Bool.and_eq_true] at h; obtain ⟨⟨⟨⟨⟨h1, h2⟩, h3⟩, h4⟩, h5⟩, h6⟩ := h; rw [beqN h1, beqN h2, beqN h3, beqN h4, beqN h5, boolEq_ok h6]
  · rw [beqN h]
  · rw [beqN h]
  · cases h
theorem atsEq_ok : ∀ {a b : List V}, atsEq a b = true → a = b := by
  intro a
  induction a with
  | nil => intro b h; cases b with | nil => rfl | cons _ _ => cases h
  | cons x a ih => intro b h; cases b with | nil => cases h | cons y b => simp only [atsEq, Bool.and_eq_true] at h; rw [atEq_ok h.1, ih h.2]
theorem vEq_ok {a b : V} (h : vEq a b = true) : a = b := by
  unfold vEq at h
  split at h
  · rw [atsEq_ok h]
  · rw [atsEq_ok h]
  · simp only [Bool.and_eq_true] at h; rw [beqN h.1, atsEq_ok h.2]
  · exact atEq_ok h

/-- Does an operation look at no block? -/
def noHeap : Op → Bool
  | .move _ | .assign _ | .pick .. | .build .. | .nilCheck _ | .makeFunc .. | .fieldAddr .. | .field .. | .indexAddr .. | .index .. | .extract .. | .makeInterface .. | .unOp .. | .typeAssert .. => true
  | .binOp op _ _ _ _ => match op with | .quo => false | _ => true
  | _ => false
theorem noHeap_ok {P : Program} {H H' : T O} {n : Nat} {F : T V} {o : Oper} (h : noHeap o.op = true) : evalOp P H n F o = evalOp P H' n F o := by
  rw [evalOp_eq, evalOp_eq]
  unfold evalS
  cases ho : o.op with
  | binOp op t x y z =>
    rw [ho] at h
    have hN : ∀ u v, op ≠ .quo → eNan op H n u v = eNan op H' n u v := fun u v hq => by unfold eNan; cases op <;> first | exact absurd rfl hq | rfl
    have hq : op ≠ .quo := fun e => by subst e; cases h
    simp only [hN _ _ hq]
  | _ => rw [ho] at h <;> first | rfl | cases h
/-- Does an operation lay one new block, whatever the heap? -/
def isAl : Op → Bool
  | .alloc _ | .box .. | .buildSlice .. | .makeSlice .. | .makeMap .. => true
  | _ => false

structure DSt where
  F : T V
  g : T O
  nn : Nat
  xs : List Nat
  al : List (Nat × T O)
noncomputable section
/-- Blocks that stood by themselves, laid into the heap. -/
def mergeK (n0 : Nat) (p : Nat → Bool) (al : List (Nat × T O)) (g : T O) : T O :=
  List.rec (motive := fun _ => T O → T O) (fun g => g) (fun a _ ih g => match p a.1 with | true => g.putK (n0 + a.1) (a.2.at (n0 + a.1)) fun g => ih g | false => ih g) al g
/-- Which operations stand ahead of one, as bits. -/
def maskOf (m : T Nat) (es : List Edge) : Nat :=
  List.rec (motive := fun _ => Nat) 0 (fun e _ ih => match Region.binds .any e with | true => Nat.lor (Nat.lor (Nat.shiftLeft 1 e.on) ((m.at e.on).getD 0)) ih | false => ih) es
def preGo : List Oper → Nat → T Nat → T Nat
  | [], _, m => m
  | o :: r, i, m => fN (maskOf m o.after.toList) fun x => m.putK i (some x) fun m => preGo r (i + 1) m
def preTab (ops : Array Oper) : T Nat := preGo ops.toList 0 .nil
def pre (m : T Nat) (i j : Nat) : Bool := Nat.testBit ((m.at i).getD 0) j
/-- Who writes a temporary. -/
def wrGo : List Oper → Nat → T Nat → Option (T Nat)
  | [], _, w => some w
  | o :: r, i, w => match o.dst with
    | none => wrGo r (i + 1) w
    | some t => match w.at t with
      | none => w.putK t (some i) fun w => wrGo r (i + 1) w
      | some _ => none
def statGo (ops : Array Oper) (m w : T Nat) : List Oper → Nat → Bool
  | [], _ => true
  | o :: r, i => (o.after.toList.all fun e => !Region.binds .any e || Nat.blt e.on i) && ((looks ops o).all fun t => match w.at t with | none => true | some j => pre m i j || pre m j i || Nat.beq j i) && statGo ops m w r (i + 1)
def statOk (ops : Array Oper) : Bool := match wrGo ops.toList 0 .nil with | none => false | some w => statGo ops (preTab ops) w ops.toList 0
end

theorem testBit_getD_mask (m : T Nat) (j : Nat) : ∀ (es : List Edge), Nat.testBit (maskOf m es) j = es.any fun e => Region.binds .any e && (e.on == j || Nat.testBit ((m.at e.on).getD 0) j) := by
  intro es
  induction es with
  | nil => simp [maskOf]
  | cons e es ih =>
    have h : maskOf m (e :: es) = (match Region.binds .any e with | true => Nat.lor (Nat.lor (Nat.shiftLeft 1 e.on) ((m.at e.on).getD 0)) (maskOf m es) | false => maskOf m es) := rfl
    rw [h, List.any_cons, ← ih]
    cases Region.binds .any e with
    | false => simp
    | true =>
      simp only [Bool.true_and]
      have e1 : Nat.lor (Nat.lor (Nat.shiftLeft 1 e.on) ((m.at e.on).getD 0)) (maskOf m es) = ((1 <<< e.on) ||| ((m.at e.on).getD 0)) ||| maskOf m es := rfl
      rw [e1, Nat.testBit_or, Nat.testBit_or, Nat.shiftLeft_eq, Nat.one_mul, Nat.testBit_two_pow]
      congr 2
theorem preGo_at : ∀ (l : List Oper) (i : Nat) (m : T Nat), (∀ k, k < i → (preGo l i m).at k = m.at k) ∧ (∀ k, i + l.length ≤ k → (preGo l i m).at k = m.at k) ∧ ∀ t o, l[t]? = some o → (∀ e ∈ o.after, Region.binds .any e = true → e.on < i + t) → (preGo l i m).at (i + t) = some (maskOf (preGo l i m) o.after.toList) := by
  intro l
  induction l with
  | nil => intro i m; exact ⟨fun _ _ => rfl, fun _ _ => rfl, fun t o h => by simp at h⟩
  | cons o r ih =>
    intro i m
    have hu : preGo (o :: r) i m = preGo r (i + 1) (m.put i (some (maskOf m o.after.toList))) := by rw [preGo, fN_eq, T.putK_eq]
    obtain ⟨h1, h2, h3⟩ := ih (i + 1) (m.put i (some (maskOf m o.after.toList)))
    rw [hu]
    refine ⟨fun k hk => ?_, fun k hk => ?_, fun t o' ht he => ?_⟩
    · rw [h1 k (by omega), T.at_put, if_neg (by omega)]
    · simp only [List.length_cons] at hk
      rw [h2 k (by omega), T.at_put, if_neg (by omega)]
    · cases t with
      | zero =>
        simp only [List.getElem?_cons_zero, Option.some.injEq] at ht
        subst ht
        rw [show i + 0 = i from rfl, h1 i (by omega), T.at_put, if_pos rfl]
        congr 1
        have hm : ∀ (es : List Edge), (∀ e ∈ es, Region.binds .any e = true → e.on < i) → maskOf m es = maskOf (preGo r (i + 1) (m.put i (some (maskOf m o.after.toList)))) es := by
          intro es
          induction es with
          | nil => intro _; rfl
          | cons e es ih2 =>
            intro hall
            have e1 := ih2 fun e' he' => hall e' (List.mem_cons_of_mem _ he')
            have e2 := hall e (List.mem_cons_self ..)
            have u1 : ∀ m : T Nat, maskOf m (e :: es) = (match Region.binds .any e with | true => Nat.lor (Nat.lor (Nat.shiftLeft 1 e.on) ((m.at e.on).getD 0)) (maskOf m es) | false => maskOf m es) := fun _ => rfl
            rw [u1 m, u1 (preGo r (i + 1) (m.put i (some (maskOf m o.after.toList)))), e1]
            cases hb : Region.binds .any e with
            | false => rfl
            | true =>
              simp only
              rw [h1 e.on (by have := e2 hb; omega), T.at_put, if_neg (by have := e2 hb; omega)]
        refine hm _ fun e he1 hb => ?_
        have := he e (by simpa using he1) hb
        omega
      | succ t =>
        have := h3 t o' (by simpa using ht) (fun e he1 hb => by have := he e he1 hb; omega)
        rw [show i + (t + 1) = i + 1 + t by omega]
        exact this
theorem pre_eq {ops : Array Oper} (hed : ∀ i o, ops[i]? = some o → ∀ e ∈ o.after, Region.binds .any e = true → e.on < i) : ∀ (i j f : Nat), i < f → pre (preTab ops) i j = preB ops f i j := by
  obtain ⟨h1, h2, h3⟩ := preGo_at ops.toList 0 .nil
  intro i
  induction i using Nat.strongRecOn with
  | _ i ih =>
    intro j f hf
    obtain ⟨f, rfl⟩ : ∃ f', f = f' + 1 := ⟨f - 1, by omega⟩
    simp only [preB]
    split
    · rename_i hn
      have : ops.size ≤ i := by simpa using hn
      unfold pre preTab
      rw [h2 i (by simpa using this), T.at_nil]
      simp
    · rename_i o ho
      have hi := h3 i o (by simpa using ho) (fun e he hb => by have := hed i o ho e he hb; omega)
      unfold pre
      rw [show preTab ops = preGo ops.toList 0 .nil from rfl]
      rw [Nat.zero_add] at hi
      rw [hi]
      simp only [Option.getD_some]
      rw [testBit_getD_mask]
      have hall : ∀ e ∈ o.after.toList, (Region.binds .any e && (e.on == j || Nat.testBit (((preGo ops.toList 0 .nil).at e.on).getD 0) j)) = (Region.binds .any e && (e.on == j || preB ops f e.on j)) := by
        intro e he
        cases hb : Region.binds .any e with
        | false => rfl
        | true =>
          have hlt := hed i o ho e (by simpa using he) hb
          have := ih e.on hlt j f (by omega)
          unfold pre at this
          rw [show preTab ops = preGo ops.toList 0 .nil from rfl] at this
          rw [this]
      generalize o.after.toList = l at hall
      induction l with
      | nil => rfl
      | cons a l ihl =>
        rw [List.any_cons, List.any_cons, hall a (List.mem_cons_self ..), ihl fun e he => hall e (List.mem_cons_of_mem _ he)]
theorem wrGo_ok : ∀ {l : List Oper} {i : Nat} {w w' : T Nat}, wrGo l i w = some w' → (∀ t j, w.at t = some j → w'.at t = some j) ∧ ∀ k o t, l[k]? = some o → o.dst = some t → w'.at t = some (i + k) := by
  intro l
  induction l with
  | nil => intro i w w' h; injection h with h; subst h; exact ⟨fun _ _ h => h, fun k o t h => by simp at h⟩
  | cons o r ih =>
    intro i w w' h
    unfold wrGo at h
    split at h
    · rename_i hd
      obtain ⟨a, b⟩ := ih h
      refine ⟨a, fun k o' t hk hd' => ?_⟩
      cases k with
      | zero => simp only [List.getElem?_cons_zero, Option.some.injEq] at hk; subst hk; rw [hd] at hd'; cases hd'
      | succ k => rw [show i + (k + 1) = i + 1 + k by omega]; exact b k o' t (by simpa using hk) hd'
    · rename_i t hd
      split at h
      · rename_i hn
        rw [T.putK_eq] at h
        obtain ⟨a, b⟩ := ih h
        refine ⟨fun t' j hj => a t' j ?_, fun k o' t' hk hd' => ?_⟩
        · rw [T.at_put, if_neg]
          · exact hj
          · intro e; subst e; rw [hn] at hj; cases hj
        · cases k with
          | zero =>
            simp only [List.getElem?_cons_zero, Option.some.injEq] at hk
            subst hk
            rw [hd] at hd'
            injection hd' with hd'
            subst hd'
            exact a _ _ (by rw [T.at_put, if_pos rfl]; rfl)
          | succ k => rw [show i + (k + 1) = i + 1 + k by omega]; exact b k o' t' (by simpa using hk) hd'
      · cases h
theorem statGo_ok {ops : Array Oper} {m w : T Nat} : ∀ {l : List Oper} {i : Nat}, statGo ops m w l i = true → ∀ k o, l[k]? = some o → (∀ e ∈ o.after, Region.binds .any e = true → e.on < i + k) ∧ ∀ t ∈ looks ops o, ∀ j, w.at t = some j → pre m (i + k) j = true ∨ pre m j (i + k) = true ∨ j = i + k := by
  intro l
  induction l with
  | nil => intro i _ k o h; simp at h
  | cons o r ih =>
    intro i h k o' hk
    simp only [statGo, Bool.and_eq_true] at h
    obtain ⟨⟨h1, h2⟩, h3⟩ := h
    cases k with
    | zero =>
      simp only [List.getElem?_cons_zero, Option.some.injEq] at hk
      subst hk
      refine ⟨fun e he hb => ?_, fun t ht j hj => ?_⟩
      · have := List.all_eq_true.1 h1 e (by simpa using he)
        rw [hb] at this
        simp only [Bool.not_true, Bool.false_or] at this
        exact blt_lt this
      · have := List.all_eq_true.1 h2 t ht
        rw [hj] at this
        simp only [Bool.or_eq_true] at this
        rcases this with (this | this) | this
        · exact .inl this
        · exact .inr (.inl this)
        · exact .inr (.inr (Nat.eq_of_beq_eq_true this))
    | succ k =>
      rw [show i + (k + 1) = i + 1 + k by omega]
      exact ih h3 k o' (by simpa using hk)
theorem statOk_ok {ops : Array Oper} (h : statOk ops = true) : (∀ i o, ops[i]? = some o → ∀ e ∈ o.after, Region.binds .any e = true → e.on < i) ∧
    (∀ i o j oj t, ops[i]? = some o → ops[j]? = some oj → oj.dst = some t → t ∈ looks ops o → preB ops ops.size i j = true ∨ preB ops ops.size j i = true ∨ j = i) ∧
    (∀ (i : Nat) (o : Oper) (j : Nat) (oj : Oper) (t : Tmp), ops[i]? = some o → ops[j]? = some oj → o.dst = some t → oj.dst = some t → i = j) := by
  unfold statOk at h
  split at h
  · cases h
  · rename_i w hw
    obtain ⟨_, a⟩ := wrGo_ok hw
    have b := statGo_ok h
    have hed : ∀ i o, ops[i]? = some o → ∀ e ∈ o.after, Region.binds .any e = true → e.on < i := fun i o ho e he hb => by
      have := (b i o (by simpa using ho)).1 e he hb
      omega
    refine ⟨hed, fun i o j oj t ho hoj hd ht => ?_, fun i o j oj t ho hoj hd hd' => ?_⟩
    · have hi : i < ops.size := (Array.getElem?_eq_some_iff.1 ho).1
      have h1 := a j oj t (by simpa using hoj) hd
      have h2 := (b i o (by simpa using ho)).2 t ht _ h1
      have hj : j < ops.size := (Array.getElem?_eq_some_iff.1 hoj).1
      rw [Nat.zero_add, Nat.zero_add] at h2
      rw [← pre_eq hed i j ops.size hi, ← pre_eq hed j i ops.size hj]
      exact h2
    · have h1 := a j oj t (by simpa using hoj) hd'
      have h2 := a i o t (by simpa using ho) hd
      rw [h1] at h2
      injection h2 with h2
      omega
end Ev
end Go.Proofs.YtmlhijlcefogmaaGreatDoor
namespace Go.Proofs.YtmlhijlcefogmaaGreatDoor
namespace Ev

noncomputable section
variable (P : Program) (cf : Callee') (lim : Nat) (pr : Nat → Nat → Bool) (ops : Array Oper) (nt n0 : Nat)
def merged (xs : List Nat) (j : Nat) : Bool := xs.any fun x => pr x j
def stepHv (i : Nat) (o : Oper) (s : DSt) (v : V) (g' : T O) (n' : Nat) : Option (RR × DSt) :=
  match Nat.ble s.nn n' && Nat.blt n' lim, putT nt s.F o.dst v with
  | true, some F => some (.hv v, ⟨F, g', n', s.xs ++ [i], s.al⟩)
  | _, _ => none
def ktOf (i : Nat) (s : DSt) : T O := mergeK n0 (fun j => pr i j && !merged pr s.xs j) s.al s.g
def stepD (i : Nat) (o : Oper) (s : DSt) : Option (RR × DSt) :=
  match wantedA ops s.F o with
  | none => none
  | some false => match putT nt s.F o.dst undefV with | some F => some (.lt undefV, ⟨F, s.g, s.nn, s.xs, s.al⟩) | none => none
  | some true => match isAl o.op with
    | true => match evalOp P .nil (n0 + i) s.F o with
      | some (.val v H n') => match Nat.beq n' (n0 + i + 1), putT nt s.F o.dst v with
        | true, some F => some (.al H v, ⟨F, s.g, s.nn, s.xs, (i, H) :: s.al⟩)
        | _, _ => none
      | _ => none
    | false => match evalOp P s.g (lim - 1) s.F o with
      | some (.lt v) => match putT nt s.F o.dst v with | some F => some (.lt v, ⟨F, s.g, s.nn, s.xs, s.al⟩) | none => none
      | _ => match evalOp P (ktOf pr n0 i s) s.nn s.F o with
        | some (.val v g' n') => stepHv lim nt i o s v g' n'
        | some (.call f args) => match cf f args (ktOf pr n0 i s) s.nn with
          | some (v, g', n') => stepHv lim nt i o s v g' n'
          | none => none
        | _ => none
def runD : List Oper → Nat → DSt → Option (List (RR × DSt) × DSt)
  | [], _, s => some ([], s)
  | o :: r, i, s => match stepD P cf lim pr ops nt n0 i o s with
    | none => none
    | some (k, s') => match runD r (i + 1) s' with
      | none => none
      | some (l, f) => some ((k, s) :: l, f)
end
def stAt (es : List (RR × DSt)) (f : DSt) (i : Nat) : DSt := match es[i]? with | some e => e.2 | none => f
def kdAt (es : List (RR × DSt)) (i : Nat) : RR := match es[i]? with | some e => e.1 | none => .lt undefV
def xAt (xs : List Nat) (k : Nat) : Nat := xs.getD (k - 1) 0
def gAt (es : List (RR × DSt)) (f : DSt) (k : Nat) : T O := match k with | 0 => (stAt es f 0).g | k + 1 => (stAt es f (xAt f.xs (k + 1) + 1)).g
def nnAt (es : List (RR × DSt)) (f : DSt) (k : Nat) : Nat := match k with | 0 => (stAt es f 0).nn | k + 1 => (stAt es f (xAt f.xs (k + 1) + 1)).nn
def stOf (pr : Nat → Nat → Bool) (xs : List Nat) (j : Nat) : Nat := xs.findIdx (fun x => pr x j) + 1
noncomputable section
variable (P : Program) (lim : Nat) (pr : Nat → Nat → Bool) (ops : Array Oper) (n0 : Nat)
def ordOk : List Nat → Bool
  | [] => true
  | x :: xs => (xs.all fun y => pr y x) && ordOk xs
def allowed (xs : List Nat) (i s : Nat) : Bool := (List.range xs.length).all fun k => (!pr i (xAt xs (k + 1)) || Nat.ble (k + 1) s) && (!pr (xAt xs (k + 1)) i || Nat.blt s (k + 1))
def winOne (es : List (RR × DSt)) (f : DSt) (i : Nat) (o : Oper) : Bool :=
  noHeap o.op || match kdAt es i with
    | .lt v => match wantedA ops (stAt es f i).F o with
      | some false => true
      | _ => (List.range (f.xs.length + 1)).all fun s => Nat.beq s (stAt es f i).xs.length || !allowed pr f.xs i s || match evalOp P (gAt es f s) (lim - 1) (stAt es f i).F o with | some (.lt v') => vEq v' v | _ => false
    | _ => true
def winOk (es : List (RR × DSt)) (f : DSt) : List Oper → Nat → Bool
  | [], _ => true
  | o :: r, i => winOne P lim pr ops es f i o && winOk es f r (i + 1)
def alOk (es : List (RR × DSt)) (f : DSt) : Bool := f.al.all fun a => (List.range (f.xs.length + 1)).all fun s => Nat.ble (stOf pr f.xs a.1) s || ((gAt es f s).at (n0 + a.1)).isNone
def dynOk (es : List (RR × DSt)) (f : DSt) : Bool :=
  Nat.blt f.nn lim && alOk pr n0 es f && match f.xs with | [] => true | _ => ordOk pr f.xs && winOk P lim pr ops es f ops.toList 0
end

section
variable {P : Program} {cf : Callee'} {lim : Nat} {pr : Nat → Nat → Bool} {ops : Array Oper} {nt n0 : Nat}
theorem runD_spec : ∀ {l : List Oper} {i : Nat} {s : DSt} {es : List (RR × DSt)} {f : DSt}, runD P cf lim pr ops nt n0 l i s = some (es, f) →
    es.length = l.length ∧ stAt es f 0 = s ∧ ∀ t o, l[t]? = some o → stepD P cf lim pr ops nt n0 (i + t) o (stAt es f t) = some (kdAt es t, stAt es f (t + 1)) := by
  intro l
  induction l with
  | nil => intro i s es f h; injection h with h; injection h with h1 h2; subst h1 h2; exact ⟨rfl, rfl, fun t o h => by simp at h⟩
  | cons o r ih =>
    intro i s es f h
    simp only [runD] at h
    split at h
    · cases h
    · rename_i k s' hs
      split at h
      · cases h
      · rename_i l' f' hr
        injection h with h
        injection h with h1 h2
        subst h1 h2
        obtain ⟨a, b, c⟩ := ih hr
        refine ⟨by simp [a], rfl, fun t o' ht => ?_⟩
        cases t with
        | zero =>
          simp at ht
          subst ht
          have : stAt ((k, s) :: l') f' (0 + 1) = stAt l' f' 0 := by simp [stAt]
          rw [this, b]
          exact hs
        | succ t =>
          simp at ht
          have := c t o' ht
          have e1 : ∀ t, stAt ((k, s) :: l') f' (t + 1) = stAt l' f' t := fun t => by simp [stAt]
          have e2 : kdAt ((k, s) :: l') (t + 1) = kdAt l' t := by simp [kdAt]
          rw [e1, e1, e2, show i + (t + 1) = i + 1 + t by omega]
          exact this
theorem stepD_inv {i : Nat} {o : Oper} {s s' : DSt} {k : RR} (h : stepD P cf lim pr ops nt n0 i o s = some (k, s')) :
    putT nt s.F o.dst k.val = some s'.F ∧ ((wantedA ops s.F o = some false ∧ k = .lt undefV ∧ s'.g = s.g ∧ s'.nn = s.nn ∧ s'.xs = s.xs ∧ s'.al = s.al) ∨
    (wantedA ops s.F o = some true ∧ ((∃ v, k = .lt v ∧ s'.g = s.g ∧ s'.nn = s.nn ∧ s'.xs = s.xs ∧ s'.al = s.al ∧ evalOp P s.g (lim - 1) s.F o = some (.lt v)) ∨
    (∃ H v, k = .al H v ∧ s'.g = s.g ∧ s'.nn = s.nn ∧ s'.xs = s.xs ∧ s'.al = (i, H) :: s.al ∧ evalOp P .nil (n0 + i) s.F o = some (.val v H (n0 + i + 1))) ∨
    (∃ v, k = .hv v ∧ s'.xs = s.xs ++ [i] ∧ s'.al = s.al ∧ s.nn ≤ s'.nn ∧ s'.nn < lim ∧ (evalOp P (ktOf pr n0 i s) s.nn s.F o = some (.val v s'.g s'.nn) ∨ ∃ f args, evalOp P (ktOf pr n0 i s) s.nn s.F o = some (.call f args) ∧ cf f args (ktOf pr n0 i s) s.nn = some (v, s'.g, s'.nn)))))) := by
  have hhv : ∀ {v : V} {g' : T O} {n' : Nat}, stepHv lim nt i o s v g' n' = some (k, s') → k = .hv v ∧ s'.g = g' ∧ s'.nn = n' ∧ s'.xs = s.xs ++ [i] ∧ s'.al = s.al ∧ s.nn ≤ s'.nn ∧ s'.nn < lim ∧ putT nt s.F o.dst v = some s'.F := by
    intro v g' n' h
    unfold stepHv at h
    split at h
    · rename_i F hb hF
      simp only [Bool.and_eq_true] at hb
      injection h with h
      injection h with h1 h2
      subst h1 h2
      exact ⟨rfl, rfl, rfl, rfl, rfl, Nat.le_of_ble_eq_true hb.1, blt_lt hb.2, hF⟩
    · cases h
  unfold stepD at h
  split at h
  · cases h
  · rename_i hw
    split at h
    · rename_i F hF
      injection h with h
      injection h with h1 h2
      subst h1 h2
      exact ⟨hF, .inl ⟨hw, rfl, rfl, rfl, rfl, rfl⟩⟩
    · cases h
  · rename_i hw
    split at h
    · split at h
      · rename_i v H n' he
        split at h
        · rename_i F hb hF
          injection h with h
          injection h with h1 h2
          subst h1 h2
          have := Nat.eq_of_beq_eq_true hb
          subst this
          exact ⟨hF, .inr ⟨hw, .inr (.inl ⟨H, v, rfl, rfl, rfl, rfl, rfl, he⟩)⟩⟩
        · cases h
      · cases h
    · split at h
      · rename_i v he
        split at h
        · rename_i F hF
          injection h with h
          injection h with h1 h2
          subst h1 h2
          exact ⟨hF, .inr ⟨hw, .inl ⟨v, rfl, rfl, rfl, rfl, rfl, he⟩⟩⟩
        · cases h
      · split at h
        · rename_i v g' n' he
          obtain ⟨rfl, e1, e2, e3, e4, e5, e6, e7⟩ := hhv h
          exact ⟨e7, .inr ⟨hw, .inr (.inr ⟨v, rfl, e3, e4, e5, e6, .inl (by rw [he, e1, e2])⟩)⟩⟩
        · rename_i f args he
          split at h
          · rename_i v g' n' hc
            obtain ⟨rfl, e1, e2, e3, e4, e5, e6, e7⟩ := hhv h
            exact ⟨e7, .inr ⟨hw, .inr (.inr ⟨v, rfl, e3, e4, e5, e6, .inr ⟨f, args, he, by rw [hc, e1, e2]⟩⟩)⟩⟩
          · cases h
        · cases h
theorem mergeK_at (n0 : Nat) (p : Nat → Bool) : ∀ (al : List (Nat × T O)) (g : T O), (∀ j H H', (j, H) ∈ al → (j, H') ∈ al → H = H') → ∀ b,
    (∀ j H, (j, H) ∈ al → p j = true → b = n0 + j → (mergeK n0 p al g).at b = H.at b) ∧ ((∀ j H, (j, H) ∈ al → p j = true → b ≠ n0 + j) → (mergeK n0 p al g).at b = g.at b) := by
  intro al
  induction al with
  | nil => intro g _ b; exact ⟨fun j H h => (by cases h), fun _ => rfl⟩
  | cons a al ih =>
    intro g hf b
    have hu : mergeK n0 p (a :: al) g = (match p a.1 with | true => mergeK n0 p al (g.put (n0 + a.1) (a.2.at (n0 + a.1))) | false => mergeK n0 p al g) := by
      have : mergeK n0 p (a :: al) g = (match p a.1 with | true => g.putK (n0 + a.1) (a.2.at (n0 + a.1)) fun g => mergeK n0 p al g | false => mergeK n0 p al g) := rfl
      rw [this]
      cases p a.1 with
      | true => simp only [T.putK_eq]
      | false => rfl
    rw [hu]
    have hf' : ∀ j H H', (j, H) ∈ al → (j, H') ∈ al → H = H' := fun j H H' h1 h2 => hf j H H' (List.mem_cons_of_mem _ h1) (List.mem_cons_of_mem _ h2)
    cases hp : p a.1 with
    | false =>
      simp only
      obtain ⟨h1, h2⟩ := ih g hf' b
      refine ⟨fun j H hm hj hb => ?_, fun hno => h2 fun j H hm => hno j H (List.mem_cons_of_mem _ hm)⟩
      rcases List.mem_cons.1 hm with e | hm
      · rw [← e] at hp; rw [hj] at hp; cases hp
      · exact h1 j H hm hj hb
    | true =>
      simp only
      obtain ⟨h1, h2⟩ := ih (g.put (n0 + a.1) (a.2.at (n0 + a.1))) hf' b
      refine ⟨fun j H hm hj hb => ?_, fun hno => ?_⟩
      · by_cases hin : ∃ H', (j, H') ∈ al
        · obtain ⟨H', hH'⟩ := hin
          rw [h1 j H' hH' hj hb, hf j H H' hm (List.mem_cons_of_mem _ hH')]
        · rcases List.mem_cons.1 hm with e | hm
          · subst e
            have hno : ∀ j' H', (j', H') ∈ al → p j' = true → b ≠ n0 + j' := fun j' H' hm' hj' hb' => hin ⟨H', (show j' = j by omega) ▸ hm'⟩
            rw [h2 hno]
            rw [T.at_put, if_pos hb, hb]
          · exact absurd ⟨H, hm⟩ hin
      · rw [h2 fun j H hm => hno j H (List.mem_cons_of_mem _ hm), T.at_put, if_neg]
        exact hno a.1 a.2 (List.mem_cons_self ..) hp
theorem ordOk_ok {xs : List Nat} (h : ordOk pr xs = true) : ∀ i j, i < j → j < xs.length → pr (xs.getD j 0) (xs.getD i 0) = true := by
  induction xs with
  | nil => intro i j _ h; simp at h
  | cons x xs ih =>
    simp only [ordOk, Bool.and_eq_true] at h
    intro i j hij hj
    obtain ⟨j, rfl⟩ : ∃ j', j = j' + 1 := ⟨j - 1, by omega⟩
    simp only [List.length_cons] at hj
    have hg : (x :: xs).getD (j + 1) 0 = xs.getD j 0 := by simp
    rw [hg]
    cases i with
    | zero =>
      have : xs.getD j 0 ∈ xs := by rw [List.getD_eq_getElem?_getD, List.getElem?_eq_getElem (by omega)]; exact List.getElem_mem _
      exact List.all_eq_true.1 h.1 _ this
    | succ i =>
      have hg2 : (x :: xs).getD (i + 1) 0 = xs.getD i 0 := by simp
      rw [hg2]
      exact ih h.2 i j (by omega) (by omega)
theorem winOk_ok {es : List (RR × DSt)} {f : DSt} : ∀ {l : List Oper} {i : Nat}, winOk P lim pr ops es f l i = true → ∀ k o, l[k]? = some o → winOne P lim pr ops es f (i + k) o = true := by
  intro l
  induction l with
  | nil => intro i _ k o h; simp at h
  | cons o r ih =>
    intro i h k o' hk
    simp only [winOk, Bool.and_eq_true] at h
    cases k with
    | zero => simp only [List.getElem?_cons_zero, Option.some.injEq] at hk; subst hk; exact h.1
    | succ k => rw [show i + (k + 1) = i + 1 + k by omega]; exact ih h.2 k o' (by simpa using hk)
theorem stOf_le {xs : List Nat} {j k : Nat} (h1 : 1 ≤ k) (h2 : k ≤ xs.length) (h : pr (xAt xs k) j = true) : stOf pr xs j ≤ k := by
  unfold stOf
  rcases Nat.lt_or_ge (k - 1) (xs.findIdx fun x => pr x j) with h3 | h3
  · have := List.not_of_lt_findIdx h3
    unfold xAt at h
    rw [List.getD_eq_getElem?_getD, List.getElem?_eq_getElem (by omega)] at h
    simp only [Option.getD_some] at h
    rw [h] at this
    cases this
  · omega
theorem stOf_pr {xs : List Nat} {j : Nat} (h : stOf pr xs j ≤ xs.length) : pr (xAt xs (stOf pr xs j)) j = true := by
  unfold stOf at h ⊢
  have hlt : (xs.findIdx fun x => pr x j) < xs.length := by omega
  have := List.findIdx_getElem (w := hlt)
  unfold xAt
  rw [Nat.add_sub_cancel, List.getD_eq_getElem?_getD, List.getElem?_eq_getElem hlt]
  exact this
end
end Ev
end Go.Proofs.YtmlhijlcefogmaaGreatDoor
