/-
  Values of several cells in the steps of a walk: loads, '==', zero values; regions that draw their order and only read, but for calls that leave alone what lay. Over any program; conditions as each says.
  Ids, refs and keys of the program: compared cell by cell; read from what came in. Conditions: the values are well formed, as each says.
  What layer 7's predicates say, as plain functions on a string's bytes and runes. No conditions; no program.
  Objects as data: which may be, their bytes, what bytes are read as; what is written is read, what is read was written so, and no object's bytes begin another's. No conditions; no program runs here.
-/
import Derived.Test.YthjaepmfkgejkaaGreatDoorMerged2
import Derived.BigQuiet
import Derived.DeepKeys4
import Derived.Maps.Own
import Derived.Laws.StructEq
import Derived.Test.YthjaepmfkgejkaaGreatDoorProg
import Derived.Test.YthjaepmfkgejkaaGreatDoorMerged1
import Derived.Lib.Split
import Derived.Lib.SplitLaws
import Derived.Lib.ItoaNum
set_option linter.unusedVariables false
set_option maxRecDepth 100000
namespace Go.Proofs.YthjaepmfkgejkaaGreatDoor
open Go.RowKit
theorem u6 {α β : Type} {f : α → Option β} : ∀ {l : List α}, (∀ x ∈ l, ∃ y, f x = some y) → ∃ ys, l.mapM f = some ys
  | [], _ => ⟨[], rfl⟩
  | x :: l, h => by
    obtain ⟨y, hy⟩ := h x (by simp)
    obtain ⟨ys, hys⟩ := u6 (l := l) fun z hz => h z (by simp [hz])
    exact ⟨y :: ys, by simp [List.mapM_cons, hy, hys]⟩
def Kb (P : Program) (n : Nat) (t : TypeId) (cs : List Value) : Prop := ∀ d, n ≤ d → ∃ l, P.keyLits d t cs = some l
section
variable {P : Program} {t e : TypeId} {m n : Nat} {cs : List Value}
theorem qa {k : IntKind} {z : Int} (hu : P.underlying t = some (.int k)) (hw : (Lit.int k z).wf = true) : Kb P 1 t [.int k z] := by
  intro d hd
  cases d with
  | zero => omega
  | succ d => exact ⟨_, by simp [Program.keyLits, hu, hw]; rfl⟩
theorem kb_str {s : ByteArray} (hu : P.underlying t = some .string) (hs : s.size ≤ maxLen) : Kb P 1 t [.string s] := by
  intro d hd
  cases d with
  | zero => omega
  | succ d => exact ⟨_, by simp [Program.keyLits, hu, hs]; rfl⟩
theorem kb_arr (hu : P.underlying t = some (.array n e)) (hl : cs.length = P.cellsOf t) (h : ∀ i, i < n → Kb P m e ((cs.drop (i * P.cellsOf e)).take (P.cellsOf e))) : Kb P (m + 1) t cs := by
  intro d hd
  cases d with
  | zero => omega
  | succ d =>
    obtain ⟨ys, hys⟩ := u6 (l := List.range n) (f := fun i => P.keyLits d e ((cs.drop (i * P.cellsOf e)).take (P.cellsOf e))) fun i hi => h i (by simpa using hi) d (by omega)
    exact ⟨_, by simp only [Program.keyLits, hu, hl, if_true, hys]; rfl⟩
theorem UF {fs : Array Field} (hu : P.underlying t = some (.struct fs)) (hl : cs.length = P.cellsOf t) (hn : fs.all (·.name != "_") = true) (h : ∀ f ∈ fs.toList, Kb P m f.type ((cs.drop f.offset).take (P.cellsOf f.type))) : Kb P (m + 1) t cs := by
  intro d hd
  cases d with
  | zero => omega
  | succ d =>
    obtain ⟨ys, hys⟩ := u6 (l := fs.toList) (f := fun f => P.keyLits d f.type ((cs.drop f.offset).take (P.cellsOf f.type))) fun f hf => h f hf d (by omega)
    exact ⟨_, by simp only [Program.keyLits, hu, hl, hn, and_self, if_true, hys]; rfl⟩
structure EqT (P : Program) (t : TypeId) (m : Nat) : Prop where
  laid : laidOutB P = true
  few : P.types.size + 2 ≤ 10000
  row : t < P.types.size
  key : P.keyType t = true
  wide : (match P.underlying t with | some (.array _ _) | some (.struct _) => true | _ => false) = true
  deep : m ≤ P.types.size + 1
  noGuard : P.eqGuardType P.depth t = false
theorem EqT.keyed (E : EqT P t m) : Maps.Keyed P t := Maps.Keyed.of_law (deep_law_laid E.laid (m := P.types.size + 1) E.few E.row E.key E.wide)
theorem EqT.is (E : EqT P t m) (hl : cs.length = P.cellsOf t) (h : Kb P m t cs) : ∃ l, keyOf P t (.agg cs.toArray) = some l := by
  obtain ⟨l, hl2⟩ := h (P.types.size + 1) E.deep
  have hw := E.wide
  have hf : (Value.agg cs.toArray).formed P t = true := by
    unfold Value.formed
    split at hw <;> simp_all
  have hc : (P.keyLits (P.types.size + 1) t (Value.agg cs.toArray).cells.toList).map (fun ls => Lit.string (keyBytes ls)) = some (.string (keyBytes l)) := by
    rw [show (Value.agg cs.toArray).cells.toList = cs from rfl, hl2]; rfl
  refine ⟨.string (keyBytes l), ?_⟩
  unfold keyOf
  split at hw
  · rename_i hu; simp only [hu, E.key, hf, Bool.and_self, if_true]; exact hc
  · rename_i hu; simp only [hu, E.key, hf, Bool.and_self, if_true]; exact hc
  · cases hw
theorem EqT.run (E : EqT P t m) {α : Type} [DecidableEq α] (enc : α → List Value) (hinj : ∀ a b, enc a = enc b → a = b) {a b : α} (la : (enc a).length = P.cellsOf t) (lb : (enc b).length = P.cellsOf t) (ha : Kb P m t (enc a)) (hb : Kb P m t (enc b)) (w : World) :
    (Op.equalIn 10000 t (.agg (enc a).toArray) (.agg (enc b).toArray)).run P w = .ok (decide (a = b)) w := by
  obtain ⟨ka, ha⟩ := E.is la ha
  obtain ⟨kb, hb⟩ := E.is lb hb
  obtain ⟨r, hr, hiff⟩ := run_equal_deep w (m := P.types.size + 1) (by have := E.few; omega) E.key E.wide ha hb
  have h2 : (Op.equalIn 10000 t (.agg (enc a).toArray) (.agg (enc b).toArray)).run P w = .ok r w := hr
  rw [h2]
  congr 1
  rw [Bool.eq_iff_iff, hiff, decide_eq_true_eq]
  constructor
  ·
   intro h
   have := E.keyed.inj ha (by rw [h]; exact hb)
   injection this with this
   exact hinj _ _ (by have := congrArg Array.toList this; simpa using this)
  · rintro rfl
    rw [ha] at hb
    exact Option.some.inj hb
end
section
variable {P : Program} {ρ : Operand → Value} {o : Oper} {w : World}
theorem kd (ty : TypeId) (x : Operand) (ho : o.op = .load ty x) {p : Addr} (hx : ρ x = .pointer (some p)) {v : Value} (h : (loadVar ty p).run P w = .ok v w) : (execOp ρ o).run P w = .ok (.value v) w := by
  unfold execOp
  simp only [ho, hx, Instr.loadAt, Instr.sureAddr, Sem.run_bind, Sem.run_pure, Result.andThen_ok, h]
theorem Kc (t t' : TypeId) (x y : Operand) (ho : o.op = .binOp .eql t x y t') {xs ys : Array Value} (hx : ρ x = .agg xs) (hy : ρ y = .agg ys) {r : Bool} (hg : P.eqGuardType P.depth t = false)
    (h : (Op.equalIn 10000 t (.agg xs) (.agg ys)).run P w = .ok r w) : (execOp ρ o).run P w = .ok (.value (.bool r)) w := by
  unfold execOp
  simp only [ho, hx, hy, Sem.run_bind, run_eqGuard_agg w _ _ _ _ _ _ hg, Result.andThen_ok, run_eql_struct, h, Sem.run_pure]
theorem jc (t t' : TypeId) (x y : Operand) (ho : o.op = .binOp .neq t x y t') {xs ys : Array Value} (hx : ρ x = .agg xs) (hy : ρ y = .agg ys) {r : Bool} (hg : P.eqGuardType P.depth t = false)
    (h : (Op.equalIn 10000 t (.agg xs) (.agg ys)).run P w = .ok r w) : (execOp ρ o).run P w = .ok (.value (.bool (!r))) w := by
  unfold execOp
  simp only [ho, hx, hy, Sem.run_bind, run_eqGuard_agg w _ _ _ _ _ _ hg, Result.andThen_ok, run_neq_struct, h, Sem.run_pure]
theorem kF (t : TypeId) (ps : Array (Nat × Operand)) (ho : o.op = .build t ps) {v : Value} (h : (Instr.build t (ps.map fun (i, x) => (i, ρ x))).run P w = .ok v w) : (execOp ρ o).run P w = .ok (.value v) w := by
  unfold execOp
  simp only [ho, Sem.run_bind, h, Result.andThen_ok, Sem.run_pure]
end
section
variable {P : Program} {o : Oper} {a : Act} {v : Value}
theorem jg {C : World → Prop} {K : Act → Prop} (h : ∀ w, C w → (execOp a.eval o).run P w = .ok (.value v) w) (hk : K (a.put o.dst v)) : o.quiet P a C K :=
  ⟨v, fun w hw => by unfold Oper.quietAt; rw [h w hw]; exact ⟨rfl, rfl⟩, hk⟩
theorem k9 {ops : Array Oper} {rest : List Oper} {w : World} {Q : Exit → Act → World → Prop} (hw : Region.wanted o (yielded ops a.tmps) = true) (h : (execOp a.eval o).run P w = .ok (.value v) w) (hk : wpList P ops Q rest (a.put o.dst v) w) : wpList P ops Q (o :: rest) a w :=
  BigFrame.wpList_want hw fun K hK => by
    have := hK _ _ hk
    unfold Oper.wp
    rw [h]
    exact this
end
def Wd (base : Nat) (w : World) : Type := { w' : World // Below base w w' }
instance (base : Nat) (w : World) : Nonempty (Wd base w) := ⟨⟨w, Below.refl _ _⟩⟩
theorem Wd.cell {base : Nat} {w : World} {b o : Nat} {v : Value} (hc : w.cell? ⟨b, o, none⟩ = some v) (hb : b < base) : ∀ n : Wd base w, n.val.cell? ⟨b, o, none⟩ = some v := fun n => (n.2.cell (p := ⟨b, o, none⟩) hb).trans hc
theorem Wd.row {base : Nat} {w : World} {b o : Nat} {cs : List Value} (hc : ∀ j u, cs[j]? = some u → w.cell? ⟨b, o + j, none⟩ = some u) (hb : b < base) : ∀ w', (∃ n : Wd base w, w' = n.val) → ∀ j u, cs[j]? = some u → w'.cell? ⟨b, o + j, none⟩ = some u := by
  rintro w' ⟨n, rfl⟩ j u hu
  exact Wd.cell (hc j u hu) hb n
theorem Wd.call {base : Nat} {w : World} {P : Program} {f : FuncId} {args : Array Value} {v : Value} (h : ∀ w', Below base w w' → Calls P f args w' fun e w'' => Below w'.heap.size w' w'' ∧ e = .returned v) (hbs : base ≤ w.heap.size) (n : Wd base w) :
    Calls P f args n.val fun e w'' => e = .returned v ∧ ∃ m : Wd base w, w'' = m.val :=
  (h n.val n.2).mono fun e w'' ⟨hb, he⟩ => ⟨he, ⟨w'', n.2.trans (hb.mono (Nat.le_trans hbs n.2.size))⟩, rfl⟩
theorem jW {P : Program} {id : Nat} {Q : Exit → Act → World → Prop} {a : Act} {w : World} {l : List Oper} {base : Nat} (w0 : World) (hb : Below base w0 w) (hm : P.follows .mixedOrders = true) (hB : Region.lexB .any l.toArray = true)
    (h : wpQuiet P l.toArray (fun w' => ∃ n : Wd base w0, w' = n.val) (fun a' => ∀ w', (∃ n : Wd base w0, w' = n.val) → Q .normal a' w') l a) : (Code.region id l.toArray true).wp P Q a w :=
  wp_region_quiet (C := fun w' => ∃ n : Wd base w0, w' = n.val) hm hB ⟨⟨_, hb.drew⟩, rfl⟩ (by simpa using h)
end Go.Proofs.YthjaepmfkgejkaaGreatDoor
namespace Go.Proofs.YthjaepmfkgejkaaGreatDoor
open Go.RowKit
theorem cut_end {α : Type} {a b : List α} {n m : Nat} (ha : a.length = n) (hb : b.length = m) : ((a ++ b).drop n).take m = b := by
  subst ha; subst hb
  simp
def zero32 : List UInt8 := List.replicate 32 0
theorem zM : Kw zero32 := by simp [Kw, zero32]
section
variable {P : Program} {t u i a : TypeId}
theorem kb_id (ht : P.underlying t = some (.array 32 u)) (hu : P.underlying u = some (.int .u8)) (hc : P.cellsOf u = 1) (hct : P.cellsOf t = 32) {l : List UInt8} (hl : Kw l) : Kb P 2 t (idV l) := by
  have hln : (idV l).length = 32 := by rw [km]; exact hl
  refine kb_arr ht (by rw [hct, hln]) fun j hj => ?_
  rw [hc, Nat.mul_one, List.drop_eq_getElem_cons (by omega), List.take_succ_cons, List.take_zero]
  have hlj : j < l.length := by rw [hl]; exact hj
  rw [show (idV l)[j]'(by omega) = .int .u8 ((l[j]'hlj).toNat : Int) by simp [idV]]
  refine qa hu ?_
  simp only [Lit.wf, IntKind.min, IntKind.max, IntKind.signed, IntKind.bits, Bool.and_eq_true]
  have := (l[j]'hlj).toNat_lt
  simp
  omega
end
abbrev za := List UInt8 × Int
def kf (r : za) : List Value := idV r.1 ++ [.int .i64 r.2]
def zb (r : za) : Prop := Kw r.1 ∧ (Lit.int .i64 r.2).wf = true
theorem k8 {r : za} (h : zb r) : (kf r).length = 33 := by
  have := h.1
  unfold Kw at this
  simp [kf, idV, this]
theorem refV_inj {a b : za} (h : kf a = kf b) : a = b := by
  unfold kf at h
  have hl := congrArg List.length h
  simp only [List.length_append, List.length_singleton] at hl
  obtain ⟨h3, h4⟩ := List.append_inj h (by omega)
  simp only [List.cons.injEq, Value.int.injEq, true_and, and_true] at h4
  exact Prod.ext (idV_inj h3) h4
theorem jO (r : za) : ∀ u ∈ kf r, u.oneCell' = true := by
  intro u hu
  rcases List.mem_append.1 hu with hu | hu
  · exact kT _ u hu
  · simp at hu; subst hu; rfl
theorem uC : Tryz.prog.cellsOf 47 = 32 := by kernel_rfl
theorem qb : Tryz.prog.cellsOf 5 = 1 := by kernel_rfl
theorem cellsInt : Tryz.prog.cellsOf 3 = 1 := by kernel_rfl
theorem cellsStr : Tryz.prog.cellsOf 9 = 1 := by kernel_rfl
theorem kbId {l : List UInt8} (hl : Kw l) : Kb Tryz.prog 2 47 (idV l) := kb_id Tryz.underlying47 Tryz.underlying5 qb uC hl
theorem eqId : EqT Tryz.prog 47 2 := ⟨by kernel_rfl, of_decide_eq_true (by kernel_rfl), of_decide_eq_true (by kernel_rfl), by kernel_rfl, by kernel_rfl, of_decide_eq_true (by kernel_rfl), by kernel_rfl⟩
theorem zV {a b : List UInt8} (ha : Kw a) (hb : Kw b) (w : World) : (Op.equalIn 10000 47 (.agg (idV a).toArray) (.agg (idV b).toArray)).run Tryz.prog w = .ok (decide (a = b)) w :=
  eqId.run idV (fun _ _ => idV_inj) (by rw [km, uC]; exact ha) (by rw [km, uC]; exact hb) (kbId ha) (kbId hb) w
end Go.Proofs.YthjaepmfkgejkaaGreatDoor
namespace Go.Proofs.YthjaepmfkgejkaaGreatDoor
def jD (r : Nat) : Bool := decide (32 ≤ r) && !(r == 127)
def jS (s : ByteArray) (p : Nat → Bool) : Bool := match Ki s with
  | some l => l.all p
  | none => false
def zg (s : ByteArray) : Bool := decide (1 ≤ s.size) && decide (s.size ≤ 32) && jS s jD
def JC (s : ByteArray) : Bool := decide (s.size ≤ 256) && K1 s
def jT : List UInt8 → List (List UInt8)
  | [] => [[]]
  | c :: l => if c = 47 then [] :: jT l else match jT l with
    | p :: ps => (c :: p) :: ps
    | [] => [[c]]
def Kt (p : List UInt8) : Bool := !decide (p = []) && !decide (p = [46]) && !decide (p = [46, 46])
def zf (s : ByteArray) : Bool := decide (1 ≤ s.size) && decide (s.size ≤ 64) && jS s jD && (jT (L s)).all Kt
def qc (a b : List UInt8) : Bool := (a ++ [47]).isPrefixOf b
def clashB (a b : List UInt8) : Bool := decide (a = b) || qc a b || qc b a
theorem ul {l : List UInt8} (h : (47 : UInt8) ∉ l) : jT l = [l] := by
  induction l with
  | nil => rfl
  | cons c l ih =>
    simp only [List.mem_cons, not_or] at h
    rw [jT, if_neg (fun e => h.1 e.symm), ih h.2]
theorem uM {a b : List UInt8} (h : (47 : UInt8) ∉ a) : jT (a ++ 47 :: b) = a :: jT b := by
  induction a with
  | nil => simp [jT]
  | cons c a ih =>
    simp only [List.mem_cons, not_or] at h
    rw [List.cons_append, jT, if_neg (fun e => h.1 e.symm), ih h.2]
theorem index_slash {a b : List UInt8} (h : (47 : UInt8) ∉ a) : Lib.index (a ++ 47 :: b) [47] = a.length := by
  induction a with
  | nil => simp [Lib.index]
  | cons c a ih =>
    simp only [List.mem_cons, not_or] at h
    have h1 : ¬ ((47 : UInt8) == c) = true := by simpa using h.1
    rw [List.cons_append, Lib.index, ih h.2]
    simp only [List.isPrefixOf, h1, Bool.false_and]
    simp
theorem Zu (l : List UInt8) : (47 : UInt8) ∉ l ∨ ∃ a b, l = a ++ 47 :: b ∧ (47 : UInt8) ∉ a := by
  induction l with
  | nil => exact .inl (by simp)
  | cons c l ih =>
    by_cases hc : c = 47
    · exact .inr ⟨[], l, by simp [hc], by simp⟩
    · rcases ih with ih | ⟨a, b, rfl, ha⟩
      · exact .inl (by simp [ih]; exact fun e => hc e.symm)
      · exact .inr ⟨c :: a, b, rfl, by simp [ha]; exact fun e => hc e.symm⟩
theorem qd : ∀ (n : Nat) (l : List UInt8), l.length ≤ n → Lib.splitK [47] 0 (l.count 47) l = jT l := by
  intro n
  induction n with
  | zero =>
    intro l hl
    have : l = [] := List.length_eq_zero_iff.1 (by omega)
    subst this
    rfl
  | succ n ih =>
    intro l hl
    rcases Zu l with h | ⟨a, b, rfl, ha⟩
    · rw [ul h, List.count_eq_zero.2 h]; rfl
    ·
     rw [uM ha, List.count_append, List.count_eq_zero.2 ha, List.count_cons_self, Nat.zero_add, Lib.splitK, index_slash ha]
     have hlen : (a ++ 47 :: b).length = a.length + b.length + 1 := by simp; omega
     have e1 : ((a.length : Int)).toNat = a.length := by omega
     rw [if_neg (by simp), e1, Nat.add_zero, List.take_left, show ([47] : List UInt8).length = 1 from rfl]
     have e2 : (a ++ 47 :: b).drop (a.length + 1) = b := by rw [List.drop_append]; simp
     rw [e2, ih b (by omega)]
def zW : ByteArray := ⟨#[47]⟩
theorem vf (s : ByteArray) : (Lib.splitB zW 0 (Lib.countB s zW) s).map L = jT (L s) := by
  have h := Lib.splitB_data zW 0 (Lib.countB s zW) s
  have hc : Lib.countB s zW = (L s).count 47 := Lib.count_one 47 (L s)
  have e : (Lib.splitB zW 0 (Lib.countB s zW) s).map L = (Lib.splitB zW 0 (Lib.countB s zW) s).map (·.data.toList) := rfl
  rw [e, h, hc]
  exact qd _ (L s) (Nat.le_refl _)
theorem um {s : ByteArray} {p : Nat → Bool} (h : K1 s = false) : jS s p = false := by
  unfold jS
  unfold K1 at h
  cases hr : Ki s
  · rfl
  · rw [hr] at h; cases h
theorem plainB_true {s : ByteArray} : jS s (fun _ => true) = K1 s := by
  unfold jS K1
  cases Ki s <;> simp
theorem uN {s : ByteArray} {f k : Nat} (hfk : f ≤ k) : (L s).drop f = L (s.extract f k) ++ (L s).drop k := by
  rw [show L (s.extract f k) = ((L s).drop f).take (k - f) from Lib.extract_data s f k]
  have : ((L s).drop f).drop (k - f) = (L s).drop k := by rw [List.drop_drop]; congr 1; omega
  rw [← this, List.take_append_drop]
theorem no_slash {s : ByteArray} {f k : Nat} (hk : k ≤ s.size) (h : ∀ j, f ≤ j → j < k → B s j ≠ 47) : (47 : UInt8) ∉ L (s.extract f k) := by
  intro hm
  obtain ⟨j, hj⟩ := List.getElem?_of_mem hm
  rw [L, Lib.extract_data, List.getElem?_take] at hj
  split at hj
  ·
   rename_i hlt
   rw [List.getElem?_drop] at hj
   have hb := B_L s (f + j) (by omega)
   rw [L] at hb
   rw [hb] at hj
   have := B_of s (f + j) (by omega)
   have e : s[f + j]'(by omega) = 47 := Option.some.inj hj
   rw [e] at this
   exact h (f + j) (by omega) (by omega) this
  · cases hj
theorem drop_cons {s : ByteArray} {k : Nat} (hk : k < s.size) (h : B s k = 47) : (L s).drop k = 47 :: (L s).drop (k + 1) := by
  have hl : k < (L s).length := by rw [jV]; exact hk
  rw [List.drop_eq_getElem_cons hl]
  have e : (L s)[k] = s[k]'hk := Go.Proofs.byte_at' s k hk hl
  have := B_of s k hk
  rw [e, show s[k]'hk = 47 from UInt8.toNat_inj.1 (by rw [← this, h]; rfl)]
theorem pieces_at {s : ByteArray} {f k : Nat} (hfk : f ≤ k) (hk : k < s.size) (h47 : B s k = 47) (h : ∀ j, f ≤ j → j < k → B s j ≠ 47) :
    jT ((L s).drop f) = L (s.extract f k) :: jT ((L s).drop (k + 1)) := by
  rw [uN hfk, drop_cons hk h47, uM (no_slash (by omega) h)]
theorem pieces_end {s : ByteArray} {f : Nat} (hf : f ≤ s.size) (h : ∀ j, f ≤ j → j < s.size → B s j ≠ 47) : jT ((L s).drop f) = [L (s.extract f s.size)] := by
  rw [uN hf, List.drop_eq_nil_of_le (by rw [jV]; exact Nat.le_refl _), List.append_nil, ul (no_slash (Nat.le_refl _) h)]
end Go.Proofs.YthjaepmfkgejkaaGreatDoor
namespace Go.Proofs.YthjaepmfkgejkaaGreatDoor
abbrev OpD := UInt8 × za × za × ByteArray × Int × ByteArray
abbrev jK := Bool × za
abbrev zH := Int × List (List UInt8) × ByteArray × List OpD
abbrev zO := List (List UInt8) × List (List UInt8) × ByteArray × ByteArray × Int
abbrev KO := UInt8 × zH × zO
abbrev Jq := Bool × Bool × Bool × Bool × Bool
def kc : za := (zero32, 0)
def k7 : ByteArray := ⟨#[]⟩
def kL : zH := (0, [], k7, [])
def kO : zO := ([], [], k7, k7, 0)
def kq (k : UInt8) : Option Jq :=
  if k = 1 then some (true, true, true, false, false) else if k = 2 then some (true, true, false, true, false) else if k = 3 then some (false, false, false, false, true)
  else if k = 4 then some (true, false, false, false, true) else if k = 5 then some (true, false, false, false, false) else none
def ks (x : OpD) (p : Jq) : Bool := (p.1 || decide (x.2.1 = kc)) && (p.2.1 || decide (x.2.2.1 = kc)) && (p.2.2.1 || decide (x.2.2.2.1 = k7)) && (p.2.2.2.1 || decide (x.2.2.2.2.1 = 0)) && (p.2.2.2.2 || decide (x.2.2.2.2.2 = k7))
def Kk (l : List (List UInt8)) (most : Nat) : Bool := decide (l.length ≤ most) && kY l && (decide (l = []) || !decide (l.headD [] = zero32))
def zl (deps : List (List UInt8)) (r : za) : Bool := kY deps && decide (r.1 ∈ deps) && decide (0 ≤ r.2) && decide (r.2 ≤ 2147483647)
def KP (deps : List (List UInt8)) (mk : List jK) (r : za) : Bool :=
  if r.1 ≠ zero32 then zl deps r else decide (0 ≤ r.2) && decide (r.2 < mk.length) && (mk.getD r.2.toNat (false, kc)).1
def js (deps : List (List UInt8)) (mk : List jK) (r d : za) (n : Int) : Bool :=
  if r.1 ≠ zero32 then zl deps r
  else decide (0 ≤ r.2) && decide (n ≤ mk.length) && decide (r.2 ≤ mk.length - n) && ((mk.drop r.2.toNat).take n.toNat).all fun m => !m.1 && decide (m.2 = d)
def Ke (s : ByteArray) : Bool := decide (s.size ≤ 4096) && K1 s
def K2 (s : ByteArray) : Nat := match Ki s with
  | some l => l.length
  | none => 0
def opB (deps : List (List UInt8)) (mk : List jK) (x : OpD) : Bool := match kq x.1 with
  | none => false
  | some p => ks x p && (!p.1 || KP deps mk x.2.1) && (!p.2.2.2.2 || zf x.2.2.2.2.2) &&
    (!decide (x.1 = 2) || (decide (1 ≤ x.2.2.2.2.1) && decide (x.2.2.2.2.1 ≤ 4096) && js deps mk x.2.2.1 x.2.1 x.2.2.2.2.1)) &&
    (!decide (x.1 = 1) || ((decide (x.2.2.1 = x.2.1) || js deps mk x.2.2.1 x.2.1 1) && !decide (x.2.2.2.1 = k7) && Ke x.2.2.2.1))
def zu (x : OpD) : List jK := if x.1 = 3 then [(true, kc)] else if x.1 = 1 then List.replicate (K2 x.2.2.2.1) (false, x.2.1) else []
def Jj (deps : List (List UInt8)) : List jK → List OpD → Bool
  | _, [] => true
  | mk, x :: t => opB deps mk x && Jj deps (mk ++ zu x) t
def kU (c : zH) : Bool := decide (1 ≤ c.1) && decide (c.1 ≤ 1099511627776) && Kk c.2.1 4096 && zg c.2.2.1 && decide (1 ≤ c.2.2.2.length) && decide (c.2.2.2.length ≤ 4096) && Jj c.2.1 [] c.2.2.2
def kW (c : zO) : Bool := Kk c.1 2 && Kk c.2.1 4096 && zg c.2.2.1 && JC c.2.2.2.1 && decide (0 ≤ c.2.2.2.2) && decide (c.2.2.2.2 ≤ 1099511627776)
def ju (c : zH) : Bool := decide (c.1 = 0) && decide (c.2.1 = []) && decide (c.2.2.1 = k7) && decide (c.2.2.2 = [])
def jh (c : zO) : Bool := decide (c.1 = []) && decide (c.2.1 = []) && decide (c.2.2.1 = k7) && decide (c.2.2.2.1 = k7) && decide (c.2.2.2.2 = 0)
def kJ (o : KO) : Bool := if o.1 = 1 then jh o.2.2 && kU o.2.1 else if o.1 = 2 then ju o.2.1 && kW o.2.2 else false
def Jn (n : Int) : List UInt8 := if n < 0 then [] else kZ n.toNat
def jP (l : List (List UInt8)) : List UInt8 := Jn (l.length : Int) ++ l.flatten
def jH (deps : List (List UInt8)) (r : za) : List UInt8 := Jn (if r.1 ≠ zero32 then (deps.idxOf r.1 : Int) + 1 else 0) ++ Jn r.2
def ifE (b : Bool) (l : List UInt8) : List UInt8 := if b then l else []
def opE (deps : List (List UInt8)) (x : OpD) : List UInt8 :=
  let p := (kq x.1).getD (false, false, false, false, false)
  x.1 :: (ifE p.1 (jH deps x.2.1) ++ (ifE p.2.1 (jH deps x.2.2.1) ++ (ifE p.2.2.1 (kS (L x.2.2.2.1)) ++ (ifE p.2.2.2.1 (Jn x.2.2.2.2.1) ++ ifE p.2.2.2.2 (kS (L x.2.2.2.2.2))))))
def Zq (deps : List (List UInt8)) (l : List OpD) : List UInt8 := (l.map (opE deps)).flatten
def zI (c : zH) : List UInt8 := 67 :: (Jn c.1 ++ (jP c.2.1 ++ (kS (L c.2.2.1) ++ (Jn (c.2.2.2.length : Int) ++ Zq c.2.1 c.2.2.2))))
def zS (c : zO) : List UInt8 := 75 :: (jP c.1 ++ (jP c.2.1 ++ (kS (L c.2.2.1) ++ (kS (L c.2.2.2.1) ++ Jn c.2.2.2.2))))
def KQ (o : KO) : List UInt8 := if o.1 = 1 then zI o.2.1 else zS o.2.2
abbrev Ps (α : Type) := List UInt8 → Option (α × List UInt8)
def jb {α β : Type} (d : Ps α) (f : α → Ps β) : Ps β := fun l => match d l with
  | some (a, r) => f a r
  | none => none
def Jo {α : Type} (a : α) : Ps α := fun l => some (a, l)
def KS {α : Type} (b : Bool) (d : Ps α) : Ps α := fun l => if b then d l else none
def zX : Ps UInt8
  | [] => none
  | k :: l => some (k, l)
def zR : Ps Nat := fun l => match KB l with
  | some (n, k) => some (n, l.drop k)
  | none => none
def jL : Ps ByteArray := fun l => match jC l 4096 with
  | some (t, k) => some (⟨t.toArray⟩, l.drop k)
  | none => none
def pId : Ps (List UInt8) := fun l => if l.length < 32 then none else some (l.take 32, l.drop 32)
def zY {α : Type} (d : Ps α) : Nat → Ps (List α)
  | 0 => Jo []
  | n + 1 => jb d fun a => jb (zY d n) fun t => Jo (a :: t)
def kV {α : Type} (most : Nat) (d : Ps α) : Ps (List α) := jb zR fun n => KS (decide (n ≤ most)) (zY d n)
def JD (deps : List (List UInt8)) : Ps za := jb zR fun n => KS (decide (n ≤ deps.length)) (jb zR fun i => Jo (if n = 0 then zero32 else deps.getD (n - 1) zero32, (i : Int)))
def pIf {α : Type} (b : Bool) (z : α) (d : Ps α) : Ps α := if b then d else Jo z
def Jk : Ps Int := jb zR fun n => Jo (n : Int)
def pOp (deps : List (List UInt8)) : Ps OpD := jb zX fun k => match kq k with
  | none => fun _ => none
  | some p => jb (pIf p.1 kc (JD deps)) fun d => jb (pIf p.2.1 kc (JD deps)) fun a => jb (pIf p.2.2.1 k7 jL) fun t => jb (pIf p.2.2.2.1 0 Jk) fun c => jb (pIf p.2.2.2.2 k7 jL) fun q => Jo (k, d, a, t, c, q)
def zT : Ps zH := jb Jk fun t => jb (kV 4096 pId) fun ds => jb jL fun a => jb (kV 4096 (pOp ds)) fun ops => Jo (t, ds, a, ops)
def zJ : Ps zO := jb (kV 2 pId) fun ps => jb (kV 4096 pId) fun cs => jb jL fun a => jb jL fun m => jb Jk fun s => Jo (ps, cs, a, m, s)
def u7 : Ps KO := jb zX fun k => if k = 67 then jb zT fun c => Jo (1, c, kO) else if k = 75 then jb zJ fun c => Jo (2, kL, c) else fun _ => none
def ji (l : List UInt8) : Option KO := match u7 l with
  | some (o, r) => if r = [] ∧ kJ o = true then some o else none
  | none => none
def Kd (l : List UInt8) : KO × Int := if 262144 < l.length then ((0, kL, kO), 2) else match ji l with
  | some o => (o, 0)
  | none => ((0, kL, kO), 6)
section
variable {α β : Type} {d : Ps α} {f : α → Ps β}
theorem kp {l : List UInt8} {b : β} {r : List UInt8} (h : jb d f l = some (b, r)) : ∃ a s, d l = some (a, s) ∧ f a s = some (b, r) := by
  unfold jb at h
  rcases hd : d l with _ | ⟨a, s⟩
  · rw [hd] at h; cases h
  · rw [hd] at h; exact ⟨a, s, rfl, h⟩
theorem kz {l s : List UInt8} {a : α} (h : d l = some (a, s)) : jb d f l = f a s := by unfold jb; rw [h]
end
theorem Kl {l : List UInt8} {n : Nat} {r : List UInt8} (h : zR l = some (n, r)) : l = kZ n ++ r ∧ n < 9223372036854775808 := by
  unfold zR at h
  rcases hg : KB l with _ | ⟨m, k⟩
  · rw [hg] at h; cases h
  · rw [hg] at h; cases h
    exact ⟨by rw [← num_getS hg, List.take_append_drop], Jz hg⟩
theorem num_read {n : Nat} (h : n < 9223372036854775808) (r : List UInt8) : zR (kZ n ++ r) = some (n, r) := by
  unfold zR
  rw [getS_num h]
  simp
theorem zZ {l : List UInt8} {t : ByteArray} {r : List UInt8} (h : jL l = some (t, r)) : l = kS (L t) ++ r ∧ t.size ≤ 4096 := by
  unfold jL at h
  rcases hg : jC l 4096 with _ | ⟨m, k⟩
  · rw [hg] at h; cases h
  · rw [hg] at h; cases h
    obtain ⟨h1, h2, h3⟩ := JS hg
    exact ⟨by show l = kS m ++ _; rw [← h1, List.take_append_drop], by rw [← jV]; exact h3⟩
theorem JY {t : ByteArray} (h : t.size ≤ 4096) (r : List UInt8) : jL (kS (L t) ++ r) = some (t, r) := by
  unfold jL
  rw [Up (by rw [jV]; exact h) (by rw [jV]; omega)]
  simp only [List.drop_left]
theorem id_cut {l i r : List UInt8} (h : pId l = some (i, r)) : l = i ++ r ∧ Kw i := by
  unfold pId at h
  split at h
  · cases h
  · cases h
    exact ⟨(List.take_append_drop 32 l).symm, by unfold Kw; rw [List.length_take]; omega⟩
theorem id_read {i : List UInt8} (h : Kw i) (r : List UInt8) : pId (i ++ r) = some (i, r) := by
  unfold pId
  unfold Kw at h
  rw [if_neg (by rw [List.length_append]; omega), ← h, List.take_left, List.drop_left]
end Go.Proofs.YthjaepmfkgejkaaGreatDoor
