/-
  What the program's utf.Runes gives. Condition: a text of at most 2^40 bytes.
  Values of several cells in the steps of a walk: loads, '==', zero values; regions that draw their order and only read, but for calls that leave alone what lay. Over any program; conditions as each says.
  Worlds that only drew and grew. No conditions; no program.
  A region that draws its order: ahead operations that only read, but for calls that stay in a class of worlds; behind them a row of operations, each waiting for the one ahead of it. One walk in the text's order serves every order. Over any program; conditions as each says.
-/
import Derived.Test.YtmlhijlcefogmaaGreatDoorMerged2
import Derived.Test.YtmlhijlcefogmaaGreatDoorMerged7
import Derived.Test.YtmlhijlcefogmaaGreatDoorMerged5
import Derived.BigQuiet
import Derived.DeepKeys4
import Derived.Maps.Own
import Derived.Laws.StructEq
import Derived.Sort.Grow
import Derived.Deep.Draws
import Derived.Below
import Derived.StillTail
set_option linter.unusedVariables false
set_option linter.unusedSimpArgs false
set_option maxHeartbeats 4000000
set_option maxRecDepth 100000
namespace Go.Proofs.YtmlhijlcefogmaaGreatDoor
open Go.RowKit Go.Maps

theorem own_lower {w : World} {b b' : Nat} {e : TypeId} {sz n : Nat} {v : Value} {xs : List Value} (h : w.ownsRow b e sz v n xs) (hb : b' ≤ b) : w.ownsRow b' e sz v n xs := by
  refine ⟨h.1, ?_⟩
  rcases h.2 with h0 | ⟨g, cap, cur, hv, hbg, r⟩
  · exact .inl h0
  · exact .inr ⟨g, cap, cur, hv, Nat.le_trans hb hbg, r⟩
/-- What it gives: the runes in a row of the call's own, or none and ErrText. -/
def PRunes (s : ByteArray) (w : World) (e : Ending) (w' : World) : Prop :=
  Below w.heap.size w w' ∧ ((∃ l A c, runesOf s = some l ∧ e = .returned (.tuple #[.slice A l.length c, .int .i64 0, .int .i64 0]) ∧ w'.ownsRow w.heap.size 21 1 (.slice A l.length c) l.length (i32s l)) ∨
    runesOf s = none ∧ ∃ n : Int, e = .returned (.tuple #[.slice none 0 0, .int .i64 n, .int .i64 5]))
theorem prunes_any (s : ByteArray) (w : World) (hs : s.size ≤ 1099511627776) : Calls Tryz.prog 51 #[.string s] w (PRunes s w) := by
  have hs' : s.size ≤ maxLen := by unfold maxLen; omega
  rcases Bool.eq_false_or_eq_true (isText s) with ht | ht
  · have HCK : Hid (∀ u : World, Calls Tryz.prog 23 #[.string s] u fun e w' => u = w' ∧ e = .returned (.tuple #[.int .i64 0, .int .i64 0])) := Lib.hid (fun u => (check_any s u hs').mono fun e w' ⟨h1, h2⟩ => by
      rcases h2 with ⟨_, h⟩ | ⟨h, _⟩
      · exact ⟨h1, h⟩
      · rw [ht] at h; cases h)
    have HOK0 := Lib.hid (show okFrom s 0 from ht)
    obtain ⟨zi, hzi⟩ : ∃ zi, w.heap.size = zi := ⟨_, rfl⟩
    have HZI := Lib.hid hzi
    clear ht hzi
    go_enter Tryz.func51, Tryz.ntmps51
    go_upto_region 6 with (first
      | (go_at_call 23; refine (HCK.out _).mono ?_; rintro e u ⟨rfl, rfl⟩))
    go_loopw [7] (fun t7 wr => ∃ (pos : Nat) (l : List Nat), pos ≤ s.size ∧ l.length ≤ pos ∧ Hid (wr.ownsRow (w.heap.size + 1) 21 1 t7 l.length (i32s l)) ∧ Hid (wr.heap[zi]? = some (.stringIter s pos)) ∧ Hid (okFrom s pos) ∧ Hid (runesOf s = (runesAt s pos).map (l ++ ·)) ∧ Hid (Below w.heap.size w wr)) (fun _ wr => s.size - wr.iterPos zi)
    case atStart =>
      exact ⟨0, [], by omega, by simp, Lib.hid (World.ownsRow_nil _ _ _ _), Lib.hid (by rw [← HZI.out]; simpa using World.iter_heap w s 0), HOK0, Lib.hid (by rw [runesOf_eq]; simp), Lib.hid ((qB _ _).alloc (qR _) _)⟩
    case round =>
      obtain ⟨pos, l, hpos, hl, HOW, HIT, HOK, HR, HBR⟩ := hrel
      by_cases hlt : pos < s.size
      · have hnx : ∀ ty, (Instr.next (.pointer (some ⟨w.heap.size, 0, none⟩)) true ty).run Tryz.prog wr = _ := fun ty => (congrArg (fun z => (Instr.next (.pointer (some ⟨z, 0, none⟩)) true ty).run Tryz.prog wr) HZI.out).trans (Lib.run_next_any_at wr zi s pos ty HIT.out hlt)
        have hin := dec_in hlt
        obtain ⟨ho, hnk⟩ := HOK.out.at_ hlt
        have HO := Lib.hid ho
        have HOK2 := Lib.hid hnk
        have hdl := decode_le s pos
        have HIT2 := Lib.hid (Lib.iterAt_heap wr zi s pos (pos + (Utf8.decode s pos).2) HIT.out)
        have HBR2 := Lib.hid (Lib.below_iterAt HBR.out (by rw [HZI.out]; exact qR _) s (pos + (Utf8.decode s pos).2))
        have HOW2 := Lib.hid (own_iterAt HOW.out HIT.out (pos + (Utf8.decode s pos).2))
        clear ho hnk
        generalize hW2 : wr.iterAt zi s (pos + (Utf8.decode s pos).2) = W2 at *
        clear hW2
        go_wp2_with (at_builtin; refine wp_app1 rfl _ _ 75 rfl (w.heap.size + 1) 21 (.int .i32 0) 4 Tryz.underlying75 info_i32 rfl _ _ _ rfl HOW2.out _ _ rfl rfl ?c1 ?c2 ?c3 ?_)
        case c1 => unfold maxLen; omega
        case c2 => omega
        case c3 => have h1 := qX HIT2.out; have h2 := HZI.out; omega
        intro v' w2 hown2 hbel
        have HB2 := Lib.hid (hbel _ _ (Nat.le_succ _) HBR2.out)
        have HIT3 := Lib.hid (((hbel _ _ (qR _) (qB (w.heap.size + 1) W2)).block zi (by have h2 := HZI.out; omega)).trans HIT2.out)
        have HOW3 : Hid (w2.ownsRow (w.heap.size + 1) 21 1 v' (l ++ [(Utf8.decode s pos).1]).length (i32s (l ++ [(Utf8.decode s pos).1]))) := Lib.hid (by simpa [i32s] using hown2)
        have HR3 : Hid (runesOf s = (runesAt s (pos + (Utf8.decode s pos).2)).map ((l ++ [(Utf8.decode s pos).1]) ++ ·)) := Lib.hid (by
          rw [HR.out, runesAt_ok hlt HO.out]
          cases runesAt s (pos + (Utf8.decode s pos).2) <;> simp)
        clear hown2 hbel
        go_wp2_with fail
        go_roundw
        case rel => exact ⟨pos + (Utf8.decode s pos).2, l ++ [(Utf8.decode s pos).1], by omega, by simp; omega, HOW3, HIT3, HOK2, HR3, HB2⟩
        case measure =>
          simp only [World.iterPos, HIT3.out, HIT.out]
          omega
      · have hnx : ∀ ty, (Instr.next (.pointer (some ⟨w.heap.size, 0, none⟩)) true ty).run Tryz.prog wr = _ := fun ty => (congrArg (fun z => (Instr.next (.pointer (some ⟨z, 0, none⟩)) true ty).run Tryz.prog wr) HZI.out).trans (Lib.run_next_end_at wr zi s pos ty HIT.out hlt)
        go_wp2_with fail
        go_ret3
        obtain ⟨A, c, hv⟩ := own_form HOW.out
        refine ⟨HBR.out, .inl ⟨l, A, c, by rw [HR.out, runesAt_end (by omega)]; simp, ?_, ?_⟩⟩
        · rw [← hv]; rfl
        · rw [← hv]; exact own_lower HOW.out (Nat.le_succ _)
  · have HCK : Hid (∀ u : World, Calls Tryz.prog 23 #[.string s] u fun e w' => u = w' ∧ ∃ n : Int, e = .returned (.tuple #[.int .i64 n, .int .i64 5])) := Lib.hid (fun u => (check_any s u hs').mono fun e w' ⟨h1, h2⟩ => by
      rcases h2 with ⟨h, _⟩ | ⟨_, h⟩
      · rw [ht] at h; cases h
      · exact ⟨h1, h⟩)
    have HN : Hid (runesOf s = none) := Lib.hid (by unfold isText at ht; cases hq : runesOf s with | none => rfl | some l => rw [hq] at ht; cases ht)
    clear ht
    go_enter Tryz.func51, Tryz.ntmps51
    go_wp2_with (first
      | (go_at_call 23; refine (HCK.out _).mono ?_; rintro e u ⟨rfl, n, rfl⟩))
    go_ret3
    exact ⟨qB _ _, .inr ⟨HN.out, n, rfl⟩⟩
end Go.Proofs.YtmlhijlcefogmaaGreatDoor
namespace Go.Proofs.YtmlhijlcefogmaaGreatDoor
open Go.RowKit

/-! ### Values with a key's cells -/

/-- Cells of a type that '==' goes through. -/
def Kb (P : Program) (n : Nat) (t : TypeId) (cs : List Value) : Prop := ∀ d, n ≤ d → ∃ l, P.keyLits d t cs = some l
section
variable {P : Program} {t e : TypeId} {m n : Nat} {cs : List Value}
/-- What the gates of a type say that is compared cell by cell. -/
structure EqT (P : Program) (t : TypeId) (m : Nat) : Prop where
  laid : laidOutB P = true
  few : P.types.size + 2 ≤ 10000
  row : t < P.types.size
  key : P.keyType t = true
  wide : (match P.underlying t with | some (.array _ _) | some (.struct _) => true | _ => false) = true
  deep : m ≤ P.types.size + 1
  noGuard : P.eqGuardType P.depth t = false
theorem EqT.keyed (E : EqT P t m) : Maps.Keyed P t := Maps.Keyed.of_law (deep_law_laid E.laid (m := P.types.size + 1) E.few E.row E.key E.wide)
theorem EqT.is (E : EqT P t m) (hl : cs.length = P.cellsOf t) (h : Kb P m t cs) : ∃ l, keyOf P t (.agg cs.toArray) = some l := by
  obtain ⟨l, hl2⟩ := h (P.types.size + 1) E.deep
  have hw := E.wide
  have hf : (Value.agg cs.toArray).formed P t = true := by
    unfold Value.formed
    split at hw <;> simp_all
  have hc : (P.keyLits (P.types.size + 1) t (Value.agg cs.toArray).cells.toList).map (fun ls => Lit.string (keyBytes ls)) = some (.string (keyBytes l)) := by
    rw [show (Value.agg cs.toArray).cells.toList = cs from rfl, hl2]; rfl
  refine ⟨.string (keyBytes l), ?_⟩
  unfold keyOf
  split at hw
  · rename_i hu; simp only [hu, E.key, hf, Bool.and_self, if_true]; exact hc
  · rename_i hu; simp only [hu, E.key, hf, Bool.and_self, if_true]; exact hc
  · cases hw
theorem EqT.run (E : EqT P t m) {α : Type} [DecidableEq α] (enc : α → List Value) (hinj : ∀ a b, enc a = enc b → a = b) {a b : α} (la : (enc a).length = P.cellsOf t) (lb : (enc b).length = P.cellsOf t) (ha : Kb P m t (enc a)) (hb : Kb P m t (enc b)) (w : World) :
    (Op.equalIn 10000 t (.agg (enc a).toArray) (.agg (enc b).toArray)).run P w = .ok (decide (a = b)) w := by
  obtain ⟨ka, ha⟩ := E.is la ha
  obtain ⟨kb, hb⟩ := E.is lb hb
  obtain ⟨r, hr, hiff⟩ := run_equal_deep w (m := P.types.size + 1) (by have := E.few; omega) E.key E.wide ha hb
  have h2 : (Op.equalIn 10000 t (.agg (enc a).toArray) (.agg (enc b).toArray)).run P w = .ok r w := hr
  rw [h2]
  congr 1
  rw [Bool.eq_iff_iff, hiff, decide_eq_true_eq]
  constructor
  · intro h
    have := E.keyed.inj ha (by rw [h]; exact hb)
    injection this with this
    exact hinj _ _ (by have := congrArg Array.toList this; simpa using this)
  · rintro rfl
    rw [ha] at hb
    exact Option.some.inj hb
end

/-! ### Single operations -/

section
variable {P : Program} {ρ : Operand → Value} {o : Oper} {w : World}
theorem ex_load (ty : TypeId) (x : Operand) (ho : o.op = .load ty x) {p : Addr} (hx : ρ x = .pointer (some p)) {v : Value} (h : (loadVar ty p).run P w = .ok v w) : (execOp ρ o).run P w = .ok (.value v) w := by
  unfold execOp
  simp only [ho, hx, Instr.loadAt, Instr.sureAddr, Sem.run_bind, Sem.run_pure, Result.andThen_ok, h]
theorem ex_build (t : TypeId) (ps : Array (Nat × Operand)) (ho : o.op = .build t ps) {v : Value} (h : (Instr.build t (ps.map fun (i, x) => (i, ρ x))).run P w = .ok v w) : (execOp ρ o).run P w = .ok (.value v) w := by
  unfold execOp
  simp only [ho, Sem.run_bind, h, Result.andThen_ok, Sem.run_pure]
end
section
variable {P : Program} {o : Oper} {a : Act} {v : Value}
theorem quiet_val {C : World → Prop} {K : Act → Prop} (h : ∀ w, C w → (execOp a.eval o).run P w = .ok (.value v) w) (hk : K (a.put o.dst v)) : o.quiet P a C K :=
  ⟨v, fun w hw => by unfold Oper.quietAt; rw [h w hw]; exact ⟨rfl, rfl⟩, hk⟩
theorem wp_val {ops : Array Oper} {rest : List Oper} {w : World} {Q : Exit → Act → World → Prop} (hw : Region.wanted o (yielded ops a.tmps) = true) (h : (execOp a.eval o).run P w = .ok (.value v) w) (hk : wpList P ops Q rest (a.put o.dst v) w) : wpList P ops Q (o :: rest) a w :=
  BigFrame.wpList_want hw fun K hK => by
    have := hK _ _ hk
    unfold Oper.wp
    rw [h]
    exact this
end

/-! ### A region that draws its order, in the worlds that leave alone what lay -/

def Wd (base : Nat) (w : World) : Type := { w' : World // Below base w w' }
instance (base : Nat) (w : World) : Nonempty (Wd base w) := ⟨⟨w, Below.refl _ _⟩⟩
theorem Wd.cell {base : Nat} {w : World} {b o : Nat} {v : Value} (hc : w.cell? ⟨b, o, none⟩ = some v) (hb : b < base) : ∀ n : Wd base w, n.val.cell? ⟨b, o, none⟩ = some v := fun n => (n.2.cell (p := ⟨b, o, none⟩) hb).trans hc
theorem Wd.row {base : Nat} {w : World} {b o : Nat} {cs : List Value} (hc : ∀ j u, cs[j]? = some u → w.cell? ⟨b, o + j, none⟩ = some u) (hb : b < base) : ∀ w', (∃ n : Wd base w, w' = n.val) → ∀ j u, cs[j]? = some u → w'.cell? ⟨b, o + j, none⟩ = some u := by
  rintro w' ⟨n, rfl⟩ j u hu
  exact Wd.cell (hc j u hu) hb n
theorem Wd.call {base : Nat} {w : World} {P : Program} {f : FuncId} {args : Array Value} {v : Value} (h : ∀ w', Below base w w' → Calls P f args w' fun e w'' => Below w'.heap.size w' w'' ∧ e = .returned v) (hbs : base ≤ w.heap.size) (n : Wd base w) :
    Calls P f args n.val fun e w'' => e = .returned v ∧ ∃ m : Wd base w, w'' = m.val :=
  (h n.val n.2).mono fun e w'' ⟨hb, he⟩ => ⟨he, ⟨w'', n.2.trans (hb.mono (Nat.le_trans hbs n.2.size))⟩, rfl⟩
theorem wp_region_wd {P : Program} {id : Nat} {Q : Exit → Act → World → Prop} {a : Act} {w : World} {l : List Oper} {base : Nat} (w0 : World) (hb : Below base w0 w) (hm : P.follows .mixedOrders = true) (hB : Region.lexB .any l.toArray = true)
    (h : wpQuiet P l.toArray (fun w' => ∃ n : Wd base w0, w' = n.val) (fun a' => ∀ w', (∃ n : Wd base w0, w' = n.val) → Q .normal a' w') l a) : (Code.region id l.toArray true).wp P Q a w :=
  wp_region_quiet (C := fun w' => ∃ n : Wd base w0, w' = n.val) hm hB ⟨⟨_, hb.drew⟩, rfl⟩ (by simpa using h)
end Go.Proofs.YtmlhijlcefogmaaGreatDoor
namespace Go.Proofs.YtmlhijlcefogmaaGreatDoor
open Go.RowKit Go.Sort

/-- The world has drawn, and new blocks lie behind; nothing else. -/
def Gr (w w' : World) : Prop := ∃ q os, w' = grow (w.drewN q) os
theorem Gr.refl (w : World) : Gr w w := ⟨0, #[], by rw [grow_empty]; rfl⟩
theorem Gr.trans {a b c : World} (h : Gr a b) (k : Gr b c) : Gr a c := by
  obtain ⟨q, os, rfl⟩ := h
  obtain ⟨q', os', rfl⟩ := k
  refine ⟨q + q', os ++ os', ?_⟩
  rw [show (grow (a.drewN q) os).drewN q' = grow ((a.drewN q).drewN q') os from rfl, grow_grow, World.drewN_drewN]
theorem Gr.alloc {a b : World} (h : Gr a b) (o : Obj) : Gr a (b.alloc o) := h.trans ⟨0, #[o], by rw [alloc_eq_grow]; rfl⟩
theorem Gr.drewN {a b : World} (h : Gr a b) (q : Nat) : Gr a (b.drewN q) := h.trans ⟨q, #[], by rw [grow_empty]⟩
theorem Gr.drew {a b : World} (h : Gr a b) : Gr a b.drew := h.drewN 1
theorem Gr.below {a b : World} (h : Gr a b) : Below a.heap.size a b := by
  obtain ⟨q, os, rfl⟩ := h
  refine ⟨rfl, rfl, rfl, by simp [grow, World.drewN], fun k hk => ?_⟩
  show (a.heap ++ os)[k]? = _
  rw [Array.getElem?_append_left hk]
end Go.Proofs.YtmlhijlcefogmaaGreatDoor
namespace Go.Proofs.YtmlhijlcefogmaaGreatDoor
open Go.RowKit

/-- How many of the first k are still to come. -/
def toCome (listed : Array Bool) : Nat → Nat
  | 0 => 0
  | k + 1 => toCome listed k + (if listed.getD k true = false then 1 else 0)
theorem toCome_none {listed : Array Bool} : ∀ {k : Nat}, toCome listed k = 0 → ∀ j, j < k → listed.getD j true = true
  | 0, _, _, h => by omega
  | k + 1, h, j, hj => by
    unfold toCome at h
    by_cases hk : listed.getD k true = false
    · rw [if_pos hk] at h; omega
    · rw [if_neg hk] at h
      rcases (by omega : j < k ∨ j = k) with q | rfl
      · exact toCome_none (by omega) j q
      · simpa using hk
theorem toCome_least {listed : Array Bool} : ∀ {k : Nat}, toCome listed k ≠ 0 → ∃ j, j < k ∧ listed.getD j true = false ∧ ∀ i, i < j → listed.getD i true = true
  | 0, h => absurd rfl h
  | k + 1, h => by
    by_cases h0 : toCome listed k = 0
    · refine ⟨k, by omega, ?_, toCome_none h0⟩
      unfold toCome at h
      by_cases hk : listed.getD k true = false
      · exact hk
      · rw [if_neg hk, h0] at h; exact absurd rfl h
    · obtain ⟨j, hj, h1, h2⟩ := toCome_least h0
      exact ⟨j, by omega, h1, h2⟩
theorem toCome_beyond {listed : Array Bool} {i : Nat} : ∀ {k : Nat}, k ≤ i → toCome (listed.setIfInBounds i true) k = toCome listed k
  | 0, _ => rfl
  | k + 1, h => by
    unfold toCome
    rw [toCome_beyond (by omega), getD_set_ne true (by omega)]
theorem toCome_set {listed : Array Bool} {i : Nat} (hi : listed.getD i true = false) : ∀ {k : Nat}, i < k → toCome (listed.setIfInBounds i true) k + 1 = toCome listed k
  | 0, h => by omega
  | k + 1, h => by
    rcases (by omega : i < k ∨ i = k) with q | rfl
    · have := toCome_set hi q
      unfold toCome
      rw [getD_set_ne true (by omega)]
      omega
    · unfold toCome
      rw [toCome_beyond (Nat.le_refl _), if_pos hi]
      have : (listed.setIfInBounds i true).getD i true = true := by
        have hlt : i < listed.size := by
          rcases Nat.lt_or_ge i listed.size with q | q
          · exact q
          · simp [Array.getElem?_eq_none q] at hi
        simp [hlt]
      rw [if_neg (by rw [this]; simp)]
theorem getD_rep {m j : Nat} (b : Bool) (h : j < m) : (Array.replicate m false).getD j b = false := by simp [h]
theorem toCome_all (n : Nat) : ∀ k, k ≤ n → toCome (Array.replicate n false) k = k
  | 0, _ => rfl
  | k + 1, h => by
    unfold toCome
    rw [toCome_all n k (by omega), if_pos (getD_rep true (by omega))]

/-- Each operation ahead waits, and is guarded, by earlier ones alone. -/
def backB (md : Region.Mode) (H : Array Oper) : Bool :=
  (List.range H.size).all fun j => match H[j]? with
    | some o => (o.after.all fun e => !Region.binds md e || decide (e.on < j)) && (match o.guard with | some (k, _) => decide (k < H.size) | none => true)
    | none => true
theorem backB_spec {md : Region.Mode} {H : Array Oper} (h : backB md H = true) {j : Nat} {o : Oper} (ho : H[j]? = some o) : (∀ e ∈ o.after, Region.binds md e = true → e.on < j) ∧ ∀ k b, o.guard = some (k, b) → k < H.size := by
  have hj := (Array.getElem?_eq_some_iff.1 ho).1
  have h1 := List.all_eq_true.1 h j (List.mem_range.2 hj)
  simp only [ho, Bool.and_eq_true] at h1
  refine ⟨fun e he hb => ?_, fun k b hg => ?_⟩
  · have := Array.all_eq_true'.1 h1.1 e he
    simpa [hb] using this
  · have := h1.2
    rw [hg] at this
    simpa using this

section
variable {P : Program} {md : Region.Mode} {H ops : Array Oper} {C : World → Prop}
/-- The two lists of what is done agree on what stands ahead. -/
structure Agree (H ops : Array Oper) (done listed : Array Bool) : Prop where
  size : done.size = H.size
  same : ∀ j b, j < H.size → done.getD j b = listed.getD j b

theorem Agree.set {done listed : Array Bool} (h : Agree H ops done listed) {i : Nat} (hl : H.size ≤ listed.size) : Agree H ops (done.setIfInBounds i true) (listed.setIfInBounds i true) := by
  refine ⟨by simpa using h.size, fun j b hj => ?_⟩
  by_cases e : i = j
  · subst e
    have h1 : i < done.size := by rw [h.size]; exact hj
    have h2 : i < listed.size := by omega
    simp [h1, h2]
  · rw [getD_set_ne b e, getD_set_ne b e]
    exact h.same j b hj
theorem wanted_ahead (hH : ∀ j, j < H.size → H[j]? = ops[j]?) (hb : backB md H = true) {j : Nat} {o : Oper} (ho : H[j]? = some o) (tmps : Array Value) : Region.wanted o (yielded H tmps) = Region.wanted o (yielded ops tmps) := by
  have hg := (backB_spec hb ho).2
  unfold Region.wanted
  cases hgd : o.guard with
  | none => rfl
  | some g =>
    obtain ⟨k, b⟩ := g
    have hk := hg k b hgd
    have : yielded H tmps k = yielded ops tmps k := by unfold yielded; rw [hH k hk]
    simp only [this]
theorem wpAny_ahead {n g : Nat} {Q : Act → Prop} {Q' : Exit → Act → World → Prop} (hn : n < ops.size) (hHn : H.size = n) (hH : ∀ j, j < H.size → H[j]? = ops[j]?) (hb : backB md H = true) (hs : Region.sinkB md ops n = true) (hc : Region.chainB md ops n = true)
    (hT : ∀ (listed : Array Bool) (a : Act) (w : World), HeadInv md ops n listed → (∀ j, j < n → listed.getD j true = true) → Q a → C w → wpAny P md ops Q' g listed a w) :
    ∀ (f : Nat) (done listed : Array Bool) (a : Act) (w : World), toCome listed n = f → HeadInv md ops n listed → Agree H ops done listed → C w → wpAnyQ P md H C Q f done a → wpAny P md ops Q' (f + g) listed a w
  | 0, done, listed, a, w, hf, inv, ag, hw, h => by
    rw [Nat.zero_add]
    exact hT listed a w inv (toCome_none hf) h.2 hw
  | f + 1, done, listed, a, w, hf, inv, ag, hw, h => by
    obtain ⟨j0, hj0, hu0, hl0⟩ := toCome_least (listed := listed) (k := n) (by omega)
    have hready : ∀ j, j < n → (j ∈ Region.ready md H done ↔ j ∈ Region.ready md ops listed) := by
      intro j hj
      rw [mem_ready, mem_ready, hH j (by omega), ag.same j true (by omega)]
      refine and_congr Iff.rfl (exists_congr fun o => and_congr_right fun ho => ?_)
      have hbk := (backB_spec hb ((hH j (by omega)).trans ho)).1
      refine forall_congr' fun e => forall_congr' fun he => forall_congr' fun hbd => ?_
      rw [ag.same e.on false (by have := hbk e he hbd; omega)]
    have hne : Region.ready md ops listed ≠ [] := by
      intro h0
      obtain ⟨o, ho⟩ : ∃ o, ops[j0]? = some o := ⟨_, Array.getElem?_eq_getElem (by omega)⟩
      have : j0 ∈ Region.ready md ops listed := mem_ready.2 ⟨hu0, o, ho, fun e he hbd => by
        have hlt := (backB_spec hb ((hH j0 (by omega)).trans ho)).1 e he hbd
        have h1 := hl0 e.on hlt
        have hsz : e.on < listed.size := by rw [inv.size]; omega
        simpa [hsz] using h1⟩
      rw [h0] at this
      cases this
    rw [show f + 1 + g = (f + g) + 1 by omega]
    refine ⟨fun h0 => absurd h0 hne, fun i hi => ?_⟩
    have hin : i < n := by
      rcases Nat.lt_or_ge i n with q | q
      · exact q
      · exact absurd hi (tail_waits hs hc hn inv _ j0 rfl hj0 hu0 i q)
    have hiu := (mem_ready.1 hi).1
    have hq := h.2 i ((hready i hin).2 hi)
    obtain ⟨o, ho⟩ : ∃ o, ops[i]? = some o := ⟨_, Array.getElem?_eq_getElem (by omega)⟩
    have hoH : H[i]? = some o := (hH i (by omega)).trans ho
    have go : ∀ (a' : Act) (w' : World), C w' → wpAnyQ P md H C Q f (done.setIfInBounds i true) a' → wpAny P md ops Q' (f + g) (listed.setIfInBounds i true) a' w' := fun a' w' hw' hk =>
      wpAny_ahead hn hHn hH hb hs hc hT f _ _ a' w' (by have := toCome_set hiu hin; omega) (inv.set hi hin) (ag.set (by rw [inv.size]; omega)) hw' hk
    unfold qOp at hq
    simp only [hoH] at hq
    rw [wanted_ahead hH hb hoH] at hq
    unfold wpOp
    simp only [ho]
    split
    · rename_i hwd
      rw [if_pos hwd] at hq
      exact .inl (Oper.wp_of_quiet hw go hq)
    · rename_i hwd
      rw [if_neg hwd] at hq
      exact go _ _ hw hq
end

/-- The whole region. -/
theorem wp_region_quiet_tail {P : Program} {id : Nat} {Q : Exit → Act → World → Prop} {a : Act} {w : World} {l : List Oper} (n : Nat) (C : World → Prop) (hC : C w.drew) (hm : P.follows .mixedOrders = true)
    (h1 : Region.lexB .any (l.take n).toArray = true) (h2 : backB .any (l.take n).toArray = true) (h3 : (decide (n < l.length) && Region.sinkB .any l.toArray n && Region.chainB .any l.toArray n) = true)
    (h4 : Region.seqB .any l.toArray (l.length - n) n (Array.replicate n true ++ Array.replicate (l.length - n) false) = true)
    (h : wpQuiet P (l.take n).toArray C (fun a' => ∀ w', C w' → wpList P l.toArray Q (l.drop n) a' w') (l.take n) a) : (Code.region id l.toArray true).wp P Q a w := by
  simp only [Bool.and_eq_true, decide_eq_true_eq] at h3
  obtain ⟨⟨hn, hs⟩, hc⟩ := h3
  have htl : (l.take n).length = n := by simp; omega
  refine wp_region_any hm ?_
  have inv0 : HeadInv .any l.toArray n (Array.replicate l.toArray.size false) :=
    ⟨by simp, fun j oj _ hl => (by rw [getD_replicate_false] at hl; cases hl), fun t _ ht => getD_in (by simpa using ht) (getD_replicate_false _ _)⟩
  simp only [Region.lexB, Bool.and_eq_true] at h1
  have hQ := wpAnyQ_lex (P := P) (C := C) (md := .any) (Q := fun a' => ∀ w', C w' → wpList P l.toArray Q (l.drop n) a' w') h1.1 (l.take n) 0 (Array.replicate (l.take n).toArray.size false) a (by simp) (by simpa using h1.2) h
  have := wpAny_ahead (P := P) (md := .any) (H := (l.take n).toArray) (ops := l.toArray) (C := C) (n := n) (g := l.length - n) (Q := fun a' => ∀ w', C w' → wpList P l.toArray Q (l.drop n) a' w') (Q' := Q) (by simpa using hn) (by simpa using htl)
    (fun j hj => by
      have hj' : j < n := by simp at hj; omega
      simp [hj'])
    h2 hs hc
    (fun listed a' w' inv hall hq hw' => by
      have hL : listed = Array.replicate n true ++ Array.replicate (l.length - n) false := by
        apply Array.ext_getElem?
        intro j
        have hsz : listed.size = l.length := by simpa using inv.size
        by_cases hj : j < n
        · have := hall j hj
          have hjs : j < listed.size := by omega
          rw [Array.getElem?_append_left (by simpa using hj)]
          simp [hjs, hj] at this ⊢
          exact this
        · by_cases hj2 : j < l.length
          · have := inv.tail j (by omega) (by simpa using hj2)
            have hjs : j < listed.size := by omega
            have hv : listed[j]? = some false := by
              rw [Array.getElem?_eq_getElem hjs]
              simpa [hjs] using this
            have hk : j - (Array.replicate n true).size < l.length - n := by rw [Array.size_replicate]; omega
            rw [hv, Array.getElem?_append_right (by rw [Array.size_replicate]; omega), Array.getElem?_replicate, if_pos hk]
          · rw [Array.getElem?_eq_none (by omega), Array.getElem?_eq_none (by simp; omega)]
      have hdl : (l.drop n).length = l.length - n := by simp
      have := wpAny_of_seq (md := .any) (Q' := Q) (l.drop n) n listed a' w' (fun j => by simp [List.getElem?_drop]) (by rw [hdl, hL]; exact h4) (hq w' hw')
      rwa [hdl] at this)
    (l.take n).length (Array.replicate (l.take n).toArray.size false) (Array.replicate l.toArray.size false) a w.drew (by rw [htl]; exact toCome_all _ _ (by simp; omega)) inv0
    ⟨by simp, fun j b hj => by
      have h2 : j < l.toArray.size := by
        have hj' : j < (l.take n).length := hj
        rw [List.size_toArray]
        omega
      rw [getD_rep b hj, getD_rep b h2]⟩ hC hQ
  rw [htl, show n + (l.length - n) = l.toArray.size by simp; omega] at this
  exact this
/-! ### The worlds that only drew and grew -/

def Wg (w : World) : Type := { w' : World // Gr w w' }
instance (w : World) : Nonempty (Wg w) := ⟨⟨w, Gr.refl _⟩⟩
theorem Wg.cell {w : World} {b o : Nat} {v : Value} (hc : w.cell? ⟨b, o, none⟩ = some v) (hb : b < w.heap.size) : ∀ n : Wg w, n.val.cell? ⟨b, o, none⟩ = some v := fun n => (n.2.below.cell (p := ⟨b, o, none⟩) hb).trans hc
theorem Wg.row {w : World} {b o : Nat} {cs : List Value} (hc : ∀ j u, cs[j]? = some u → w.cell? ⟨b, o + j, none⟩ = some u) (hb : b < w.heap.size) : ∀ w', (∃ n : Wg w, w' = n.val) → ∀ j u, cs[j]? = some u → w'.cell? ⟨b, o + j, none⟩ = some u := by
  rintro w' ⟨n, rfl⟩ j u hu
  exact Wg.cell (hc j u hu) hb n
theorem Wg.call {w : World} {P : Program} {f : FuncId} {args : Array Value} {v : Value} (h : ∀ w', Calls P f args w' fun e w'' => Gr w' w'' ∧ e = .returned v) (n : Wg w) :
    Calls P f args n.val fun e w'' => e = .returned v ∧ ∃ m : Wg w, w'' = m.val :=
  (h n.val).mono fun e w'' ⟨hb, he⟩ => ⟨he, ⟨w'', n.2.trans hb⟩, rfl⟩
theorem wp_region_tail_wg {P : Program} {id : Nat} {Q : Exit → Act → World → Prop} {a : Act} {w : World} {l : List Oper} (n : Nat) (hm : P.follows .mixedOrders = true)
    (h1 : Region.lexB .any (l.take n).toArray = true) (h2 : backB .any (l.take n).toArray = true) (h3 : (decide (n < l.length) && Region.sinkB .any l.toArray n && Region.chainB .any l.toArray n) = true)
    (h4 : Region.seqB .any l.toArray (l.length - n) n (Array.replicate n true ++ Array.replicate (l.length - n) false) = true)
    (h : wpQuiet P (l.take n).toArray (fun w' => ∃ k : Wg w, w' = k.val) (fun a' => ∀ w', (∃ k : Wg w, w' = k.val) → wpList P l.toArray Q (l.drop n) a' w') (l.take n) a) : (Code.region id l.toArray true).wp P Q a w :=
  wp_region_quiet_tail n (fun w' => ∃ k : Wg w, w' = k.val) ⟨⟨_, (Gr.refl w).drew⟩, rfl⟩ hm h1 h2 h3 h4 h
end Go.Proofs.YtmlhijlcefogmaaGreatDoor
