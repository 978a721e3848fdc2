/-
  A region that draws its order: ahead operations that only read, but for calls that stay in a class of worlds; behind them a row of operations, each waiting for the one ahead of it. One walk in the text's order serves every order. Over any program; conditions as each says.
-/
import Derived.Test.YtdgbjhfkmembdaaGreatDoorQStep
import Derived.StillTail
import Derived.Test.YtdgbjhfkmembdaaGreatDoorGr
namespace Go.Proofs.YtdgbjhfkmembdaaGreatDoor
open Go.RowKit
set_option linter.unusedVariables false

/-- How many of the first k are still to come. -/
def toCome (listed : Array Bool) : Nat → Nat
  | 0 => 0
  | k + 1 => toCome listed k + (if listed.getD k true = false then 1 else 0)
theorem toCome_none {listed : Array Bool} : ∀ {k : Nat}, toCome listed k = 0 → ∀ j, j < k → listed.getD j true = true
  | 0, _, _, h => by omega
  | k + 1, h, j, hj => by
    unfold toCome at h
    by_cases hk : listed.getD k true = false
    · rw [if_pos hk] at h; omega
    · rw [if_neg hk] at h
      rcases (by omega : j < k ∨ j = k) with q | rfl
      · exact toCome_none (by omega) j q
      · simpa using hk
theorem toCome_least {listed : Array Bool} : ∀ {k : Nat}, toCome listed k ≠ 0 → ∃ j, j < k ∧ listed.getD j true = false ∧ ∀ i, i < j → listed.getD i true = true
  | 0, h => absurd rfl h
  | k + 1, h => by
    by_cases h0 : toCome listed k = 0
    · refine ⟨k, by omega, ?_, toCome_none h0⟩
      unfold toCome at h
      by_cases hk : listed.getD k true = false
      · exact hk
      · rw [if_neg hk, h0] at h; exact absurd rfl h
    · obtain ⟨j, hj, h1, h2⟩ := toCome_least h0
      exact ⟨j, by omega, h1, h2⟩
theorem toCome_beyond {listed : Array Bool} {i : Nat} : ∀ {k : Nat}, k ≤ i → toCome (listed.setIfInBounds i true) k = toCome listed k
  | 0, _ => rfl
  | k + 1, h => by
    unfold toCome
    rw [toCome_beyond (by omega), getD_set_ne true (by omega)]
theorem toCome_set {listed : Array Bool} {i : Nat} (hi : listed.getD i true = false) : ∀ {k : Nat}, i < k → toCome (listed.setIfInBounds i true) k + 1 = toCome listed k
  | 0, h => by omega
  | k + 1, h => by
    rcases (by omega : i < k ∨ i = k) with q | rfl
    · have := toCome_set hi q
      unfold toCome
      rw [getD_set_ne true (by omega)]
      omega
    · unfold toCome
      rw [toCome_beyond (Nat.le_refl _), if_pos hi]
      have : (listed.setIfInBounds i true).getD i true = true := by
        have hlt : i < listed.size := by
          rcases Nat.lt_or_ge i listed.size with q | q
          · exact q
          · simp [Array.getElem?_eq_none q] at hi
        simp [hlt]
      rw [if_neg (by rw [this]; simp)]
theorem getD_rep {m j : Nat} (b : Bool) (h : j < m) : (Array.replicate m false).getD j b = false := by simp [h]
theorem toCome_all (n : Nat) : ∀ k, k ≤ n → toCome (Array.replicate n false) k = k
  | 0, _ => rfl
  | k + 1, h => by
    unfold toCome
    rw [toCome_all n k (by omega), if_pos (getD_rep true (by omega))]

/-- Each operation ahead waits, and is guarded, by earlier ones alone. -/
def backB (md : Region.Mode) (H : Array Oper) : Bool :=
  (List.range H.size).all fun j => match H[j]? with
    | some o => (o.after.all fun e => !Region.binds md e || decide (e.on < j)) && (match o.guard with | some (k, _) => decide (k < H.size) | none => true)
    | none => true
theorem backB_spec {md : Region.Mode} {H : Array Oper} (h : backB md H = true) {j : Nat} {o : Oper} (ho : H[j]? = some o) : (∀ e ∈ o.after, Region.binds md e = true → e.on < j) ∧ ∀ k b, o.guard = some (k, b) → k < H.size := by
  have hj := (Array.getElem?_eq_some_iff.1 ho).1
  have h1 := List.all_eq_true.1 h j (List.mem_range.2 hj)
  simp only [ho, Bool.and_eq_true] at h1
  refine ⟨fun e he hb => ?_, fun k b hg => ?_⟩
  · have := Array.all_eq_true'.1 h1.1 e he
    simpa [hb] using this
  · have := h1.2
    rw [hg] at this
    simpa using this

section
variable {P : Program} {md : Region.Mode} {H ops : Array Oper} {C : World → Prop}
/-- The two lists of what is done agree on what stands ahead. -/
structure Agree (H ops : Array Oper) (done listed : Array Bool) : Prop where
  size : done.size = H.size
  same : ∀ j b, j < H.size → done.getD j b = listed.getD j b

theorem Agree.set {done listed : Array Bool} (h : Agree H ops done listed) {i : Nat} (hl : H.size ≤ listed.size) : Agree H ops (done.setIfInBounds i true) (listed.setIfInBounds i true) := by
  refine ⟨by simpa using h.size, fun j b hj => ?_⟩
  by_cases e : i = j
  · subst e
    have h1 : i < done.size := by rw [h.size]; exact hj
    have h2 : i < listed.size := by omega
    simp [h1, h2]
  · rw [getD_set_ne b e, getD_set_ne b e]
    exact h.same j b hj
theorem wanted_ahead (hH : ∀ j, j < H.size → H[j]? = ops[j]?) (hb : backB md H = true) {j : Nat} {o : Oper} (ho : H[j]? = some o) (tmps : Array Value) : Region.wanted o (yielded H tmps) = Region.wanted o (yielded ops tmps) := by
  have hg := (backB_spec hb ho).2
  unfold Region.wanted
  cases hgd : o.guard with
  | none => rfl
  | some g =>
    obtain ⟨k, b⟩ := g
    have hk := hg k b hgd
    have : yielded H tmps k = yielded ops tmps k := by unfold yielded; rw [hH k hk]
    simp only [this]
theorem wpAny_ahead {n g : Nat} {Q : Act → Prop} {Q' : Exit → Act → World → Prop} (hn : n < ops.size) (hHn : H.size = n) (hH : ∀ j, j < H.size → H[j]? = ops[j]?) (hb : backB md H = true) (hs : Region.sinkB md ops n = true) (hc : Region.chainB md ops n = true)
    (hT : ∀ (listed : Array Bool) (a : Act) (w : World), HeadInv md ops n listed → (∀ j, j < n → listed.getD j true = true) → Q a → C w → wpAny P md ops Q' g listed a w) :
    ∀ (f : Nat) (done listed : Array Bool) (a : Act) (w : World), toCome listed n = f → HeadInv md ops n listed → Agree H ops done listed → C w → wpAnyQ P md H C Q f done a → wpAny P md ops Q' (f + g) listed a w
  | 0, done, listed, a, w, hf, inv, ag, hw, h => by
    rw [Nat.zero_add]
    exact hT listed a w inv (toCome_none hf) h.2 hw
  | f + 1, done, listed, a, w, hf, inv, ag, hw, h => by
    obtain ⟨j0, hj0, hu0, hl0⟩ := toCome_least (listed := listed) (k := n) (by omega)
    have hready : ∀ j, j < n → (j ∈ Region.ready md H done ↔ j ∈ Region.ready md ops listed) := by
      intro j hj
      rw [mem_ready, mem_ready, hH j (by omega), ag.same j true (by omega)]
      refine and_congr Iff.rfl (exists_congr fun o => and_congr_right fun ho => ?_)
      have hbk := (backB_spec hb ((hH j (by omega)).trans ho)).1
      refine forall_congr' fun e => forall_congr' fun he => forall_congr' fun hbd => ?_
      rw [ag.same e.on false (by have := hbk e he hbd; omega)]
    have hne : Region.ready md ops listed ≠ [] := by
      intro h0
      obtain ⟨o, ho⟩ : ∃ o, ops[j0]? = some o := ⟨_, Array.getElem?_eq_getElem (by omega)⟩
      have : j0 ∈ Region.ready md ops listed := mem_ready.2 ⟨hu0, o, ho, fun e he hbd => by
        have hlt := (backB_spec hb ((hH j0 (by omega)).trans ho)).1 e he hbd
        have h1 := hl0 e.on hlt
        have hsz : e.on < listed.size := by rw [inv.size]; omega
        simpa [hsz] using h1⟩
      rw [h0] at this
      cases this
    rw [show f + 1 + g = (f + g) + 1 by omega]
    refine ⟨fun h0 => absurd h0 hne, fun i hi => ?_⟩
    have hin : i < n := by
      rcases Nat.lt_or_ge i n with q | q
      · exact q
      · exact absurd hi (tail_waits hs hc hn inv _ j0 rfl hj0 hu0 i q)
    have hiu := (mem_ready.1 hi).1
    have hq := h.2 i ((hready i hin).2 hi)
    obtain ⟨o, ho⟩ : ∃ o, ops[i]? = some o := ⟨_, Array.getElem?_eq_getElem (by omega)⟩
    have hoH : H[i]? = some o := (hH i (by omega)).trans ho
    have go : ∀ (a' : Act) (w' : World), C w' → wpAnyQ P md H C Q f (done.setIfInBounds i true) a' → wpAny P md ops Q' (f + g) (listed.setIfInBounds i true) a' w' := fun a' w' hw' hk =>
      wpAny_ahead hn hHn hH hb hs hc hT f _ _ a' w' (by have := toCome_set hiu hin; omega) (inv.set hi hin) (ag.set (by rw [inv.size]; omega)) hw' hk
    unfold qOp at hq
    simp only [hoH] at hq
    rw [wanted_ahead hH hb hoH] at hq
    unfold wpOp
    simp only [ho]
    split
    · rename_i hwd
      rw [if_pos hwd] at hq
      exact .inl (Oper.wp_of_quiet hw go hq)
    · rename_i hwd
      rw [if_neg hwd] at hq
      exact go _ _ hw hq
end

/-- The whole region. -/
theorem wp_region_quiet_tail {P : Program} {id : Nat} {Q : Exit → Act → World → Prop} {a : Act} {w : World} {l : List Oper} (n : Nat) (C : World → Prop) (hC : C w.drew) (hm : P.follows .mixedOrders = true)
    (h1 : Region.lexB .any (l.take n).toArray = true) (h2 : backB .any (l.take n).toArray = true) (h3 : (decide (n < l.length) && Region.sinkB .any l.toArray n && Region.chainB .any l.toArray n) = true)
    (h4 : Region.seqB .any l.toArray (l.length - n) n (Array.replicate n true ++ Array.replicate (l.length - n) false) = true)
    (h : wpQuiet P (l.take n).toArray C (fun a' => ∀ w', C w' → wpList P l.toArray Q (l.drop n) a' w') (l.take n) a) : (Code.region id l.toArray true).wp P Q a w := by
  simp only [Bool.and_eq_true, decide_eq_true_eq] at h3
  obtain ⟨⟨hn, hs⟩, hc⟩ := h3
  have htl : (l.take n).length = n := by simp; omega
  refine wp_region_any hm ?_
  have inv0 : HeadInv .any l.toArray n (Array.replicate l.toArray.size false) :=
    ⟨by simp, fun j oj _ hl => (by rw [getD_replicate_false] at hl; cases hl), fun t _ ht => getD_in (by simpa using ht) (getD_replicate_false _ _)⟩
  simp only [Region.lexB, Bool.and_eq_true] at h1
  have hQ := wpAnyQ_lex (P := P) (C := C) (md := .any) (Q := fun a' => ∀ w', C w' → wpList P l.toArray Q (l.drop n) a' w') h1.1 (l.take n) 0 (Array.replicate (l.take n).toArray.size false) a (by simp) (by simpa using h1.2) h
  have := wpAny_ahead (P := P) (md := .any) (H := (l.take n).toArray) (ops := l.toArray) (C := C) (n := n) (g := l.length - n) (Q := fun a' => ∀ w', C w' → wpList P l.toArray Q (l.drop n) a' w') (Q' := Q) (by simpa using hn) (by simpa using htl)
    (fun j hj => by
      have hj' : j < n := by simp at hj; omega
      simp [hj'])
    h2 hs hc
    (fun listed a' w' inv hall hq hw' => by
      have hL : listed = Array.replicate n true ++ Array.replicate (l.length - n) false := by
        apply Array.ext_getElem?
        intro j
        have hsz : listed.size = l.length := by simpa using inv.size
        by_cases hj : j < n
        · have := hall j hj
          have hjs : j < listed.size := by omega
          rw [Array.getElem?_append_left (by simpa using hj)]
          simp [hjs, hj] at this ⊢
          exact this
        · by_cases hj2 : j < l.length
          · have := inv.tail j (by omega) (by simpa using hj2)
            have hjs : j < listed.size := by omega
            have hv : listed[j]? = some false := by
              rw [Array.getElem?_eq_getElem hjs]
              simpa [hjs] using this
            have hk : j - (Array.replicate n true).size < l.length - n := by rw [Array.size_replicate]; omega
            rw [hv, Array.getElem?_append_right (by rw [Array.size_replicate]; omega), Array.getElem?_replicate, if_pos hk]
          · rw [Array.getElem?_eq_none (by omega), Array.getElem?_eq_none (by simp; omega)]
      have hdl : (l.drop n).length = l.length - n := by simp
      have := wpAny_of_seq (md := .any) (Q' := Q) (l.drop n) n listed a' w' (fun j => by simp [List.getElem?_drop]) (by rw [hdl, hL]; exact h4) (hq w' hw')
      rwa [hdl] at this)
    (l.take n).length (Array.replicate (l.take n).toArray.size false) (Array.replicate l.toArray.size false) a w.drew (by rw [htl]; exact toCome_all _ _ (by simp; omega)) inv0
    ⟨by simp, fun j b hj => by
      have h2 : j < l.toArray.size := by
        have hj' : j < (l.take n).length := hj
        rw [List.size_toArray]
        omega
      rw [getD_rep b hj, getD_rep b h2]⟩ hC hQ
  rw [htl, show n + (l.length - n) = l.toArray.size by simp; omega] at this
  exact this
theorem wp_region_tail_wd {P : Program} {id : Nat} {Q : Exit → Act → World → Prop} {a : Act} {w : World} {l : List Oper} (n : Nat) {base : Nat} (w0 : World) (hb : Below base w0 w) (hm : P.follows .mixedOrders = true)
    (h1 : Region.lexB .any (l.take n).toArray = true) (h2 : backB .any (l.take n).toArray = true) (h3 : (decide (n < l.length) && Region.sinkB .any l.toArray n && Region.chainB .any l.toArray n) = true)
    (h4 : Region.seqB .any l.toArray (l.length - n) n (Array.replicate n true ++ Array.replicate (l.length - n) false) = true)
    (h : wpQuiet P (l.take n).toArray (fun w' => ∃ k : Wd base w0, w' = k.val) (fun a' => ∀ w', (∃ k : Wd base w0, w' = k.val) → wpList P l.toArray Q (l.drop n) a' w') (l.take n) a) : (Code.region id l.toArray true).wp P Q a w :=
  wp_region_quiet_tail n (fun w' => ∃ k : Wd base w0, w' = k.val) ⟨⟨_, hb.drew⟩, rfl⟩ hm h1 h2 h3 h4 h

/-! ### The worlds that only drew and grew -/

def Wg (w : World) : Type := { w' : World // Gr w w' }
instance (w : World) : Nonempty (Wg w) := ⟨⟨w, Gr.refl _⟩⟩
theorem Wg.cell {w : World} {b o : Nat} {v : Value} (hc : w.cell? ⟨b, o, none⟩ = some v) (hb : b < w.heap.size) : ∀ n : Wg w, n.val.cell? ⟨b, o, none⟩ = some v := fun n => (n.2.below.cell (p := ⟨b, o, none⟩) hb).trans hc
theorem Wg.row {w : World} {b o : Nat} {cs : List Value} (hc : ∀ j u, cs[j]? = some u → w.cell? ⟨b, o + j, none⟩ = some u) (hb : b < w.heap.size) : ∀ w', (∃ n : Wg w, w' = n.val) → ∀ j u, cs[j]? = some u → w'.cell? ⟨b, o + j, none⟩ = some u := by
  rintro w' ⟨n, rfl⟩ j u hu
  exact Wg.cell (hc j u hu) hb n
theorem Wg.call {w : World} {P : Program} {f : FuncId} {args : Array Value} {v : Value} (h : ∀ w', Calls P f args w' fun e w'' => Gr w' w'' ∧ e = .returned v) (n : Wg w) :
    Calls P f args n.val fun e w'' => e = .returned v ∧ ∃ m : Wg w, w'' = m.val :=
  (h n.val).mono fun e w'' ⟨hb, he⟩ => ⟨he, ⟨w'', n.2.trans hb⟩, rfl⟩
theorem wp_region_tail_wg {P : Program} {id : Nat} {Q : Exit → Act → World → Prop} {a : Act} {w : World} {l : List Oper} (n : Nat) (hm : P.follows .mixedOrders = true)
    (h1 : Region.lexB .any (l.take n).toArray = true) (h2 : backB .any (l.take n).toArray = true) (h3 : (decide (n < l.length) && Region.sinkB .any l.toArray n && Region.chainB .any l.toArray n) = true)
    (h4 : Region.seqB .any l.toArray (l.length - n) n (Array.replicate n true ++ Array.replicate (l.length - n) false) = true)
    (h : wpQuiet P (l.take n).toArray (fun w' => ∃ k : Wg w, w' = k.val) (fun a' => ∀ w', (∃ k : Wg w, w' = k.val) → wpList P l.toArray Q (l.drop n) a' w') (l.take n) a) : (Code.region id l.toArray true).wp P Q a w :=
  wp_region_quiet_tail n (fun w' => ∃ k : Wg w, w' = k.val) ⟨⟨_, (Gr.refl w).drew⟩, rfl⟩ hm h1 h2 h3 h4 h
end Go.Proofs.YtdgbjhfkmembdaaGreatDoor
