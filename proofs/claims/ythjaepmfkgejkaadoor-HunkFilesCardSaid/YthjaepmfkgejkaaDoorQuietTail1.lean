/-
  A region that draws its order, whose first operation only hands on a value (a slice that is appended to), then operations that only read, then a row of operations each waiting for the one ahead. Over any program; conditions as each says.
-/
import Derived.Test.YthjaepmfkgejkaaDoorMerged1
namespace Go.Proofs.YthjaepmfkgejkaaDoor
open Go.RowKit
set_option linter.unusedVariables false

/-- As 'sinkB', but for number 0. -/
def sink1B (md : Region.Mode) (ops : Array Oper) (n : Nat) : Bool :=
  (List.range n).all fun i => decide (i = 0) || (List.range (n + 1)).any fun j => decide (i < j) && Region.waitsFor md ops j i
section
variable {P : Program} {md : Region.Mode} {H ops : Array Oper} {C : World → Prop}
theorem getD0_set {listed : Array Bool} (h : listed.getD 0 true = true) (i : Nat) : (listed.setIfInBounds i true).getD 0 true = true := by
  by_cases e : i = 0
  · subst e
    rcases Nat.lt_or_ge 0 listed.size with q | q
    · simp [q]
    · simp [q]
  · rw [getD_set_ne true e]; exact h
theorem tail_waits1 {n : Nat} {listed : Array Bool} (hs : sink1B md ops n = true) (hc : Region.chainB md ops n = true) (hn : n < ops.size) (inv : HeadInv md ops n listed) (h0 : listed.getD 0 true = true) :
    ∀ (d i : Nat), n - i = d → i < n → listed.getD i true = false → ∀ t, n ≤ t → t ∉ Region.ready md ops listed := by
  intro d
  induction d using Nat.strongRecOn with
  | _ d ih =>
    intro i hd hi hun t ht hr
    obtain ⟨_, ot, hot, hall⟩ := mem_ready.1 hr
    have htlt : t < ops.size := (Array.getElem?_eq_some_iff.1 hot).1
    by_cases htn : t = n
    · subst htn
      have h1 := List.all_eq_true.1 hs i (List.mem_range.2 hi)
      rw [Bool.or_eq_true, decide_eq_true_eq] at h1
      rcases h1 with h1 | h1
      · subst h1; rw [h0] at hun; cases hun
      obtain ⟨j, hj, hj2⟩ := List.any_eq_true.1 h1
      simp only [Bool.and_eq_true, decide_eq_true_eq] at hj2
      obtain ⟨oj, hoj, e, he, hb, hon⟩ := Region.waitsFor_spec hj2.2
      have hjle : j ≤ t := by have := List.mem_range.1 hj; omega
      by_cases hjt : j = t
      · subst hjt
        have : oj = ot := Option.some.inj (hoj.symm.trans hot)
        subst this
        have h2 := hall e he hb
        rw [hon, getD_both hun] at h2
        cases h2
      · cases hl : listed.getD j false with
        | true =>
          have h2 := inv.closed j oj hoj hl e he hb
          rw [hon, getD_both hun] at h2
          cases h2
        | false =>
          have hjs : j < listed.size := by rw [inv.size]; omega
          exact ih (t - j) (by omega) j rfl (by omega) (getD_in hjs hl) t (Nat.le_refl _) hr
    · have h1 := List.all_eq_true.1 hc t (List.mem_range.2 htlt)
      simp only [Bool.or_eq_true, decide_eq_true_eq] at h1
      rcases h1 with h1 | h1
      · omega
      · obtain ⟨o', ho', e, he, hb, hon⟩ := Region.waitsFor_spec h1
        have : o' = ot := Option.some.inj (ho'.symm.trans hot)
        subst this
        have h2 := hall e he hb
        rw [hon, getD_both (inv.tail (t - 1) (by omega) (by omega))] at h2
        cases h2
theorem wpAny_ahead1 {n g : Nat} {Q : Act → Prop} {Q' : Exit → Act → World → Prop} (hn : n < ops.size) (hHn : H.size = n) (hH : ∀ j, j < H.size → H[j]? = ops[j]?) (hb : backB md H = true) (hs : sink1B md ops n = true) (hc : Region.chainB md ops n = true)
    (hT : ∀ (listed : Array Bool) (a : Act) (w : World), HeadInv md ops n listed → (∀ j, j < n → listed.getD j true = true) → Q a → C w → wpAny P md ops Q' g listed a w) :
    ∀ (f : Nat) (done listed : Array Bool) (a : Act) (w : World), toCome listed n = f → HeadInv md ops n listed → listed.getD 0 true = true → Agree H ops done listed → C w → wpAnyQ P md H C Q f done a → wpAny P md ops Q' (f + g) listed a w
  | 0, done, listed, a, w, hf, inv, _, ag, hw, h => by
    rw [Nat.zero_add]
    exact hT listed a w inv (toCome_none hf) h.2 hw
  | f + 1, done, listed, a, w, hf, inv, h00, ag, hw, h => by
    obtain ⟨j0, hj0, hu0, hl0⟩ := toCome_least (listed := listed) (k := n) (by omega)
    have hready : ∀ j, j < n → (j ∈ Region.ready md H done ↔ j ∈ Region.ready md ops listed) := by
      intro j hj
      rw [mem_ready, mem_ready, hH j (by omega), ag.same j true (by omega)]
      refine and_congr Iff.rfl (exists_congr fun o => and_congr_right fun ho => ?_)
      have hbk := (backB_spec hb ((hH j (by omega)).trans ho)).1
      refine forall_congr' fun e => forall_congr' fun he => forall_congr' fun hbd => ?_
      rw [ag.same e.on false (by have := hbk e he hbd; omega)]
    have hne : Region.ready md ops listed ≠ [] := by
      intro h0
      obtain ⟨o, ho⟩ : ∃ o, ops[j0]? = some o := ⟨_, Array.getElem?_eq_getElem (by omega)⟩
      have : j0 ∈ Region.ready md ops listed := mem_ready.2 ⟨hu0, o, ho, fun e he hbd => by
        have hlt := (backB_spec hb ((hH j0 (by omega)).trans ho)).1 e he hbd
        have h1 := hl0 e.on hlt
        have hsz : e.on < listed.size := by rw [inv.size]; omega
        simpa [hsz] using h1⟩
      rw [h0] at this
      cases this
    rw [show f + 1 + g = (f + g) + 1 by omega]
    refine ⟨fun h0 => absurd h0 hne, fun i hi => ?_⟩
    have hin : i < n := by
      rcases Nat.lt_or_ge i n with q | q
      · exact q
      · exact absurd hi (tail_waits1 hs hc hn inv h00 _ j0 rfl hj0 hu0 i q)
    have hiu := (mem_ready.1 hi).1
    have hq := h.2 i ((hready i hin).2 hi)
    obtain ⟨o, ho⟩ : ∃ o, ops[i]? = some o := ⟨_, Array.getElem?_eq_getElem (by omega)⟩
    have hoH : H[i]? = some o := (hH i (by omega)).trans ho
    have go : ∀ (a' : Act) (w' : World), C w' → wpAnyQ P md H C Q f (done.setIfInBounds i true) a' → wpAny P md ops Q' (f + g) (listed.setIfInBounds i true) a' w' := fun a' w' hw' hk =>
      wpAny_ahead1 hn hHn hH hb hs hc hT f _ _ a' w' (by have := toCome_set hiu hin; omega) (inv.set hi hin) (getD0_set h00 i) (ag.set (by rw [inv.size]; omega)) hw' hk
    unfold qOp at hq
    simp only [hoH] at hq
    rw [wanted_ahead hH hb hoH] at hq
    unfold wpOp
    simp only [ho]
    split
    · rename_i hwd
      rw [if_pos hwd] at hq
      exact .inl (Oper.wp_of_quiet hw go hq)
    · rename_i hwd
      rw [if_neg hwd] at hq
      exact go _ _ hw hq
end

/-- The whole region. -/
theorem wp_region_quiet_tail1 {P : Program} {id : Nat} {Q : Exit → Act → World → Prop} {a : Act} {w : World} {o0 : Oper} {l : List Oper} (n : Nat) (C : World → Prop) (hC : C w.drew) (hm : P.follows .mixedOrders = true)
    (h1 : (Region.noSelect ((o0 :: l).take (n + 1)).toArray && Region.lexFrom .any ((o0 :: l).take (n + 1)).toArray n 1 ((Array.replicate (n + 1) false).setIfInBounds 0 true)) = true)
    (h2 : backB .any ((o0 :: l).take (n + 1)).toArray = true) (h3 : (decide (n < l.length) && sink1B .any (o0 :: l).toArray (n + 1) && Region.chainB .any (o0 :: l).toArray (n + 1)) = true)
    (h4 : Region.seqB .any (o0 :: l).toArray (l.length - n) (n + 1) (Array.replicate (n + 1) true ++ Array.replicate (l.length - n) false) = true)
    (h5 : (Region.noSelect (o0 :: l).toArray && Region.free .any (o0 :: l).toArray (Array.replicate (l.length + 1) false) 0 && (Region.ready .any (o0 :: l).toArray (Array.replicate (l.length + 1) false)).contains 0 && o0.after.isEmpty) = true)
    (v : Value) (hQ : ∀ c a w, Q (.panic c) (a.put o0.dst v) w → Q (.panic c) a w) (hy : Yields P (o0 :: l).toArray o0 v a)
    (h : wpQuiet P ((o0 :: l).take (n + 1)).toArray C (fun a' => ∀ w', C w' → wpList P (o0 :: l).toArray Q (l.drop n) a' w') (l.take n) (a.put o0.dst v)) : (Code.region id (o0 :: l).toArray true).wp P Q a w := by
  simp only [Bool.and_eq_true, decide_eq_true_eq] at h1 h3 h5
  obtain ⟨⟨hn, hs⟩, hc⟩ := h3
  obtain ⟨⟨⟨g1, g2⟩, g3⟩, g4⟩ := h5
  have htl : ((o0 :: l).take (n + 1)).length = n + 1 := by simp; omega
  have htl2 : (l.take n).length = n := by simp; omega
  refine wp_region_any hm ?_
  rw [show (o0 :: l).toArray.size = l.length + 1 by simp]
  refine wpAny_take (i := 0) (oi := o0) (v := v) (by simp) g1 g2 g3 hQ hy ?_
  have hg0 : ((Array.replicate (l.length + 1) false).setIfInBounds 0 true).getD 0 true = true := by simp
  have hgj : ∀ j b, 0 < j → j < l.length + 1 → ((Array.replicate (l.length + 1) false).setIfInBounds 0 true).getD j b = false := by
    intro j b hj hl
    rw [getD_set_ne b (by omega), getD_rep b hl]
  have inv0 : HeadInv .any (o0 :: l).toArray (n + 1) ((Array.replicate (l.length + 1) false).setIfInBounds 0 true) := by
    refine ⟨by simp, fun j oj ho hl e he hb => ?_, fun t ht ht' => hgj t true (by omega) (by simpa using ht')⟩
    by_cases hj : j = 0
    · subst hj
      have : oj = o0 := by simpa using ho.symm
      subst this
      rw [Array.isEmpty_iff] at g4
      rw [g4] at he
      simp at he
    · have hlt : j < l.length + 1 := by have := (Array.getElem?_eq_some_iff.1 ho).1; simpa using this
      rw [hgj j false (by omega) hlt] at hl
      cases hl
  have hQ2 := wpAnyQ_lex (P := P) (C := C) (md := .any) (Q := fun a' => ∀ w', C w' → wpList P (o0 :: l).toArray Q (l.drop n) a' w') h1.1 (l.take n) 1 ((Array.replicate (n + 1) false).setIfInBounds 0 true) (a.put o0.dst v)
    (fun j => by rw [Nat.add_comm 1 j, List.take_succ_cons, List.getElem?_toArray, List.getElem?_cons_succ]) (by rw [htl2]; exact h1.2) h
  have hcome : toCome ((Array.replicate (l.length + 1) false).setIfInBounds 0 true) (n + 1) = n := by
    have := toCome_set (listed := Array.replicate (l.length + 1) false) (i := 0) (by simp) (k := n + 1) (by omega)
    rw [toCome_all _ _ (by omega)] at this
    omega
  have := wpAny_ahead1 (P := P) (md := .any) (H := ((o0 :: l).take (n + 1)).toArray) (ops := (o0 :: l).toArray) (C := C) (n := n + 1) (g := l.length - n) (Q := fun a' => ∀ w', C w' → wpList P (o0 :: l).toArray Q (l.drop n) a' w') (Q' := Q) (by simp; omega) (by simpa using htl)
    (fun j hj => by
      have hj' : j < n + 1 := by simp at hj; omega
      rw [List.getElem?_toArray, List.getElem?_toArray, List.getElem?_take_of_lt hj'])
    h2 hs hc
    (fun listed a' w' inv hall hq hw' => by
      have hL : listed = Array.replicate (n + 1) true ++ Array.replicate (l.length - n) false := by
        apply Array.ext_getElem?
        intro j
        have hsz : listed.size = l.length + 1 := by simpa using inv.size
        by_cases hj : j < n + 1
        · have := hall j hj
          have hjs : j < listed.size := by omega
          rw [Array.getElem?_append_left (by simpa using hj)]
          simp [hjs, hj] at this ⊢
          exact this
        · by_cases hj2 : j < l.length + 1
          · have := inv.tail j (by omega) (by simpa using hj2)
            have hjs : j < listed.size := by omega
            have hv : listed[j]? = some false := by
              rw [Array.getElem?_eq_getElem hjs]
              simpa [hjs] using this
            have hk : j - (Array.replicate (n + 1) true).size < l.length - n := by rw [Array.size_replicate]; omega
            rw [hv, Array.getElem?_append_right (by rw [Array.size_replicate]; omega), Array.getElem?_replicate, if_pos hk]
          · rw [Array.getElem?_eq_none (by omega), Array.getElem?_eq_none (by simp; omega)]
      have hdl : (l.drop n).length = l.length - n := by simp
      have := wpAny_of_seq (md := .any) (Q' := Q) (l.drop n) (n + 1) listed a' w' (fun j => by simp [List.getElem?_drop, show n + 1 + j = (n + j) + 1 by omega]) (by rw [hdl, hL]; exact h4) (hq w' hw')
      rwa [hdl] at this)
    n ((Array.replicate (n + 1) false).setIfInBounds 0 true) ((Array.replicate (l.length + 1) false).setIfInBounds 0 true) (a.put o0.dst v) w.drew hcome inv0 hg0
    ⟨by simp; omega, fun j b hj => by
      have hj' : j < n + 1 := by have : j < ((o0 :: l).take (n + 1)).length := by simpa using hj
                                 omega
      by_cases e : j = 0
      · subst e; simp
      · rw [getD_set_ne b (by omega), getD_set_ne b (by omega), getD_rep b hj', getD_rep b (by omega)]⟩ hC (by rw [htl2] at hQ2; exact hQ2)
  rw [show n + (l.length - n) = l.length by omega] at this
  exact this
theorem wp_region_tail1_wg {P : Program} {id : Nat} {Q : Exit → Act → World → Prop} {a : Act} {w : World} {o0 : Oper} {l : List Oper} (n : Nat) (v : Value) (hm : P.follows .mixedOrders = true)
    (h1 : (Region.noSelect ((o0 :: l).take (n + 1)).toArray && Region.lexFrom .any ((o0 :: l).take (n + 1)).toArray n 1 ((Array.replicate (n + 1) false).setIfInBounds 0 true)) = true)
    (h2 : backB .any ((o0 :: l).take (n + 1)).toArray = true) (h3 : (decide (n < l.length) && sink1B .any (o0 :: l).toArray (n + 1) && Region.chainB .any (o0 :: l).toArray (n + 1)) = true)
    (h4 : Region.seqB .any (o0 :: l).toArray (l.length - n) (n + 1) (Array.replicate (n + 1) true ++ Array.replicate (l.length - n) false) = true)
    (h5 : (Region.noSelect (o0 :: l).toArray && Region.free .any (o0 :: l).toArray (Array.replicate (l.length + 1) false) 0 && (Region.ready .any (o0 :: l).toArray (Array.replicate (l.length + 1) false)).contains 0 && o0.after.isEmpty) = true)
    (hQ : ∀ c a w, Q (.panic c) (a.put o0.dst v) w → Q (.panic c) a w) (hy : Yields P (o0 :: l).toArray o0 v a)
    (h : wpQuiet P ((o0 :: l).take (n + 1)).toArray (fun w' => ∃ k : Wg w, w' = k.val) (fun a' => ∀ w', (∃ k : Wg w, w' = k.val) → wpList P (o0 :: l).toArray Q (l.drop n) a' w') (l.take n) (a.put o0.dst v)) : (Code.region id (o0 :: l).toArray true).wp P Q a w :=
  wp_region_quiet_tail1 n (fun w' => ∃ k : Wg w, w' = k.val) ⟨⟨_, (Gr.refl w).drew⟩, rfl⟩ hm h1 h2 h3 h4 h5 v hQ hy h
end Go.Proofs.YthjaepmfkgejkaaDoor
