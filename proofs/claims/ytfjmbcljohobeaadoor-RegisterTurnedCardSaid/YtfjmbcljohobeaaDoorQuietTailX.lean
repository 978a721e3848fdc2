/-
  A region that draws its order, some of whose operations (such as only hand on a value) have been carried out: then operations that only read, in any order that their edges allow, then a row of operations each waiting for the one ahead. Over any program; conditions as each says.
-/
import Derived.Test.YtfjmbcljohobeaaDoorQuietTail
namespace Go.Proofs.YtfjmbcljohobeaaDoor
open Go.RowKit
set_option linter.unusedVariables false

def lexList (md : Region.Mode) (ops : Array Oper) : List Nat → Array Bool → Bool
  | [], listed => (Region.ready md ops listed).isEmpty
  | k :: ks, listed => (Region.ready md ops listed).contains k && Region.free md ops listed k && decide (k < ops.size) && lexList md ops ks (listed.setIfInBounds k true)
section
variable {P : Program} {ops : Array Oper} {C : World → Prop} {md : Region.Mode}
theorem wpAnyQ_list {Q : Act → Prop} (hs : Region.noSelect ops = true) : ∀ (ks : List Nat) (listed : Array Bool) (a : Act),
    lexList md ops ks listed = true → wpQuiet P ops C Q (ks.map fun k => ops.getD k default) a → wpAnyQ P md ops C Q ks.length listed a
  | [], _, _, hB, h => ⟨by simpa [lexList] using hB, h⟩
  | k :: ks, listed, a, hB, h => by
    simp only [lexList, Bool.and_eq_true, decide_eq_true_eq] at hB
    obtain ⟨⟨⟨hr, hf⟩, hk⟩, hB'⟩ := hB
    have h0 : ops[k]? = some (ops.getD k default) := by simp [hk]
    have hst : qOp P ops C k (wpQuiet P ops C Q (ks.map fun k => ops.getD k default)) a := by unfold qOp; simp only [h0]; exact h
    obtain ⟨v, hy, hK⟩ := yieldsIn_of_qOp h0 hst
    exact wpAnyQ_first h0 (Region.noSelect_spec hs) ks.length listed a (Region.free_spec h0 hf) (by simpa using hr) hy
      (wpAnyQ_list hs ks _ _ hB' hK)
end
/-- As 'sinkB', but for those that have been carried out. -/
def sinkXB (md : Region.Mode) (ops : Array Oper) (n : Nat) (X : Array Bool) : Bool :=
  (List.range n).all fun i => X.getD i true || (List.range (n + 1)).any fun j => decide (i < j) && Region.waitsFor md ops j i
/-- What has been carried out is closed; nothing of the tail has. -/
def headXB (md : Region.Mode) (ops : Array Oper) (n : Nat) (X : Array Bool) : Bool :=
  decide (X.size = ops.size) && ((List.range ops.size).all fun j => (!(X.getD j false)) || (match ops[j]? with | some o => o.after.all fun e => !Region.binds md e || X.getD e.on false | none => true)) &&
    ((List.range ops.size).all fun t => decide (t < n) || X.getD t true == false)
section
variable {P : Program} {md : Region.Mode} {H ops : Array Oper} {C : World → Prop} {X : Array Bool}
def Has (X listed : Array Bool) : Prop := ∀ j, X.getD j true = true → listed.getD j true = true
theorem Has.set {listed : Array Bool} (h : Has X listed) (i : Nat) : Has X (listed.setIfInBounds i true) := by
  intro j hj
  by_cases e : i = j
  · subst e
    rcases Nat.lt_or_ge i listed.size with q | q
    · simp [q]
    · simp [q]
  · rw [getD_set_ne true e]; exact h j hj
theorem headXB_spec {n : Nat} (h : headXB md ops n X = true) : HeadInv md ops n X := by
  unfold headXB at h
  simp only [Bool.and_eq_true, decide_eq_true_eq] at h
  obtain ⟨⟨h1, h2⟩, h3⟩ := h
  refine ⟨h1, fun j oj hj hl e he hb => ?_, fun t ht hlt => ?_⟩
  · have := List.all_eq_true.1 h2 j (List.mem_range.2 (Array.getElem?_eq_some_iff.1 hj).1)
    simp only [hl, Bool.not_true, Bool.false_or, hj] at this
    have h4 := Array.all_eq_true'.1 this e he
    simpa [hb] using h4
  · have := List.all_eq_true.1 h3 t (List.mem_range.2 hlt)
    simp only [Bool.or_eq_true, decide_eq_true_eq, beq_iff_eq] at this
    rcases this with q | q
    · omega
    · exact q
theorem tail_waitsX {n : Nat} {listed : Array Bool} (hs : sinkXB md ops n X = true) (hc : Region.chainB md ops n = true) (hn : n < ops.size) (inv : HeadInv md ops n listed) (hX : Has X listed) :
    ∀ (d i : Nat), n - i = d → i < n → listed.getD i true = false → ∀ t, n ≤ t → t ∉ Region.ready md ops listed := by
  intro d
  induction d using Nat.strongRecOn with
  | _ d ih =>
    intro i hd hi hun t ht hr
    obtain ⟨_, ot, hot, hall⟩ := mem_ready.1 hr
    have htlt : t < ops.size := (Array.getElem?_eq_some_iff.1 hot).1
    by_cases htn : t = n
    · subst htn
      have h1 := List.all_eq_true.1 hs i (List.mem_range.2 hi)
      rw [Bool.or_eq_true] at h1
      rcases h1 with h1 | h1
      · rw [hX i h1] at hun; cases hun
      obtain ⟨j, hj, hj2⟩ := List.any_eq_true.1 h1
      simp only [Bool.and_eq_true, decide_eq_true_eq] at hj2
      obtain ⟨oj, hoj, e, he, hb, hon⟩ := Region.waitsFor_spec hj2.2
      have hjle : j ≤ t := by have := List.mem_range.1 hj; omega
      by_cases hjt : j = t
      · subst hjt
        have : oj = ot := Option.some.inj (hoj.symm.trans hot)
        subst this
        have h2 := hall e he hb
        rw [hon, getD_both hun] at h2
        cases h2
      · cases hl : listed.getD j false with
        | true =>
          have h2 := inv.closed j oj hoj hl e he hb
          rw [hon, getD_both hun] at h2
          cases h2
        | false =>
          have hjs : j < listed.size := by rw [inv.size]; omega
          exact ih (t - j) (by omega) j rfl (by omega) (getD_in hjs hl) t (Nat.le_refl _) hr
    · have h1 := List.all_eq_true.1 hc t (List.mem_range.2 htlt)
      simp only [Bool.or_eq_true, decide_eq_true_eq] at h1
      rcases h1 with h1 | h1
      · omega
      · obtain ⟨o', ho', e, he, hb, hon⟩ := Region.waitsFor_spec h1
        have : o' = ot := Option.some.inj (ho'.symm.trans hot)
        subst this
        have h2 := hall e he hb
        rw [hon, getD_both (inv.tail (t - 1) (by omega) (by omega))] at h2
        cases h2
theorem wpAny_aheadX {n g : Nat} {Q : Act → Prop} {Q' : Exit → Act → World → Prop} (hn : n < ops.size) (hHn : H.size = n) (hH : ∀ j, j < H.size → H[j]? = ops[j]?) (hb : backB md H = true) (hs : sinkXB md ops n X = true) (hc : Region.chainB md ops n = true)
    (hT : ∀ (listed : Array Bool) (a : Act) (w : World), HeadInv md ops n listed → (∀ j, j < n → listed.getD j true = true) → Q a → C w → wpAny P md ops Q' g listed a w) :
    ∀ (f : Nat) (done listed : Array Bool) (a : Act) (w : World), toCome listed n = f → HeadInv md ops n listed → Has X listed → Agree H ops done listed → C w → wpAnyQ P md H C Q f done a → wpAny P md ops Q' (f + g) listed a w
  | 0, done, listed, a, w, hf, inv, _, ag, hw, h => by
    rw [Nat.zero_add]
    exact hT listed a w inv (toCome_none hf) h.2 hw
  | f + 1, done, listed, a, w, hf, inv, h00, ag, hw, h => by
    obtain ⟨j0, hj0, hu0, hl0⟩ := toCome_least (listed := listed) (k := n) (by omega)
    have hready : ∀ j, j < n → (j ∈ Region.ready md H done ↔ j ∈ Region.ready md ops listed) := by
      intro j hj
      rw [mem_ready, mem_ready, hH j (by omega), ag.same j true (by omega)]
      refine and_congr Iff.rfl (exists_congr fun o => and_congr_right fun ho => ?_)
      have hbk := (backB_spec hb ((hH j (by omega)).trans ho)).1
      refine forall_congr' fun e => forall_congr' fun he => forall_congr' fun hbd => ?_
      rw [ag.same e.on false (by have := hbk e he hbd; omega)]
    have hne : Region.ready md ops listed ≠ [] := by
      intro h0
      obtain ⟨o, ho⟩ : ∃ o, ops[j0]? = some o := ⟨_, Array.getElem?_eq_getElem (by omega)⟩
      have : j0 ∈ Region.ready md ops listed := mem_ready.2 ⟨hu0, o, ho, fun e he hbd => by
        have hlt := (backB_spec hb ((hH j0 (by omega)).trans ho)).1 e he hbd
        have h1 := hl0 e.on hlt
        have hsz : e.on < listed.size := by rw [inv.size]; omega
        simpa [hsz] using h1⟩
      rw [h0] at this
      cases this
    rw [show f + 1 + g = (f + g) + 1 by omega]
    refine ⟨fun h0 => absurd h0 hne, fun i hi => ?_⟩
    have hin : i < n := by
      rcases Nat.lt_or_ge i n with q | q
      · exact q
      · exact absurd hi (tail_waitsX hs hc hn inv h00 _ j0 rfl hj0 hu0 i q)
    have hiu := (mem_ready.1 hi).1
    have hq := h.2 i ((hready i hin).2 hi)
    obtain ⟨o, ho⟩ : ∃ o, ops[i]? = some o := ⟨_, Array.getElem?_eq_getElem (by omega)⟩
    have hoH : H[i]? = some o := (hH i (by omega)).trans ho
    have go : ∀ (a' : Act) (w' : World), C w' → wpAnyQ P md H C Q f (done.setIfInBounds i true) a' → wpAny P md ops Q' (f + g) (listed.setIfInBounds i true) a' w' := fun a' w' hw' hk =>
      wpAny_aheadX hn hHn hH hb hs hc hT f _ _ a' w' (by have := toCome_set hiu hin; omega) (inv.set hi hin) (h00.set i) (ag.set (by rw [inv.size]; omega)) hw' hk
    unfold qOp at hq
    simp only [hoH] at hq
    rw [wanted_ahead hH hb hoH] at hq
    unfold wpOp
    simp only [ho]
    split
    · rename_i hwd
      rw [if_pos hwd] at hq
      exact .inl (Oper.wp_of_quiet hw go hq)
    · rename_i hwd
      rw [if_neg hwd] at hq
      exact go _ _ hw hq
end
/-- From what has been carried out on: the operations ks that only read, then the tail from number n on. -/
theorem wpAny_quiet_tailX {P : Program} {Q : Exit → Act → World → Prop} {a : Act} {w : World} {l : List Oper} {X : Array Bool} {fuel : Nat} (n : Nat) (ks : List Nat) (C : World → Prop) (hC : C w)
    (h1 : (Region.noSelect (l.take n).toArray && lexList .any (l.take n).toArray ks (X.take n)) = true)
    (h2 : backB .any (l.take n).toArray = true) (h3 : (decide (n < l.length) && sinkXB .any l.toArray n X && Region.chainB .any l.toArray n && headXB .any l.toArray n X && decide (toCome X n = ks.length) && decide (fuel = ks.length + (l.length - n))) = true)
    (h4 : Region.seqB .any l.toArray (l.length - n) n (Array.replicate n true ++ Array.replicate (l.length - n) false) = true)
    (h : wpQuiet P (l.take n).toArray C (fun a' => ∀ w', C w' → wpList P l.toArray Q (l.drop n) a' w') (ks.map fun k => (l.take n).toArray.getD k default) a) : wpAny P .any l.toArray Q fuel X a w := by
  simp only [Bool.and_eq_true, decide_eq_true_eq] at h1 h3
  obtain ⟨⟨⟨⟨⟨hn, hs⟩, hc⟩, hx⟩, hcome⟩, hfu⟩ := h3
  have inv0 := headXB_spec hx
  have htl : (l.take n).length = n := by simp; omega
  have hsz : X.size = l.length := by simpa using inv0.size
  have hQ2 := wpAnyQ_list (P := P) (C := C) (md := .any) (Q := fun a' => ∀ w', C w' → wpList P l.toArray Q (l.drop n) a' w') h1.1 ks (X.take n) a h1.2 h
  rw [hfu]
  exact wpAny_aheadX (P := P) (md := .any) (H := (l.take n).toArray) (ops := l.toArray) (C := C) (n := n) (g := l.length - n) (Q := fun a' => ∀ w', C w' → wpList P l.toArray Q (l.drop n) a' w') (Q' := Q) (by simpa using hn) (by simpa using htl)
    (fun j hj => by
      have hj' : j < n := by simp at hj; omega
      rw [List.getElem?_toArray, List.getElem?_toArray, List.getElem?_take_of_lt hj'])
    h2 hs hc
    (fun listed a' w' inv hall hq hw' => by
      have hL : listed = Array.replicate n true ++ Array.replicate (l.length - n) false := by
        apply Array.ext_getElem?
        intro j
        have hsz : listed.size = l.length := by simpa using inv.size
        by_cases hj : j < n
        · have := hall j hj
          have hjs : j < listed.size := by omega
          rw [Array.getElem?_append_left (by simpa using hj)]
          simp [hjs, hj] at this ⊢
          exact this
        · by_cases hj2 : j < l.length
          · have := inv.tail j (by omega) (by simpa using hj2)
            have hjs : j < listed.size := by omega
            have hv : listed[j]? = some false := by
              rw [Array.getElem?_eq_getElem hjs]
              simpa [hjs] using this
            have hk : j - (Array.replicate n true).size < l.length - n := by rw [Array.size_replicate]; omega
            rw [hv, Array.getElem?_append_right (by rw [Array.size_replicate]; omega), Array.getElem?_replicate, if_pos hk]
          · rw [Array.getElem?_eq_none (by omega), Array.getElem?_eq_none (by simp; omega)]
      have hdl : (l.drop n).length = l.length - n := by simp
      have := wpAny_of_seq (md := .any) (Q' := Q) (l.drop n) n listed a' w' (fun j => by simp [List.getElem?_drop]) (by rw [hdl, hL]; exact h4) (hq w' hw')
      rwa [hdl] at this)
    ks.length (X.take n) X a w hcome inv0 (fun j hj => hj)
    ⟨by simp; omega, fun j b hj => by
      have hj' : j < n := by have : j < (l.take n).length := by simpa using hj
                             omega
      have h3 : j < X.size := by omega
      have h4 : (X.take n)[j]? = X[j]? := by
        simp only [Array.take_eq_extract, Array.getElem?_extract]
        rw [if_pos (by omega), Nat.zero_add]
      rw [Array.getD_eq_getD_getElem?, Array.getD_eq_getD_getElem?, h4]⟩ hC hQ2
end Go.Proofs.YtfjmbcljohobeaaDoor
