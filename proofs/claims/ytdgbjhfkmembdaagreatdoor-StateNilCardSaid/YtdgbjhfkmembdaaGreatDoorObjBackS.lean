/-
  What is written for an object that may be is read as it; what is read as an object was written for it. No conditions but those said; no program runs here.
-/
import Derived.Test.YtdgbjhfkmembdaaGreatDoorObjSpec
namespace Go.Proofs.YtdgbjhfkmembdaaGreatDoor
set_option linter.unusedVariables false

def OpOk (x : OpD) : Prop := RefOk x.2.1 ∧ RefOk x.2.2.1 ∧ (Lit.int .i64 x.2.2.2.2.1).wf = true
def ChangeOk (c : ChangeD) : Prop := (Lit.int .i64 c.1).wf = true ∧ IdsOk c.2.1 ∧ ∀ x ∈ c.2.2.2, OpOk x
def CommitOk (c : CommitD) : Prop := IdsOk c.1 ∧ IdsOk c.2.1 ∧ (Lit.int .i64 c.2.2.2.2).wf = true
def ObjOk (o : ObjD) : Prop := ChangeOk o.2.1 ∧ CommitOk o.2.2
theorem wf_bound {n : Int} (h : (Lit.int .i64 n).wf = true) : -9223372036854775808 ≤ n ∧ n < 9223372036854775808 := by
  simp only [Lit.wf, IntKind.min, IntKind.max, IntKind.signed, IntKind.bits, Bool.and_eq_true] at h
  simp at h
  omega
theorem numE_nat (n : Nat) : numE (n : Int) = numB n := by unfold numE; rw [if_neg (by omega)]; rfl
theorem numE_read {n : Int} (h0 : 0 ≤ n) (h : n < 9223372036854775808) (r : List UInt8) : pNum (numE n ++ r) = some (n.toNat, r) := by
  unfold numE
  rw [if_neg (by omega)]
  exact num_read (by omega) r
theorem numI_read {n : Int} (h0 : 0 ≤ n) (h : n < 9223372036854775808) (r : List UInt8) : pNumI (numE n ++ r) = some (n, r) := by
  unfold pNumI
  rw [pBind_at (numE_read h0 h r)]
  unfold pRet
  rw [Int.toNat_of_nonneg h0]
theorem numI_cut {l : List UInt8} {n : Int} {r : List UInt8} (h : pNumI l = some (n, r)) : l = numE n ++ r := by
  obtain ⟨a, s, h1, h2⟩ := pBind_some h
  cases h2
  rw [numE_nat]
  exact (num_cut h1).1
section
variable {α : Type} {d : Ps α} {enc : α → List UInt8}
theorem many_read : ∀ {l : List α}, (∀ a ∈ l, ∀ r, d (enc a ++ r) = some (a, r)) → ∀ r, pMany d l.length ((l.map enc).flatten ++ r) = some (l, r)
  | [], _, r => rfl
  | a :: l, h, r => by
    show pBind d _ _ = _
    rw [List.map_cons, List.flatten_cons, List.append_assoc, pBind_at (h a (by simp) _), pBind_at (many_read (fun b hb => h b (by simp [hb])) r)]
    rfl
theorem many_cut (h : ∀ l a r, d l = some (a, r) → l = enc a ++ r) : ∀ (n : Nat) {l : List UInt8} {xs : List α} {r : List UInt8}, pMany d n l = some (xs, r) → l = (xs.map enc).flatten ++ r ∧ xs.length = n
  | 0, l, xs, r, e => by cases e; exact ⟨rfl, rfl⟩
  | n + 1, l, xs, r, e => by
    obtain ⟨a, s, h1, h2⟩ := pBind_some e
    obtain ⟨t, s2, h3, h4⟩ := pBind_some h2
    cases h4
    obtain ⟨e1, e2⟩ := many_cut h n h3
    rw [h _ _ _ h1, e1, List.map_cons, List.flatten_cons, List.append_assoc]
    exact ⟨rfl, by rw [List.length_cons, e2]⟩
theorem list_read {l : List α} {most : Nat} (hl : l.length ≤ most) (hm : most ≤ 4096) (h : ∀ a ∈ l, ∀ r, d (enc a ++ r) = some (a, r)) (r : List UInt8) : pList most d (numE (l.length : Int) ++ ((l.map enc).flatten ++ r)) = some (l, r) := by
  unfold pList
  rw [pBind_at (numE_read (by omega) (by omega) _)]
  unfold pNeed
  rw [if_pos (by simpa using hl)]
  exact many_read h r
theorem list_cut (h : ∀ l a r, d l = some (a, r) → l = enc a ++ r) {most : Nat} {l : List UInt8} {xs : List α} {r : List UInt8} (e : pList most d l = some (xs, r)) : l = numE (xs.length : Int) ++ ((xs.map enc).flatten ++ r) ∧ xs.length ≤ most := by
  obtain ⟨n, s, h1, h2⟩ := pBind_some e
  unfold pNeed at h2
  split at h2
  · rename_i hn
    obtain ⟨e1, e2⟩ := many_cut h n h2
    rw [(num_cut h1).1, e1, e2, numE_nat]
    exact ⟨rfl, by simpa using hn⟩
  · cases h2
theorem if_read {b : Bool} {z a : α} {l : List UInt8} (h1 : b = true → ∀ r, d (l ++ r) = some (a, r)) (h2 : b = false → a = z) (r : List UInt8) : pIf b z d (ifE b l ++ r) = some (a, r) := by
  cases b with
  | false => rw [h2 rfl]; rfl
  | true => exact h1 rfl r
theorem if_cut {b : Bool} {z a : α} {l r : List UInt8} (h : ∀ l a r, d l = some (a, r) → l = enc a ++ r) (e : pIf b z d l = some (a, r)) : l = ifE b (enc a) ++ r := by
  cases b with
  | false => cases e; rfl
  | true => exact h _ _ _ e
end
theorem map_id_flatten (l : List (List UInt8)) : (l.map id).flatten = l.flatten := by rw [List.map_id]
theorem ids_read {l : List (List UInt8)} {most : Nat} (hl : l.length ≤ most) (hm : most ≤ 4096) (h : IdsOk l) (r : List UInt8) : pList most pId (idsE l ++ r) = some (l, r) := by
  have := list_read (d := pId) (enc := id) hl hm (fun a ha s => id_read (h a ha) s) r
  rw [map_id_flatten] at this
  unfold idsE
  rw [List.append_assoc]
  exact this
theorem ids_cut {l : List UInt8} {most : Nat} {xs : List (List UInt8)} {r : List UInt8} (e : pList most pId l = some (xs, r)) : l = idsE xs ++ r := by
  have := (list_cut (enc := id) (fun l a r h => (id_cut h).1) e).1
  rw [map_id_flatten] at this
  unfold idsE
  rw [List.append_assoc]
  exact this

/-- Nothing is ahead of the zero id. -/
theorem cmpB_zeros : ∀ (n : Nat) (a : List UInt8), a.length = n → ¬ cmpB a (List.replicate n 0) < 0
  | 0, a, h => by
    rw [List.length_eq_zero_iff.1 h]
    rw [show List.replicate 0 (0 : UInt8) = [] from rfl, cmpB_nil]
    omega
  | n + 1, [], h => by cases h
  | n + 1, x :: a, h => by
    rw [List.replicate_succ, cmpB_cons, if_neg (by rw [UInt8.lt_iff_toNat_lt]; exact Nat.not_lt_zero _)]
    split
    · omega
    · exact cmpB_zeros n a (by simpa using h)
theorem ids_nodup {l : List (List UInt8)} (h : isSetB l = true) : ∀ i j (hij : i < j) (hj : j < l.length), l[i]'(Nat.lt_trans hij hj) ≠ l[j] := fun i j hij hj e => by
  have := (List.pairwise_iff_getElem.1 (isSetB_pair h)) i j (by omega) hj hij
  rw [e, cmpB_self] at this
  omega
theorem idxOf_at {l : List (List UInt8)} (h : isSetB l = true) (i : Nat) (hi : i < l.length) : l.idxOf l[i] = i := by
  have hm : l[i] ∈ l := List.getElem_mem hi
  have hlt := List.idxOf_lt_length_iff.2 hm
  have hg : l[l.idxOf l[i]] = l[i] := List.getElem_idxOf hlt
  rcases (by omega : l.idxOf l[i] < i ∨ i < l.idxOf l[i] ∨ l.idxOf l[i] = i) with q | q | q
  · exact absurd hg (ids_nodup h _ _ q hi)
  · exact absurd hg.symm (ids_nodup h _ _ q hlt)
  · exact q
theorem idsB_zero {l : List (List UInt8)} {most : Nat} (h : idsB l most = true) (ho : IdsOk l) : l.length ≤ most ∧ isSetB l = true ∧ zero32 ∉ l := by
  unfold idsB at h
  simp only [Bool.and_eq_true, decide_eq_true_eq] at h
  refine ⟨h.1.1, h.1.2, fun hz => ?_⟩
  obtain ⟨i, hi, e⟩ := List.getElem_of_mem hz
  cases l with
  | nil => cases hz
  | cons a l =>
    have h2 : a ≠ zero32 := by simpa using h.2
    cases i with
    | zero => exact h2 e
    | succ i =>
      have h3 := (List.pairwise_iff_getElem.1 (isSetB_pair h.1.2)) 0 (i + 1) (by simp) hi (by omega)
      rw [e] at h3
      exact cmpB_zeros 32 a (ho a (by simp)) h3
theorem ref_read {deps : List (List UInt8)} {r : RefD} (hl : deps.length ≤ 4096) (hm : r.1 = zero32 ∨ r.1 ∈ deps) (h0 : 0 ≤ r.2) (h1 : r.2 < 9223372036854775808) (s : List UInt8) : pRef deps (refE deps r ++ s) = some (r, s) := by
  obtain ⟨c, n⟩ := r
  simp only at hm h0 h1
  unfold pRef refE
  rw [List.append_assoc]
  simp only
  by_cases hz : c = zero32
  · rw [if_neg (by simp [hz]), pBind_at (numE_read (by omega) (by omega) _)]
    unfold pNeed
    rw [if_pos (by simp), pBind_at (numE_read h0 h1 _)]
    unfold pRet
    rw [if_pos (by rfl), Int.toNat_of_nonneg h0, hz]
  · have hin : c ∈ deps := hm.resolve_left hz
    have hlt := List.idxOf_lt_length_iff.2 hin
    rw [if_pos hz, pBind_at (numE_read (by omega) (by omega) _)]
    have e : ((deps.idxOf c : Int) + 1).toNat = deps.idxOf c + 1 := by omega
    unfold pNeed
    rw [e, if_pos (by simp; omega), pBind_at (numE_read h0 h1 _)]
    unfold pRet
    rw [if_neg (by omega), Int.toNat_of_nonneg h0, Nat.add_sub_cancel, List.getD_eq_getElem?_getD, List.getElem?_eq_getElem hlt, List.getElem_idxOf hlt]
    rfl
theorem ref_cut {deps : List (List UInt8)} (hs : isSetB deps = true) (hz : zero32 ∉ deps) {l : List UInt8} {r : RefD} {s : List UInt8} (h : pRef deps l = some (r, s)) : l = refE deps r ++ s := by
  obtain ⟨n, t, h1, h2⟩ := pBind_some h
  unfold pNeed at h2
  split at h2
  · rename_i hn
    have hn : n ≤ deps.length := by simpa using hn
    obtain ⟨i, t2, h3, h4⟩ := pBind_some h2
    cases h4
    rw [(num_cut h1).1, (num_cut h3).1]
    unfold refE
    simp only
    rw [numE_nat]
    by_cases h0 : n = 0
    · subst h0
      rw [if_neg (by simp), List.append_assoc]
      rfl
    · have hlt : n - 1 < deps.length := by omega
      have hg : deps.getD (n - 1) zero32 = deps[n - 1] := by rw [List.getD_eq_getElem?_getD, List.getElem?_eq_getElem hlt]; rfl
      have hne : deps[n - 1] ≠ zero32 := fun e => hz (e ▸ List.getElem_mem hlt)
      rw [if_neg h0, hg, if_pos hne, idxOf_at hs _ hlt, show ((n - 1 : Nat) : Int) + 1 = (n : Int) by omega, numE_nat, List.append_assoc]
  · cases h2

theorem partsOf_cases {k : UInt8} {p : PartD} (h : partsOf k = some p) : (k = 1 ∧ p = (true, true, true, false, false)) ∨ (k = 2 ∧ p = (true, true, false, true, false)) ∨ (k = 3 ∧ p = (false, false, false, false, true)) ∨ (k = 4 ∧ p = (true, false, false, false, true)) ∨ (k = 5 ∧ p = (true, false, false, false, false)) := by
  unfold partsOf at h
  repeat (split at h; · rename_i hk; cases h; simp [hk])
  cases h
theorem foreign_in {deps : List (List UInt8)} {r : RefD} (h : foreignB deps r = true) : r.1 ∈ deps ∧ 0 ≤ r.2 := by
  unfold foreignB at h
  simp only [Bool.and_eq_true, decide_eq_true_eq] at h
  exact ⟨h.1.1.2, h.1.2⟩
theorem doc_in {deps : List (List UInt8)} {mk : List MadeD} {r : RefD} (h : docB deps mk r = true) : (r.1 = zero32 ∨ r.1 ∈ deps) ∧ 0 ≤ r.2 := by
  unfold docB at h
  split at h
  · have := foreign_in h; exact ⟨.inr this.1, this.2⟩
  · rename_i hz
    simp only [Bool.and_eq_true, decide_eq_true_eq] at h
    exact ⟨.inl (Classical.not_not.1 hz), h.1.1⟩
theorem elems_in {deps : List (List UInt8)} {mk : List MadeD} {r d : RefD} {n : Int} (h : elemsB deps mk r d n = true) : (r.1 = zero32 ∨ r.1 ∈ deps) ∧ 0 ≤ r.2 := by
  unfold elemsB at h
  split at h
  · have := foreign_in h; exact ⟨.inr this.1, this.2⟩
  · rename_i hz
    simp only [Bool.and_eq_true, decide_eq_true_eq] at h
    exact ⟨.inl (Classical.not_not.1 hz), h.1.1.1⟩
theorem fileB_size {s : ByteArray} (h : fileB s = true) : s.size ≤ 4096 := by
  unfold fileB at h
  simp only [Bool.and_eq_true, decide_eq_true_eq] at h
  exact h.1
theorem pathB_size {s : ByteArray} (h : pathB s = true) : s.size ≤ 64 := by
  unfold pathB at h
  simp only [Bool.and_eq_true, decide_eq_true_eq] at h
  exact h.1.1.2
theorem authorB_size {s : ByteArray} (h : authorB s = true) : s.size ≤ 32 := by
  unfold authorB at h
  simp only [Bool.and_eq_true, decide_eq_true_eq] at h
  exact h.1.2
theorem noteB_size {s : ByteArray} (h : noteB s = true) : s.size ≤ 256 := by
  unfold noteB at h
  simp only [Bool.and_eq_true, decide_eq_true_eq] at h
  exact h.1
/-- What an operation that may be names. -/
theorem op_names {deps : List (List UInt8)} {mk : List MadeD} {x : OpD} {p : PartD} (hp : partsOf x.1 = some p) (h : opB deps mk x = true) :
    (p.1 = true → (x.2.1.1 = zero32 ∨ x.2.1.1 ∈ deps) ∧ 0 ≤ x.2.1.2) ∧ (p.1 = false → x.2.1 = zeroRef) ∧ (p.2.1 = true → (x.2.2.1.1 = zero32 ∨ x.2.2.1.1 ∈ deps) ∧ 0 ≤ x.2.2.1.2) ∧ (p.2.1 = false → x.2.2.1 = zeroRef) ∧
    (p.2.2.1 = true → x.2.2.2.1.size ≤ 4096) ∧ (p.2.2.1 = false → x.2.2.2.1 = noneS) ∧ (p.2.2.2.1 = true → 0 ≤ x.2.2.2.2.1) ∧ (p.2.2.2.1 = false → x.2.2.2.2.1 = 0) ∧ (p.2.2.2.2 = true → x.2.2.2.2.2.size ≤ 4096) ∧ (p.2.2.2.2 = false → x.2.2.2.2.2 = noneS) := by
  obtain ⟨k, d, a, t, c, q⟩ := x
  unfold opB at h
  simp only at hp h ⊢
  rw [hp] at h
  simp only [absentB, Bool.and_eq_true] at h
  obtain ⟨⟨⟨⟨hab, hd⟩, hq⟩, h2⟩, h1⟩ := h
  have hat : k = 1 → (a.1 = zero32 ∨ a.1 ∈ deps) ∧ 0 ≤ a.2 := fun e => by
    subst e
    rcases partsOf_cases hp with ⟨_, rfl⟩ | ⟨e, _⟩ | ⟨e, _⟩ | ⟨e, _⟩ | ⟨e, _⟩
    · have hdd := doc_in (by simpa using hd : docB deps mk d = true)
      simp only [decide_true, Bool.not_true, Bool.false_or, Bool.and_eq_true, Bool.or_eq_true, decide_eq_true_eq] at h1
      rcases h1.1.1 with e | e
      · rw [e]; exact hdd
      · exact elems_in e
    all_goals exact absurd e (by decide)
  rcases partsOf_cases hp with ⟨rfl, rfl⟩ | ⟨rfl, rfl⟩ | ⟨rfl, rfl⟩ | ⟨rfl, rfl⟩ | ⟨rfl, rfl⟩
  · simp at hab hd hq h1 h2 ⊢
    exact ⟨doc_in hd, hat rfl, fileB_size h1.2, hab.1, hab.2⟩
  · simp at hab hd hq h1 h2 ⊢
    exact ⟨doc_in hd, elems_in h2.2, hab.1, by omega, hab.2⟩
  · simp at hab hd hq h1 h2 ⊢
    exact ⟨hab.1.1.1, hab.1.1.2, hab.1.2, hab.2, by have := pathB_size hq; omega⟩
  · simp at hab hd hq h1 h2 ⊢
    exact ⟨doc_in hd, hab.1.1, hab.1.2, hab.2, by have := pathB_size hq; omega⟩
  · simp at hab hd hq h1 h2 ⊢
    exact ⟨doc_in hd, hab.1.1.1, hab.1.1.2, hab.1.2, hab.2⟩
theorem op_read {deps : List (List UInt8)} {mk : List MadeD} {x : OpD} (hl : deps.length ≤ 4096) (ho : OpOk x) (h : opB deps mk x = true) (r : List UInt8) : pOp deps (opE deps x ++ r) = some (x, r) := by
  rcases hp : partsOf x.1 with _ | p
  · unfold opB at h; rw [hp] at h; cases h
  · obtain ⟨n1, n2, n3, n4, n5, n6, n7, n8, n9, n10⟩ := op_names hp h
    obtain ⟨k, d, a, t, c, q⟩ := x
    simp only at hp n1 n2 n3 n4 n5 n6 n7 n8 n9 n10
    have hb1 := wf_bound ho.1.2
    have hb2 := wf_bound ho.2.1.2
    have hb3 := wf_bound ho.2.2
    simp only at hb1 hb2 hb3
    have e : opE deps (k, d, a, t, c, q) ++ r = k :: (ifE p.1 (refE deps d) ++ (ifE p.2.1 (refE deps a) ++ (ifE p.2.2.1 (textB (L t)) ++ (ifE p.2.2.2.1 (numE c) ++ (ifE p.2.2.2.2 (textB (L q)) ++ r))))) := by
      unfold opE
      simp only [hp, Option.getD_some, List.cons_append, List.append_assoc]
    rw [e]
    unfold pOp
    rw [pBind_at (d := pByte) rfl]
    rw [hp]
    simp only
    rw [pBind_at (if_read (fun b s => ref_read hl (n1 b).1 (n1 b).2 hb1.2 s) n2 _), pBind_at (if_read (fun b s => ref_read hl (n3 b).1 (n3 b).2 hb2.2 s) n4 _), pBind_at (if_read (fun b s => text_read (n5 b) s) n6 _), pBind_at (if_read (fun b s => numI_read (n7 b) hb3.2 s) n8 _), pBind_at (if_read (fun b s => text_read (n9 b) s) n10 _)]
    rfl
theorem op_cut {deps : List (List UInt8)} (hs : isSetB deps = true) (hz : zero32 ∉ deps) {l : List UInt8} {x : OpD} {r : List UInt8} (h : pOp deps l = some (x, r)) : l = opE deps x ++ r := by
  obtain ⟨k, s, h1, h2⟩ := pBind_some h
  cases l with
  | nil => cases h1
  | cons k' l =>
    cases h1
    rcases hp : partsOf k with _ | p
    · rw [hp] at h2; cases h2
    · rw [hp] at h2
      simp only at h2
      obtain ⟨d, s1, c1, h3⟩ := pBind_some h2
      obtain ⟨a, s2, c2, h4⟩ := pBind_some h3
      obtain ⟨t, s3, c3, h5⟩ := pBind_some h4
      obtain ⟨c, s4, c4, h6⟩ := pBind_some h5
      obtain ⟨q, s5, c5, h7⟩ := pBind_some h6
      cases h7
      rw [if_cut (fun l a r h => ref_cut hs hz h) c1, if_cut (fun l a r h => ref_cut hs hz h) c2, if_cut (enc := fun t => textB (L t)) (fun l a r h => (text_cut h).1) c3, if_cut (fun l a r h => numI_cut h) c4, if_cut (enc := fun t => textB (L t)) (fun l a r h => (text_cut h).1) c5]
      unfold opE
      simp only [hp, Option.getD_some, List.cons_append, List.append_assoc]
theorem ops_each {deps : List (List UInt8)} : ∀ {l : List OpD} {mk : List MadeD}, opsB deps mk l = true → ∀ x ∈ l, ∃ mk, opB deps mk x = true
  | [], _, _, _, h => by cases h
  | y :: l, mk, h, x, hx => by
    unfold opsB at h
    rw [Bool.and_eq_true] at h
    rcases List.mem_cons.1 hx with rfl | hx
    · exact ⟨mk, h.1⟩
    · exact ops_each h.2 x hx
theorem change_read {c : ChangeD} (ho : ChangeOk c) (h : changeB c = true) (r : List UInt8) : pObj (changeE c ++ r) = some ((1, c, noCommitD), r) := by
  obtain ⟨t, ds, a, ops⟩ := c
  unfold changeB at h
  simp only [Bool.and_eq_true, decide_eq_true_eq] at h
  obtain ⟨⟨⟨⟨⟨⟨h1, h2⟩, h3⟩, h4⟩, h5⟩, h6⟩, h7⟩ := h
  obtain ⟨k1, k2, k3⟩ := idsB_zero h3 ho.2.1
  have hops := fun x hx r => op_read k1 (ho.2.2 x hx) (ops_each h7 x hx).choose_spec r
  have e : changeE (t, ds, a, ops) ++ r = 67 :: (numE t ++ (idsE ds ++ (textB (L a) ++ (numE (ops.length : Int) ++ ((ops.map (opE ds)).flatten ++ r))))) := by
    unfold changeE opsE
    simp only [List.cons_append, List.append_assoc]
  rw [e]
  unfold pObj
  rw [pBind_at (d := pByte) rfl, if_pos rfl, pBind_at (a := (t, ds, a, ops)) (s := r)]
  · rfl
  · unfold pChange
    rw [pBind_at (numI_read (by omega) (by omega) _), pBind_at (ids_read k1 (by omega) ho.2.1 _), pBind_at (text_read (by have := authorB_size h4; omega) _), pBind_at (list_read h6 (by omega) hops _)]
    rfl
theorem commit_read {c : CommitD} (ho : CommitOk c) (h : commitB c = true) (r : List UInt8) : pObj (commitE c ++ r) = some ((2, noChangeD, c), r) := by
  obtain ⟨ps, cs, a, m, t⟩ := c
  unfold commitB at h
  simp only [Bool.and_eq_true, decide_eq_true_eq] at h
  obtain ⟨⟨⟨⟨⟨h1, h2⟩, h3⟩, h4⟩, h5⟩, h6⟩ := h
  obtain ⟨k1, k2, k3⟩ := idsB_zero h1 ho.1
  obtain ⟨j1, j2, j3⟩ := idsB_zero h2 ho.2.1
  have e : commitE (ps, cs, a, m, t) ++ r = 75 :: (idsE ps ++ (idsE cs ++ (textB (L a) ++ (textB (L m) ++ (numE t ++ r))))) := by
    unfold commitE
    simp only [List.cons_append, List.append_assoc]
  rw [e]
  unfold pObj
  rw [pBind_at (d := pByte) rfl, if_neg (by decide), if_pos rfl, pBind_at (a := (ps, cs, a, m, t)) (s := r)]
  · rfl
  · unfold pCommit
    rw [pBind_at (ids_read k1 (by omega) ho.1 _), pBind_at (ids_read j1 (by omega) ho.2.1 _), pBind_at (text_read (by have := authorB_size h3; omega) _), pBind_at (text_read (by have := noteB_size h4; omega) _), pBind_at (numI_read (by omega) (by omega) _)]
    rfl
theorem noCommit_is {c : CommitD} (h : noCommitB c = true) : c = noCommitD := by
  obtain ⟨a, b, c, d, e⟩ := c
  unfold noCommitB at h
  simp only [Bool.and_eq_true, decide_eq_true_eq] at h
  obtain ⟨⟨⟨⟨rfl, rfl⟩, rfl⟩, rfl⟩, rfl⟩ := h
  rfl
theorem noChange_is {c : ChangeD} (h : noChangeB c = true) : c = noChangeD := by
  obtain ⟨a, b, c, d⟩ := c
  unfold noChangeB at h
  simp only [Bool.and_eq_true, decide_eq_true_eq] at h
  obtain ⟨⟨⟨rfl, rfl⟩, rfl⟩, rfl⟩ := h
  rfl
/-- What is written is read. -/
theorem read_enc {o : ObjD} (ho : ObjOk o) (h : rightB o = true) : readS (objE o) = some o := by
  have hr := h
  obtain ⟨k, c, m⟩ := o
  unfold rightB at h
  have key : pObj (objE (k, c, m) ++ []) = some ((k, c, m), []) := by
    split at h
    · rename_i hk
      rw [Bool.and_eq_true] at h
      simp only at hk h
      subst hk
      rw [noCommit_is h.1]
      exact change_read ho.1 h.2 []
    · split at h
      · rename_i hk
        rw [Bool.and_eq_true] at h
        simp only at hk h
        subst hk
        rw [noChange_is h.1]
        exact commit_read ho.2 h.2 []
      · cases h
  rw [List.append_nil] at key
  unfold readS
  rw [key]
  simp only
  rw [if_pos ⟨trivial, hr⟩]
theorem obj_cut {l : List UInt8} {o : ObjD} {r : List UInt8} (h : pObj l = some (o, r)) (hr : rightB o = true) (hi : IdsOk o.2.1.2.1) : l = objE o ++ r := by
  obtain ⟨k, s, h1, h2⟩ := pBind_some h
  cases l with
  | nil => cases h1
  | cons k' l =>
    cases h1
    split at h2
    · rename_i hk
      obtain ⟨c, s1, h3, h4⟩ := pBind_some h2
      cases h4
      unfold rightB at hr
      rw [if_pos rfl, Bool.and_eq_true] at hr
      have hc := hr.2
      obtain ⟨t, ds, a, ops⟩ := c
      unfold changeB at hc
      simp only [Bool.and_eq_true, decide_eq_true_eq] at hc
      obtain ⟨k1, k2, k3⟩ := idsB_zero hc.1.1.1.1.2 hi
      obtain ⟨_, q1, d1, e1⟩ := pBind_some h3
      obtain ⟨_, q2, d2, e2⟩ := pBind_some e1
      obtain ⟨_, q3, d3, e3⟩ := pBind_some e2
      obtain ⟨_, q4, d4, e4⟩ := pBind_some e3
      cases e4
      rw [hk, numI_cut d1, ids_cut d2, (text_cut d3).1, (list_cut (fun l a r h => op_cut k2 k3 h) d4).1]
      unfold objE changeE opsE
      rw [if_pos rfl]
      simp only [List.cons_append, List.append_assoc]
    · split at h2
      · rename_i hk
        obtain ⟨c, s1, h3, h4⟩ := pBind_some h2
        cases h4
        obtain ⟨_, q1, d1, e1⟩ := pBind_some h3
        obtain ⟨_, q2, d2, e2⟩ := pBind_some e1
        obtain ⟨_, q3, d3, e3⟩ := pBind_some e2
        obtain ⟨_, q4, d4, e4⟩ := pBind_some e3
        obtain ⟨_, q5, d5, e5⟩ := pBind_some e4
        cases e5
        rw [hk, ids_cut d1, ids_cut d2, (text_cut d3).1, (text_cut d4).1, numI_cut d5]
        unfold objE commitE
        rw [if_neg (show ¬ ((2 : UInt8) = 1) by decide)]
        simp only [List.cons_append, List.append_assoc]
      · cases h2
theorem many_ids : ∀ (n : Nat) {l : List UInt8} {xs : List (List UInt8)} {r : List UInt8}, pMany pId n l = some (xs, r) → IdsOk xs
  | 0, l, xs, r, e => by cases e; exact fun i hi => by cases hi
  | n + 1, l, xs, r, e => by
    obtain ⟨a, s, h1, h2⟩ := pBind_some e
    obtain ⟨t, s2, h3, h4⟩ := pBind_some h2
    cases h4
    intro i hi
    rcases List.mem_cons.1 hi with rfl | hi
    · exact (id_cut h1).2
    · exact many_ids n h3 i hi
theorem list_ids {most : Nat} {l : List UInt8} {xs : List (List UInt8)} {r : List UInt8} (e : pList most pId l = some (xs, r)) : IdsOk xs := by
  obtain ⟨n, s, h1, h2⟩ := pBind_some e
  unfold pNeed at h2
  split at h2
  · exact many_ids n h2
  · cases h2
/-- What is read is of the form. -/
theorem pObj_ids {l : List UInt8} {o : ObjD} {r : List UInt8} (h : pObj l = some (o, r)) : IdsOk o.2.1.2.1 := by
  obtain ⟨k, s, h1, h2⟩ := pBind_some h
  split at h2
  · obtain ⟨c, s1, h3, h4⟩ := pBind_some h2
    cases h4
    obtain ⟨_, q1, d1, e1⟩ := pBind_some h3
    obtain ⟨_, q2, d2, e2⟩ := pBind_some e1
    obtain ⟨_, q3, d3, e3⟩ := pBind_some e2
    obtain ⟨_, q4, d4, e4⟩ := pBind_some e3
    cases e4
    exact list_ids d2
  · split at h2
    · obtain ⟨c, s1, h3, h4⟩ := pBind_some h2
      cases h4
      exact fun i hi => by cases hi
    · cases h2
/-- What is read as an object was written for it. -/
theorem enc_read {l : List UInt8} {o : ObjD} (h : readS l = some o) : objE o = l ∧ rightB o = true := by
  unfold readS at h
  rcases hd : pObj l with _ | ⟨a, r⟩
  · rw [hd] at h; cases h
  · rw [hd] at h
    simp only at h
    split at h
    · rename_i hc
      cases h
      have := obj_cut hd hc.2 (pObj_ids hd)
      rw [hc.1, List.append_nil] at this
      exact ⟨this.symm, hc.2⟩
    · cases h
end Go.Proofs.YtdgbjhfkmembdaaGreatDoor
