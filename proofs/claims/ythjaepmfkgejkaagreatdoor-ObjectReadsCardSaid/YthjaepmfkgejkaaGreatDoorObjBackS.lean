/-
  What is written for an object that may be is read as it; what is read as an object was written for it. No conditions but those said; no program runs here.
-/
import Derived.Test.YthjaepmfkgejkaaGreatDoorMerged3
set_option linter.unusedVariables false
namespace Go.Proofs.YthjaepmfkgejkaaGreatDoor
def OpOk (x : OpD) : Prop := zb x.2.1 ∧ zb x.2.2.1 ∧ (Lit.int .i64 x.2.2.2.2.1).wf = true
def uO (c : zH) : Prop := (Lit.int .i64 c.1).wf = true ∧ IdsOk c.2.1 ∧ ∀ x ∈ c.2.2.2, OpOk x
def uP (c : zO) : Prop := IdsOk c.1 ∧ IdsOk c.2.1 ∧ (Lit.int .i64 c.2.2.2.2).wf = true
def ObjOk (o : KO) : Prop := uO o.2.1 ∧ uP o.2.2
theorem jM {n : Int} (h : (Lit.int .i64 n).wf = true) : -9223372036854775808 ≤ n ∧ n < 9223372036854775808 := by
  simp only [Lit.wf, IntKind.min, IntKind.max, IntKind.signed, IntKind.bits, Bool.and_eq_true] at h
  simp at h
  omega
theorem jw (n : Nat) : Jn (n : Int) = kZ n := by unfold Jn; rw [if_neg (by omega)]; rfl
theorem Jt {n : Int} (h0 : 0 ≤ n) (h : n < 9223372036854775808) (r : List UInt8) : zR (Jn n ++ r) = some (n.toNat, r) := by
  unfold Jn
  rw [if_neg (by omega)]
  exact num_read (by omega) r
theorem u9 {n : Int} (h0 : 0 ≤ n) (h : n < 9223372036854775808) (r : List UInt8) : Jk (Jn n ++ r) = some (n, r) := by
  unfold Jk
  rw [kz (Jt h0 h r)]
  unfold Jo
  rw [Int.toNat_of_nonneg h0]
theorem uQ {l : List UInt8} {n : Int} {r : List UInt8} (h : Jk l = some (n, r)) : l = Jn n ++ r := by
  obtain ⟨a, s, h1, h2⟩ := kp h
  cases h2
  rw [jw]
  exact (Kl h1).1
section
variable {α : Type} {d : Ps α} {enc : α → List UInt8}
theorem UG : ∀ {l : List α}, (∀ a ∈ l, ∀ r, d (enc a ++ r) = some (a, r)) → ∀ r, zY d l.length ((l.map enc).flatten ++ r) = some (l, r)
  | [], _, r => rfl
  | a :: l, h, r => by
    show jb d _ _ = _
    rw [List.map_cons, List.flatten_cons, List.append_assoc, kz (h a (by simp) _), kz (UG (fun b hb => h b (by simp [hb])) r)]
    rfl
theorem many_cut (h : ∀ l a r, d l = some (a, r) → l = enc a ++ r) : ∀ (n : Nat) {l : List UInt8} {xs : List α} {r : List UInt8}, zY d n l = some (xs, r) → l = (xs.map enc).flatten ++ r ∧ xs.length = n
  | 0, l, xs, r, e => by cases e; exact ⟨rfl, rfl⟩
  | n + 1, l, xs, r, e => by
    obtain ⟨a, s, h1, h2⟩ := kp e
    obtain ⟨t, s2, h3, h4⟩ := kp h2
    cases h4
    obtain ⟨e1, e2⟩ := many_cut h n h3
    rw [h _ _ _ h1, e1, List.map_cons, List.flatten_cons, List.append_assoc]
    exact ⟨rfl, by rw [List.length_cons, e2]⟩
theorem UH {l : List α} {most : Nat} (hl : l.length ≤ most) (hm : most ≤ 4096) (h : ∀ a ∈ l, ∀ r, d (enc a ++ r) = some (a, r)) (r : List UInt8) : kV most d (Jn (l.length : Int) ++ ((l.map enc).flatten ++ r)) = some (l, r) := by
  unfold kV
  rw [kz (Jt (by omega) (by omega) _)]
  unfold KS
  rw [if_pos (by simpa using hl)]
  exact UG h r
theorem list_cut (h : ∀ l a r, d l = some (a, r) → l = enc a ++ r) {most : Nat} {l : List UInt8} {xs : List α} {r : List UInt8} (e : kV most d l = some (xs, r)) : l = Jn (xs.length : Int) ++ ((xs.map enc).flatten ++ r) ∧ xs.length ≤ most := by
  obtain ⟨n, s, h1, h2⟩ := kp e
  unfold KS at h2
  split at h2
  ·
   rename_i hn
   obtain ⟨e1, e2⟩ := many_cut h n h2
   rw [(Kl h1).1, e1, e2, jw]
   exact ⟨rfl, by simpa using hn⟩
  · cases h2
theorem vy {b : Bool} {z a : α} {l : List UInt8} (h1 : b = true → ∀ r, d (l ++ r) = some (a, r)) (h2 : b = false → a = z) (r : List UInt8) : pIf b z d (ifE b l ++ r) = some (a, r) := by
  cases b with
  | false => rw [h2 rfl]; rfl
  | true => exact h1 rfl r
theorem uR {b : Bool} {z a : α} {l r : List UInt8} (h : ∀ l a r, d l = some (a, r) → l = enc a ++ r) (e : pIf b z d l = some (a, r)) : l = ifE b (enc a) ++ r := by
  cases b with
  | false => cases e; rfl
  | true => exact h _ _ _ e
end
theorem Zv (l : List (List UInt8)) : (l.map id).flatten = l.flatten := by rw [List.map_id]
theorem uS {l : List (List UInt8)} {most : Nat} (hl : l.length ≤ most) (hm : most ≤ 4096) (h : IdsOk l) (r : List UInt8) : kV most pId (jP l ++ r) = some (l, r) := by
  have := UH (d := pId) (enc := id) hl hm (fun a ha s => id_read (h a ha) s) r
  rw [Zv] at this
  unfold jP
  rw [List.append_assoc]
  exact this
theorem qe {l : List UInt8} {most : Nat} {xs : List (List UInt8)} {r : List UInt8} (e : kV most pId l = some (xs, r)) : l = jP xs ++ r := by
  have := (list_cut (enc := id) (fun l a r h => (id_cut h).1) e).1
  rw [Zv] at this
  unfold jP
  rw [List.append_assoc]
  exact this
theorem uT : ∀ (n : Nat) (a : List UInt8), a.length = n → ¬ jJ a (List.replicate n 0) < 0
  | 0, a, h => by
    rw [List.length_eq_zero_iff.1 h]
    rw [show List.replicate 0 (0 : UInt8) = [] from rfl, Zt]
    omega
  | n + 1, [], h => by cases h
  | n + 1, x :: a, h => by
    rw [List.replicate_succ, KH, if_neg (by rw [UInt8.lt_iff_toNat_lt]; exact Nat.not_lt_zero _)]
    split
    · omega
    · exact uT n a (by simpa using h)
theorem UI {l : List (List UInt8)} (h : kY l = true) : ∀ i j (hij : i < j) (hj : j < l.length), l[i]'(Nat.lt_trans hij hj) ≠ l[j] := fun i j hij hj e => by
  have := (List.pairwise_iff_getElem.1 (JO h)) i j (by omega) hj hij
  rw [e, JX] at this
  omega
theorem uU {l : List (List UInt8)} (h : kY l = true) (i : Nat) (hi : i < l.length) : l.idxOf l[i] = i := by
  have hm : l[i] ∈ l := List.getElem_mem hi
  have hlt := List.idxOf_lt_length_iff.2 hm
  have hg : l[l.idxOf l[i]] = l[i] := List.getElem_idxOf hlt
  rcases (by omega : l.idxOf l[i] < i ∨ i < l.idxOf l[i] ∨ l.idxOf l[i] = i) with q | q | q
  · exact absurd hg (UI h _ _ q hi)
  · exact absurd hg.symm (UI h _ _ q hlt)
  · exact q
theorem KI {l : List (List UInt8)} {most : Nat} (h : Kk l most = true) (ho : IdsOk l) : l.length ≤ most ∧ kY l = true ∧ zero32 ∉ l := by
  unfold Kk at h
  simp only [Bool.and_eq_true, decide_eq_true_eq] at h
  refine ⟨h.1.1, h.1.2, fun hz => ?_⟩
  obtain ⟨i, hi, e⟩ := List.getElem_of_mem hz
  cases l with
  | nil => cases hz
  | cons a l =>
    have h2 : a ≠ zero32 := by simpa using h.2
    cases i with
    | zero => exact h2 e
    | succ i =>
      have h3 := (List.pairwise_iff_getElem.1 (JO h.1.2)) 0 (i + 1) (by simp) hi (by omega)
      rw [e] at h3
      exact uT 32 a (ho a (by simp)) h3
theorem ref_read {deps : List (List UInt8)} {r : za} (hl : deps.length ≤ 4096) (hm : r.1 = zero32 ∨ r.1 ∈ deps) (h0 : 0 ≤ r.2) (h1 : r.2 < 9223372036854775808) (s : List UInt8) : JD deps (jH deps r ++ s) = some (r, s) := by
  obtain ⟨c, n⟩ := r
  simp only at hm h0 h1
  unfold JD jH
  rw [List.append_assoc]
  simp only
  by_cases hz : c = zero32
  ·
   rw [if_neg (by simp [hz]), kz (Jt (by omega) (by omega) _)]
   unfold KS
   rw [if_pos (by simp), kz (Jt h0 h1 _)]
   unfold Jo
   rw [if_pos (by rfl), Int.toNat_of_nonneg h0, hz]
  ·
   have hin : c ∈ deps := hm.resolve_left hz
   have hlt := List.idxOf_lt_length_iff.2 hin
   rw [if_pos hz, kz (Jt (by omega) (by omega) _)]
   have e : ((deps.idxOf c : Int) + 1).toNat = deps.idxOf c + 1 := by omega
   unfold KS
   rw [e, if_pos (by simp; omega), kz (Jt h0 h1 _)]
   unfold Jo
   rw [if_neg (by omega), Int.toNat_of_nonneg h0, Nat.add_sub_cancel, List.getD_eq_getElem?_getD, List.getElem?_eq_getElem hlt, List.getElem_idxOf hlt]
   rfl
theorem ref_cut {deps : List (List UInt8)} (hs : kY deps = true) (hz : zero32 ∉ deps) {l : List UInt8} {r : za} {s : List UInt8} (h : JD deps l = some (r, s)) : l = jH deps r ++ s := by
  obtain ⟨n, t, h1, h2⟩ := kp h
  unfold KS at h2
  split at h2
  ·
   rename_i hn
   have hn : n ≤ deps.length := by simpa using hn
   obtain ⟨i, t2, h3, h4⟩ := kp h2
   cases h4
   rw [(Kl h1).1, (Kl h3).1]
   unfold jH
   simp only
   rw [jw]
   by_cases h0 : n = 0
   · subst h0
     rw [if_neg (by simp), List.append_assoc]
     rfl
   ·
    have hlt : n - 1 < deps.length := by omega
    have hg : deps.getD (n - 1) zero32 = deps[n - 1] := by rw [List.getD_eq_getElem?_getD, List.getElem?_eq_getElem hlt]; rfl
    have hne : deps[n - 1] ≠ zero32 := fun e => hz (e ▸ List.getElem_mem hlt)
    rw [if_neg h0, hg, if_pos hne, uU hs _ hlt, show ((n - 1 : Nat) : Int) + 1 = (n : Int) by omega, jw, List.append_assoc]
  · cases h2
theorem Jh {k : UInt8} {p : Jq} (h : kq k = some p) : (k = 1 ∧ p = (true, true, true, false, false)) ∨ (k = 2 ∧ p = (true, true, false, true, false)) ∨ (k = 3 ∧ p = (false, false, false, false, true)) ∨ (k = 4 ∧ p = (true, false, false, false, true)) ∨ (k = 5 ∧ p = (true, false, false, false, false)) := by
  unfold kq at h
  repeat (split at h; · rename_i hk; cases h; simp [hk])
  cases h
theorem uV {deps : List (List UInt8)} {r : za} (h : zl deps r = true) : r.1 ∈ deps ∧ 0 ≤ r.2 := by
  unfold zl at h
  simp only [Bool.and_eq_true, decide_eq_true_eq] at h
  exact ⟨h.1.1.2, h.1.2⟩
theorem uW {deps : List (List UInt8)} {mk : List jK} {r : za} (h : KP deps mk r = true) : (r.1 = zero32 ∨ r.1 ∈ deps) ∧ 0 ≤ r.2 := by
  unfold KP at h
  split at h
  · have := uV h; exact ⟨.inr this.1, this.2⟩
  · rename_i hz
    simp only [Bool.and_eq_true, decide_eq_true_eq] at h
    exact ⟨.inl (Classical.not_not.1 hz), h.1.1⟩
theorem elems_in {deps : List (List UInt8)} {mk : List jK} {r d : za} {n : Int} (h : js deps mk r d n = true) : (r.1 = zero32 ∨ r.1 ∈ deps) ∧ 0 ≤ r.2 := by
  unfold js at h
  split at h
  · have := uV h; exact ⟨.inr this.1, this.2⟩
  · rename_i hz
    simp only [Bool.and_eq_true, decide_eq_true_eq] at h
    exact ⟨.inl (Classical.not_not.1 hz), h.1.1.1⟩
theorem KE {s : ByteArray} (h : Ke s = true) : s.size ≤ 4096 := by
  unfold Ke at h
  simp only [Bool.and_eq_true, decide_eq_true_eq] at h
  exact h.1
theorem uX {s : ByteArray} (h : zf s = true) : s.size ≤ 64 := by
  unfold zf at h
  simp only [Bool.and_eq_true, decide_eq_true_eq] at h
  exact h.1.1.2
theorem Km {s : ByteArray} (h : zg s = true) : s.size ≤ 32 := by
  unfold zg at h
  simp only [Bool.and_eq_true, decide_eq_true_eq] at h
  exact h.1.2
theorem vj {s : ByteArray} (h : JC s = true) : s.size ≤ 256 := by
  unfold JC at h
  simp only [Bool.and_eq_true, decide_eq_true_eq] at h
  exact h.1
theorem uY {deps : List (List UInt8)} {mk : List jK} {x : OpD} {p : Jq} (hp : kq x.1 = some p) (h : opB deps mk x = true) :
    (p.1 = true → (x.2.1.1 = zero32 ∨ x.2.1.1 ∈ deps) ∧ 0 ≤ x.2.1.2) ∧ (p.1 = false → x.2.1 = kc) ∧ (p.2.1 = true → (x.2.2.1.1 = zero32 ∨ x.2.2.1.1 ∈ deps) ∧ 0 ≤ x.2.2.1.2) ∧ (p.2.1 = false → x.2.2.1 = kc) ∧
    (p.2.2.1 = true → x.2.2.2.1.size ≤ 4096) ∧ (p.2.2.1 = false → x.2.2.2.1 = k7) ∧ (p.2.2.2.1 = true → 0 ≤ x.2.2.2.2.1) ∧ (p.2.2.2.1 = false → x.2.2.2.2.1 = 0) ∧ (p.2.2.2.2 = true → x.2.2.2.2.2.size ≤ 4096) ∧ (p.2.2.2.2 = false → x.2.2.2.2.2 = k7) := by
  obtain ⟨k, d, a, t, c, q⟩ := x
  unfold opB at h
  simp only at hp h ⊢
  rw [hp] at h
  simp only [ks, Bool.and_eq_true] at h
  obtain ⟨⟨⟨⟨hab, hd⟩, hq⟩, h2⟩, h1⟩ := h
  have hat : k = 1 → (a.1 = zero32 ∨ a.1 ∈ deps) ∧ 0 ≤ a.2 := fun e => by
    subst e
    rcases Jh hp with ⟨_, rfl⟩ | ⟨e, _⟩ | ⟨e, _⟩ | ⟨e, _⟩ | ⟨e, _⟩
    ·
     have hdd := uW (by simpa using hd : KP deps mk d = true)
     simp only [decide_true, Bool.not_true, Bool.false_or, Bool.and_eq_true, Bool.or_eq_true, decide_eq_true_eq] at h1
     rcases h1.1.1 with e | e
     · rw [e]; exact hdd
     · exact elems_in e
    all_goals exact absurd e (by decide)
  rcases Jh hp with ⟨rfl, rfl⟩ | ⟨rfl, rfl⟩ | ⟨rfl, rfl⟩ | ⟨rfl, rfl⟩ | ⟨rfl, rfl⟩
  · simp at hab hd hq h1 h2 ⊢
    exact ⟨uW hd, hat rfl, KE h1.2, hab.1, hab.2⟩
  · simp at hab hd hq h1 h2 ⊢
    exact ⟨uW hd, elems_in h2.2, hab.1, by omega, hab.2⟩
  · simp at hab hd hq h1 h2 ⊢
    exact ⟨hab.1.1.1, hab.1.1.2, hab.1.2, hab.2, by have := uX hq; omega⟩
  · simp at hab hd hq h1 h2 ⊢
    exact ⟨uW hd, hab.1.1, hab.1.2, hab.2, by have := uX hq; omega⟩
  · simp at hab hd hq h1 h2 ⊢
    exact ⟨uW hd, hab.1.1.1, hab.1.1.2, hab.1.2, hab.2⟩
theorem op_read {deps : List (List UInt8)} {mk : List jK} {x : OpD} (hl : deps.length ≤ 4096) (ho : OpOk x) (h : opB deps mk x = true) (r : List UInt8) : pOp deps (opE deps x ++ r) = some (x, r) := by
  rcases hp : kq x.1 with _ | p
  · unfold opB at h; rw [hp] at h; cases h
  ·
   obtain ⟨n1, n2, n3, n4, n5, n6, n7, n8, n9, n10⟩ := uY hp h
   obtain ⟨k, d, a, t, c, q⟩ := x
   simp only at hp n1 n2 n3 n4 n5 n6 n7 n8 n9 n10
   have hb1 := jM ho.1.2
   have hb2 := jM ho.2.1.2
   have hb3 := jM ho.2.2
   simp only at hb1 hb2 hb3
   have e : opE deps (k, d, a, t, c, q) ++ r = k :: (ifE p.1 (jH deps d) ++ (ifE p.2.1 (jH deps a) ++ (ifE p.2.2.1 (kS (L t)) ++ (ifE p.2.2.2.1 (Jn c) ++ (ifE p.2.2.2.2 (kS (L q)) ++ r))))) := by
     unfold opE
     simp only [hp, Option.getD_some, List.cons_append, List.append_assoc]
   rw [e]
   unfold pOp
   rw [kz (d := zX) rfl]
   rw [hp]
   simp only
   rw [kz (vy (fun b s => ref_read hl (n1 b).1 (n1 b).2 hb1.2 s) n2 _), kz (vy (fun b s => ref_read hl (n3 b).1 (n3 b).2 hb2.2 s) n4 _), kz (vy (fun b s => JY (n5 b) s) n6 _), kz (vy (fun b s => u9 (n7 b) hb3.2 s) n8 _), kz (vy (fun b s => JY (n9 b) s) n10 _)]
   rfl
theorem op_cut {deps : List (List UInt8)} (hs : kY deps = true) (hz : zero32 ∉ deps) {l : List UInt8} {x : OpD} {r : List UInt8} (h : pOp deps l = some (x, r)) : l = opE deps x ++ r := by
  obtain ⟨k, s, h1, h2⟩ := kp h
  cases l with
  | nil => cases h1
  | cons k' l =>
    cases h1
    rcases hp : kq k with _ | p
    · rw [hp] at h2; cases h2
    ·
     rw [hp] at h2
     simp only at h2
     obtain ⟨d, s1, c1, h3⟩ := kp h2
     obtain ⟨a, s2, c2, h4⟩ := kp h3
     obtain ⟨t, s3, c3, h5⟩ := kp h4
     obtain ⟨c, s4, c4, h6⟩ := kp h5
     obtain ⟨q, s5, c5, h7⟩ := kp h6
     cases h7
     rw [uR (fun l a r h => ref_cut hs hz h) c1, uR (fun l a r h => ref_cut hs hz h) c2, uR (enc := fun t => kS (L t)) (fun l a r h => (zZ h).1) c3, uR (fun l a r h => uQ h) c4, uR (enc := fun t => kS (L t)) (fun l a r h => (zZ h).1) c5]
     unfold opE
     simp only [hp, Option.getD_some, List.cons_append, List.append_assoc]
theorem vz {deps : List (List UInt8)} : ∀ {l : List OpD} {mk : List jK}, Jj deps mk l = true → ∀ x ∈ l, ∃ mk, opB deps mk x = true
  | [], _, _, _, h => by cases h
  | y :: l, mk, h, x, hx => by
    unfold Jj at h
    rw [Bool.and_eq_true] at h
    rcases List.mem_cons.1 hx with rfl | hx
    · exact ⟨mk, h.1⟩
    · exact vz h.2 x hx
theorem change_read {c : zH} (ho : uO c) (h : kU c = true) (r : List UInt8) : u7 (zI c ++ r) = some ((1, c, kO), r) := by
  obtain ⟨t, ds, a, ops⟩ := c
  unfold kU at h
  simp only [Bool.and_eq_true, decide_eq_true_eq] at h
  obtain ⟨⟨⟨⟨⟨⟨h1, h2⟩, h3⟩, h4⟩, h5⟩, h6⟩, h7⟩ := h
  obtain ⟨k1, k2, k3⟩ := KI h3 ho.2.1
  have hops := fun x hx r => op_read k1 (ho.2.2 x hx) (vz h7 x hx).choose_spec r
  have e : zI (t, ds, a, ops) ++ r = 67 :: (Jn t ++ (jP ds ++ (kS (L a) ++ (Jn (ops.length : Int) ++ ((ops.map (opE ds)).flatten ++ r))))) := by
    unfold zI Zq
    simp only [List.cons_append, List.append_assoc]
  rw [e]
  unfold u7
  rw [kz (d := zX) rfl, if_pos rfl, kz (a := (t, ds, a, ops)) (s := r)]
  · rfl
  · unfold zT
    rw [kz (u9 (by omega) (by omega) _), kz (uS k1 (by omega) ho.2.1 _), kz (JY (by have := Km h4; omega) _), kz (UH h6 (by omega) hops _)]
    rfl
theorem commit_read {c : zO} (ho : uP c) (h : kW c = true) (r : List UInt8) : u7 (zS c ++ r) = some ((2, kL, c), r) := by
  obtain ⟨ps, cs, a, m, t⟩ := c
  unfold kW at h
  simp only [Bool.and_eq_true, decide_eq_true_eq] at h
  obtain ⟨⟨⟨⟨⟨h1, h2⟩, h3⟩, h4⟩, h5⟩, h6⟩ := h
  obtain ⟨k1, k2, k3⟩ := KI h1 ho.1
  obtain ⟨j1, j2, j3⟩ := KI h2 ho.2.1
  have e : zS (ps, cs, a, m, t) ++ r = 75 :: (jP ps ++ (jP cs ++ (kS (L a) ++ (kS (L m) ++ (Jn t ++ r))))) := by
    unfold zS
    simp only [List.cons_append, List.append_assoc]
  rw [e]
  unfold u7
  rw [kz (d := zX) rfl, if_neg (by decide), if_pos rfl, kz (a := (ps, cs, a, m, t)) (s := r)]
  · rfl
  · unfold zJ
    rw [kz (uS k1 (by omega) ho.1 _), kz (uS j1 (by omega) ho.2.1 _), kz (JY (by have := Km h3; omega) _), kz (JY (by have := vj h4; omega) _), kz (u9 (by omega) (by omega) _)]
    rfl
theorem noCommit_is {c : zO} (h : jh c = true) : c = kO := by
  obtain ⟨a, b, c, d, e⟩ := c
  unfold jh at h
  simp only [Bool.and_eq_true, decide_eq_true_eq] at h
  obtain ⟨⟨⟨⟨rfl, rfl⟩, rfl⟩, rfl⟩, rfl⟩ := h
  rfl
theorem noChange_is {c : zH} (h : ju c = true) : c = kL := by
  obtain ⟨a, b, c, d⟩ := c
  unfold ju at h
  simp only [Bool.and_eq_true, decide_eq_true_eq] at h
  obtain ⟨⟨⟨rfl, rfl⟩, rfl⟩, rfl⟩ := h
  rfl
theorem read_enc {o : KO} (ho : ObjOk o) (h : kJ o = true) : ji (KQ o) = some o := by
  have hr := h
  obtain ⟨k, c, m⟩ := o
  unfold kJ at h
  have key : u7 (KQ (k, c, m) ++ []) = some ((k, c, m), []) := by
    split at h
    ·
     rename_i hk
     rw [Bool.and_eq_true] at h
     simp only at hk h
     subst hk
     rw [noCommit_is h.1]
     exact change_read ho.1 h.2 []
    ·
     split at h
     ·
      rename_i hk
      rw [Bool.and_eq_true] at h
      simp only at hk h
      subst hk
      rw [noChange_is h.1]
      exact commit_read ho.2 h.2 []
     · cases h
  rw [List.append_nil] at key
  unfold ji
  rw [key]
  simp only
  rw [if_pos ⟨trivial, hr⟩]
theorem obj_cut {l : List UInt8} {o : KO} {r : List UInt8} (h : u7 l = some (o, r)) (hr : kJ o = true) (hi : IdsOk o.2.1.2.1) : l = KQ o ++ r := by
  obtain ⟨k, s, h1, h2⟩ := kp h
  cases l with
  | nil => cases h1
  | cons k' l =>
    cases h1
    split at h2
    ·
     rename_i hk
     obtain ⟨c, s1, h3, h4⟩ := kp h2
     cases h4
     unfold kJ at hr
     rw [if_pos rfl, Bool.and_eq_true] at hr
     have hc := hr.2
     obtain ⟨t, ds, a, ops⟩ := c
     unfold kU at hc
     simp only [Bool.and_eq_true, decide_eq_true_eq] at hc
     obtain ⟨k1, k2, k3⟩ := KI hc.1.1.1.1.2 hi
     obtain ⟨_, q1, d1, e1⟩ := kp h3
     obtain ⟨_, q2, d2, e2⟩ := kp e1
     obtain ⟨_, q3, d3, e3⟩ := kp e2
     obtain ⟨_, q4, d4, e4⟩ := kp e3
     cases e4
     rw [hk, uQ d1, qe d2, (zZ d3).1, (list_cut (fun l a r h => op_cut k2 k3 h) d4).1]
     unfold KQ zI Zq
     rw [if_pos rfl]
     simp only [List.cons_append, List.append_assoc]
    ·
     split at h2
     ·
      rename_i hk
      obtain ⟨c, s1, h3, h4⟩ := kp h2
      cases h4
      obtain ⟨_, q1, d1, e1⟩ := kp h3
      obtain ⟨_, q2, d2, e2⟩ := kp e1
      obtain ⟨_, q3, d3, e3⟩ := kp e2
      obtain ⟨_, q4, d4, e4⟩ := kp e3
      obtain ⟨_, q5, d5, e5⟩ := kp e4
      cases e5
      rw [hk, qe d1, qe d2, (zZ d3).1, (zZ d4).1, uQ d5]
      unfold KQ zS
      rw [if_neg (show ¬ ((2 : UInt8) = 1) by decide)]
      simp only [List.cons_append, List.append_assoc]
     · cases h2
theorem many_ids : ∀ (n : Nat) {l : List UInt8} {xs : List (List UInt8)} {r : List UInt8}, zY pId n l = some (xs, r) → IdsOk xs
  | 0, l, xs, r, e => by cases e; exact fun i hi => by cases hi
  | n + 1, l, xs, r, e => by
    obtain ⟨a, s, h1, h2⟩ := kp e
    obtain ⟨t, s2, h3, h4⟩ := kp h2
    cases h4
    intro i hi
    rcases List.mem_cons.1 hi with rfl | hi
    · exact (id_cut h1).2
    · exact many_ids n h3 i hi
theorem list_ids {most : Nat} {l : List UInt8} {xs : List (List UInt8)} {r : List UInt8} (e : kV most pId l = some (xs, r)) : IdsOk xs := by
  obtain ⟨n, s, h1, h2⟩ := kp e
  unfold KS at h2
  split at h2
  · exact many_ids n h2
  · cases h2
theorem pObj_ids {l : List UInt8} {o : KO} {r : List UInt8} (h : u7 l = some (o, r)) : IdsOk o.2.1.2.1 := by
  obtain ⟨k, s, h1, h2⟩ := kp h
  split at h2
  ·
   obtain ⟨c, s1, h3, h4⟩ := kp h2
   cases h4
   obtain ⟨_, q1, d1, e1⟩ := kp h3
   obtain ⟨_, q2, d2, e2⟩ := kp e1
   obtain ⟨_, q3, d3, e3⟩ := kp e2
   obtain ⟨_, q4, d4, e4⟩ := kp e3
   cases e4
   exact list_ids d2
  ·
   split at h2
   · obtain ⟨c, s1, h3, h4⟩ := kp h2
     cases h4
     exact fun i hi => by cases hi
   · cases h2
theorem Zw {l : List UInt8} {o : KO} (h : ji l = some o) : KQ o = l ∧ kJ o = true := by
  unfold ji at h
  rcases hd : u7 l with _ | ⟨a, r⟩
  · rw [hd] at h; cases h
  ·
   rw [hd] at h
   simp only at h
   split at h
   ·
    rename_i hc
    cases h
    have := obj_cut hd hc.2 (pObj_ids hd)
    rw [hc.1, List.append_nil] at this
    exact ⟨this.symm, hc.2⟩
   · cases h
end Go.Proofs.YthjaepmfkgejkaaGreatDoor
