/-
  What layer 7's predicates say, as plain functions on a string's bytes and runes. No conditions; no program.
  Objects as data: which may be, their bytes, what bytes are read as; what is written is read, what is read was written so, and no object's bytes begin another's. No conditions; no program runs here.
  What is written for an object that may be is read as it; what is read as an object was written for it. No conditions but those said; no program runs here.
  What utf's functions give: may, uj, decode, Check. Conditions: a place lies within the text.
-/
import Derived.Test.YthjaepmfkgejkaaGreatDoorMerged4
import Derived.Lib.Split
import Derived.Lib.SplitLaws
import Derived.Lib.ItoaNum
import Derived.Test.YthjaepmfkgejkaaGreatDoorMerged2
import Derived.Test.YthjaepmfkgejkaaGreatDoorProg
import Derived.Handy
import Derived.PlainAid
import Derived.Lib.Hide
set_option linter.unusedVariables false
set_option maxHeartbeats 4000000
set_option maxRecDepth 100000
namespace Go.Proofs.YthjaepmfkgejkaaGreatDoor
def jo (r : Nat) : Bool := decide (32 ≤ r) && !(r == 127)
def jE (s : ByteArray) (p : Nat → Bool) : Bool := match zU s with
  | some l => l.all p
  | none => false
def jM (s : ByteArray) : Bool := decide (1 ≤ s.size) && decide (s.size ≤ 32) && jE s jo
def JQ (s : ByteArray) : Bool := decide (s.size ≤ 256) && zG s
def jF : List UInt8 → List (List UInt8)
  | [] => [[]]
  | c :: l => if c = 47 then [] :: jF l else match jF l with
    | p :: ps => (c :: p) :: ps
    | [] => [[c]]
def Kv (p : List UInt8) : Bool := !decide (p = []) && !decide (p = [46]) && !decide (p = [46, 46])
def jK (s : ByteArray) : Bool := decide (1 ≤ s.size) && decide (s.size ≤ 64) && jE s jo && (jF (L s)).all Kv
def Qr (a b : List UInt8) : Bool := (a ++ [47]).isPrefixOf b
def clashB (a b : List UInt8) : Bool := decide (a = b) || Qr a b || Qr b a
theorem uZ {l : List UInt8} (h : (47 : UInt8) ∉ l) : jF l = [l] := by
  induction l with
  | nil => rfl
  | cons c l ih =>
    simp only [List.mem_cons, not_or] at h
    rw [jF, if_neg (fun e => h.1 e.symm), ih h.2]
theorem UA {a b : List UInt8} (h : (47 : UInt8) ∉ a) : jF (a ++ 47 :: b) = a :: jF b := by
  induction a with
  | nil => simp [jF]
  | cons c a ih =>
    simp only [List.mem_cons, not_or] at h
    rw [List.cons_append, jF, if_neg (fun e => h.1 e.symm), ih h.2]
theorem index_slash {a b : List UInt8} (h : (47 : UInt8) ∉ a) : Lib.index (a ++ 47 :: b) [47] = a.length := by
  induction a with
  | nil => simp [Lib.index]
  | cons c a ih =>
    simp only [List.mem_cons, not_or] at h
    have h1 : ¬ ((47 : UInt8) == c) = true := by simpa using h.1
    rw [List.cons_append, Lib.index, ih h.2]
    simp only [List.isPrefixOf, h1, Bool.false_and]
    simp
theorem ZR (l : List UInt8) : (47 : UInt8) ∉ l ∨ ∃ a b, l = a ++ 47 :: b ∧ (47 : UInt8) ∉ a := by
  induction l with
  | nil => exact .inl (by simp)
  | cons c l ih =>
    by_cases hc : c = 47
    · exact .inr ⟨[], l, by simp [hc], by simp⟩
    · rcases ih with ih | ⟨a, b, rfl, ha⟩
      · exact .inl (by simp [ih]; exact fun e => hc e.symm)
      · exact .inr ⟨c :: a, b, rfl, by simp [ha]; exact fun e => hc e.symm⟩
theorem Qs : ∀ (n : Nat) (l : List UInt8), l.length ≤ n → Lib.splitK [47] 0 (l.count 47) l = jF l := by
  intro n
  induction n with
  | zero =>
    intro l hl
    have : l = [] := List.length_eq_zero_iff.1 (by omega)
    subst this
    rfl
  | succ n ih =>
    intro l hl
    rcases ZR l with h | ⟨a, b, rfl, ha⟩
    · rw [uZ h, List.count_eq_zero.2 h]; rfl
    ·
     rw [UA ha, List.count_append, List.count_eq_zero.2 ha, List.count_cons_self, Nat.zero_add, Lib.splitK, index_slash ha]
     have hlen : (a ++ 47 :: b).length = a.length + b.length + 1 := by simp; omega
     have e1 : ((a.length : Int)).toNat = a.length := by omega
     rw [if_neg (by simp), e1, Nat.add_zero, List.take_left, show ([47] : List UInt8).length = 1 from rfl]
     have e2 : (a ++ 47 :: b).drop (a.length + 1) = b := by rw [List.drop_append]; simp
     rw [e2, ih b (by omega)]
def zQ : ByteArray := ⟨#[47]⟩
theorem vI (s : ByteArray) : (Lib.splitB zQ 0 (Lib.countB s zQ) s).map L = jF (L s) := by
  have h := Lib.splitB_data zQ 0 (Lib.countB s zQ) s
  have hc : Lib.countB s zQ = (L s).count 47 := Lib.count_one 47 (L s)
  have e : (Lib.splitB zQ 0 (Lib.countB s zQ) s).map L = (Lib.splitB zQ 0 (Lib.countB s zQ) s).map (·.data.toList) := rfl
  rw [e, h, hc]
  exact Qs _ (L s) (Nat.le_refl _)
theorem U0 {s : ByteArray} {p : Nat → Bool} (h : zG s = false) : jE s p = false := by
  unfold jE
  unfold zG at h
  cases hr : zU s
  · rfl
  · rw [hr] at h; cases h
theorem plainB_true {s : ByteArray} : jE s (fun _ => true) = zG s := by
  unfold jE zG
  cases zU s <;> simp
theorem UB {s : ByteArray} {f k : Nat} (hfk : f ≤ k) : (L s).drop f = L (s.extract f k) ++ (L s).drop k := by
  rw [show L (s.extract f k) = ((L s).drop f).take (k - f) from Lib.extract_data s f k]
  have : ((L s).drop f).drop (k - f) = (L s).drop k := by rw [List.drop_drop]; congr 1; omega
  rw [← this, List.take_append_drop]
theorem no_slash {s : ByteArray} {f k : Nat} (hk : k ≤ s.size) (h : ∀ j, f ≤ j → j < k → B s j ≠ 47) : (47 : UInt8) ∉ L (s.extract f k) := by
  intro hm
  obtain ⟨j, hj⟩ := List.getElem?_of_mem hm
  rw [L, Lib.extract_data, List.getElem?_take] at hj
  split at hj
  ·
   rename_i hlt
   rw [List.getElem?_drop] at hj
   have hb := B_L s (f + j) (by omega)
   rw [L] at hb
   rw [hb] at hj
   have := B_of s (f + j) (by omega)
   have e : s[f + j]'(by omega) = 47 := Option.some.inj hj
   rw [e] at this
   exact h (f + j) (by omega) (by omega) this
  · cases hj
theorem drop_cons {s : ByteArray} {k : Nat} (hk : k < s.size) (h : B s k = 47) : (L s).drop k = 47 :: (L s).drop (k + 1) := by
  have hl : k < (L s).length := by rw [jW]; exact hk
  rw [List.drop_eq_getElem_cons hl]
  have e : (L s)[k] = s[k]'hk := Go.Proofs.byte_at' s k hk hl
  have := B_of s k hk
  rw [e, show s[k]'hk = 47 from UInt8.toNat_inj.1 (by rw [← this, h]; rfl)]
theorem pieces_at {s : ByteArray} {f k : Nat} (hfk : f ≤ k) (hk : k < s.size) (h47 : B s k = 47) (h : ∀ j, f ≤ j → j < k → B s j ≠ 47) :
    jF ((L s).drop f) = L (s.extract f k) :: jF ((L s).drop (k + 1)) := by
  rw [UB hfk, drop_cons hk h47, UA (no_slash (by omega) h)]
theorem pieces_end {s : ByteArray} {f : Nat} (hf : f ≤ s.size) (h : ∀ j, f ≤ j → j < s.size → B s j ≠ 47) : jF ((L s).drop f) = [L (s.extract f s.size)] := by
  rw [UB hf, List.drop_eq_nil_of_le (by rw [jW]; exact Nat.le_refl _), List.append_nil, uZ (no_slash (Nat.le_refl _) h)]
end Go.Proofs.YthjaepmfkgejkaaGreatDoor
namespace Go.Proofs.YthjaepmfkgejkaaGreatDoor
abbrev OpD := UInt8 × jQ × jQ × ByteArray × Int × ByteArray
abbrev jw := Bool × jQ
abbrev zL := Int × List (List UInt8) × ByteArray × List OpD
abbrev zV := List (List UInt8) × List (List UInt8) × ByteArray × ByteArray × Int
abbrev zR := UInt8 × zL × zV
abbrev Jy := Bool × Bool × Bool × Bool × Bool
def kd : jQ := (zero32, 0)
def kc : ByteArray := ⟨#[]⟩
def jq : zL := (0, [], kc, [])
def ju : zV := ([], [], kc, kc, 0)
def kj (k : UInt8) : Option Jy :=
  if k = 1 then some (true, true, true, false, false) else if k = 2 then some (true, true, false, true, false) else if k = 3 then some (false, false, false, false, true)
  else if k = 4 then some (true, false, false, false, true) else if k = 5 then some (true, false, false, false, false) else none
def ki (x : OpD) (p : Jy) : Bool := (p.1 || decide (x.2.1 = kd)) && (p.2.1 || decide (x.2.2.1 = kd)) && (p.2.2.1 || decide (x.2.2.2.1 = kc)) && (p.2.2.2.1 || decide (x.2.2.2.2.1 = 0)) && (p.2.2.2.2 || decide (x.2.2.2.2.2 = kc))
def KA (l : List (List UInt8)) (most : Nat) : Bool := decide (l.length ≤ most) && kI l && (decide (l = []) || !decide (l.headD [] = zero32))
def jY (deps : List (List UInt8)) (r : jQ) : Bool := kI deps && decide (r.1 ∈ deps) && decide (0 ≤ r.2) && decide (r.2 ≤ 2147483647)
def KU (deps : List (List UInt8)) (mk : List jw) (r : jQ) : Bool :=
  if r.1 ≠ zero32 then jY deps r else decide (0 ≤ r.2) && decide (r.2 < mk.length) && (mk.getD r.2.toNat (false, kd)).1
def jh (deps : List (List UInt8)) (mk : List jw) (r d : jQ) (n : Int) : Bool :=
  if r.1 ≠ zero32 then jY deps r
  else decide (0 ≤ r.2) && decide (n ≤ mk.length) && decide (r.2 ≤ mk.length - n) && ((mk.drop r.2.toNat).take n.toNat).all fun m => !m.1 && decide (m.2 = d)
def Ki (s : ByteArray) : Bool := decide (s.size ≤ 4096) && zG s
def zH (s : ByteArray) : Nat := match zU s with
  | some l => l.length
  | none => 0
def opB (deps : List (List UInt8)) (mk : List jw) (x : OpD) : Bool := match kj x.1 with
  | none => false
  | some p => ki x p && (!p.1 || KU deps mk x.2.1) && (!p.2.2.2.2 || jK x.2.2.2.2.2) &&
    (!decide (x.1 = 2) || (decide (1 ≤ x.2.2.2.2.1) && decide (x.2.2.2.2.1 ≤ 4096) && jh deps mk x.2.2.1 x.2.1 x.2.2.2.2.1)) &&
    (!decide (x.1 = 1) || ((decide (x.2.2.1 = x.2.1) || jh deps mk x.2.2.1 x.2.1 1) && !decide (x.2.2.2.1 = kc) && Ki x.2.2.2.1))
def zj (x : OpD) : List jw := if x.1 = 3 then [(true, kd)] else if x.1 = 1 then List.replicate (zH x.2.2.2.1) (false, x.2.1) else []
def Jr (deps : List (List UInt8)) : List jw → List OpD → Bool
  | _, [] => true
  | mk, x :: t => opB deps mk x && Jr deps (mk ++ zj x) t
def kK (c : zL) : Bool := decide (1 ≤ c.1) && decide (c.1 ≤ 1099511627776) && KA c.2.1 4096 && jM c.2.2.1 && decide (1 ≤ c.2.2.2.length) && decide (c.2.2.2.length ≤ 4096) && Jr c.2.1 [] c.2.2.2
def kO (c : zV) : Bool := KA c.1 2 && KA c.2.1 4096 && jM c.2.2.1 && JQ c.2.2.2.1 && decide (0 ≤ c.2.2.2.2) && decide (c.2.2.2.2 ≤ 1099511627776)
def jr (c : zL) : Bool := decide (c.1 = 0) && decide (c.2.1 = []) && decide (c.2.2.1 = kc) && decide (c.2.2.2 = [])
def jf (c : zV) : Bool := decide (c.1 = []) && decide (c.2.1 = []) && decide (c.2.2.1 = kc) && decide (c.2.2.2.1 = kc) && decide (c.2.2.2.2 = 0)
def kD (o : zR) : Bool := if o.1 = 1 then jf o.2.2 && kK o.2.1 else if o.1 = 2 then jr o.2.1 && kO o.2.2 else false
def vR (n : Int) : List UInt8 := if n < 0 then [] else kS n.toNat
def jR (l : List (List UInt8)) : List UInt8 := vR (l.length : Int) ++ l.flatten
def jz (deps : List (List UInt8)) (r : jQ) : List UInt8 := vR (if r.1 ≠ zero32 then (deps.idxOf r.1 : Int) + 1 else 0) ++ vR r.2
def ifE (b : Bool) (l : List UInt8) : List UInt8 := if b then l else []
def opE (deps : List (List UInt8)) (x : OpD) : List UInt8 :=
  let p := (kj x.1).getD (false, false, false, false, false)
  x.1 :: (ifE p.1 (jz deps x.2.1) ++ (ifE p.2.1 (jz deps x.2.2.1) ++ (ifE p.2.2.1 (kJ (L x.2.2.2.1)) ++ (ifE p.2.2.2.1 (vR x.2.2.2.2.1) ++ ifE p.2.2.2.2 (kJ (L x.2.2.2.2.2))))))
def vF (deps : List (List UInt8)) (l : List OpD) : List UInt8 := (l.map (opE deps)).flatten
def Kd (c : zL) : List UInt8 := 67 :: (vR c.1 ++ (jR c.2.1 ++ (kJ (L c.2.2.1) ++ (vR (c.2.2.2.length : Int) ++ vF c.2.1 c.2.2.2))))
def KH (c : zV) : List UInt8 := 75 :: (jR c.1 ++ (jR c.2.1 ++ (kJ (L c.2.2.1) ++ (kJ (L c.2.2.2.1) ++ vR c.2.2.2.2))))
def zA (o : zR) : List UInt8 := if o.1 = 1 then Kd o.2.1 else KH o.2.2
abbrev Ps (α : Type) := List UInt8 → Option (α × List UInt8)
def kP {α β : Type} (d : Ps α) (f : α → Ps β) : Ps β := fun l => match d l with
  | some (a, r) => f a r
  | none => none
def uQ {α : Type} (a : α) : Ps α := fun l => some (a, l)
def vJ {α : Type} (b : Bool) (d : Ps α) : Ps α := fun l => if b then d l else none
def Z3 : Ps UInt8
  | [] => none
  | k :: l => some (k, l)
def Kj : Ps Nat := fun l => match JA l with
  | some (n, k) => some (n, l.drop k)
  | none => none
def jS : Ps ByteArray := fun l => match zw l 4096 with
  | some (t, k) => some (⟨t.toArray⟩, l.drop k)
  | none => none
def pId : Ps (List UInt8) := fun l => if l.length < 32 then none else some (l.take 32, l.drop 32)
def Z4 {α : Type} (d : Ps α) : Nat → Ps (List α)
  | 0 => uQ []
  | n + 1 => kP d fun a => kP (Z4 d n) fun t => uQ (a :: t)
def kY {α : Type} (most : Nat) (d : Ps α) : Ps (List α) := kP Kj fun n => vJ (decide (n ≤ most)) (Z4 d n)
def ZS (deps : List (List UInt8)) : Ps jQ := kP Kj fun n => vJ (decide (n ≤ deps.length)) (kP Kj fun i => uQ (if n = 0 then zero32 else deps.getD (n - 1) zero32, (i : Int)))
def pIf {α : Type} (b : Bool) (z : α) (d : Ps α) : Ps α := if b then d else uQ z
def ZL : Ps Int := kP Kj fun n => uQ (n : Int)
def pOp (deps : List (List UInt8)) : Ps OpD := kP Z3 fun k => match kj k with
  | none => fun _ => none
  | some p => kP (pIf p.1 kd (ZS deps)) fun d => kP (pIf p.2.1 kd (ZS deps)) fun a => kP (pIf p.2.2.1 kc jS) fun t => kP (pIf p.2.2.2.1 0 ZL) fun c => kP (pIf p.2.2.2.2 kc jS) fun q => uQ (k, d, a, t, c, q)
def Kq : Ps zL := kP ZL fun t => kP (kY 4096 pId) fun ds => kP jS fun a => kP (kY 4096 (pOp ds)) fun ops => uQ (t, ds, a, ops)
def zW : Ps zV := kP (kY 2 pId) fun ps => kP (kY 4096 pId) fun cs => kP jS fun a => kP jS fun m => kP ZL fun s => uQ (ps, cs, a, m, s)
def pObj : Ps zR := kP Z3 fun k => if k = 67 then kP Kq fun c => uQ (1, c, ju) else if k = 75 then kP zW fun c => uQ (2, jq, c) else fun _ => none
def zk (l : List UInt8) : Option zR := match pObj l with
  | some (o, r) => if r = [] ∧ kD o = true then some o else none
  | none => none
def Kr (l : List UInt8) : zR × Int := if 262144 < l.length then ((0, jq, ju), 2) else match zk l with
  | some o => (o, 0)
  | none => ((0, jq, ju), 6)
section
variable {α β : Type} {d : Ps α} {f : α → Ps β}
theorem vS {l : List UInt8} {b : β} {r : List UInt8} (h : kP d f l = some (b, r)) : ∃ a s, d l = some (a, s) ∧ f a s = some (b, r) := by
  unfold kP at h
  rcases hd : d l with _ | ⟨a, s⟩
  · rw [hd] at h; cases h
  · rw [hd] at h; exact ⟨a, s, rfl, h⟩
theorem kF {l s : List UInt8} {a : α} (h : d l = some (a, s)) : kP d f l = f a s := by unfold kP; rw [h]
end
theorem JB {l : List UInt8} {n : Nat} {r : List UInt8} (h : Kj l = some (n, r)) : l = kS n ++ r ∧ n < 9223372036854775808 := by
  unfold Kj at h
  rcases hg : JA l with _ | ⟨m, k⟩
  · rw [hg] at h; cases h
  · rw [hg] at h; cases h
    exact ⟨by rw [← num_getS hg, List.take_append_drop], vQ hg⟩
theorem Js {l : List UInt8} {t : ByteArray} {r : List UInt8} (h : jS l = some (t, r)) : l = kJ (L t) ++ r ∧ t.size ≤ 4096 := by
  unfold jS at h
  rcases hg : zw l 4096 with _ | ⟨m, k⟩
  · rw [hg] at h; cases h
  · rw [hg] at h; cases h
    obtain ⟨h1, h2, h3⟩ := vH hg
    exact ⟨by show l = kJ m ++ _; rw [← h1, List.take_append_drop], by rw [← jW]; exact h3⟩
end Go.Proofs.YthjaepmfkgejkaaGreatDoor
namespace Go.Proofs.YthjaepmfkgejkaaGreatDoor
def OpOk (x : OpD) : Prop := jN x.2.1 ∧ jN x.2.2.1 ∧ (Lit.int .i64 x.2.2.2.2.1).wf = true
def ChangeOk (c : zL) : Prop := (Lit.int .i64 c.1).wf = true ∧ IdsOk c.2.1 ∧ ∀ x ∈ c.2.2.2, OpOk x
def CommitOk (c : zV) : Prop := IdsOk c.1 ∧ IdsOk c.2.1 ∧ (Lit.int .i64 c.2.2.2.2).wf = true
def ObjOk (o : zR) : Prop := ChangeOk o.2.1 ∧ CommitOk o.2.2
theorem jO {n : Int} (h : (Lit.int .i64 n).wf = true) : -9223372036854775808 ≤ n ∧ n < 9223372036854775808 := by
  simp only [Lit.wf, IntKind.min, IntKind.max, IntKind.signed, IntKind.bits, Bool.and_eq_true] at h
  simp at h
  omega
theorem jx (n : Nat) : vR (n : Int) = kS n := by unfold vR; rw [if_neg (by omega)]; rfl
section
variable {α : Type} {d : Ps α} {enc : α → List UInt8}
end
theorem UC : ∀ (n : Nat) (a : List UInt8), a.length = n → ¬ kX a (List.replicate n 0) < 0
  | 0, a, h => by
    rw [List.length_eq_zero_iff.1 h]
    rw [show List.replicate 0 (0 : UInt8) = [] from rfl, ZO]
    omega
  | n + 1, [], h => by cases h
  | n + 1, x :: a, h => by
    rw [List.replicate_succ, KL, if_neg (by rw [UInt8.lt_iff_toNat_lt]; exact Nat.not_lt_zero _)]
    split
    · omega
    · exact UC n a (by simpa using h)
theorem qO {l : List (List UInt8)} (h : kI l = true) : ∀ i j (hij : i < j) (hj : j < l.length), l[i]'(Nat.lt_trans hij hj) ≠ l[j] := fun i j hij hj e => by
  have := (List.pairwise_iff_getElem.1 (Kg h)) i j (by omega) hj hij
  rw [e, Kp] at this
  omega
theorem idxOf_at {l : List (List UInt8)} (h : kI l = true) (i : Nat) (hi : i < l.length) : l.idxOf l[i] = i := by
  have hm : l[i] ∈ l := List.getElem_mem hi
  have hlt := List.idxOf_lt_length_iff.2 hm
  have hg : l[l.idxOf l[i]] = l[i] := List.getElem_idxOf hlt
  rcases (by omega : l.idxOf l[i] < i ∨ i < l.idxOf l[i] ∨ l.idxOf l[i] = i) with q | q | q
  · exact absurd hg (qO h _ _ q hi)
  · exact absurd hg.symm (qO h _ _ q hlt)
  · exact q
theorem vw {l : List (List UInt8)} {most : Nat} (h : KA l most = true) (ho : IdsOk l) : l.length ≤ most ∧ kI l = true ∧ zero32 ∉ l := by
  unfold KA at h
  simp only [Bool.and_eq_true, decide_eq_true_eq] at h
  refine ⟨h.1.1, h.1.2, fun hz => ?_⟩
  obtain ⟨i, hi, e⟩ := List.getElem_of_mem hz
  cases l with
  | nil => cases hz
  | cons a l =>
    have h2 : a ≠ zero32 := by simpa using h.2
    cases i with
    | zero => exact h2 e
    | succ i =>
      have h3 := (List.pairwise_iff_getElem.1 (Kg h.1.2)) 0 (i + 1) (by simp) hi (by omega)
      rw [e] at h3
      exact UC 32 a (ho a (by simp)) h3
theorem Jn {k : UInt8} {p : Jy} (h : kj k = some p) : (k = 1 ∧ p = (true, true, true, false, false)) ∨ (k = 2 ∧ p = (true, true, false, true, false)) ∨ (k = 3 ∧ p = (false, false, false, false, true)) ∨ (k = 4 ∧ p = (true, false, false, false, true)) ∨ (k = 5 ∧ p = (true, false, false, false, false)) := by
  unfold kj at h
  repeat (split at h; · rename_i hk; cases h; simp [hk])
  cases h
theorem UD {deps : List (List UInt8)} {r : jQ} (h : jY deps r = true) : r.1 ∈ deps ∧ 0 ≤ r.2 := by
  unfold jY at h
  simp only [Bool.and_eq_true, decide_eq_true_eq] at h
  exact ⟨h.1.1.2, h.1.2⟩
theorem UE {deps : List (List UInt8)} {mk : List jw} {r : jQ} (h : KU deps mk r = true) : (r.1 = zero32 ∨ r.1 ∈ deps) ∧ 0 ≤ r.2 := by
  unfold KU at h
  split at h
  · have := UD h; exact ⟨.inr this.1, this.2⟩
  · rename_i hz
    simp only [Bool.and_eq_true, decide_eq_true_eq] at h
    exact ⟨.inl (Classical.not_not.1 hz), h.1.1⟩
theorem elems_in {deps : List (List UInt8)} {mk : List jw} {r d : jQ} {n : Int} (h : jh deps mk r d n = true) : (r.1 = zero32 ∨ r.1 ∈ deps) ∧ 0 ≤ r.2 := by
  unfold jh at h
  split at h
  · have := UD h; exact ⟨.inr this.1, this.2⟩
  · rename_i hz
    simp only [Bool.and_eq_true, decide_eq_true_eq] at h
    exact ⟨.inl (Classical.not_not.1 hz), h.1.1.1⟩
theorem KK {s : ByteArray} (h : Ki s = true) : s.size ≤ 4096 := by
  unfold Ki at h
  simp only [Bool.and_eq_true, decide_eq_true_eq] at h
  exact h.1
theorem UF {s : ByteArray} (h : jK s = true) : s.size ≤ 64 := by
  unfold jK at h
  simp only [Bool.and_eq_true, decide_eq_true_eq] at h
  exact h.1.1.2
theorem JC {s : ByteArray} (h : jM s = true) : s.size ≤ 32 := by
  unfold jM at h
  simp only [Bool.and_eq_true, decide_eq_true_eq] at h
  exact h.1.2
theorem UG {s : ByteArray} (h : JQ s = true) : s.size ≤ 256 := by
  unfold JQ at h
  simp only [Bool.and_eq_true, decide_eq_true_eq] at h
  exact h.1
theorem op_names {deps : List (List UInt8)} {mk : List jw} {x : OpD} {p : Jy} (hp : kj x.1 = some p) (h : opB deps mk x = true) :
    (p.1 = true → (x.2.1.1 = zero32 ∨ x.2.1.1 ∈ deps) ∧ 0 ≤ x.2.1.2) ∧ (p.1 = false → x.2.1 = kd) ∧ (p.2.1 = true → (x.2.2.1.1 = zero32 ∨ x.2.2.1.1 ∈ deps) ∧ 0 ≤ x.2.2.1.2) ∧ (p.2.1 = false → x.2.2.1 = kd) ∧
    (p.2.2.1 = true → x.2.2.2.1.size ≤ 4096) ∧ (p.2.2.1 = false → x.2.2.2.1 = kc) ∧ (p.2.2.2.1 = true → 0 ≤ x.2.2.2.2.1) ∧ (p.2.2.2.1 = false → x.2.2.2.2.1 = 0) ∧ (p.2.2.2.2 = true → x.2.2.2.2.2.size ≤ 4096) ∧ (p.2.2.2.2 = false → x.2.2.2.2.2 = kc) := by
  obtain ⟨k, d, a, t, c, q⟩ := x
  unfold opB at h
  simp only at hp h ⊢
  rw [hp] at h
  simp only [ki, Bool.and_eq_true] at h
  obtain ⟨⟨⟨⟨hab, hd⟩, hq⟩, h2⟩, h1⟩ := h
  have hat : k = 1 → (a.1 = zero32 ∨ a.1 ∈ deps) ∧ 0 ≤ a.2 := fun e => by
    subst e
    rcases Jn hp with ⟨_, rfl⟩ | ⟨e, _⟩ | ⟨e, _⟩ | ⟨e, _⟩ | ⟨e, _⟩
    ·
     have hdd := UE (by simpa using hd : KU deps mk d = true)
     simp only [decide_true, Bool.not_true, Bool.false_or, Bool.and_eq_true, Bool.or_eq_true, decide_eq_true_eq] at h1
     rcases h1.1.1 with e | e
     · rw [e]; exact hdd
     · exact elems_in e
    all_goals exact absurd e (by decide)
  rcases Jn hp with ⟨rfl, rfl⟩ | ⟨rfl, rfl⟩ | ⟨rfl, rfl⟩ | ⟨rfl, rfl⟩ | ⟨rfl, rfl⟩
  · simp at hab hd hq h1 h2 ⊢
    exact ⟨UE hd, hat rfl, KK h1.2, hab.1, hab.2⟩
  · simp at hab hd hq h1 h2 ⊢
    exact ⟨UE hd, elems_in h2.2, hab.1, by omega, hab.2⟩
  · simp at hab hd hq h1 h2 ⊢
    exact ⟨hab.1.1.1, hab.1.1.2, hab.1.2, hab.2, by have := UF hq; omega⟩
  · simp at hab hd hq h1 h2 ⊢
    exact ⟨UE hd, hab.1.1, hab.1.2, hab.2, by have := UF hq; omega⟩
  · simp at hab hd hq h1 h2 ⊢
    exact ⟨UE hd, hab.1.1.1, hab.1.1.2, hab.1.2, hab.2⟩
theorem UH {deps : List (List UInt8)} : ∀ {l : List OpD} {mk : List jw}, Jr deps mk l = true → ∀ x ∈ l, ∃ mk, opB deps mk x = true
  | [], _, _, _, h => by cases h
  | y :: l, mk, h, x, hx => by
    unfold Jr at h
    rw [Bool.and_eq_true] at h
    rcases List.mem_cons.1 hx with rfl | hx
    · exact ⟨mk, h.1⟩
    · exact UH h.2 x hx
end Go.Proofs.YthjaepmfkgejkaaGreatDoor
namespace Go.Proofs.YthjaepmfkgejkaaGreatDoor
open Lib (hid)
open Go.RowKit
theorem Uq (r : Int) (w : World) (h0 : 0 ≤ r) (h1 : r ≤ 2147483647) : Calls Tryz.prog 128 #[.int .i32 r] w fun e w' =>
    w = w' ∧ e = .returned (.bool (K4 r))  := by
  by_cases a1 : r ≤ 1114111
  ·
   by_cases a2 : r < 55296
   ·
    rw [show K4 r = true by simp [K4, h0, a1, a2]]
    go_enter Tryz.func128, Tryz.ntmps128
    go_wp2
    go_ret
    exact ⟨rfl, rfl⟩
   ·
    rw [show K4 r = decide (57343 < r) by simp [K4, h0, a1]; omega]
    have : 55296 ≤ r := by omega
    go_enter Tryz.func128, Tryz.ntmps128
    go_wp2
    go_ret
    exact ⟨rfl, rfl⟩
  ·
   rw [show K4 r = false by simp [K4]; omega]
   go_enter Tryz.func128, Tryz.ntmps128
   go_wp2
   go_ret
   exact ⟨rfl, rfl⟩
def uj (c : Nat) : Int × Nat × Nat :=
  if c < 128 then (0, c, 0) else if c < 192 then (-1, 0, 0) else if c < 224 then (1, c % 32, 128) else if c < 240 then (2, c % 16, 2048)
  else if c < 248 then (3, c % 8, 65536) else (-1, 0, 0)
theorem lead1 {c : Nat} (h : c < 128) : uj c = (0, c, 0) := by simp [uj, h]
theorem leadX {c : Nat} (h : 128 ≤ c ∧ c < 192 ∨ 248 ≤ c) : uj c = (-1, 0, 0) := by
  unfold uj; rw [if_neg (by omega)]; by_cases b : c < 192
  · rw [if_pos b]
  · rw [if_neg b, if_neg (by omega), if_neg (by omega), if_neg (by omega)]
theorem lead2 {c : Nat} (h : 192 ≤ c ∧ c < 224) : uj c = (1, c % 32, 128) := by
  unfold uj; rw [if_neg (by omega), if_neg (by omega), if_pos (by omega)]
theorem qP {c : Nat} (h : 224 ≤ c ∧ c < 240) : uj c = (2, c % 16, 2048) := by
  unfold uj; rw [if_neg (by omega), if_neg (by omega), if_neg (by omega), if_pos (by omega)]
theorem UI {c : Nat} (h : 240 ≤ c ∧ c < 248) : uj c = (3, c % 8, 65536) := by
  unfold uj; rw [if_neg (by omega), if_neg (by omega), if_neg (by omega), if_neg (by omega), if_pos (by omega)]
theorem jZ (c : Nat) (w : World) (hc : c < 256) : Calls Tryz.prog 127 #[.int .u8 c] w fun e w' =>
    w = w' ∧ e = .returned (.tuple #[.int .i64 (uj c).1, .int .i32 (uj c).2.1, .int .i32 (uj c).2.2])  := by
  rcases (by omega : c < 128 ∨ (128 ≤ c ∧ c < 192) ∨ (192 ≤ c ∧ c < 224) ∨ (224 ≤ c ∧ c < 240) ∨ (240 ≤ c ∧ c < 248) ∨ 248 ≤ c) with a | a | a | a | a | a
  ·
   rw [lead1 a]
   go_enter Tryz.func127, Tryz.ntmps127
   go_wp2
   go_ret3
   exact ⟨rfl, rfl⟩
  ·
   rw [leadX (.inl a)]
   go_enter Tryz.func127, Tryz.ntmps127
   go_wp2
   go_ret3
   exact ⟨rfl, rfl⟩
  ·
   rw [lead2 a]
   go_enter Tryz.func127, Tryz.ntmps127
   go_wp2
   go_ret3
   exact ⟨rfl, rfl⟩
  ·
   rw [qP a]
   go_enter Tryz.func127, Tryz.ntmps127
   go_wp2
   go_ret3
   exact ⟨rfl, rfl⟩
  ·
   rw [UI a]
   go_enter Tryz.func127, Tryz.ntmps127
   go_wp2
   go_ret3
   exact ⟨rfl, rfl⟩
  ·
   rw [leadX (.inr a)]
   go_enter Tryz.func127, Tryz.ntmps127
   go_wp2
   go_ret3
   exact ⟨rfl, rfl⟩
theorem high2 : ∀ c : Fin 256, (bits BinOp.and IntKind.u8 ((c.val : Nat) : Int) 192 == 128) = (c.val / 64 == 2) := by
  decide +kernel
theorem Zg {c : Nat} (h : c < 256) (g : c / 64 = 2) : (bits BinOp.and IntKind.u8 (c : Int) 192 == 128) = true ∧ (bits BinOp.and IntKind.u8 (c : Int) 192 != 128) = false := by
  have := high2 ⟨c, h⟩
  simp only [g] at this
  exact ⟨this, by simp [bne, this]⟩
theorem vx {c : Nat} (h : c < 256) (g : ¬ c / 64 = 2) : (bits BinOp.and IntKind.u8 (c : Int) 192 == 128) = false ∧ (bits BinOp.and IntKind.u8 (c : Int) 192 != 128) = true := by
  have := high2 ⟨c, h⟩
  simp only [beq_eq_false_iff_ne.2 g] at this
  exact ⟨this, by simp [bne, this]⟩
def DecGives (s : ByteArray) (i : Nat) (w : World) (e : Ending) (w' : World) : Prop :=
  w = w' ∧ (K3 s i = true ∧ e = .returned (.tuple #[.int .i32 (Utf8.decode s i).1, .int .i64 ((i + (Utf8.decode s i).2 : Nat) : Int), .bool true]) ∨
    K3 s i = false ∧ ∃ r n : Int, e = .returned (.tuple #[.int .i32 r, .int .i64 n, .bool false]))
theorem DecGives.yes {s : ByteArray} {i r n : Nat} {w : World} {e : Ending} (k : K3 s i = true) (d : Utf8.decode s i = (r, n)) (h : e = .returned (.tuple #[.int .i32 r, .int .i64 ((i + n : Nat) : Int), .bool true])) : DecGives s i w e w :=
  ⟨rfl, .inl ⟨k, by rw [d]; exact h⟩⟩
theorem DecGives.no {s : ByteArray} {i : Nat} {r n : Int} {w : World} {e : Ending} (k : K3 s i = false) (h : e = .returned (.tuple #[.int .i32 r, .int .i64 n, .bool false])) : DecGives s i w e w :=
  ⟨rfl, .inr ⟨k, _, _, h⟩⟩
theorem Zh {a b a' b' : Int} {x y : Bool} (h1 : a = a') (h2 : b = b') (h3 : x = y) : Ending.returned (.tuple #[.int .i32 a, .int .i64 b, .bool x]) = .returned (.tuple #[.int .i32 a', .int .i64 b', .bool y]) := by rw [h1, h2, h3]
theorem decode1 (s : ByteArray) (i : Nat) (w : World) (h0 : i < s.size) (hs : s.size ≤ maxLen) (h : B s i < 128) :
    Calls Tryz.prog 112 #[.string s, .int .i64 i] w (DecGives s i w) := by
  unfold maxLen at hs
  have hb := getB s
  have hB := KJ s i
  have hsz : (i : Int) < (s.size : Int) := by omega
  go_enter Tryz.func112, Tryz.ntmps112
  go_wp2_with fail
  refine (jZ _ _ hB).mono ?_
  rw [lead1 h]
  rintro e w' ⟨rfl, rfl⟩
  go_wp2_with fail
  refine wp_loop_rounds 1 ?_
  rw [rounds_succ]
  go_wp2_with (go_at_call 128; refine (Uq _ _ (by omega) (by omega)).mono ?_; rintro e w' ⟨rfl, rfl⟩)
  go_ret3
  have d := dec1 h
  exact .yes d.2 d.1 (Zh rfl (by omega) (by simp [K4]; omega))
theorem decodeX (s : ByteArray) (i : Nat) (w : World) (h0 : i < s.size) (hs : s.size ≤ maxLen) (h : 128 ≤ B s i ∧ B s i < 192 ∨ 248 ≤ B s i) :
    Calls Tryz.prog 112 #[.string s, .int .i64 i] w (DecGives s i w) := by
  unfold maxLen at hs
  have hb := getB s
  have hB := KJ s i
  have hsz : (i : Int) < (s.size : Int) := by omega
  go_enter Tryz.func112, Tryz.ntmps112
  go_wp2_with fail
  refine (jZ _ _ hB).mono ?_
  rw [leadX h]
  rintro e w' ⟨rfl, rfl⟩
  go_wp2_with fail
  go_ret3
  exact .no (Ux h) rfl
set_option maxRecDepth 1000000 in
theorem decode2 (s : ByteArray) (i : Nat) (w : World) (h0 : i < s.size) (hs : s.size ≤ maxLen) (h : 192 ≤ B s i ∧ B s i < 224) :
    Calls Tryz.prog 112 #[.string s, .int .i64 i] w (DecGives s i w) := by
  unfold maxLen at hs
  have hb := getB s
  have hB := KJ s i
  have hB1 := KJ s (i + 1)
  have hsz : (i : Int) < (s.size : Int) := by omega
  go_enter Tryz.func112, Tryz.ntmps112
  by_cases hl : s.size ≤ i + 1
  ·
   go_wp2_with fail
   refine (jZ _ _ hB).mono ?_
   rw [lead2 h]
   rintro e w' ⟨rfl, rfl⟩
   go_wp2_with fail
   go_ret3
   exact .no (Uo h (KW (.inl (by omega)))) rfl
  by_cases c1 : ¬ B s (i + 1) / 64 = 2
  ·
   have ⟨q1, p1⟩ := vx hB1 c1
   go_wp2_with fail
   refine (jZ _ _ hB).mono ?_
   rw [lead2 h]
   rintro e w' ⟨rfl, rfl⟩
   go_wp2_with fail
   refine wp_loop_rounds 1 ?_
   rw [rounds_succ]
   go_wp2_with fail
   go_ret3
   exact .no (Uo h (KW (.inr c1))) rfl
  have c1' : B s (i + 1) / 64 = 2 := by omega
  have ⟨q1, p1⟩ := Zg hB1 c1'
  have G1 := hid (KF (s := s) (k := i + 1) (by omega) c1')
  clear c1 c1'
  have hv : (((B s i : Nat) : Int) % 32) * 64 + ((B s (i + 1) : Nat) : Int) % 64 = ((v2 s i : Nat) : Int) := by unfold v2; omega
  have HV := hid hv; clear hv
  by_cases v : 128 ≤ v2 s i
  ·
   have v' : (128 : Int) ≤ (((B s i : Nat) : Int) % 32) * 64 + ((B s (i + 1) : Nat) : Int) % 64 := by rw [HV.out]; omega
   go_wp2_with fail
   refine (jZ _ _ hB).mono ?_
   rw [lead2 h]
   rintro e w' ⟨rfl, rfl⟩
   go_wp2_with fail
   refine wp_loop_rounds 2 ?_
   rw [rounds_succ]
   go_wp2_with fail
   rw [rounds_succ]
   go_wp2_with (go_at_call 128; refine (Uq _ _ (by omega) (by omega)).mono ?_; rintro e w' ⟨rfl, rfl⟩)
   go_ret3
   rcases dec2 h G1.out with ⟨_, d, k⟩ | ⟨d, k⟩
   · exact .yes k d (Zh HV.out (by omega) (by simp [K4]; omega))
   · omega
  ·
   have v' : ¬ (128 : Int) ≤ (((B s i : Nat) : Int) % 32) * 64 + ((B s (i + 1) : Nat) : Int) % 64 := by rw [HV.out]; omega
   go_wp2_with fail
   refine (jZ _ _ hB).mono ?_
   rw [lead2 h]
   rintro e w' ⟨rfl, rfl⟩
   go_wp2_with fail
   refine wp_loop_rounds 2 ?_
   rw [rounds_succ]
   go_wp2_with fail
   rw [rounds_succ]
   go_wp2_with fail
   go_ret3
   rcases dec2 h G1.out with ⟨d, _⟩ | ⟨_, k⟩
   · omega
   · exact .no k rfl
set_option maxRecDepth 1000000 in
theorem decode3 (s : ByteArray) (i : Nat) (w : World) (h0 : i < s.size) (hs : s.size ≤ maxLen) (h : 224 ≤ B s i ∧ B s i < 240) :
    Calls Tryz.prog 112 #[.string s, .int .i64 i] w (DecGives s i w) := by
  unfold maxLen at hs
  have hb := getB s
  have hB := KJ s i
  have hB1 := KJ s (i + 1)
  have hB2 := KJ s (i + 1 + 1)
  have hsz : (i : Int) < (s.size : Int) := by omega
  go_enter Tryz.func112, Tryz.ntmps112
  by_cases hl : s.size ≤ i + 2
  ·
   go_wp2_with fail
   refine (jZ _ _ hB).mono ?_
   rw [qP h]
   rintro e w' ⟨rfl, rfl⟩
   go_wp2_with fail
   go_ret3
   exact .no (Zv h (.inr (KW (.inl (by omega))))) rfl
  by_cases c1 : ¬ B s (i + 1) / 64 = 2
  ·
   have ⟨q1, p1⟩ := vx hB1 c1
   go_wp2_with fail
   refine (jZ _ _ hB).mono ?_
   rw [qP h]
   rintro e w' ⟨rfl, rfl⟩
   go_wp2_with fail
   refine wp_loop_rounds 1 ?_
   rw [rounds_succ]
   go_wp2_with fail
   go_ret3
   exact .no (Zv h (.inl (KW (.inr c1)))) rfl
  have c1' : B s (i + 1) / 64 = 2 := by omega
  have ⟨q1, p1⟩ := Zg hB1 c1'
  have G1 := hid (KF (s := s) (k := i + 1) (by omega) c1')
  clear c1 c1'
  by_cases c2 : ¬ B s (i + 1 + 1) / 64 = 2
  ·
   have ⟨q2, p2⟩ := vx hB2 c2
   go_wp2_with fail
   refine (jZ _ _ hB).mono ?_
   rw [qP h]
   rintro e w' ⟨rfl, rfl⟩
   go_wp2_with fail
   refine wp_loop_rounds 2 ?_
   rw [rounds_succ]
   go_wp2_with fail
   rw [rounds_succ]
   go_wp2_with fail
   go_ret3
   exact .no (Zv h (.inr (KW (.inr c2)))) rfl
  have c2' : B s (i + 1 + 1) / 64 = 2 := by omega
  have ⟨q2, p2⟩ := Zg hB2 c2'
  have G2 := hid (KF (s := s) (k := i + 1 + 1) (by omega) c2')
  clear c2 c2'
  have hv : ((((B s i : Nat) : Int) % 16) * 64 + ((B s (i + 1) : Nat) : Int) % 64) * 64 + ((B s (i + 1 + 1) : Nat) : Int) % 64 = ((v3 s i : Nat) : Int) := by unfold v3; rw [show i + 2 = i + 1 + 1 from rfl]; omega
  have HV := hid hv; clear hv
  by_cases v : 2048 ≤ v3 s i
  ·
   have v' : (2048 : Int) ≤ ((((B s i : Nat) : Int) % 16) * 64 + ((B s (i + 1) : Nat) : Int) % 64) * 64 + ((B s (i + 1 + 1) : Nat) : Int) % 64 := by rw [HV.out]; omega
   go_wp2_with fail
   refine (jZ _ _ hB).mono ?_
   rw [qP h]
   rintro e w' ⟨rfl, rfl⟩
   go_wp2_with fail
   refine wp_loop_rounds 3 ?_
   rw [rounds_succ]
   go_wp2_with fail
   rw [rounds_succ]
   go_wp2_with fail
   rw [rounds_succ]
   go_wp2_with (go_at_call 128; refine (Uq _ _ (by omega) (by omega)).mono ?_; rintro e w' ⟨rfl, rfl⟩)
   go_ret3
   rcases dec3 h G1.out G2.out with ⟨_, hm, d, k⟩ | ⟨d, k⟩
   · exact .yes k d (Zh HV.out (by omega) (by rw [HV.out]; exact hm))
   · have hm : K4 (v3 s i) = false := d.resolve_left (by omega)
     exact .no k (Zh rfl rfl (by rw [HV.out]; exact hm))
  ·
   have v' : ¬ (2048 : Int) ≤ ((((B s i : Nat) : Int) % 16) * 64 + ((B s (i + 1) : Nat) : Int) % 64) * 64 + ((B s (i + 1 + 1) : Nat) : Int) % 64 := by rw [HV.out]; omega
   go_wp2_with fail
   refine (jZ _ _ hB).mono ?_
   rw [qP h]
   rintro e w' ⟨rfl, rfl⟩
   go_wp2_with fail
   refine wp_loop_rounds 3 ?_
   rw [rounds_succ]
   go_wp2_with fail
   rw [rounds_succ]
   go_wp2_with fail
   rw [rounds_succ]
   go_wp2_with fail
   go_ret3
   rcases dec3 h G1.out G2.out with ⟨d, _⟩ | ⟨_, k⟩
   · omega
   · exact .no k rfl
set_option maxRecDepth 1000000 in
theorem decode4 (s : ByteArray) (i : Nat) (w : World) (h0 : i < s.size) (hs : s.size ≤ maxLen) (h : 240 ≤ B s i ∧ B s i < 248) :
    Calls Tryz.prog 112 #[.string s, .int .i64 i] w (DecGives s i w) := by
  unfold maxLen at hs
  have hb := getB s
  have hB := KJ s i
  have hB1 := KJ s (i + 1)
  have hB2 := KJ s (i + 1 + 1)
  have hB3 := KJ s (i + 1 + 2)
  have hsz : (i : Int) < (s.size : Int) := by omega
  go_enter Tryz.func112, Tryz.ntmps112
  by_cases hl : s.size ≤ i + 3
  ·
   go_wp2_with fail
   refine (jZ _ _ hB).mono ?_
   rw [UI h]
   rintro e w' ⟨rfl, rfl⟩
   go_wp2_with fail
   go_ret3
   exact .no (Jm h (.inr (.inr (KW (.inl (by omega)))))) rfl
  by_cases c1 : ¬ B s (i + 1) / 64 = 2
  ·
   have ⟨q1, p1⟩ := vx hB1 c1
   go_wp2_with fail
   refine (jZ _ _ hB).mono ?_
   rw [UI h]
   rintro e w' ⟨rfl, rfl⟩
   go_wp2_with fail
   refine wp_loop_rounds 1 ?_
   rw [rounds_succ]
   go_wp2_with fail
   go_ret3
   exact .no (Jm h (.inl (KW (.inr c1)))) rfl
  have c1' : B s (i + 1) / 64 = 2 := by omega
  have ⟨q1, p1⟩ := Zg hB1 c1'
  have G1 := hid (KF (s := s) (k := i + 1) (by omega) c1')
  clear c1 c1'
  by_cases c2 : ¬ B s (i + 1 + 1) / 64 = 2
  ·
   have ⟨q2, p2⟩ := vx hB2 c2
   go_wp2_with fail
   refine (jZ _ _ hB).mono ?_
   rw [UI h]
   rintro e w' ⟨rfl, rfl⟩
   go_wp2_with fail
   refine wp_loop_rounds 2 ?_
   rw [rounds_succ]
   go_wp2_with fail
   rw [rounds_succ]
   go_wp2_with fail
   go_ret3
   exact .no (Jm h (.inr (.inl (KW (.inr c2))))) rfl
  have c2' : B s (i + 1 + 1) / 64 = 2 := by omega
  have ⟨q2, p2⟩ := Zg hB2 c2'
  have G2 := hid (KF (s := s) (k := i + 1 + 1) (by omega) c2')
  clear c2 c2'
  by_cases c3 : ¬ B s (i + 1 + 2) / 64 = 2
  ·
   have ⟨q3, p3⟩ := vx hB3 c3
   go_wp2_with fail
   refine (jZ _ _ hB).mono ?_
   rw [UI h]
   rintro e w' ⟨rfl, rfl⟩
   go_wp2_with fail
   refine wp_loop_rounds 3 ?_
   rw [rounds_succ]
   go_wp2_with fail
   rw [rounds_succ]
   go_wp2_with fail
   rw [rounds_succ]
   go_wp2_with fail
   go_ret3
   exact .no (Jm h (.inr (.inr (KW (.inr c3))))) rfl
  have c3' : B s (i + 1 + 2) / 64 = 2 := by omega
  have ⟨q3, p3⟩ := Zg hB3 c3'
  have G3 := hid (KF (s := s) (k := i + 1 + 2) (by omega) c3')
  clear c3 c3'
  have hv : (((((B s i : Nat) : Int) % 8) * 64 + ((B s (i + 1) : Nat) : Int) % 64) * 64 + ((B s (i + 1 + 1) : Nat) : Int) % 64) * 64 + ((B s (i + 1 + 2) : Nat) : Int) % 64 = ((v4 s i : Nat) : Int) := by unfold v4; rw [show i + 2 = i + 1 + 1 from rfl, show i + 3 = i + 1 + 2 from rfl]; omega
  have HV := hid hv; clear hv
  by_cases v : 65536 ≤ v4 s i
  ·
   have v' : (65536 : Int) ≤ (((((B s i : Nat) : Int) % 8) * 64 + ((B s (i + 1) : Nat) : Int) % 64) * 64 + ((B s (i + 1 + 1) : Nat) : Int) % 64) * 64 + ((B s (i + 1 + 2) : Nat) : Int) % 64 := by rw [HV.out]; omega
   go_wp2_with fail
   refine (jZ _ _ hB).mono ?_
   rw [UI h]
   rintro e w' ⟨rfl, rfl⟩
   go_wp2_with fail
   refine wp_loop_rounds 4 ?_
   rw [rounds_succ]
   go_wp2_with fail
   rw [rounds_succ]
   go_wp2_with fail
   rw [rounds_succ]
   go_wp2_with fail
   rw [rounds_succ]
   go_wp2_with (go_at_call 128; refine (Uq _ _ (by omega) (by omega)).mono ?_; rintro e w' ⟨rfl, rfl⟩)
   go_ret3
   rcases dec4 h G1.out G2.out G3.out with ⟨_, hm, d, k⟩ | ⟨d, k⟩
   · exact .yes k d (Zh HV.out (by omega) (by rw [HV.out]; exact hm))
   · have hm : K4 (v4 s i) = false := d.resolve_left (by omega)
     exact .no k (Zh rfl rfl (by rw [HV.out]; exact hm))
  ·
   have v' : ¬ (65536 : Int) ≤ (((((B s i : Nat) : Int) % 8) * 64 + ((B s (i + 1) : Nat) : Int) % 64) * 64 + ((B s (i + 1 + 1) : Nat) : Int) % 64) * 64 + ((B s (i + 1 + 2) : Nat) : Int) % 64 := by rw [HV.out]; omega
   go_wp2_with fail
   refine (jZ _ _ hB).mono ?_
   rw [UI h]
   rintro e w' ⟨rfl, rfl⟩
   go_wp2_with fail
   refine wp_loop_rounds 4 ?_
   rw [rounds_succ]
   go_wp2_with fail
   rw [rounds_succ]
   go_wp2_with fail
   rw [rounds_succ]
   go_wp2_with fail
   rw [rounds_succ]
   go_wp2_with fail
   go_ret3
   rcases dec4 h G1.out G2.out G3.out with ⟨d, _⟩ | ⟨_, k⟩
   · omega
   · exact .no k rfl
theorem decode_any (s : ByteArray) (i : Nat) (w : World) (h0 : i < s.size) (hs : s.size ≤ maxLen) :
    Calls Tryz.prog 112 #[.string s, .int .i64 i] w (DecGives s i w) := by
  have := KJ s i
  rcases (by omega : B s i < 128 ∨ (128 ≤ B s i ∧ B s i < 192 ∨ 248 ≤ B s i) ∨ (192 ≤ B s i ∧ B s i < 224) ∨ (224 ≤ B s i ∧ B s i < 240) ∨ (240 ≤ B s i ∧ B s i < 248)) with h | h | h | h | h
  · exact decode1 s i w h0 hs h
  · exact decodeX s i w h0 hs h
  · exact decode2 s i w h0 hs h
  · exact decode3 s i w h0 hs h
  · exact decode4 s i w h0 hs h
end Go.Proofs.YthjaepmfkgejkaaGreatDoor
