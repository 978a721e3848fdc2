/-
  Objects as data: which may be, their bytes, what bytes are read as; what is written is read, what is read was written so, and no object's bytes begin another's. No conditions; no program runs here.
-/
import Derived.Test.YtdgbjhfkmembdaaGreatDoorLebSpec
import Derived.Test.YtdgbjhfkmembdaaGreatDoorIdsSpec
import Derived.Test.YtdgbjhfkmembdaaGreatDoorKeyCells
import Derived.Test.YtdgbjhfkmembdaaGreatDoorPathSpec
namespace Go.Proofs.YtdgbjhfkmembdaaGreatDoor
set_option linter.unusedVariables false

/-- An operation: kind, document, place, text, count, path. -/
abbrev OpD := UInt8 × RefD × RefD × ByteArray × Int × ByteArray
/-- What an index is: a document, or an element of one. -/
abbrev MadeD := Bool × RefD
abbrev ChangeD := Int × List (List UInt8) × ByteArray × List OpD
abbrev CommitD := List (List UInt8) × List (List UInt8) × ByteArray × ByteArray × Int
abbrev ObjD := UInt8 × ChangeD × CommitD
abbrev PartD := Bool × Bool × Bool × Bool × Bool
def zeroRef : RefD := (zero32, 0)
def noneS : ByteArray := ⟨#[]⟩
def noChangeD : ChangeD := (0, [], noneS, [])
def noCommitD : CommitD := ([], [], noneS, noneS, 0)

/-- Which parts an operation of a kind has: document, place, text, count, path. -/
def partsOf (k : UInt8) : Option PartD :=
  if k = 1 then some (true, true, true, false, false) else if k = 2 then some (true, true, false, true, false) else if k = 3 then some (false, false, false, false, true)
  else if k = 4 then some (true, false, false, false, true) else if k = 5 then some (true, false, false, false, false) else none
def absentB (x : OpD) (p : PartD) : Bool := (p.1 || decide (x.2.1 = zeroRef)) && (p.2.1 || decide (x.2.2.1 = zeroRef)) && (p.2.2.1 || decide (x.2.2.2.1 = noneS)) && (p.2.2.2.1 || decide (x.2.2.2.2.1 = 0)) && (p.2.2.2.2 || decide (x.2.2.2.2.2 = noneS))
def idsB (l : List (List UInt8)) (most : Nat) : Bool := decide (l.length ≤ most) && isSetB l && (decide (l = []) || !decide (l.headD [] = zero32))
def foreignB (deps : List (List UInt8)) (r : RefD) : Bool := isSetB deps && decide (r.1 ∈ deps) && decide (0 ≤ r.2) && decide (r.2 ≤ 2147483647)
def docB (deps : List (List UInt8)) (mk : List MadeD) (r : RefD) : Bool :=
  if r.1 ≠ zero32 then foreignB deps r else decide (0 ≤ r.2) && decide (r.2 < mk.length) && (mk.getD r.2.toNat (false, zeroRef)).1
def elemsB (deps : List (List UInt8)) (mk : List MadeD) (r d : RefD) (n : Int) : Bool :=
  if r.1 ≠ zero32 then foreignB deps r
  else decide (0 ≤ r.2) && decide (n ≤ mk.length) && decide (r.2 ≤ mk.length - n) && ((mk.drop r.2.toNat).take n.toNat).all fun m => !m.1 && decide (m.2 = d)
def fileB (s : ByteArray) : Bool := decide (s.size ≤ 4096) && isText s
def runesN (s : ByteArray) : Nat := match runesOf s with
  | some l => l.length
  | none => 0
/-- May an operation be? -/
def opB (deps : List (List UInt8)) (mk : List MadeD) (x : OpD) : Bool := match partsOf x.1 with
  | none => false
  | some p => absentB x p && (!p.1 || docB deps mk x.2.1) && (!p.2.2.2.2 || pathB x.2.2.2.2.2) &&
    (!decide (x.1 = 2) || (decide (1 ≤ x.2.2.2.2.1) && decide (x.2.2.2.2.1 ≤ 4096) && elemsB deps mk x.2.2.1 x.2.1 x.2.2.2.2.1)) &&
    (!decide (x.1 = 1) || ((decide (x.2.2.1 = x.2.1) || elemsB deps mk x.2.2.1 x.2.1 1) && !decide (x.2.2.2.1 = noneS) && fileB x.2.2.2.1))
/-- What an operation makes. -/
def madeB (x : OpD) : List MadeD := if x.1 = 3 then [(true, zeroRef)] else if x.1 = 1 then List.replicate (runesN x.2.2.2.1) (false, x.2.1) else []
def opsB (deps : List (List UInt8)) : List MadeD → List OpD → Bool
  | _, [] => true
  | mk, x :: t => opB deps mk x && opsB deps (mk ++ madeB x) t
def changeB (c : ChangeD) : Bool := decide (1 ≤ c.1) && decide (c.1 ≤ 1099511627776) && idsB c.2.1 4096 && authorB c.2.2.1 && decide (1 ≤ c.2.2.2.length) && decide (c.2.2.2.length ≤ 4096) && opsB c.2.1 [] c.2.2.2
def commitB (c : CommitD) : Bool := idsB c.1 2 && idsB c.2.1 4096 && authorB c.2.2.1 && noteB c.2.2.2.1 && decide (0 ≤ c.2.2.2.2) && decide (c.2.2.2.2 ≤ 1099511627776)
def noChangeB (c : ChangeD) : Bool := decide (c.1 = 0) && decide (c.2.1 = []) && decide (c.2.2.1 = noneS) && decide (c.2.2.2 = [])
def noCommitB (c : CommitD) : Bool := decide (c.1 = []) && decide (c.2.1 = []) && decide (c.2.2.1 = noneS) && decide (c.2.2.2.1 = noneS) && decide (c.2.2.2.2 = 0)
/-- May an object be? -/
def rightB (o : ObjD) : Bool := if o.1 = 1 then noCommitB o.2.2 && changeB o.2.1 else if o.1 = 2 then noChangeB o.2.1 && commitB o.2.2 else false

/-- The bytes. -/
def numE (n : Int) : List UInt8 := if n < 0 then [] else numB n.toNat
def idsE (l : List (List UInt8)) : List UInt8 := numE (l.length : Int) ++ l.flatten
def refE (deps : List (List UInt8)) (r : RefD) : List UInt8 := numE (if r.1 ≠ zero32 then (deps.idxOf r.1 : Int) + 1 else 0) ++ numE r.2
def ifE (b : Bool) (l : List UInt8) : List UInt8 := if b then l else []
def opE (deps : List (List UInt8)) (x : OpD) : List UInt8 :=
  let p := (partsOf x.1).getD (false, false, false, false, false)
  x.1 :: (ifE p.1 (refE deps x.2.1) ++ (ifE p.2.1 (refE deps x.2.2.1) ++ (ifE p.2.2.1 (textB (L x.2.2.2.1)) ++ (ifE p.2.2.2.1 (numE x.2.2.2.2.1) ++ ifE p.2.2.2.2 (textB (L x.2.2.2.2.2))))))
def opsE (deps : List (List UInt8)) (l : List OpD) : List UInt8 := (l.map (opE deps)).flatten
def changeE (c : ChangeD) : List UInt8 := 67 :: (numE c.1 ++ (idsE c.2.1 ++ (textB (L c.2.2.1) ++ (numE (c.2.2.2.length : Int) ++ opsE c.2.1 c.2.2.2))))
def commitE (c : CommitD) : List UInt8 := 75 :: (idsE c.1 ++ (idsE c.2.1 ++ (textB (L c.2.2.1) ++ (textB (L c.2.2.2.1) ++ numE c.2.2.2.2))))
def objE (o : ObjD) : List UInt8 := if o.1 = 1 then changeE o.2.1 else commitE o.2.2

/-- A reader: what it reads, what is left. -/
abbrev Ps (α : Type) := List UInt8 → Option (α × List UInt8)
def pBind {α β : Type} (d : Ps α) (f : α → Ps β) : Ps β := fun l => match d l with
  | some (a, r) => f a r
  | none => none
def pRet {α : Type} (a : α) : Ps α := fun l => some (a, l)
def pNeed {α : Type} (b : Bool) (d : Ps α) : Ps α := fun l => if b then d l else none
def pByte : Ps UInt8
  | [] => none
  | k :: l => some (k, l)
def pNum : Ps Nat := fun l => match getS l with
  | some (n, k) => some (n, l.drop k)
  | none => none
def pText : Ps ByteArray := fun l => match getTextS l 4096 with
  | some (t, k) => some (⟨t.toArray⟩, l.drop k)
  | none => none
def pId : Ps (List UInt8) := fun l => if l.length < 32 then none else some (l.take 32, l.drop 32)
def pMany {α : Type} (d : Ps α) : Nat → Ps (List α)
  | 0 => pRet []
  | n + 1 => pBind d fun a => pBind (pMany d n) fun t => pRet (a :: t)
def pList {α : Type} (most : Nat) (d : Ps α) : Ps (List α) := pBind pNum fun n => pNeed (decide (n ≤ most)) (pMany d n)
def pRef (deps : List (List UInt8)) : Ps RefD := pBind pNum fun n => pNeed (decide (n ≤ deps.length)) (pBind pNum fun i => pRet (if n = 0 then zero32 else deps.getD (n - 1) zero32, (i : Int)))
def pIf {α : Type} (b : Bool) (z : α) (d : Ps α) : Ps α := if b then d else pRet z
def pNumI : Ps Int := pBind pNum fun n => pRet (n : Int)
def pOp (deps : List (List UInt8)) : Ps OpD := pBind pByte fun k => match partsOf k with
  | none => fun _ => none
  | some p => pBind (pIf p.1 zeroRef (pRef deps)) fun d => pBind (pIf p.2.1 zeroRef (pRef deps)) fun a => pBind (pIf p.2.2.1 noneS pText) fun t => pBind (pIf p.2.2.2.1 0 pNumI) fun c => pBind (pIf p.2.2.2.2 noneS pText) fun q => pRet (k, d, a, t, c, q)
def pChange : Ps ChangeD := pBind pNumI fun t => pBind (pList 4096 pId) fun ds => pBind pText fun a => pBind (pList 4096 (pOp ds)) fun ops => pRet (t, ds, a, ops)
def pCommit : Ps CommitD := pBind (pList 2 pId) fun ps => pBind (pList 4096 pId) fun cs => pBind pText fun a => pBind pText fun m => pBind pNumI fun s => pRet (ps, cs, a, m, s)
def pObj : Ps ObjD := pBind pByte fun k => if k = 67 then pBind pChange fun c => pRet (1, c, noCommitD) else if k = 75 then pBind pCommit fun c => pRet (2, noChangeD, c) else fun _ => none
/-- What bytes are read as. -/
def readS (l : List UInt8) : Option ObjD := match pObj l with
  | some (o, r) => if r = [] ∧ rightB o = true then some o else none
  | none => none
def decodeS (l : List UInt8) : ObjD × Int := if 262144 < l.length then ((0, noChangeD, noCommitD), 2) else match readS l with
  | some o => (o, 0)
  | none => ((0, noChangeD, noCommitD), 6)

/-- What more bytes do not turn. -/
def Mono {α : Type} (d : Ps α) : Prop := ∀ l s a r, d l = some (a, r) → d (l ++ s) = some (a, r ++ s)
section
variable {α β : Type} {d : Ps α} {f : α → Ps β}
theorem pBind_some {l : List UInt8} {b : β} {r : List UInt8} (h : pBind d f l = some (b, r)) : ∃ a s, d l = some (a, s) ∧ f a s = some (b, r) := by
  unfold pBind at h
  rcases hd : d l with _ | ⟨a, s⟩
  · rw [hd] at h; cases h
  · rw [hd] at h; exact ⟨a, s, rfl, h⟩
theorem pBind_at {l s : List UInt8} {a : α} (h : d l = some (a, s)) : pBind d f l = f a s := by unfold pBind; rw [h]
theorem mono_bind (hd : Mono d) (hf : ∀ a, Mono (f a)) : Mono (pBind d f) := fun l s b r h => by
  obtain ⟨a, t, h1, h2⟩ := pBind_some h
  rw [pBind_at (hd _ s _ _ h1)]
  exact hf a _ _ _ _ h2
theorem mono_ret (a : α) : Mono (pRet a) := fun l s b r h => by
  unfold pRet at h ⊢
  cases h
  rfl
theorem mono_none : Mono (fun _ => none : Ps α) := fun l s b r h => by cases h
theorem mono_need {b : Bool} (hd : Mono d) : Mono (pNeed b d) := by
  cases b
  · exact fun l s a r h => by simp [pNeed] at h
  · exact fun l s a r h => by simp only [pNeed] at h ⊢; exact hd l s a r h
theorem mono_if {b : Bool} {z : α} (hd : Mono d) : Mono (pIf b z d) := by
  cases b
  · exact mono_ret z
  · exact hd
end
theorem mono_byte : Mono pByte := fun l s a r h => by
  cases l with
  | nil => cases h
  | cons k l => cases h; rfl
theorem num_cut {l : List UInt8} {n : Nat} {r : List UInt8} (h : pNum l = some (n, r)) : l = numB n ++ r ∧ n < 9223372036854775808 := by
  unfold pNum at h
  rcases hg : getS l with _ | ⟨m, k⟩
  · rw [hg] at h; cases h
  · rw [hg] at h; cases h
    exact ⟨by rw [← num_getS hg, List.take_append_drop], getS_bound hg⟩
theorem num_read {n : Nat} (h : n < 9223372036854775808) (r : List UInt8) : pNum (numB n ++ r) = some (n, r) := by
  unfold pNum
  rw [getS_num h]
  simp
theorem mono_num : Mono pNum := fun l s a r h => by
  obtain ⟨rfl, hb⟩ := num_cut h
  rw [List.append_assoc, num_read hb]
theorem text_cut {l : List UInt8} {t : ByteArray} {r : List UInt8} (h : pText l = some (t, r)) : l = textB (L t) ++ r ∧ t.size ≤ 4096 := by
  unfold pText at h
  rcases hg : getTextS l 4096 with _ | ⟨m, k⟩
  · rw [hg] at h; cases h
  · rw [hg] at h; cases h
    obtain ⟨h1, h2, h3⟩ := text_getTextS hg
    exact ⟨by show l = textB m ++ _; rw [← h1, List.take_append_drop], by rw [← L_length]; exact h3⟩
theorem text_read {t : ByteArray} (h : t.size ≤ 4096) (r : List UInt8) : pText (textB (L t) ++ r) = some (t, r) := by
  unfold pText
  rw [getTextS_text (by rw [L_length]; exact h) (by rw [L_length]; omega)]
  simp only [List.drop_left]
theorem mono_text : Mono pText := fun l s a r h => by
  obtain ⟨rfl, hb⟩ := text_cut h
  rw [List.append_assoc, text_read hb]
theorem id_cut {l i r : List UInt8} (h : pId l = some (i, r)) : l = i ++ r ∧ IdOk i := by
  unfold pId at h
  split at h
  · cases h
  · cases h
    exact ⟨(List.take_append_drop 32 l).symm, by unfold IdOk; rw [List.length_take]; omega⟩
theorem id_read {i : List UInt8} (h : IdOk i) (r : List UInt8) : pId (i ++ r) = some (i, r) := by
  unfold pId
  unfold IdOk at h
  rw [if_neg (by rw [List.length_append]; omega), ← h, List.take_left, List.drop_left]
theorem mono_id : Mono pId := fun l s a r h => by
  obtain ⟨rfl, hb⟩ := id_cut h
  rw [List.append_assoc, id_read hb]
theorem mono_many {α : Type} {d : Ps α} (hd : Mono d) : ∀ n, Mono (pMany d n)
  | 0 => mono_ret _
  | n + 1 => mono_bind hd fun _ => mono_bind (mono_many hd n) fun _ => mono_ret _
theorem mono_list {α : Type} {d : Ps α} (most : Nat) (hd : Mono d) : Mono (pList most d) := mono_bind mono_num fun _ => mono_need (mono_many hd _)
theorem mono_ref (deps : List (List UInt8)) : Mono (pRef deps) := mono_bind mono_num fun _ => mono_need (mono_bind mono_num fun _ => mono_ret _)
theorem mono_numI : Mono pNumI := mono_bind mono_num fun _ => mono_ret _
theorem mono_op (deps : List (List UInt8)) : Mono (pOp deps) := mono_bind mono_byte fun k => by
  cases partsOf k with
  | none => exact mono_none
  | some p => exact mono_bind (mono_if (mono_ref _)) fun _ => mono_bind (mono_if (mono_ref _)) fun _ => mono_bind (mono_if mono_text) fun _ => mono_bind (mono_if mono_numI) fun _ => mono_bind (mono_if mono_text) fun _ => mono_ret _
theorem mono_obj : Mono pObj := mono_bind mono_byte fun k => by
  split
  · exact mono_bind (mono_bind mono_numI fun _ => mono_bind (mono_list _ mono_id) fun _ => mono_bind mono_text fun _ => mono_bind (mono_list _ (mono_op _)) fun _ => mono_ret _) fun _ => mono_ret _
  · split
    · exact mono_bind (mono_bind (mono_list _ mono_id) fun _ => mono_bind (mono_list _ mono_id) fun _ => mono_bind mono_text fun _ => mono_bind mono_text fun _ => mono_bind mono_numI fun _ => mono_ret _) fun _ => mono_ret _
    · exact mono_none
/-- No object's bytes begin another's. -/
theorem readS_free {l s : List UInt8} {o p : ObjD} (h : readS l = some o) (h2 : readS (l ++ s) = some p) : s = [] := by
  unfold readS at h h2
  rcases hd : pObj l with _ | ⟨a, r⟩
  · rw [hd] at h; cases h
  · rw [hd] at h
    simp only at h
    split at h
    · rename_i hc
      rw [mono_obj l s a r hd] at h2
      simp only at h2
      split at h2
      · rename_i hc2
        exact (List.append_eq_nil_iff.1 hc2.1).2
      · cases h2
    · cases h
end Go.Proofs.YtdgbjhfkmembdaaGreatDoor
