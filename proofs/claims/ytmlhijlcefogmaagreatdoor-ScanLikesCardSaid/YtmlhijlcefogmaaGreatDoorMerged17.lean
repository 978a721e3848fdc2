/-
  Numbers, texts and ids as bytes, as plain functions: written, read; what is read is just what was written. No conditions; no program.
  Objects as data: which may be, their bytes, what bytes are read as; what is written is read, what is read was written so, and no object's bytes begin another's. No conditions; no program runs here.
  What is written for an object that may be is read as it; what is read as an object was written for it. No conditions but those said; no program runs here.
  Objects as they lie in memory: an operation's cells, an object's; '==' on refs and operations. Conditions: the values are well formed, as each says.
  Loads of refs, ids, operations in one word. Conditions: none.
  What the program's leb gives: numbers, texts and ids written behind nothing, and read from a place that there is. Conditions: as each says.
  The reader's memory: bytes, and the place in them. Conditions: as each says.
  What the reader's number and text read. Conditions: bytes that lie in memory; at most 2^40.
  What the reader's byte reads. Conditions: bytes that lie in memory; at most 2^40.
  What IsSet, place and Find give. Conditions: ids of 32 bytes; lists of at most 2^40 ids.
  What place and Find give. Conditions: ids of 32 bytes; lists of at most 2^40 ids.
  What object.ids gives. Conditions: ids of 32 bytes; at most 2^40 ids.
  What the reader's ref reads. Conditions: bytes that lie in memory; at most 2^40.
  What object.parts gives: the table of the kinds, as a map. No conditions.
  What the reader's op reads. Conditions: bytes that lie in memory; few changes hung on.
  Operations one behind the other: what is made, which may be. No conditions; no program runs here.
  What utf.Count and object.Size give. Conditions: texts that lie in memory.
  What scan.kept, scan.size give. Conditions: texts of at most 300 bytes.
-/
import Derived.Test.YtmlhijlcefogmaaGreatDoorMerged4
import Derived.Test.YtmlhijlcefogmaaGreatDoorMerged7
import Derived.Test.YtmlhijlcefogmaaGreatDoorMerged9
import Derived.Test.YtmlhijlcefogmaaGreatDoorMerged5
import Derived.Test.YtmlhijlcefogmaaGreatDoorMerged14
import Derived.Deep.MidRow
import Derived.Test.YtmlhijlcefogmaaGreatDoorProg
import Derived.Laws.OwnMore
import Derived.Deep.AppendSrc
import Derived.Laws.Bits64b
import Derived.Lib.SlBytesRow
import Derived.Deep.LoopGhost
import Derived.WalkMore
import Derived.Handy
import Derived.PlainAid
import Derived.Test.YtmlhijlcefogmaaGreatDoorMerged12
import Derived.WalkLawsBesides
import Derived.Test.YtmlhijlcefogmaaGreatDoorMerged16
import Derived.Test.YtmlhijlcefogmaaGreatDoorMerged2
import Derived.Test.YtmlhijlcefogmaaGreatDoorDiff18
set_option linter.unusedVariables false
set_option linter.unusedSimpArgs false
set_option maxHeartbeats 4000000
set_option maxRecDepth 100000
namespace Go.Proofs.YtmlhijlcefogmaaGreatDoor

/-- A number read, i bytes behind its beginning: what is left of it, and of how many bytes. -/
def getGo (i : Nat) : List UInt8 → Option (Nat × Nat)
  | [] => none
  | c :: r => if 128 ≤ c.toNat then (if 8 ≤ i then none else match getGo (i + 1) r with | some (n, k) => some (c.toNat - 128 + 128 * n, k + 1) | none => none)
    else if c.toNat = 0 ∧ 0 < i then none else some (c.toNat, 1)
def getS (l : List UInt8) : Option (Nat × Nat) := getGo 0 l

/-- A text read: it, and of how many bytes it was; an error's number. -/
def getTextS (l : List UInt8) (most : Nat) : Option (List UInt8 × Nat) :=
  match getS l with
  | some (n, k) => if most < n then none else if l.length - k < n then none else some ((l.drop k).take n, k + n)
  | none => none
end Go.Proofs.YtmlhijlcefogmaaGreatDoor
namespace Go.Proofs.YtmlhijlcefogmaaGreatDoor

/-- An operation: kind, document, place, text, count, path. -/
abbrev OpD := UInt8 × RefD × RefD × ByteArray × Int × ByteArray
abbrev ChangeD := Int × List (List UInt8) × ByteArray × List OpD
abbrev CommitD := List (List UInt8) × List (List UInt8) × ByteArray × ByteArray × Int
abbrev ObjD := UInt8 × ChangeD × CommitD
abbrev PartD := Bool × Bool × Bool × Bool × Bool
def runesN (s : ByteArray) : Nat := match runesOf s with
  | some l => l.length
  | none => 0
/-- A reader: what it reads, what is left. -/
abbrev Ps (α : Type) := List UInt8 → Option (α × List UInt8)
def pBind {α β : Type} (d : Ps α) (f : α → Ps β) : Ps β := fun l => match d l with
  | some (a, r) => f a r
  | none => none
def pRet {α : Type} (a : α) : Ps α := fun l => some (a, l)
def pMany {α : Type} (d : Ps α) : Nat → Ps (List α)
  | 0 => pRet []
  | n + 1 => pBind d fun a => pBind (pMany d n) fun t => pRet (a :: t)
section
variable {α β : Type} {d : Ps α} {f : α → Ps β}
theorem pBind_at {l s : List UInt8} {a : α} (h : d l = some (a, s)) : pBind d f l = f a s := by unfold pBind; rw [h]
end
end Go.Proofs.YtmlhijlcefogmaaGreatDoor
namespace Go.Proofs.YtmlhijlcefogmaaGreatDoor

def OpOk (x : OpD) : Prop := RefOk x.2.1 ∧ RefOk x.2.2.1 ∧ (Lit.int .i64 x.2.2.2.2.1).wf = true
def ChangeOk (c : ChangeD) : Prop := (Lit.int .i64 c.1).wf = true ∧ IdsOk c.2.1 ∧ ∀ x ∈ c.2.2.2, OpOk x
def CommitOk (c : CommitD) : Prop := IdsOk c.1 ∧ IdsOk c.2.1 ∧ (Lit.int .i64 c.2.2.2.2).wf = true
def ObjOk (o : ObjD) : Prop := ChangeOk o.2.1 ∧ CommitOk o.2.2
section
variable {α : Type} {d : Ps α} {enc : α → List UInt8}
end
end Go.Proofs.YtmlhijlcefogmaaGreatDoor
namespace Go.Proofs.YtmlhijlcefogmaaGreatDoor
open Go.RowKit

/-- An operation's cells. -/
def opV (x : OpD) : List Value := .int .u8 (x.1.toNat : Int) :: (refV x.2.1 ++ (refV x.2.2.1 ++ [.string x.2.2.2.1, .int .i64 x.2.2.2.2.1, .string x.2.2.2.2.2]))
/-- An operation that may lie in memory: ids of 32 bytes, numbers and sizes that are such. -/
def OpIn (x : OpD) : Prop := OpOk x ∧ x.2.2.2.1.size ≤ maxLen ∧ x.2.2.2.2.2.size ≤ maxLen
/-- An object's own cells: what it is made of, and where its lists lie. -/
structure ObjIn (w : World) (B : Nat) (v : Value) (o : ObjD) : Prop where
  ok : ObjOk o
  ops : ∀ x ∈ o.2.1.2.2.2, OpIn x
  author : o.2.1.2.2.1.size ≤ maxLen
  author2 : o.2.2.2.2.1.size ≤ maxLen
  note : o.2.2.2.2.2.1.size ≤ maxLen
  cells : ∃ Ad cd Ao co Ap cp Ac cc, v = .agg #[.int .u8 (o.1.toNat : Int), .int .i64 o.2.1.1, .slice Ad o.2.1.2.1.length cd, .string o.2.1.2.2.1, .slice Ao o.2.1.2.2.2.length co, .slice Ap o.2.2.1.length cp, .slice Ac o.2.2.2.1.length cc, .string o.2.2.2.2.1, .string o.2.2.2.2.2.1, .int .i64 o.2.2.2.2.2.2] ∧
    Sl w B Ad o.2.1.2.1.length 32 (idsV o.2.1.2.1) ∧ Sl w B Ao o.2.1.2.2.2.length 70 (rowsV opV o.2.1.2.2.2) ∧ Sl w B Ap o.2.2.1.length 32 (idsV o.2.2.1) ∧ Sl w B Ac o.2.2.2.1.length 32 (idsV o.2.2.2.1)
/-- A change's own cells. -/
structure ChIn (w : World) (B : Nat) (v : Value) (c : ChangeD) : Prop where
  ok : ChangeOk c
  ops : ∀ x ∈ c.2.2.2, OpIn x
  author : c.2.2.1.size ≤ maxLen
  cells : ∃ Ad cd Ao co, v = .agg #[.int .i64 c.1, .slice Ad c.2.1.length cd, .string c.2.2.1, .slice Ao c.2.2.2.length co] ∧ Sl w B Ad c.2.1.length 32 (idsV c.2.1) ∧ Sl w B Ao c.2.2.2.length 70 (rowsV opV c.2.2.2)
structure CmIn (w : World) (B : Nat) (v : Value) (c : CommitD) : Prop where
  ok : CommitOk c
  author : c.2.2.1.size ≤ maxLen
  note : c.2.2.2.1.size ≤ maxLen
  cells : ∃ Ap cp Ac cc, v = .agg #[.slice Ap c.1.length cp, .slice Ac c.2.1.length cc, .string c.2.2.1, .string c.2.2.2.1, .int .i64 c.2.2.2.2] ∧ Sl w B Ap c.1.length 32 (idsV c.1) ∧ Sl w B Ac c.2.1.length 32 (idsV c.2.1)
section
variable {w w' : World} {B B' : Nat} {v : Value}
theorem ObjIn.keep {o : ObjD} (h : ObjIn w B v o) (hb : Below B w w') : ObjIn w' B v o := by
  obtain ⟨h1, h2, h3, h4, h5, Ad, cd, Ao, co, Ap, cp, Ac, cc, hv, s1, s2, s3, s4⟩ := h
  exact ⟨h1, h2, h3, h4, h5, Ad, cd, Ao, co, Ap, cp, Ac, cc, hv, s1.keep hb, s2.keep hb, s3.keep hb, s4.keep hb⟩
theorem ObjIn.more {o : ObjD} (h : ObjIn w B v o) (hB : B ≤ B') : ObjIn w B' v o := by
  obtain ⟨h1, h2, h3, h4, h5, Ad, cd, Ao, co, Ap, cp, Ac, cc, hv, s1, s2, s3, s4⟩ := h
  exact ⟨h1, h2, h3, h4, h5, Ad, cd, Ao, co, Ap, cp, Ac, cc, hv, s1.more hB, s2.more hB, s3.more hB, s4.more hB⟩
theorem ChIn.keep {o : ChangeD} (h : ChIn w B v o) (hb : Below B w w') : ChIn w' B v o := by
  obtain ⟨h1, h2, h3, Ad, cd, Ao, co, hv, s1, s2⟩ := h
  exact ⟨h1, h2, h3, Ad, cd, Ao, co, hv, s1.keep hb, s2.keep hb⟩
theorem ChIn.more {o : ChangeD} (h : ChIn w B v o) (hB : B ≤ B') : ChIn w B' v o := by
  obtain ⟨h1, h2, h3, Ad, cd, Ao, co, hv, s1, s2⟩ := h
  exact ⟨h1, h2, h3, Ad, cd, Ao, co, hv, s1.more hB, s2.more hB⟩
theorem CmIn.keep {o : CommitD} (h : CmIn w B v o) (hb : Below B w w') : CmIn w' B v o := by
  obtain ⟨h1, h2, h3, Ad, cd, Ao, co, hv, s1, s2⟩ := h
  exact ⟨h1, h2, h3, Ad, cd, Ao, co, hv, s1.keep hb, s2.keep hb⟩
theorem CmIn.more {o : CommitD} (h : CmIn w B v o) (hB : B ≤ B') : CmIn w B' v o := by
  obtain ⟨h1, h2, h3, Ad, cd, Ao, co, hv, s1, s2⟩ := h
  exact ⟨h1, h2, h3, Ad, cd, Ao, co, hv, s1.more hB, s2.more hB⟩
end
end Go.Proofs.YtmlhijlcefogmaaGreatDoor
namespace Go.Proofs.YtmlhijlcefogmaaGreatDoor
open Go.RowKit

section
variable {ρ : Operand → Value} {o : Oper} {w : World} {b f : Nat} {x : Operand}
end
end Go.Proofs.YtmlhijlcefogmaaGreatDoor
namespace Go.Proofs.YtmlhijlcefogmaaGreatDoor
open Go.RowKit

theorem info_u8 : (Tryz.prog.info? 5).map (fun i => (i.zero, i.size, i.bytes)) = some (some (.int .u8 0), 1, 1) := by kernel_rfl

def GetGives (l : List UInt8) (at' : Nat) (w : World) (e : Ending) (w' : World) : Prop := w = w' ∧ e = (match getS (l.drop at') with
  | some (n, k) => .returned (.tuple #[.int .i64 n, .int .i64 ((at' + k : Nat) : Int), .int .i64 0])
  | none => .returned (.tuple #[.int .i64 0, .int .i64 0, .int .i64 6]))
theorem GetGives.no {l : List UInt8} {at' : Nat} {w : World} {e : Ending} (h : getS (l.drop at') = none) (he : e = .returned (.tuple #[.int .i64 0, .int .i64 0, .int .i64 6])) : GetGives l at' w e w := by
  unfold GetGives; rw [h]; exact ⟨rfl, he⟩
theorem GetGives.yes {l : List UInt8} {at' n k : Nat} {w : World} {e : Ending} (h : getS (l.drop at') = some (n, k)) (he : e = .returned (.tuple #[.int .i64 n, .int .i64 ((at' + k : Nat) : Int), .int .i64 0])) : GetGives l at' w e w := by
  unfold GetGives; rw [h]; exact ⟨rfl, he⟩
/-- Read up to i: what is left decides. -/
def Getting (l : List UInt8) (at' i out : Nat) : Prop := getS (l.drop at') = match getGo i (l.drop (at' + i)) with | some (n, k) => some (out + 128 ^ i * n, i + k) | none => none
theorem Getting.start (l : List UInt8) (at' : Nat) : Getting l at' 0 0 := by
  unfold Getting getS
  rw [Nat.add_zero]
  cases getGo 0 (l.drop at') <;> simp
theorem Getting.next {l : List UInt8} {at' i out : Nat} {x : UInt8} (h : Getting l at' i out) (hd : l.drop (at' + i) = x :: l.drop (at' + i + 1)) (h128 : 128 ≤ x.toNat) (hi : i < 8) : Getting l at' (i + 1) (out + 128 ^ i * (x.toNat - 128)) := by
  unfold Getting at h ⊢
  rw [h, hd, getGo, if_pos h128, if_neg (by omega), ← Nat.add_assoc]
  rcases getGo (i + 1) (l.drop (at' + i + 1)) with _ | ⟨n, k⟩
  · rfl
  · simp only [Option.some.injEq, Prod.mk.injEq]
    refine ⟨?_, by omega⟩
    rw [Nat.mul_add, Nat.pow_succ, Nat.mul_assoc]
    omega
theorem Getting.over {l : List UInt8} {at' i out : Nat} {x : UInt8} (h : Getting l at' i out) (hd : l.drop (at' + i) = x :: l.drop (at' + i + 1)) (h128 : 128 ≤ x.toNat) (hi : 8 ≤ i) : getS (l.drop at') = none := by
  unfold Getting at h
  rw [h, hd, getGo, if_pos h128, if_pos hi]
theorem Getting.zero {l : List UInt8} {at' i out : Nat} {x : UInt8} (h : Getting l at' i out) (hd : l.drop (at' + i) = x :: l.drop (at' + i + 1)) (h0 : x.toNat = 0) (hi : 0 < i) : getS (l.drop at') = none := by
  unfold Getting at h
  rw [h, hd, getGo, if_neg (by omega), if_pos ⟨h0, hi⟩]
theorem Getting.last {l : List UInt8} {at' i out : Nat} {x : UInt8} (h : Getting l at' i out) (hd : l.drop (at' + i) = x :: l.drop (at' + i + 1)) (h128 : ¬ 128 ≤ x.toNat) (h0 : ¬ (x.toNat = 0 ∧ 0 < i)) : getS (l.drop at') = some (out + 128 ^ i * x.toNat, i + 1) := by
  unfold Getting at h
  rw [h, hd, getGo, if_neg h128, if_neg h0]
theorem Getting.end {l : List UInt8} {at' i out : Nat} (h : Getting l at' i out) (hi : l.length ≤ at' + i) : getS (l.drop at') = none := by
  unfold Getting at h
  rw [h, List.drop_eq_nil_of_le hi]; rfl

def GetTextGives (l : List UInt8) (at' most : Nat) (w : World) (e : Ending) (w' : World) : Prop := w = w' ∧ (match getTextS (l.drop at') most with
  | some (t, k) => e = .returned (.tuple #[.string ⟨t.toArray⟩, .int .i64 ((at' + k : Nat) : Int), .int .i64 0])
  | none => ∃ q : Int, q ≠ 0 ∧ e = .returned (.tuple #[.string ⟨#[]⟩, .int .i64 0, .int .i64 q]))
theorem GetTextGives.no {l : List UInt8} {at' most : Nat} {w : World} {e : Ending} {q : Int} (h : getTextS (l.drop at') most = none) (hq : q ≠ 0) (he : e = .returned (.tuple #[.string ⟨#[]⟩, .int .i64 0, .int .i64 q])) : GetTextGives l at' most w e w := by
  unfold GetTextGives; rw [h]; exact ⟨rfl, q, hq, he⟩
theorem GetTextGives.yes {l : List UInt8} {at' most k : Nat} {t : List UInt8} {w : World} {e : Ending} (h : getTextS (l.drop at') most = some (t, k)) (he : e = .returned (.tuple #[.string ⟨t.toArray⟩, .int .i64 ((at' + k : Nat) : Int), .int .i64 0])) : GetTextGives l at' most w e w := by
  unfold GetTextGives; rw [h]; exact ⟨rfl, he⟩

end Go.Proofs.YtmlhijlcefogmaaGreatDoor
namespace Go.Proofs.YtmlhijlcefogmaaGreatDoor
open Go.RowKit Go.Maps

section
variable {g b off c at' at2 : Nat} {l : List UInt8} {w w' : World}
variable {α : Type} {p : Ps α} {R : α → Value → World → Prop} {e : Ending} {a : α} {r : List UInt8}
end
end Go.Proofs.YtmlhijlcefogmaaGreatDoor
namespace Go.Proofs.YtmlhijlcefogmaaGreatDoor
open Go.RowKit Go.Maps

end Go.Proofs.YtmlhijlcefogmaaGreatDoor
namespace Go.Proofs.YtmlhijlcefogmaaGreatDoor
open Go.RowKit Go.Maps

end Go.Proofs.YtmlhijlcefogmaaGreatDoor
namespace Go.Proofs.YtmlhijlcefogmaaGreatDoor
open Go.RowKit

end Go.Proofs.YtmlhijlcefogmaaGreatDoor
namespace Go.Proofs.YtmlhijlcefogmaaGreatDoor
open Go.RowKit

/-- An id's place in a set, and whether it is there. -/
def FindGives (l : List (List UInt8)) (x : List UInt8) (w : World) (e : Ending) (w' : World) : Prop :=
  Below w.heap.size w w' ∧ ∃ n : Nat, e = .returned (.tuple #[.int .i64 n, .bool (isSetB l && decide (x ∈ l))]) ∧ n ≤ l.length ∧ ((isSetB l && decide (x ∈ l)) = true → l[n]? = some x)
theorem FindGives.yes {l : List (List UInt8)} {x : List UInt8} {w w' : World} {e : Ending} {n : Nat} (hs : isSetB l = true) (h : l[n]? = some x) (hb : Below w.heap.size w w') (he : e = .returned (.tuple #[.int .i64 n, .bool true])) : FindGives l x w e w' := by
  have hm : (isSetB l && decide (x ∈ l)) = true := by rw [hs]; simpa using List.mem_of_getElem? h
  refine ⟨hb, n, by rw [hm]; exact he, ?_, fun _ => h⟩
  have := (List.getElem?_eq_some_iff.1 h).1
  omega
theorem FindGives.no {l : List (List UInt8)} {x : List UInt8} {w w' : World} {e : Ending} {n : Nat} (hm : (isSetB l && decide (x ∈ l)) = false) (hn : n ≤ l.length) (hb : Below w.heap.size w w') (he : e = .returned (.tuple #[.int .i64 n, .bool false])) : FindGives l x w e w' :=
  ⟨hb, n, by rw [hm]; exact he, hn, fun h => by rw [hm] at h; cases h⟩

/-- The halving's state. -/
def Halving (l : List (List UInt8)) (x : List UInt8) (lo hi : Nat) : Prop :=
  (∀ j (h : j < l.length), j < lo → cmpB l[j] x < 0) ∧ (∀ j (h : j < l.length), hi ≤ j → 0 < cmpB l[j] x)
theorem Halving.start (l : List (List UInt8)) (x : List UInt8) : Halving l x 0 l.length := ⟨fun j _ h => absurd h (by omega), fun j h h' => absurd h (by omega)⟩
theorem Halving.up {l : List (List UInt8)} {x : List UInt8} {lo hi m : Nat} (h : Halving l x lo hi) (hs : isSetB l = true) (hm : m < l.length) (hc : cmpB l[m] x < 0) : Halving l x (m + 1) hi := by
  refine ⟨fun j hj hjm => ?_, h.2⟩
  rcases (by omega : j < m ∨ j = m) with q | q
  · exact cmpB_trans ((List.pairwise_iff_getElem.1 (isSetB_pair hs)) j m hj hm q) hc
  · subst q; exact hc
theorem Halving.end {l : List (List UInt8)} {x : List UInt8} {lo hi : Nat} (h : Halving l x lo hi) (he : hi ≤ lo) : x ∉ l := by
  intro hx
  obtain ⟨j, hj, rfl⟩ := List.getElem_of_mem hx
  rcases (by omega : j < lo ∨ hi ≤ j) with q | q
  · have := h.1 j hj q
    rw [cmpB_self] at this; omega
  · have := h.2 j hj q
    rw [cmpB_self] at this; omega

end Go.Proofs.YtmlhijlcefogmaaGreatDoor
namespace Go.Proofs.YtmlhijlcefogmaaGreatDoor
open Go.RowKit

end Go.Proofs.YtmlhijlcefogmaaGreatDoor
namespace Go.Proofs.YtmlhijlcefogmaaGreatDoor
open Go.RowKit Go.Maps

end Go.Proofs.YtmlhijlcefogmaaGreatDoor
namespace Go.Proofs.YtmlhijlcefogmaaGreatDoor
open Go.RowKit Go.Maps

end Go.Proofs.YtmlhijlcefogmaaGreatDoor
namespace Go.Proofs.YtmlhijlcefogmaaGreatDoor
open Go.RowKit Go.Maps

section
variable {w wx wy : World} {g b off c : Nat} {l : List UInt8} {z0 zx zp : Nat} {p : PartD} {x y : OpD} {a a2 : Nat}
end
end Go.Proofs.YtmlhijlcefogmaaGreatDoor
namespace Go.Proofs.YtmlhijlcefogmaaGreatDoor

theorem runesAt_len (s : ByteArray) : ∀ (n pos : Nat) (l : List Nat), s.size - pos ≤ n → runesAt s pos = some l → l.length ≤ s.size - pos
  | n, pos, l, h, e => by
    by_cases hp : pos < s.size
    · cases n with
      | zero => omega
      | succ n =>
        cases ho : okAt s pos with
        | false => rw [runesAt_bad hp ho] at e; cases e
        | true =>
          rw [runesAt_ok hp ho] at e
          obtain ⟨t, ht, rfl⟩ := Option.map_eq_some_iff.1 e
          have hd := dec_in hp
          have := runesAt_len s n _ t (by omega) ht
          simp
          omega
    · rw [runesAt_end (by omega)] at e
      cases e
      simp
theorem runesN_le (s : ByteArray) : runesN s ≤ s.size := by
  unfold runesN
  rcases h : runesOf s with _ | l
  · exact Nat.zero_le _
  · exact runesAt_len s _ 0 l (Nat.le_refl _) h
/-- So many runes from a place on. -/
def runesFrom (s : ByteArray) (k : Nat) : Nat := match runesAt s k with
  | some l => l.length
  | none => 0
theorem runesFrom_zero (s : ByteArray) : runesFrom s 0 = runesN s := rfl
theorem runesFrom_end {s : ByteArray} {k : Nat} (h : s.size ≤ k) : runesFrom s k = 0 := by
  unfold runesFrom; rw [runesAt_end h]; rfl
theorem runesFrom_next {s : ByteArray} {k : Nat} (hk : k < s.size) (ho : okAt s k = true) (h : (runesAt s (k + (Utf8.decode s k).2)).isSome = true) : runesFrom s k = runesFrom s (k + (Utf8.decode s k).2) + 1 := by
  unfold runesFrom
  rw [runesAt_ok hk ho]
  rcases hr : runesAt s (k + (Utf8.decode s k).2) with _ | l
  · rw [hr] at h; cases h
  · simp
end Go.Proofs.YtmlhijlcefogmaaGreatDoor
namespace Go.Proofs.YtmlhijlcefogmaaGreatDoor
open Go.RowKit Go.Maps

/-- How many runes utf.Count tells. -/
def cntN (s : ByteArray) : Nat := if isText s = true then runesN s else 0
theorem count_er (s : ByteArray) (w : World) (hs : s.size ≤ maxLen) :
    Calls Tryz.prog 9 #[.string s] w fun e w' => Below w.heap.size w w' ∧ ∃ er : Int, e = .returned (.tuple #[.int .i64 ((cntN s : Nat) : Int), .int .i64 er]) ∧ (isText s = true → er = 0) := by
  rcases Bool.eq_false_or_eq_true (isText s) with ht | ht
  · have HCK : Hid (∀ u : World, Calls Tryz.prog 23 #[.string s] u fun e w' => u = w' ∧ e = .returned (.tuple #[.int .i64 0, .int .i64 0])) := Lib.hid (fun u => (check_any s u hs).mono fun e w' ⟨h1, h2⟩ => by
      rcases h2 with ⟨_, h⟩ | ⟨h, _⟩
      · exact ⟨h1, h⟩
      · rw [ht] at h; cases h)
    have HCN : Hid (cntN s = runesN s) := Lib.hid (by unfold cntN; rw [if_pos ht])
    have HOK0 := Lib.hid (show okFrom s 0 from ht)
    have hrn := runesN_le s
    have hmx : s.size ≤ 9223372036854775807 := by unfold maxLen at hs; omega
    obtain ⟨zi, hzi⟩ : ∃ zi, w.heap.size = zi := ⟨_, rfl⟩
    have HZI := Lib.hid hzi
    clear ht hzi
    go_enter Tryz.func9, Tryz.ntmps9
    go_upto_region 6 with (first
      | (go_at_call 23; refine (HCK.out _).mono ?_; rintro e u ⟨rfl, rfl⟩))
    go_loopw [6] (fun t6 wr => ∃ pos i : Nat, pos ≤ s.size ∧ t6 = .int .i64 (i : Int) ∧ Hid (wr.heap[zi]? = some (.stringIter s pos)) ∧ Hid (okFrom s pos) ∧ i + runesFrom s pos = runesN s ∧ Hid (Below w.heap.size w wr)) (fun _ wr => s.size - wr.iterPos zi)
    case atStart =>
      exact ⟨0, 0, by omega, rfl, Lib.hid (by rw [← HZI.out]; simpa using World.iter_heap w s 0), HOK0, by rw [runesFrom_zero]; omega, Lib.hid ((qB _ _).alloc (qR _) _)⟩
    case round =>
      obtain ⟨pos, i, hpos, rfl, HIT, HOK, hcnt, HBR⟩ := hrel
      by_cases hlt : pos < s.size
      · have hnx : ∀ ty, (Instr.next (.pointer (some ⟨w.heap.size, 0, none⟩)) true ty).run Tryz.prog wr = _ := fun ty => (congrArg (fun z => (Instr.next (.pointer (some ⟨z, 0, none⟩)) true ty).run Tryz.prog wr) HZI.out).trans (Lib.run_next_any_at wr zi s pos ty HIT.out hlt)
        have hin := dec_in hlt
        obtain ⟨ho, hnk⟩ := HOK.out.at_ hlt
        have hcn := runesFrom_next hlt ho hnk
        have HOK2 := Lib.hid hnk
        have HIT2 := Lib.hid (Lib.iterAt_heap wr zi s pos (pos + (Utf8.decode s pos).2) HIT.out)
        have HBR2 := Lib.hid (Lib.below_iterAt HBR.out (by rw [HZI.out]; exact qR _) s (pos + (Utf8.decode s pos).2))
        clear ho hnk
        generalize hW2 : wr.iterAt zi s (pos + (Utf8.decode s pos).2) = W2 at *
        clear hW2
        go_wp2_with fail
        go_roundw
        case rel => exact ⟨pos + (Utf8.decode s pos).2, i + 1, by omega, by go_num, HIT2, HOK2, by omega, HBR2⟩
        case measure =>
          simp only [World.iterPos, HIT2.out, HIT.out]
          omega
      · have hnx : ∀ ty, (Instr.next (.pointer (some ⟨w.heap.size, 0, none⟩)) true ty).run Tryz.prog wr = _ := fun ty => (congrArg (fun z => (Instr.next (.pointer (some ⟨z, 0, none⟩)) true ty).run Tryz.prog wr) HZI.out).trans (Lib.run_next_end_at wr zi s pos ty HIT.out hlt)
        have hi : i = runesN s := by rw [runesFrom_end (by omega)] at hcnt; omega
        have HI := Lib.hid hi
        clear hi hcnt
        go_wp2_with fail
        go_ret2
        exact ⟨HBR.out, 0, by rw [HCN.out, ← HI.out]; rfl, fun _ => rfl⟩
  · have HCK : Hid (∀ u : World, Calls Tryz.prog 23 #[.string s] u fun e w' => u = w' ∧ ∃ n : Int, e = .returned (.tuple #[.int .i64 n, .int .i64 5])) := Lib.hid (fun u => (check_any s u hs).mono fun e w' ⟨h1, h2⟩ => by
      rcases h2 with ⟨h, _⟩ | ⟨_, h⟩
      · rw [ht] at h; cases h
      · exact ⟨h1, h⟩)
    have HTF : Hid (isText s = false) := Lib.hid ht
    have HCN : Hid (cntN s = 0) := Lib.hid (by unfold cntN; rw [if_neg (by rw [ht]; decide)])
    clear ht
    go_enter Tryz.func9, Tryz.ntmps9
    go_wp2_with (first
      | (go_at_call 23; refine (HCK.out _).mono ?_; rintro e u ⟨rfl, n, rfl⟩))
    go_ret2
    exact ⟨qB _ _, 5, by rw [HCN.out]; rfl, fun h => by rw [HTF.out] at h; cases h⟩
theorem count_any (s : ByteArray) (w : World) (hs : s.size ≤ maxLen) :
    Calls Tryz.prog 9 #[.string s] w fun e w' => Below w.heap.size w w' ∧ ∃ er : Int, e = .returned (.tuple #[.int .i64 ((cntN s : Nat) : Int), .int .i64 er]) :=
  (count_er s w hs).mono fun e w' ⟨h1, er, h2, _⟩ => ⟨h1, er, h2⟩
end Go.Proofs.YtmlhijlcefogmaaGreatDoor
namespace Go.Proofs.YtmlhijlcefogmaaGreatDoor
open Go.RowKit Go.Maps Go.Shelf

theorem edZ_run (w : World) : (zeroValue 41).run Tryz.prog w = .ok (.agg (edV edZ).toArray) w := by kernel_rfl
theorem keepE_next {l : List EdD} {i : Nat} (h : i < l.length) : keepE (l.take (i + 1)) = keepE (l.take i) + l[i].1 := by
  unfold keepE
  rw [List.take_succ_eq_append_getElem h, List.map_append, List.sum_append]
  simp
theorem keepE_le (l : List EdD) (i : Nat) : keepE (l.take i) ≤ keepE l := by
  have h : keepE l = keepE (l.take i) + keepE (l.drop i) := by
    unfold keepE
    rw [← List.sum_append, ← List.map_append, List.take_append_drop]
  omega
theorem kept_good (a b : ByteArray) (x y : List Nat) (w : World) (ha : a.size ≤ 300) (hb : b.size ≤ 300) (hx : runesOf a = some x) (hy : runesOf b = some y) :
    Calls Tryz.prog 14 #[.string a, .string b] w fun e w' => Below w.heap.size w w' ∧ e = .returned (.tuple #[.int .i64 ((onesN (movesS (intsN x) (intsN y)) : Nat) : Int), .bool true]) := by
  have hd : Calls Tryz.prog 27 #[.string a, .string b] w fun e w' => Below w.heap.size w w' ∧ ∃ eds A c, e = .returned (.tuple #[.slice A eds.length c, .int .i64 0]) ∧ w'.ownsRow w.heap.size 41 3 (.slice A eds.length c) eds.length (rowsV edV eds) ∧ keepE eds = onesN (movesS (intsN x) (intsN y)) ∧ eds.length ≤ 1000 :=
    (diff_any a b w ha hb).mono fun e w' ⟨h1, h2⟩ => by
      rcases h2 with ⟨x', y', eds, A, c, k1, k2, k3, k4, k5, k6⟩ | ⟨k1, _⟩
      · rw [hx] at k1; rw [hy] at k2; injection k1 with k1; injection k2 with k2; subst k1 k2; exact ⟨h1, eds, A, c, k3, k4, k5, k6⟩
      · rcases k1 with k1 | k1
        · rw [hx] at k1; cases k1
        · rw [hy] at k1; cases k1
  have HD := Lib.hid hd
  have hon : onesN (movesS (intsN x) (intsN y)) ≤ 600 := by
    have h1 := onesN_le (movesS (intsN x) (intsN y))
    have h2 := moves_length _ (intsN x) (intsN y) (Nat.le_refl _)
    rw [intsN_length, intsN_length] at h2
    have := runes_le hx; have := runes_le hy
    omega
  obtain ⟨on, ho⟩ : ∃ on, onesN (movesS (intsN x) (intsN y)) = on := ⟨_, rfl⟩
  rw [ho] at HD hon ⊢
  clear hd ho hx hy
  go_enter Tryz.func14, Tryz.ntmps14
  go_upto_region 4 with (first
    | (go_at_call 27; refine HD.out.mono ?_; rintro e W1 ⟨hb1, l, A, c, rfl, hown, hkp, hle⟩; have HB1 := Lib.hid hb1; have HO1 := Lib.hid hown; have HK := Lib.hid hkp; clear hb1 hown hkp))
  go_loopw [8, 19] (fun t8 t19 wr => ∃ i : Nat, i ≤ l.length ∧ t19 = .int .i64 (i : Int) ∧ t8 = .int .i64 ((keepE (l.take i) : Nat) : Int) ∧ Hid (Below W1.heap.size W1 wr)) (fun _ t19 _ => l.length - (intOf t19).toNat)
  case atStart => exact ⟨0, Nat.zero_le _, rfl, rfl, Lib.hid (Below.refl _ _)⟩
  case round =>
    obtain ⟨i, hi, rfl, rfl, HBR⟩ := hrel
    by_cases hlt : i < l.length
    · have i0 : (0 : Int) ≤ (i : Int) := by omega
      have i1 : (i : Int) < (l.length : Int) := by omega
      have HOR := Lib.hid ((But.of_below (X := NoB) HBR.out).own HO1.out fun _ _ q => q)
      obtain ⟨g, cg, tl, hv, hBg, hgb, _, _, _⟩ := own_open HOR.out (by omega)
      injection hv with hv1 _ hv2
      subst hv1 hv2
      have hrow := rowsV_get (enc := edV) (sz := 3) (fun x _ => edV_length x) i hlt
      have HROW := Lib.hid (show wr.rangeAt g (i * 3) (edV l[i]) from fun j u hj => by
        rw [cells_at0 hgb, List.getElem?_append_left (List.getElem?_eq_some_iff.1 (hrow j u hj)).1]
        exact hrow j u hj)
      have hkn := keepE_next hlt
      have hkl := keepE_le l (i + 1)
      have hkb : keepE (l.take (i + 1)) ≤ 600 := by have := HK.out; omega
      have HKN := Lib.hid hkn
      obtain ⟨ed, hed⟩ : ∃ ed, l[i] = ed := ⟨_, rfl⟩
      obtain ⟨q, hq⟩ : ∃ q, keepE (l.take i) = q := ⟨_, rfl⟩
      rw [hed] at HROW HKN hkn
      rw [hq] at HKN hkn ⊢
      have hqb : q + ed.1 ≤ 600 := by omega
      clear hed hq hkn hkl hrow hgb hkb
      go_wp2_with (first
        | (with_reducible refine at_load ?_
           refine wp_loadN rfl 41 _ rfl g _ rfl (edV ed) _ HROW.out Tryz.underlying41 rfl (by kernel_rfl) ?_)
        | (with_reducible refine at_alloc ?_
           refine wp_allocM (by rfl) 41 rfl (edV edZ) (edZ_run _) ?_
           intro W2 hb2 hy2 hs2
           have HB2 := Lib.hid hb2; have HY2 := Lib.hid hy2; have HS2 := Lib.hid hs2
           clear hb2 hy2 hs2)
        | (with_reducible refine at_store ?_
           refine wp_storeM (by rfl) 41 _ _ rfl wr.heap.size 0 [] (edV edZ) [] (edV ed) 41 (.agg (edV ed).toArray) rfl rfl rfl rfl (by simpa using HY2.out) rfl (by kernel_rfl) (edV_one _) ?_
           intro W3 hb3 hy3 hs3
           have HB3 : Hid (Below wr.heap.size wr W3) := Lib.hid (HB2.out.trans (hb3.below (B := wr.heap.size) (by have := HS2.out; omega) (fun k hk e => by have e2 : k = wr.heap.size := e; omega)))
           have hc3 : W3.cell? ⟨wr.heap.size, 0, none⟩ = some (.int .i64 (ed.1 : Int)) := cells_at0 (show W3.heap[wr.heap.size]? = some (.cells (edV ed).toArray 41 (0, 0)) by simpa using hy3) 0
           clear hb3 hy3 hs3))
      go_roundw
      case rel => exact ⟨i + 1, by omega, by go_num, by rw [HKN.out]; go_num, Lib.hid (HBR.out.trans (HB3.out.mono HBR.out.size))⟩
      case measure => (simp [intOf]) <;> omega
    · have hie : i = l.length := by omega
      have HKF : Hid (keepE (l.take i) = on) := Lib.hid (by rw [hie, List.take_length]; exact HK.out)
      rw [HKF.out]
      have HBF : Hid (Below w.heap.size w wr) := Lib.hid (HB1.out.trans (HBR.out.mono HB1.out.size))
      clear hie
      go_wp2_with fail
      go_ret2
      exact ⟨HBF.out, rfl⟩
theorem kept_bad (a b : ByteArray) (w : World) (ha : a.size ≤ 300) (hb : b.size ≤ 300) (h : runesOf a = none ∨ runesOf b = none) :
    Calls Tryz.prog 14 #[.string a, .string b] w fun e w' => Below w.heap.size w w' ∧ e = .returned (.tuple #[.int .i64 0, .bool false]) := by
  have hd : Calls Tryz.prog 27 #[.string a, .string b] w fun e w' => Below w.heap.size w w' ∧ e = .returned (.tuple #[.slice none 0 0, .int .i64 5]) := diff_no a b w ha hb h
  have HD := Lib.hid hd
  clear hd h
  go_enter Tryz.func14, Tryz.ntmps14
  go_upto_region 4 with (first
    | (go_at_call 27; refine HD.out.mono ?_; rintro e W1 ⟨hb1, rfl⟩; have HB1 := Lib.hid hb1; clear hb1))
  go_loopw [8, 19] (fun t8 t19 wr => t19 = .int .i64 0 ∧ t8 = .int .i64 0 ∧ Hid (Below W1.heap.size W1 wr)) (fun _ _ _ => 0)
  case atStart => exact ⟨rfl, rfl, Lib.hid (Below.refl _ _)⟩
  case round =>
    obtain ⟨rfl, rfl, HBR⟩ := hrel
    have HBF : Hid (Below w.heap.size w wr) := Lib.hid (HB1.out.trans (HBR.out.mono HB1.out.size))
    go_wp2_with fail
    go_ret2
    exact ⟨HBF.out, rfl⟩
theorem size18_any (s : ByteArray) (w : World) (hs : s.size ≤ 300) : Calls Tryz.prog 17 #[.string s] w fun e w' => Below w.heap.size w w' ∧ e = .returned (.int .i64 ((cntN s : Nat) : Int)) := by
  have HC := Lib.hid (count_any s w (by unfold maxLen; omega))
  go_enter Tryz.func17, Tryz.ntmps17
  go_wp2_with (first
    | (go_at_call 9; refine HC.out.mono ?_; rintro e W1 ⟨hb1, er, rfl⟩; have HB1 := Lib.hid hb1; clear hb1))
  go_ret
  exact ⟨HB1.out, rfl⟩
end Go.Proofs.YtmlhijlcefogmaaGreatDoor
