/-
  Steps of a region taken by hand, in fewer words. Conditions: none.
  Numbers, texts and ids as bytes, as plain functions: written, read; what is read is just what was written. No conditions; no program.
  Objects as data: which may be, their bytes, what bytes are read as; what is written is read, what is read was written so, and no object's bytes begin another's. No conditions; no program runs here.
  What is written for an object that may be is read as it; what is read as an object was written for it. No conditions but those said; no program runs here.
  Objects as they lie in memory: an operation's cells, an object's; '==' on refs and operations. Conditions: the values are well formed, as each says.
  Loads of refs, ids, operations in one word. Conditions: none.
  What the program's leb gives: numbers, texts and ids written behind nothing, and read from a place that there is. Conditions: as each says.
  The reader's memory: bytes, and the place in them. Conditions: as each says.
  What the reader's number and text read. Conditions: bytes that lie in memory; at most 2^40.
  What the reader's byte reads. Conditions: bytes that lie in memory; at most 2^40.
  Where a walk stands: at an operation of a kind. Each law gives back its goal; taken 'with_reducible' it serves as a test ahead of a law that is dear where it does not fit. Over any program.
  Stores into a part of a block, the block named by its cells; a new variable's block; results that lie in blocks. Over any program; conditions as each says.
-/
import Derived.Shelf.Abstract
import Derived.Test.YtmlhijlcefogmaaGreatDoorMerged11
import Derived.Test.YtmlhijlcefogmaaGreatDoorMerged4
import Derived.Test.YtmlhijlcefogmaaGreatDoorMerged6
import Derived.Test.YtmlhijlcefogmaaGreatDoorMerged8
import Derived.Test.YtmlhijlcefogmaaGreatDoorMerged13
import Derived.Deep.MidRow
import Derived.Test.YtmlhijlcefogmaaGreatDoorProg
import Derived.Test.YtmlhijlcefogmaaGreatDoorMerged7
import Derived.Laws.OwnMore
import Derived.Deep.AppendSrc
import Derived.Laws.Bits64b
import Derived.Lib.SlBytesRow
import Derived.Deep.LoopGhost
import Derived.WalkMore
import Derived.Handy
import Derived.PlainAid
import Derived.WalkLawsBesides
import Derived.Test.YtmlhijlcefogmaaGreatDoorMerged2
import Derived.Test.YtmlhijlcefogmaaGreatDoorMerged10
set_option linter.unusedVariables false
set_option linter.unusedSimpArgs false
namespace Go.Proofs.YtmlhijlcefogmaaGreatDoor
open Go.RowKit

section
variable {P : Program} {md : Region.Mode} {ops : Array Oper} {Q : Exit → Act → World → Prop} {n : Nat} {F : World → Prop}
theorem tk (i : Nat) (v : Value) {oi : Oper} {fuel : Nat} {listed : Array Bool} {a : Act} {w : World} (hi : opAt ops.toList i = some oi) (hv : ∀ w' : World, True → (execOp a.eval oi).run P w' = .ok (.value v) w')
    (h : wpAnyN P md ops Q n F fuel (listed.setIfInBounds i true) (a.put oi.dst v) w) (hB : tkB md ops listed i = true := by kernel_rfl) (hQ : ∀ c a w, Q (.panic c) (a.put oi.dst v) w → Q (.panic c) a w := by exact fun _ _ _ h => h)
    (hw : Region.wanted oi (yielded ops a.tmps) = true := by rfl) : wpAnyN P md ops Q n F (fuel + 1) listed a w := tkW i v hB hi hQ hw hv h
theorem tl (i : Nat) (v : Value) {oi : Oper} {fuel : Nat} {listed : Array Bool} {a : Act} {w : World} (hi : opAt ops.toList i = some oi) (hF : F w) (hv : ∀ w' : World, F w' → (execOp a.eval oi).run P w' = .ok (.value v) w')
    (h : wpAnyN P md ops Q n F fuel (listed.setIfInBounds i true) (a.put oi.dst v) w) (hB : (lateB md ops n i && tkB md ops listed i) = true := by kernel_rfl) (hQ : ∀ c a w, Q (.panic c) (a.put oi.dst v) w → Q (.panic c) a w := by exact fun _ _ _ h => h)
    (hw : Region.wanted oi (yielded ops a.tmps) = true := by rfl) : wpAnyN P md ops Q n F (fuel + 1) listed a w := tkF i v hB hi hQ hw hF hv h
theorem tc {i : Nat} {K : Act → World → Prop} {a : Act} {w : World} {f : FuncId} {o : Oper} {xs : Array Operand} {ts : Array TypeId} (args : Array Value) (hE : ∀ (u : World) (args : Array Value), (callFunc f args).run P u = .ok (.enter f args) u) (hi : opAt ops.toList i = some o)
    (hc : Calls P f args w fun e w' => ∃ v, e = .returned v ∧ K (a.put o.dst v) w') (ho : o.op = .call { callee := .value (.func f), args := xs, argTypes := ts } := by rfl) (hf : a.eval (.func f) = .func (.func f) #[] #[] := by rfl)
    (hw : Region.wanted o (yielded ops a.tmps) = true := by kernel_rfl) (ha : xs.map a.eval = args := by simp only [List.map_toArray, List.map_cons, List.map_nil]; rfl) : wpOp P ops Q i K a w :=
  wpOp_call o hi hw (ex_callFn ho hf (fun args w => hE w args) ha) hc
end
theorem l1 {P : Program} {ρ : Operand → Value} {o : Oper} {w : World} {ty : TypeId} {x : Operand} {p : Addr} {d : TypeDesc} {v : Value} (hu : P.underlying ty = some d) (hc : w.cell? p = some v) (ho : o.op = .load ty x := by rfl) (hx : ρ x = .pointer (some p) := by rfl) (hd : (match d with | .struct _ | .array _ _ => true | _ => false) = false := by rfl) : (execOp ρ o).run P w = .ok (.value v) w := ex_load1 ty x ho hx hu hd hc
theorem rN {P : Program} {ops : Array Oper} {Q : Exit → Act → World → Prop} {id : Nat} {a : Act} {w : World} (n : Nat) (F : World → Prop) (hF : F w.drew) (h : F w.drew → wpAnyN P .any ops Q n F ops.size (Array.replicate ops.size false) a w.drew) (hm : P.follows .mixedOrders = true := by kernel_rfl) : (Code.region id ops true).wp P Q a w := wp_region_N n F hm (h hF)
theorem nTF : (!true) = false ∧ (!false) = true := ⟨rfl, rfl⟩
theorem enE {P : Program} {f : FuncId} {fn : Func} {c : Code} (hf : P.funcs[f]? = some fn) (hb : fn.body = some c) (hn : (fn.name == "runtime.NumGoroutine") = false := by kernel_rfl) : ∀ (u : World) (args : Array Value), (callFunc f args).run P u = .ok (.enter f args) u := fun u args => enters_of hf hn hb args u
end Go.Proofs.YtmlhijlcefogmaaGreatDoor
namespace Go.Proofs.YtmlhijlcefogmaaGreatDoor

/-- A number read, i bytes behind its beginning: what is left of it, and of how many bytes. -/
def getGo (i : Nat) : List UInt8 → Option (Nat × Nat)
  | [] => none
  | c :: r => if 128 ≤ c.toNat then (if 8 ≤ i then none else match getGo (i + 1) r with | some (n, k) => some (c.toNat - 128 + 128 * n, k + 1) | none => none)
    else if c.toNat = 0 ∧ 0 < i then none else some (c.toNat, 1)
def getS (l : List UInt8) : Option (Nat × Nat) := getGo 0 l

/-- A text read: it, and of how many bytes it was; an error's number. -/
def getTextS (l : List UInt8) (most : Nat) : Option (List UInt8 × Nat) :=
  match getS l with
  | some (n, k) => if most < n then none else if l.length - k < n then none else some ((l.drop k).take n, k + n)
  | none => none
end Go.Proofs.YtmlhijlcefogmaaGreatDoor
namespace Go.Proofs.YtmlhijlcefogmaaGreatDoor

/-- An operation: kind, document, place, text, count, path. -/
abbrev OpD := UInt8 × RefD × RefD × ByteArray × Int × ByteArray
abbrev ChangeD := Int × List (List UInt8) × ByteArray × List OpD
abbrev CommitD := List (List UInt8) × List (List UInt8) × ByteArray × ByteArray × Int
abbrev ObjD := UInt8 × ChangeD × CommitD
abbrev PartD := Bool × Bool × Bool × Bool × Bool
def runesN (s : ByteArray) : Nat := match runesOf s with
  | some l => l.length
  | none => 0
/-- A reader: what it reads, what is left. -/
abbrev Ps (α : Type) := List UInt8 → Option (α × List UInt8)
def pBind {α β : Type} (d : Ps α) (f : α → Ps β) : Ps β := fun l => match d l with
  | some (a, r) => f a r
  | none => none
def pRet {α : Type} (a : α) : Ps α := fun l => some (a, l)
def pMany {α : Type} (d : Ps α) : Nat → Ps (List α)
  | 0 => pRet []
  | n + 1 => pBind d fun a => pBind (pMany d n) fun t => pRet (a :: t)
section
variable {α β : Type} {d : Ps α} {f : α → Ps β}
theorem pBind_at {l s : List UInt8} {a : α} (h : d l = some (a, s)) : pBind d f l = f a s := by unfold pBind; rw [h]
end
end Go.Proofs.YtmlhijlcefogmaaGreatDoor
namespace Go.Proofs.YtmlhijlcefogmaaGreatDoor

def OpOk (x : OpD) : Prop := RefOk x.2.1 ∧ RefOk x.2.2.1 ∧ (Lit.int .i64 x.2.2.2.2.1).wf = true
def ChangeOk (c : ChangeD) : Prop := (Lit.int .i64 c.1).wf = true ∧ IdsOk c.2.1 ∧ ∀ x ∈ c.2.2.2, OpOk x
def CommitOk (c : CommitD) : Prop := IdsOk c.1 ∧ IdsOk c.2.1 ∧ (Lit.int .i64 c.2.2.2.2).wf = true
def ObjOk (o : ObjD) : Prop := ChangeOk o.2.1 ∧ CommitOk o.2.2
section
variable {α : Type} {d : Ps α} {enc : α → List UInt8}
end
end Go.Proofs.YtmlhijlcefogmaaGreatDoor
namespace Go.Proofs.YtmlhijlcefogmaaGreatDoor
open Go.RowKit

/-- An operation's cells. -/
def opV (x : OpD) : List Value := .int .u8 (x.1.toNat : Int) :: (refV x.2.1 ++ (refV x.2.2.1 ++ [.string x.2.2.2.1, .int .i64 x.2.2.2.2.1, .string x.2.2.2.2.2]))
/-- An operation that may lie in memory: ids of 32 bytes, numbers and sizes that are such. -/
def OpIn (x : OpD) : Prop := OpOk x ∧ x.2.2.2.1.size ≤ maxLen ∧ x.2.2.2.2.2.size ≤ maxLen
/-- An object's own cells: what it is made of, and where its lists lie. -/
structure ObjIn (w : World) (B : Nat) (v : Value) (o : ObjD) : Prop where
  ok : ObjOk o
  ops : ∀ x ∈ o.2.1.2.2.2, OpIn x
  author : o.2.1.2.2.1.size ≤ maxLen
  author2 : o.2.2.2.2.1.size ≤ maxLen
  note : o.2.2.2.2.2.1.size ≤ maxLen
  cells : ∃ Ad cd Ao co Ap cp Ac cc, v = .agg #[.int .u8 (o.1.toNat : Int), .int .i64 o.2.1.1, .slice Ad o.2.1.2.1.length cd, .string o.2.1.2.2.1, .slice Ao o.2.1.2.2.2.length co, .slice Ap o.2.2.1.length cp, .slice Ac o.2.2.2.1.length cc, .string o.2.2.2.2.1, .string o.2.2.2.2.2.1, .int .i64 o.2.2.2.2.2.2] ∧
    Sl w B Ad o.2.1.2.1.length 32 (idsV o.2.1.2.1) ∧ Sl w B Ao o.2.1.2.2.2.length 70 (rowsV opV o.2.1.2.2.2) ∧ Sl w B Ap o.2.2.1.length 32 (idsV o.2.2.1) ∧ Sl w B Ac o.2.2.2.1.length 32 (idsV o.2.2.2.1)
/-- A change's own cells. -/
structure ChIn (w : World) (B : Nat) (v : Value) (c : ChangeD) : Prop where
  ok : ChangeOk c
  ops : ∀ x ∈ c.2.2.2, OpIn x
  author : c.2.2.1.size ≤ maxLen
  cells : ∃ Ad cd Ao co, v = .agg #[.int .i64 c.1, .slice Ad c.2.1.length cd, .string c.2.2.1, .slice Ao c.2.2.2.length co] ∧ Sl w B Ad c.2.1.length 32 (idsV c.2.1) ∧ Sl w B Ao c.2.2.2.length 70 (rowsV opV c.2.2.2)
structure CmIn (w : World) (B : Nat) (v : Value) (c : CommitD) : Prop where
  ok : CommitOk c
  author : c.2.2.1.size ≤ maxLen
  note : c.2.2.2.1.size ≤ maxLen
  cells : ∃ Ap cp Ac cc, v = .agg #[.slice Ap c.1.length cp, .slice Ac c.2.1.length cc, .string c.2.2.1, .string c.2.2.2.1, .int .i64 c.2.2.2.2] ∧ Sl w B Ap c.1.length 32 (idsV c.1) ∧ Sl w B Ac c.2.1.length 32 (idsV c.2.1)
section
variable {w w' : World} {B B' : Nat} {v : Value}
theorem ObjIn.keep {o : ObjD} (h : ObjIn w B v o) (hb : Below B w w') : ObjIn w' B v o := by
  obtain ⟨h1, h2, h3, h4, h5, Ad, cd, Ao, co, Ap, cp, Ac, cc, hv, s1, s2, s3, s4⟩ := h
  exact ⟨h1, h2, h3, h4, h5, Ad, cd, Ao, co, Ap, cp, Ac, cc, hv, s1.keep hb, s2.keep hb, s3.keep hb, s4.keep hb⟩
theorem ObjIn.more {o : ObjD} (h : ObjIn w B v o) (hB : B ≤ B') : ObjIn w B' v o := by
  obtain ⟨h1, h2, h3, h4, h5, Ad, cd, Ao, co, Ap, cp, Ac, cc, hv, s1, s2, s3, s4⟩ := h
  exact ⟨h1, h2, h3, h4, h5, Ad, cd, Ao, co, Ap, cp, Ac, cc, hv, s1.more hB, s2.more hB, s3.more hB, s4.more hB⟩
theorem ChIn.keep {o : ChangeD} (h : ChIn w B v o) (hb : Below B w w') : ChIn w' B v o := by
  obtain ⟨h1, h2, h3, Ad, cd, Ao, co, hv, s1, s2⟩ := h
  exact ⟨h1, h2, h3, Ad, cd, Ao, co, hv, s1.keep hb, s2.keep hb⟩
theorem ChIn.more {o : ChangeD} (h : ChIn w B v o) (hB : B ≤ B') : ChIn w B' v o := by
  obtain ⟨h1, h2, h3, Ad, cd, Ao, co, hv, s1, s2⟩ := h
  exact ⟨h1, h2, h3, Ad, cd, Ao, co, hv, s1.more hB, s2.more hB⟩
theorem CmIn.keep {o : CommitD} (h : CmIn w B v o) (hb : Below B w w') : CmIn w' B v o := by
  obtain ⟨h1, h2, h3, Ad, cd, Ao, co, hv, s1, s2⟩ := h
  exact ⟨h1, h2, h3, Ad, cd, Ao, co, hv, s1.keep hb, s2.keep hb⟩
theorem CmIn.more {o : CommitD} (h : CmIn w B v o) (hB : B ≤ B') : CmIn w B' v o := by
  obtain ⟨h1, h2, h3, Ad, cd, Ao, co, hv, s1, s2⟩ := h
  exact ⟨h1, h2, h3, Ad, cd, Ao, co, hv, s1.more hB, s2.more hB⟩
end
end Go.Proofs.YtmlhijlcefogmaaGreatDoor
namespace Go.Proofs.YtmlhijlcefogmaaGreatDoor
open Go.RowKit

section
variable {ρ : Operand → Value} {o : Oper} {w : World} {b f : Nat} {x : Operand}
end
end Go.Proofs.YtmlhijlcefogmaaGreatDoor
namespace Go.Proofs.YtmlhijlcefogmaaGreatDoor
open Go.RowKit

theorem info_u8 : (Tryz.prog.info? 5).map (fun i => (i.zero, i.size, i.bytes)) = some (some (.int .u8 0), 1, 1) := by kernel_rfl

def GetGives (l : List UInt8) (at' : Nat) (w : World) (e : Ending) (w' : World) : Prop := w = w' ∧ e = (match getS (l.drop at') with
  | some (n, k) => .returned (.tuple #[.int .i64 n, .int .i64 ((at' + k : Nat) : Int), .int .i64 0])
  | none => .returned (.tuple #[.int .i64 0, .int .i64 0, .int .i64 6]))
theorem GetGives.no {l : List UInt8} {at' : Nat} {w : World} {e : Ending} (h : getS (l.drop at') = none) (he : e = .returned (.tuple #[.int .i64 0, .int .i64 0, .int .i64 6])) : GetGives l at' w e w := by
  unfold GetGives; rw [h]; exact ⟨rfl, he⟩
theorem GetGives.yes {l : List UInt8} {at' n k : Nat} {w : World} {e : Ending} (h : getS (l.drop at') = some (n, k)) (he : e = .returned (.tuple #[.int .i64 n, .int .i64 ((at' + k : Nat) : Int), .int .i64 0])) : GetGives l at' w e w := by
  unfold GetGives; rw [h]; exact ⟨rfl, he⟩
/-- Read up to i: what is left decides. -/
def Getting (l : List UInt8) (at' i out : Nat) : Prop := getS (l.drop at') = match getGo i (l.drop (at' + i)) with | some (n, k) => some (out + 128 ^ i * n, i + k) | none => none
theorem Getting.start (l : List UInt8) (at' : Nat) : Getting l at' 0 0 := by
  unfold Getting getS
  rw [Nat.add_zero]
  cases getGo 0 (l.drop at') <;> simp
theorem Getting.next {l : List UInt8} {at' i out : Nat} {x : UInt8} (h : Getting l at' i out) (hd : l.drop (at' + i) = x :: l.drop (at' + i + 1)) (h128 : 128 ≤ x.toNat) (hi : i < 8) : Getting l at' (i + 1) (out + 128 ^ i * (x.toNat - 128)) := by
  unfold Getting at h ⊢
  rw [h, hd, getGo, if_pos h128, if_neg (by omega), ← Nat.add_assoc]
  rcases getGo (i + 1) (l.drop (at' + i + 1)) with _ | ⟨n, k⟩
  · rfl
  · simp only [Option.some.injEq, Prod.mk.injEq]
    refine ⟨?_, by omega⟩
    rw [Nat.mul_add, Nat.pow_succ, Nat.mul_assoc]
    omega
theorem Getting.over {l : List UInt8} {at' i out : Nat} {x : UInt8} (h : Getting l at' i out) (hd : l.drop (at' + i) = x :: l.drop (at' + i + 1)) (h128 : 128 ≤ x.toNat) (hi : 8 ≤ i) : getS (l.drop at') = none := by
  unfold Getting at h
  rw [h, hd, getGo, if_pos h128, if_pos hi]
theorem Getting.zero {l : List UInt8} {at' i out : Nat} {x : UInt8} (h : Getting l at' i out) (hd : l.drop (at' + i) = x :: l.drop (at' + i + 1)) (h0 : x.toNat = 0) (hi : 0 < i) : getS (l.drop at') = none := by
  unfold Getting at h
  rw [h, hd, getGo, if_neg (by omega), if_pos ⟨h0, hi⟩]
theorem Getting.last {l : List UInt8} {at' i out : Nat} {x : UInt8} (h : Getting l at' i out) (hd : l.drop (at' + i) = x :: l.drop (at' + i + 1)) (h128 : ¬ 128 ≤ x.toNat) (h0 : ¬ (x.toNat = 0 ∧ 0 < i)) : getS (l.drop at') = some (out + 128 ^ i * x.toNat, i + 1) := by
  unfold Getting at h
  rw [h, hd, getGo, if_neg h128, if_neg h0]
theorem Getting.end {l : List UInt8} {at' i out : Nat} (h : Getting l at' i out) (hi : l.length ≤ at' + i) : getS (l.drop at') = none := by
  unfold Getting at h
  rw [h, List.drop_eq_nil_of_le hi]; rfl

def GetTextGives (l : List UInt8) (at' most : Nat) (w : World) (e : Ending) (w' : World) : Prop := w = w' ∧ (match getTextS (l.drop at') most with
  | some (t, k) => e = .returned (.tuple #[.string ⟨t.toArray⟩, .int .i64 ((at' + k : Nat) : Int), .int .i64 0])
  | none => ∃ q : Int, q ≠ 0 ∧ e = .returned (.tuple #[.string ⟨#[]⟩, .int .i64 0, .int .i64 q]))
theorem GetTextGives.no {l : List UInt8} {at' most : Nat} {w : World} {e : Ending} {q : Int} (h : getTextS (l.drop at') most = none) (hq : q ≠ 0) (he : e = .returned (.tuple #[.string ⟨#[]⟩, .int .i64 0, .int .i64 q])) : GetTextGives l at' most w e w := by
  unfold GetTextGives; rw [h]; exact ⟨rfl, q, hq, he⟩
theorem GetTextGives.yes {l : List UInt8} {at' most k : Nat} {t : List UInt8} {w : World} {e : Ending} (h : getTextS (l.drop at') most = some (t, k)) (he : e = .returned (.tuple #[.string ⟨t.toArray⟩, .int .i64 ((at' + k : Nat) : Int), .int .i64 0])) : GetTextGives l at' most w e w := by
  unfold GetTextGives; rw [h]; exact ⟨rfl, he⟩

end Go.Proofs.YtmlhijlcefogmaaGreatDoor
namespace Go.Proofs.YtmlhijlcefogmaaGreatDoor
open Go.RowKit Go.Maps

section
variable {g b off c at' at2 : Nat} {l : List UInt8} {w w' : World}
variable {α : Type} {p : Ps α} {R : α → Value → World → Prop} {e : Ending} {a : α} {r : List UInt8}
end
end Go.Proofs.YtmlhijlcefogmaaGreatDoor
namespace Go.Proofs.YtmlhijlcefogmaaGreatDoor
open Go.RowKit Go.Maps

end Go.Proofs.YtmlhijlcefogmaaGreatDoor
namespace Go.Proofs.YtmlhijlcefogmaaGreatDoor
open Go.RowKit Go.Maps

end Go.Proofs.YtmlhijlcefogmaaGreatDoor
namespace Go.Proofs.YtmlhijlcefogmaaGreatDoor

section
variable {P : Program} {ops : Array Oper} {Q : Exit → Act → World → Prop} {rest : List Oper} {a : Act} {w : World} {d : Option Tmp} {t : TypeId} {p : String} {af : Array Edge} {g : Option (Nat × Bool)}
theorem at_load {ty : TypeId} {x : Operand} (h : wpList P ops Q ({ dst := d, op := .load ty x, type := t, pos := p, after := af, guard := g } :: rest) a w) : wpList P ops Q ({ dst := d, op := .load ty x, type := t, pos := p, after := af, guard := g } :: rest) a w := h
theorem at_store {ty : TypeId} {x y : Operand} (h : wpList P ops Q ({ dst := d, op := .store ty x y, type := t, pos := p, after := af, guard := g } :: rest) a w) : wpList P ops Q ({ dst := d, op := .store ty x y, type := t, pos := p, after := af, guard := g } :: rest) a w := h
theorem at_alloc {ty : TypeId} (h : wpList P ops Q ({ dst := d, op := .alloc ty, type := t, pos := p, after := af, guard := g } :: rest) a w) : wpList P ops Q ({ dst := d, op := .alloc ty, type := t, pos := p, after := af, guard := g } :: rest) a w := h
theorem at_box {ty : TypeId} {x : Operand} (h : wpList P ops Q ({ dst := d, op := .box ty x, type := t, pos := p, after := af, guard := g } :: rest) a w) : wpList P ops Q ({ dst := d, op := .box ty x, type := t, pos := p, after := af, guard := g } :: rest) a w := h
theorem at_build {ty : TypeId} {xs : Array (Nat × Operand)} (h : wpList P ops Q ({ dst := d, op := .build ty xs, type := t, pos := p, after := af, guard := g } :: rest) a w) : wpList P ops Q ({ dst := d, op := .build ty xs, type := t, pos := p, after := af, guard := g } :: rest) a w := h
end
end Go.Proofs.YtmlhijlcefogmaaGreatDoor
namespace Go.Proofs.YtmlhijlcefogmaaGreatDoor
open Go.RowKit

theorem setCells_heap {T : TypeId} {fr : Nat × Nat} {g : Nat} : ∀ (cs pre mid post : List Value) (w : World), mid.length = cs.length → w.heap[g]? = some (.cells (pre ++ (mid ++ post)).toArray T fr) → (w.setCells g pre.length cs).heap[g]? = some (.cells (pre ++ (cs ++ post)).toArray T fr)
  | [], pre, mid, post, w, hl, hg => by
    obtain rfl : mid = [] := List.eq_nil_of_length_eq_zero hl
    exact hg
  | v :: cs, pre, [], post, w, hl, hg => by cases hl
  | v :: cs, pre, u :: mid, post, w, hl, hg => by
    have h1 : (w.setCell ⟨g, pre.length, none⟩ v).heap[g]? = some (.cells ((pre ++ [v]) ++ (mid ++ post)).toArray T fr) := by
      simp [World.setCell, Array.getElem?_modify, hg]
    have h2 := setCells_heap cs (pre ++ [v]) mid post _ (by simpa using hl) h1
    rw [World.setCells]
    have e : (pre ++ [v]).length = pre.length + 1 := by simp
    rw [e] at h2
    rw [h2]
    simp
theorem setCells_but {X : Nat → Prop} {g : Nat} (hX : X g) : ∀ (cs : List Value) (o : Nat) (w : World), But X w (w.setCells g o cs)
  | [], _, _ => But.refl _ _
  | v :: cs, o, w => (But.setCell (X := X) (But.refl X w) (p := ⟨g, o, none⟩) (fun _ => hX) v).trans (setCells_but hX cs (o + 1) _) fun _ _ h => h
theorem setCells_size {g : Nat} : ∀ (cs : List Value) (o : Nat) (w : World), (w.setCells g o cs).heap.size = w.heap.size
  | [], _, _ => rfl
  | v :: cs, o, w => (setCells_size cs (o + 1) _).trans (by simp [World.setCell])
section
variable {P : Program} {o : Oper} {w : World}
theorem ex_storeM {ρ : Operand → Value} (ty : TypeId) (x y : Operand) (ho : o.op = .store ty x y) (g k : Nat) (pre mid post cs : List Value) (T : TypeId) (V : Value) (hx : ρ x = .pointer (some ⟨g, k, none⟩)) (hk : k = pre.length) (hy : ρ y = V) (hV : V.cells = cs.toArray)
    (hg : w.heap[g]? = some (.cells (pre ++ (mid ++ post)).toArray T (0, 0))) (hl : mid.length = cs.length) (hi : (P.info? ty).map (·.size) = some cs.length) (h1 : ∀ u ∈ cs, u.oneCell' = true) : (execOp ρ o).run P w = .ok .skip (w.setCells g pre.length cs) := by
  subst hk
  have hcell : ∀ j, j < cs.length → (w.cell? ⟨g, pre.length + 0 + j, none⟩).isSome = true := fun j hj => by
    rw [cells_at0 hg]
    have : pre.length + 0 + j < (pre ++ (mid ++ post)).length := by simp; omega
    rw [List.getElem?_eq_getElem this]; rfl
  have hfr : ∀ j, j < cs.length → w.frozen? ⟨g, pre.length + 0 + j, none⟩ = false := fun j _ => by simp [World.frozen?, hg]
  have h := run_storeCells_cells (P := P) g pre.length cs 0 w hcell hfr h1
  unfold execOp
  cases hq : P.info? ty with
  | none => simp [hq] at hi
  | some i =>
    have hs : i.size = cs.length := by simpa [hq] using hi
    simp only [ho, hx, hy, Instr.storeAt, Instr.sureAddr, Sem.run_bind, Sem.run_pure, Result.andThen_ok]
    simp [storeVar, sizeOf, typeInfo, hq, hV, hs, h]
theorem wp_storeM {ops : Array Oper} {rest : List Oper} {a : Act} {Q : Exit → Act → World → Prop} (hw : Region.wanted o (yielded ops a.tmps) = true) (ty : TypeId) (x y : Operand) (ho : o.op = .store ty x y) (g k : Nat) (pre mid post cs : List Value) (T : TypeId) (V : Value) (hx : a.eval x = .pointer (some ⟨g, k, none⟩)) (hk : k = pre.length) (hy : a.eval y = V) (hV : V.cells = cs.toArray)
    (hg : w.heap[g]? = some (.cells (pre ++ (mid ++ post)).toArray T (0, 0))) (hl : mid.length = cs.length) (hi : (P.info? ty).map (·.size) = some cs.length) (h1 : ∀ u ∈ cs, u.oneCell' = true)
    (h : ∀ W : World, But (fun k => k = g) w W → W.heap[g]? = some (.cells (pre ++ (cs ++ post)).toArray T (0, 0)) → W.heap.size = w.heap.size → wpList P ops Q rest (a.put o.dst undef) W) : wpList P ops Q (o :: rest) a w := by
  refine BigFrame.wpList_want hw fun K hK => ?_
  have h2 := ex_storeM (P := P) ty x y ho g k pre mid post cs T V hx hk hy hV hg hl hi h1
  unfold Oper.wp
  rw [h2]
  exact hK _ _ (h _ (setCells_but (X := fun k => k = g) rfl _ _ _) (setCells_heap cs pre mid post w hl hg) (setCells_size _ _ _))
/-- A new variable: its block, named by its cells. -/
theorem wp_allocM {ops : Array Oper} {rest : List Oper} {a : Act} {Q : Exit → Act → World → Prop} (hw : Region.wanted o (yielded ops a.tmps) = true) (t : TypeId) (ho : o.op = .alloc t) (cs : List Value) (hz : (zeroValue t).run P w = .ok (.agg cs.toArray) w)
    (h : ∀ W : World, Below w.heap.size w W → W.heap[w.heap.size]? = some (.cells cs.toArray t (0, 0)) → W.heap.size = w.heap.size + 1 → wpList P ops Q rest (a.put o.dst (.pointer (some ⟨w.heap.size, 0, none⟩))) W) : wpList P ops Q (o :: rest) a w := by
  refine BigFrame.wpList_want hw fun K hK => ?_
  have h2 : (execOp a.eval o).run P w = .ok (.value (.pointer (some ⟨w.heap.size, 0, none⟩))) (w.alloc (.cells cs.toArray t)) := by
    unfold execOp
    simp [ho, Instr.alloc, newVar, newRow, hz, Result.andThen, Sem.run_bind, Value.cells]
  unfold Oper.wp
  rw [h2]
  exact hK _ _ (h _ ((Below.refl _ _).alloc (Nat.le_refl _) _) (heap_alloc_new _ _) (by simp))
/-- A value laid in a new variable. -/
theorem wp_boxM {ops : Array Oper} {rest : List Oper} {a : Act} {Q : Exit → Act → World → Prop} (hw : Region.wanted o (yielded ops a.tmps) = true) (t : TypeId) (x : Operand) (ho : o.op = .box t x) (cs : List Value) (V : Value) (hx : a.eval x = V) (hV : V.cells = cs.toArray) (hi : (P.info? t).map (·.size) = some cs.length)
    (h : ∀ W : World, Below w.heap.size w W → W.heap[w.heap.size]? = some (.cells cs.toArray t (0, 0)) → W.heap.size = w.heap.size + 1 → wpList P ops Q rest (a.put o.dst (.pointer (some ⟨w.heap.size, 0, none⟩))) W) : wpList P ops Q (o :: rest) a w := by
  refine BigFrame.wpList_want hw fun K hK => ?_
  have h2 : (execOp a.eval o).run P w = .ok (.value (.pointer (some ⟨w.heap.size, 0, none⟩))) (w.alloc (.cells cs.toArray t)) := by
    unfold execOp
    cases hq : P.info? t with
    | none => simp [hq] at hi
    | some i =>
      have hs : i.size = cs.length := by simpa [hq] using hi
      simp [ho, hx, Instr.box, newVar, newRow, hV, Result.andThen]
  unfold Oper.wp
  rw [h2]
  exact hK _ _ (h _ ((Below.refl _ _).alloc (Nat.le_refl _) _) (heap_alloc_new _ _) (by simp))
end
/-- The same at a step taken by hand. -/
theorem wpOp_storeM {P : Program} {ops : Array Oper} {Q : Exit → Act → World → Prop} {i : Nat} {K : Act → World → Prop} {a : Act} {w : World} (o : Oper) (hi : opAt ops.toList i = some o) (hw : Region.wanted o (yielded ops a.tmps) = true)
    (ty : TypeId) (x y : Operand) (ho : o.op = .store ty x y) (g k : Nat) (pre mid post cs : List Value) (T : TypeId) (V : Value) (hx : a.eval x = .pointer (some ⟨g, k, none⟩)) (hk : k = pre.length) (hy : a.eval y = V) (hV : V.cells = cs.toArray)
    (hg : w.heap[g]? = some (.cells (pre ++ (mid ++ post)).toArray T (0, 0))) (hl : mid.length = cs.length) (hi2 : (P.info? ty).map (·.size) = some cs.length) (h1 : ∀ u ∈ cs, u.oneCell' = true)
    (h : ∀ W : World, But (fun k => k = g) w W → W.heap[g]? = some (.cells (pre ++ (cs ++ post)).toArray T (0, 0)) → W.heap.size = w.heap.size → K (a.put o.dst undef) W) : wpOp P ops Q i K a w :=
  wpOp_skip o hi hw (ex_storeM ty x y ho g k pre mid post cs T V hx hk hy hV hg hl hi2 h1) (h _ (setCells_but (X := fun k => k = g) rfl _ _ _) (setCells_heap cs pre mid post w hl hg) (setCells_size _ _ _))
/-- One result, which lies in a block. -/
theorem results_one {P : Program} {fn : Func} {p : Tmp} {ty : TypeId} (h : fn.results = #[.cell p ty]) (tmps : Array Value) (w : World) {a : Addr} {r : Value} (hp : tmps.getD p undef = .pointer (some a)) (hl : (loadVar ty a).run P w = .ok r w) : (results fn tmps).run P w = .ok r w := by
  have hp' : tmps[p]?.getD undef = .pointer (some a) := by simpa using hp
  simp only [results, h]
  simp [hp', asAddr, hl]
end Go.Proofs.YtmlhijlcefogmaaGreatDoor
