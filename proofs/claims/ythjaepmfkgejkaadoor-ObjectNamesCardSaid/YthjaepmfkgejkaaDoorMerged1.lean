/-
  Words for memory: a slice that reads as a list; append of one element to a row of the call's own. No conditions; no program.
  Ids and keys as cells: what a value of such a type holds, read as data; loads and stores of several cells at once. Over any program; conditions as each says.
  Lists of ids: their cells, whether they are a set, where an id stands in one. No conditions; no program.
  Values of several cells in the steps of a walk: loads, '==', zero values; regions that draw their order and only read, but for calls that leave alone what lay. Over any program; conditions as each says.
  Ids, refs and keys of the program: compared cell by cell; read from what came in. Conditions: the values are well formed, as each says.
  What layer 7's predicates say, as plain functions on a string's bytes and runes. No conditions; no program.
  Objects as data: which may be, their bytes, what bytes are read as; what is written is read, what is read was written so, and no object's bytes begin another's. No conditions; no program runs here.
  What is written for an object that may be is read as it; what is read as an object was written for it. No conditions but those said; no program runs here.
  What utf's functions give: may, lead, decode, Check. Conditions: a place lies within the text.
  What the functions of utf (Check) and of the reference's layer 3 (May, Bytes, One) give. Conditions: a place lies within the text; a rune lies in its range.
  The contracts of Go's library that this claim uses, laid at this program by the kit's tools (lay-shelf, lay-plain). Conditions: as each says.
  What layer 7's predicates of one text give: sign, shown, plain, Author, Note, Name, Path. Conditions: none but that a text's length is an int's; Path asks that the library's variable MaxLen holds a number.
  What Author, Note, Name and Path give. Path asks that the library's variable MaxLen holds a number.
  A path that clashes with none, as a plain function; that it is found within as many steps as there are taken paths. No conditions; no program.
  What Clash and Fresh give. Conditions: texts of at most 2^47 bytes; at most 97 taken paths (Fresh).
-/
import Derived.WalkKit
import Derived.WalkSmall
import Derived.Lib.Hide
import Derived.Laws.Tables
import Derived.Laws.Rows
import Derived.Laws.ResultCell
import Derived.Test.YthjaepmfkgejkaaDoorKeySpec
import Derived.OpenShut
import Derived.Deep.Slices
import Derived.Deep.Fields
import Derived.StillTailTactics
import Derived.BigQuiet
import Derived.DeepKeys4
import Derived.Maps.Own
import Derived.Laws.StructEq
import Derived.Test.YthjaepmfkgejkaaDoorProg
import Derived.Test.YthjaepmfkgejkaaDoorStr
import Derived.Lib.Split
import Derived.Lib.SplitLaws
import Derived.Lib.ItoaNum
import Derived.Test.YthjaepmfkgejkaaDoorLebSpec
import Derived.Test.YthjaepmfkgejkaaDoorUtf
import Derived.Handy
import Derived.PlainAid
import Derived.Deep.RegionWith
import Derived.Deep.DeepCutAuto
import Derived.Deep.CutBlock
import Derived.Deep.LoopGhost
import Derived.Deep.QuietTactic
import Derived.WalkSpells
import Derived.WalkLawsBesides
import Derived.Shelf.Strconv.Itoa3
import Derived.Shelf.Strings.Split
import Derived.Lib.OthersKept
namespace Go.Proofs.YthjaepmfkgejkaaDoor
open Go.RowKit
set_option linter.unusedVariables false

/-- The slice value '.slice A n c' holds the cells xs (sz of them an element), in a block below B. -/
def Sl (w : World) (B : Nat) (A : Option Addr) (n sz : Nat) (xs : List Value) : Prop :=
  xs.length = n * sz ∧ (0 < n → ∃ b off, A = some ⟨b, off, none⟩ ∧ b < B ∧ ∀ j u, xs[j]? = some u → w.cell? ⟨b, off + j, none⟩ = some u)

section
variable {w w' : World} {B B' n sz : Nat} {A : Option Addr} {xs : List Value}
theorem Sl.nil : Sl w B A 0 sz [] := ⟨by simp, fun h => absurd h (by omega)⟩
theorem Sl.keep (h : Sl w B A n sz xs) (hb : Below B w w') : Sl w' B A n sz xs := by
  refine ⟨h.1, fun hn => ?_⟩
  obtain ⟨b, off, e, hlt, hc⟩ := h.2 hn
  exact ⟨b, off, e, hlt, fun j u hu => (hb.cell (p := ⟨b, off + j, none⟩) hlt).trans (hc j u hu)⟩
theorem Sl.more (h : Sl w B A n sz xs) (hB : B ≤ B') : Sl w B' A n sz xs := by
  refine ⟨h.1, fun hn => ?_⟩
  obtain ⟨b, off, e, hlt, hc⟩ := h.2 hn
  exact ⟨b, off, e, by omega, hc⟩
theorem Sl.of_own {base : Nat} {e : TypeId} {c : Nat} (h : w.ownsRow base e sz (.slice A n c) n xs) : Sl w w.heap.size A n sz xs := by
  refine ⟨h.1, fun hn => ?_⟩
  rcases h.2 with ⟨_, h0⟩ | ⟨g, cap, cur, hv, hbg, hg, hle, hm, hcs, ht⟩
  · omega
  · injection hv with hA
    subst hA
    have hlt := (h.lt g (by simp [Value.ownBlock])).2
    refine ⟨g, 0, rfl, hlt, fun j u hu => ?_⟩
    have := h.cells (g := g) (by simp [Value.ownBlock]) j u hu
    have e : (⟨g, 0, none⟩ : Addr).add j = ⟨g, 0 + j, none⟩ := by unfold Addr.add; split <;> simp_all
    rw [← e]; exact this
theorem Sl.lt (h : Sl w B A n sz xs) (hn : 0 < n) (hs : 0 < sz) : ∃ b off, A = some ⟨b, off, none⟩ ∧ b < w.heap.size ∧ b < B := by
  obtain ⟨b, off, e, hlt, hc⟩ := h.2 hn
  have hl : 0 < xs.length := by rw [h.1]; exact Nat.mul_pos hn hs
  have := hc 0 _ (List.getElem?_eq_getElem hl)
  refine ⟨b, off, e, ?_, hlt⟩
  rcases Nat.lt_or_ge b w.heap.size with a | a
  · exact a
  · unfold World.cell? at this
    rw [Array.getElem?_eq_none a] at this
    cases this
end

/-- 'append(out, x)', x of one cell, at a row of the call's own: x has just been laid in a block. -/
theorem wp_app1 {P : Program} {ops : Array Oper} {rest : List Oper} {o : Oper} {a : Act} {Q : Exit → Act → World → Prop} {w : World} (hgd : o.guard = none) (s x : Operand) (t : TypeId)
    (ho : o.op = .call { callee := .builtin .append, args := #[s, x], argTypes := #[t, t] })
    (base : Nat) (e : TypeId) (z : Value) (bytes : Nat) (ht : P.underlying t = some (.slice e)) (hinf : (P.info? e).map (fun i => (i.zero, i.size, i.bytes)) = some (some z, 1, bytes))
    (hz1 : z.cells.size = 1) (v : Value) (n : Nat) (xs : List Value) (hs : a.eval s = v) (hown : w.ownsRow base e 1 v n xs)
    (u : Value) (et : TypeId) (hx : a.eval x = .slice (some ⟨w.heap.size, 0, none⟩) 1 1) (hu : u.oneCell' = true)
    (hn : n + 1 ≤ maxLen) (hb : (n + 1) * bytes ≤ 140737488355328) (hbase : base ≤ w.heap.size)
    (h : ∀ v' w', w'.ownsRow base e 1 v' (n + 1) (xs ++ [u]) → (∀ B a, B ≤ base → Below B a w → Below B a w') → wpList P ops Q rest (a.put o.dst v') w') :
    wpList P ops Q (o :: rest) a (w.alloc (.cells #[u] et)) := by
  obtain ⟨i0, hi, hz0, hz2, hz3⟩ := info_parts hinf
  refine wpList_append_own _ hgd s x t ho base e i0 z 1 bytes ht hi hz0 hz2 hz3 hz1 (by decide) v n xs hs (hown.alloc _) ⟨w.heap.size, 0, none⟩ 1 1 [u] hx rfl ?_ ?_ hn hb (by simp; omega) ?_
  · intro j u' hj
    match j, hj with
    | 0, hj => simp at hj; subst hj; simp [Addr.add]
  · intro u' hu'
    simp at hu'; subst hu'; exact hu
  · intro v' w' hown' hgrow _
    refine h v' w' hown' fun B a hB hba => ?_
    refine (hba.alloc (by omega) _).grown hgrow (by simp; omega) fun k hk => ?_
    have := (hown.lt k hk).1
    omega
/-- The same, x of several cells. -/
theorem wp_appN {P : Program} {ops : Array Oper} {rest : List Oper} {o : Oper} {a : Act} {Q : Exit → Act → World → Prop} {w : World} (hgd : o.guard = none) (s x : Operand) (t : TypeId)
    (ho : o.op = .call { callee := .builtin .append, args := #[s, x], argTypes := #[t, t] })
    (base : Nat) (e : TypeId) (z : Value) (size bytes : Nat) (ht : P.underlying t = some (.slice e)) (hinf : (P.info? e).map (fun i => (i.zero, i.size, i.bytes)) = some (some z, size, bytes))
    (hz1 : z.cells.size = size) (hsz : 0 < size) (v : Value) (n : Nat) (xs : List Value) (hs : a.eval s = v) (hown : w.ownsRow base e size v n xs)
    (us : List Value) (et : TypeId) (hl : us.length = size) (hx : a.eval x = .slice (some ⟨w.heap.size, 0, none⟩) 1 1) (hu : ∀ u ∈ us, u.oneCell' = true)
    (hn : n + 1 ≤ maxLen) (hb : (n + 1) * bytes ≤ 140737488355328) (hbase : base ≤ w.heap.size)
    (h : ∀ v' w', w'.ownsRow base e size v' (n + 1) (xs ++ us) → (∀ B a, B ≤ base → Below B a w → Below B a w') → wpList P ops Q rest (a.put o.dst v') w') :
    wpList P ops Q (o :: rest) a (w.alloc (.cells us.toArray et)) := by
  obtain ⟨i0, hi, hz0, hz2, hz3⟩ := info_parts hinf
  refine wpList_append_own _ hgd s x t ho base e i0 z size bytes ht hi hz0 hz2 hz3 hz1 hsz v n xs hs (hown.alloc _) ⟨w.heap.size, 0, none⟩ 1 1 us hx (by simp [hl]) ?_ hu hn hb (by simp; omega) ?_
  · intro j u' hj
    have e : (⟨w.heap.size, 0, none⟩ : Addr).add j = ⟨w.heap.size, j, none⟩ := by unfold Addr.add; split <;> simp_all
    rw [e, World.cell?_alloc_new]
    simpa using hj
  · intro v' w' hown' hgrow _
    refine h v' w' hown' fun B a hB hba => ?_
    refine (hba.alloc (by omega) _).grown hgrow (by simp; omega) fun k hk => ?_
    have := (hown.lt k hk).1
    omega

theorem below_setRow' {B g : Nat} {w0 w : World} (hb : Below B w0 w) (hBg : B ≤ g) (cs : Array Value) : Below B w0 (w.setRow g cs) :=
  hb.trans ⟨rfl, rfl, rfl, by simp, fun k hk => setRow_other w g k cs (by omega)⟩
/-- A whole block stored into; the world behind it is known by what it holds alone. -/
theorem wp_storeN {P : Program} {ops : Array Oper} {rest : List Oper} {o : Oper} {a : Act} {w : World} {Q : Exit → Act → World → Prop} (hgd : o.guard = none) (ty : TypeId) (x y : Operand) (ho : o.op = .store ty x y)
    (g : Nat) (cells : Array Value) (hx : a.eval x = .pointer (some ⟨g, 0, none⟩)) (hy : a.eval y = .agg cells)
    (t : TypeId) (old : Array Value) (hg : w.heap[g]? = some (.cells old t (0, 0))) (hi : (P.info? ty).map (·.size) = some cells.size)
    (hold : old.size = cells.size) (h1 : cells.all (·.oneCell') = true) {B : Nat} {w0 : World} (hb : Below B w0 w) (hB : B ≤ g)
    (h : ∀ W : World, Below B w0 W → W.heap[g]? = some (.cells cells t (0, 0)) → (∀ k, k ≠ g → W.heap[k]? = w.heap[k]?) → wpList P ops Q rest (a.put o.dst undef) W) : wpList P ops Q (o :: rest) a w :=
  wpList_store_row hgd ty x y ho g cells hx hy t old hg hi hold h1 (h _ (below_setRow' hb hB _) (setRow_heap _ _ _ _ _ _ hg) (fun k hk => setRow_other _ _ _ _ hk))
end Go.Proofs.YthjaepmfkgejkaaDoor
namespace Go.Proofs.YthjaepmfkgejkaaDoor
open Go.RowKit
set_option linter.unusedVariables false

/-- An id's cells; a key's. -/
def idV (l : List UInt8) : List Value := l.map fun b => Value.int .u8 (b.toNat : Int)
def IdOk (l : List UInt8) : Prop := l.length = 32
theorem idV_length (l : List UInt8) : (idV l).length = l.length := by simp [idV]
theorem idV_one (l : List UInt8) : ∀ u ∈ idV l, u.oneCell' = true := by
  intro u hu
  obtain ⟨b, _, rfl⟩ := List.mem_map.1 hu
  rfl
theorem idV_inj {a b : List UInt8} (h : idV a = idV b) : a = b := by
  induction a generalizing b with
  | nil => cases b with
    | nil => rfl
    | cons _ _ => simp [idV] at h
  | cons x a ih => cases b with
    | nil => simp [idV] at h
    | cons y b =>
      simp only [idV, List.map_cons, List.cons.injEq, Value.int.injEq, true_and] at h
      rw [ih h.2, UInt8.toNat_inj.1 (by omega : x.toNat = y.toNat)]
section
variable {H : Type} {enc : TypeId × Value → H} {P : Program} {w : World} {base : Nat} {spare : Nat → Bool} {held : Bool} {fuel : Nat} {cs : List Value} {x : DataW H × List MemPlace}

theorem trod_id {t u : TypeId} (ht : P.underlying t = some (.array 32 u)) (hu : P.underlying u = some (.int .u8)) (hc : P.cellsOf u = 1) (hct : P.cellsOf t = 32)
    (h : DataW.trod enc P w base spare held fuel t cs = some x) : ∃ l : List UInt8, IdOk l ∧ cs = idV l := by
  obtain ⟨xs, m, _, _, hlen, hxl, hf⟩ := DataW.trod_array ht h
  rw [hct] at hlen
  have each : ∀ i, i < 32 → ∃ b : UInt8, cs[i]? = some (.int .u8 (b.toNat : Int)) := by
    intro i hi
    have h1 := hf i hi
    rw [hc, List.getElem?_eq_getElem (by omega : i < xs.length)] at h1
    obtain ⟨n, h2, _, hw⟩ := DataW.trod_int hu h1
    have hr : 0 ≤ n ∧ n ≤ 255 := by
      simp only [Lit.wf, IntKind.min, IntKind.max, IntKind.signed, IntKind.bits, Bool.and_eq_true] at hw
      simp at hw
      omega
    rw [Nat.mul_one, List.drop_eq_getElem_cons (by omega), List.take_succ_cons] at h2
    have h3 : cs[i]'(by omega) = .int .u8 n := (List.cons.inj h2).1
    refine ⟨UInt8.ofNat n.toNat, ?_⟩
    rw [List.getElem?_eq_getElem (by omega), h3]
    congr 2
    simp
    omega
  obtain ⟨f, hf⟩ := Go.Deep.choose_lt each
  refine ⟨(List.range 32).map f, by simp [IdOk], ?_⟩
  apply List.ext_getElem?
  intro i
  by_cases hi : i < 32
  · rw [hf i hi]
    simp [idV, hi]
  · rw [List.getElem?_eq_none (by omega), List.getElem?_eq_none (by simp [idV]; omega)]
end

/-- A load of several cells at once. -/
theorem run_loadN {P : Program} (w : World) (b off : Nat) (ty : TypeId) (cs : List Value) (d : TypeDesc) (hc : ∀ j u, cs[j]? = some u → w.cell? ⟨b, off + j, none⟩ = some u)
    (hu : P.underlying ty = some d) (hd : (match d with | .struct _ | .array _ _ => true | _ => false) = true) (hi : (P.info? ty).map (·.size) = some cs.length) :
    (loadVar ty ⟨b, off, none⟩).run P w = .ok (.agg cs.toArray) w := by
  have hl : (loadCells ⟨b, off, none⟩ cs.length).run P w = .ok cs.toArray w :=
    run_loadCells_list (P := P) w ⟨b, off, none⟩ cs (fun j v hv => by
      have hadd : (⟨b, off, none⟩ : Addr).add j = ⟨b, off + j, none⟩ := by unfold Addr.add; split <;> simp_all
      rw [hadd]
      exact hc j v hv)
  cases hq : P.info? ty with
  | none => simp [hq] at hi
  | some i =>
    have hs : i.size = cs.length := by simpa [hq] using hi
    have hagg : (isAgg ty).run P w = .ok true w := by
      unfold isAgg
      rw [Sem.run_bind, run_underlying hu w]
      cases d <;> simp_all
    simp [loadVar, Sem.run_bind, hagg, sizeOf, typeInfo, hq, hs, hl]
theorem wp_loadN {P : Program} {ops : Array Oper} {rest : List Oper} {o : Oper} {a : Act} {w : World} {Q : Exit → Act → World → Prop} (hgd : o.guard = none) (ty : TypeId) (x : Operand) (ho : o.op = .load ty x)
    (b off : Nat) (hx : a.eval x = .pointer (some ⟨b, off, none⟩)) (cs : List Value) (d : TypeDesc) (hc : ∀ j u, cs[j]? = some u → w.cell? ⟨b, off + j, none⟩ = some u)
    (hu : P.underlying ty = some d) (hd : (match d with | .struct _ | .array _ _ => true | _ => false) = true) (hi : (P.info? ty).map (·.size) = some cs.length)
    (h : wpList P ops Q rest (a.put o.dst (.agg cs.toArray)) w) : wpList P ops Q (o :: rest) a w :=
  wpList_plain hgd fun K hK => by
    have := hK _ _ h
    unfold Oper.wp execOp
    simp only [ho, hx, Instr.loadAt, Instr.sureAddr, Sem.run_bind, Sem.run_pure, Result.andThen_ok, run_loadN w b off ty cs d hc hu hd hi]
    exact this
end Go.Proofs.YthjaepmfkgejkaaDoor
namespace Go.Proofs.YthjaepmfkgejkaaDoor
open Go.RowKit
set_option linter.unusedVariables false

def idsV (l : List (List UInt8)) : List Value := l.flatMap idV
def IdsOk (l : List (List UInt8)) : Prop := ∀ i ∈ l, IdOk i
theorem IdsOk.tail {a : List UInt8} {l : List (List UInt8)} (h : IdsOk (a :: l)) : IdsOk l := fun i hi => h i (by simp [hi])
theorem IdsOk.sub {a b : List (List UInt8)} (h : IdsOk b) (hs : ∀ i ∈ a, i ∈ b) : IdsOk a := fun i hi => h i (hs i hi)
theorem IdsOk.app {a b : List (List UInt8)} (ha : IdsOk a) (hb : IdsOk b) : IdsOk (a ++ b) := fun i hi => (List.mem_append.1 hi).elim (ha i) (hb i)
theorem idsV_app (a b : List (List UInt8)) : idsV (a ++ b) = idsV a ++ idsV b := by simp [idsV]
theorem idsV_one (l : List (List UInt8)) : ∀ u ∈ idsV l, u.oneCell' = true := by
  intro u hu
  obtain ⟨a, _, ha⟩ := List.mem_flatMap.1 hu
  exact idV_one a u ha
theorem idsV_get : ∀ {l : List (List UInt8)}, IdsOk l → ∀ (i : Nat) (h : i < l.length) (j : Nat) (u : Value), (idV l[i])[j]? = some u → (idsV l)[i * 32 + j]? = some u
  | [], _, _, h, _, _, _ => by cases h
  | a :: l, ho, 0, _, j, u, hj => by
    have h1 : (idV a).length = 32 := by rw [idV_length]; exact ho a (by simp)
    have hlt := (List.getElem?_eq_some_iff.1 hj).1
    simp only [idsV, List.flatMap_cons, Nat.zero_mul, Nat.zero_add]
    rw [List.getElem?_append_left (by simpa using hlt)]
    exact hj
  | a :: l, ho, i + 1, h, j, u, hj => by
    have h1 : (idV a).length = 32 := by rw [idV_length]; exact ho a (by simp)
    have := idsV_get ho.tail i (by simpa using h) j u (by simpa using hj)
    simp only [idsV, List.flatMap_cons] at this ⊢
    rw [List.getElem?_append_right (by omega), h1, show (i + 1) * 32 + j - 32 = i * 32 + j by omega]
    exact this

theorem Sl.id {w : World} {B b off : Nat} {l : List (List UInt8)} (ho : IdsOk l) (h : ∀ j u, (idsV l)[j]? = some u → w.cell? ⟨b, off + j, none⟩ = some u) {i : Nat} (hi : i < l.length) : ∀ j u, (idV l[i])[j]? = some u → w.cell? ⟨b, off + i * 32 + j, none⟩ = some u := by
  intro j u hj
  rw [Nat.add_assoc]
  exact h _ _ (idsV_get ho i hi j u hj)

/-- Do ids rise strictly? -/
def isSetB : List (List UInt8) → Bool
  | a :: b :: r => decide (cmpB a b < 0) && isSetB (b :: r)
  | _ => true
theorem isSetB_iff : ∀ {l : List (List UInt8)}, isSetB l = true ↔ ∀ i (h : i + 1 < l.length), cmpB (l[i]'(by omega)) l[i + 1] < 0
  | [] => by simp [isSetB]
  | [a] => by simp [isSetB]
  | a :: b :: r => by
    rw [isSetB, Bool.and_eq_true, decide_eq_true_eq, isSetB_iff (l := b :: r)]
    constructor
    · rintro ⟨h1, h2⟩ i hi
      cases i with
      | zero => exact h1
      | succ i => exact h2 i (by simpa using hi)
    · intro h
      exact ⟨h 0 (by simp), fun i hi => h (i + 1) (by simpa using hi)⟩
theorem isSetB_pair {l : List (List UInt8)} (h : isSetB l = true) : l.Pairwise fun a b => cmpB a b < 0 := by
  induction l with
  | nil => exact List.Pairwise.nil
  | cons a l ih =>
    rw [List.pairwise_cons]
    have ht : isSetB l = true := by
      cases l with
      | nil => rfl
      | cons b r => rw [isSetB, Bool.and_eq_true] at h; exact h.2
    refine ⟨?_, ih ht⟩
    intro x hx
    cases l with
    | nil => cases hx
    | cons b r =>
      rw [isSetB, Bool.and_eq_true, decide_eq_true_eq] at h
      rcases List.mem_cons.1 hx with rfl | hx
      · exact h.1
      · exact cmpB_trans h.1 ((List.pairwise_cons.1 (ih ht)).1 x hx)
theorem isSetB_of_pair {l : List (List UInt8)} (h : l.Pairwise fun a b => cmpB a b < 0) : isSetB l = true := by
  rw [isSetB_iff]
  intro i hi
  exact (List.pairwise_iff_getElem.1 h) i (i + 1) (by omega) hi (by omega)

/-- A load of several cells, in a region that draws. -/
theorem wpStill_loadN {P : Program} {ops : Array Oper} {rest : List Oper} {o : Oper} {a : Act} {w : World} {Q : Act → Prop} (hw : Region.wanted o (yielded ops a.tmps) = true) (ty : TypeId) (x : Operand) (ho : o.op = .load ty x)
    (b off : Nat) (hx : a.eval x = .pointer (some ⟨b, off, none⟩)) (cs : List Value) (d : TypeDesc) (hc : ∀ j u, cs[j]? = some u → w.cell? ⟨b, off + j, none⟩ = some u)
    (hu : P.underlying ty = some d) (hd : (match d with | .struct _ | .array _ _ => true | _ => false) = true) (hi : (P.info? ty).map (·.size) = some cs.length)
    (h : wpStill P ops w Q rest (a.put o.dst (.agg cs.toArray))) : wpStill P ops w Q (o :: rest) a := by
  unfold wpStill
  rw [if_pos hw]
  unfold Oper.still execOp
  simp only [ho, hx, Instr.loadAt, Instr.sureAddr, Sem.run_bind, Sem.run_pure, Result.andThen_ok, run_loadN w b off ty cs d hc hu hd hi]
  exact ⟨rfl, h⟩
end Go.Proofs.YthjaepmfkgejkaaDoor
namespace Go.Proofs.YthjaepmfkgejkaaDoor
open Go.RowKit
set_option linter.unusedVariables false

/-! ### Values with a key's cells -/

theorem mapM_some {α β : Type} {f : α → Option β} : ∀ {l : List α}, (∀ x ∈ l, ∃ y, f x = some y) → ∃ ys, l.mapM f = some ys
  | [], _ => ⟨[], rfl⟩
  | x :: l, h => by
    obtain ⟨y, hy⟩ := h x (by simp)
    obtain ⟨ys, hys⟩ := mapM_some (l := l) fun z hz => h z (by simp [hz])
    exact ⟨y :: ys, by simp [List.mapM_cons, hy, hys]⟩

/-- Cells of a type that '==' goes through. -/
def Kb (P : Program) (n : Nat) (t : TypeId) (cs : List Value) : Prop := ∀ d, n ≤ d → ∃ l, P.keyLits d t cs = some l
section
variable {P : Program} {t e : TypeId} {m n : Nat} {cs : List Value}
theorem kb_int {k : IntKind} {z : Int} (hu : P.underlying t = some (.int k)) (hw : (Lit.int k z).wf = true) : Kb P 1 t [.int k z] := by
  intro d hd
  cases d with
  | zero => omega
  | succ d => exact ⟨_, by simp [Program.keyLits, hu, hw]; rfl⟩
theorem kb_arr (hu : P.underlying t = some (.array n e)) (hl : cs.length = P.cellsOf t) (h : ∀ i, i < n → Kb P m e ((cs.drop (i * P.cellsOf e)).take (P.cellsOf e))) : Kb P (m + 1) t cs := by
  intro d hd
  cases d with
  | zero => omega
  | succ d =>
    obtain ⟨ys, hys⟩ := mapM_some (l := List.range n) (f := fun i => P.keyLits d e ((cs.drop (i * P.cellsOf e)).take (P.cellsOf e))) fun i hi => h i (by simpa using hi) d (by omega)
    exact ⟨_, by simp only [Program.keyLits, hu, hl, if_true, hys]; rfl⟩
theorem kb_struct {fs : Array Field} (hu : P.underlying t = some (.struct fs)) (hl : cs.length = P.cellsOf t) (hn : fs.all (·.name != "_") = true) (h : ∀ f ∈ fs.toList, Kb P m f.type ((cs.drop f.offset).take (P.cellsOf f.type))) : Kb P (m + 1) t cs := by
  intro d hd
  cases d with
  | zero => omega
  | succ d =>
    obtain ⟨ys, hys⟩ := mapM_some (l := fs.toList) (f := fun f => P.keyLits d f.type ((cs.drop f.offset).take (P.cellsOf f.type))) fun f hf => h f hf d (by omega)
    exact ⟨_, by simp only [Program.keyLits, hu, hl, hn, and_self, if_true, hys]; rfl⟩
/-- What the gates of a type say that is compared cell by cell. -/
structure EqT (P : Program) (t : TypeId) (m : Nat) : Prop where
  laid : laidOutB P = true
  few : P.types.size + 2 ≤ 10000
  row : t < P.types.size
  key : P.keyType t = true
  wide : (match P.underlying t with | some (.array _ _) | some (.struct _) => true | _ => false) = true
  deep : m ≤ P.types.size + 1
  noGuard : P.eqGuardType P.depth t = false
theorem EqT.keyed (E : EqT P t m) : Maps.Keyed P t := Maps.Keyed.of_law (deep_law_laid E.laid (m := P.types.size + 1) E.few E.row E.key E.wide)
theorem EqT.is (E : EqT P t m) (hl : cs.length = P.cellsOf t) (h : Kb P m t cs) : ∃ l, keyOf P t (.agg cs.toArray) = some l := by
  obtain ⟨l, hl2⟩ := h (P.types.size + 1) E.deep
  have hw := E.wide
  have hf : (Value.agg cs.toArray).formed P t = true := by
    unfold Value.formed
    split at hw <;> simp_all
  have hc : (P.keyLits (P.types.size + 1) t (Value.agg cs.toArray).cells.toList).map (fun ls => Lit.string (keyBytes ls)) = some (.string (keyBytes l)) := by
    rw [show (Value.agg cs.toArray).cells.toList = cs from rfl, hl2]; rfl
  refine ⟨.string (keyBytes l), ?_⟩
  unfold keyOf
  split at hw
  · rename_i hu; simp only [hu, E.key, hf, Bool.and_self, if_true]; exact hc
  · rename_i hu; simp only [hu, E.key, hf, Bool.and_self, if_true]; exact hc
  · cases hw
theorem EqT.run (E : EqT P t m) {α : Type} [DecidableEq α] (enc : α → List Value) (hinj : ∀ a b, enc a = enc b → a = b) {a b : α} (la : (enc a).length = P.cellsOf t) (lb : (enc b).length = P.cellsOf t) (ha : Kb P m t (enc a)) (hb : Kb P m t (enc b)) (w : World) :
    (Op.equalIn 10000 t (.agg (enc a).toArray) (.agg (enc b).toArray)).run P w = .ok (decide (a = b)) w := by
  obtain ⟨ka, ha⟩ := E.is la ha
  obtain ⟨kb, hb⟩ := E.is lb hb
  obtain ⟨r, hr, hiff⟩ := run_equal_deep w (m := P.types.size + 1) (by have := E.few; omega) E.key E.wide ha hb
  have h2 : (Op.equalIn 10000 t (.agg (enc a).toArray) (.agg (enc b).toArray)).run P w = .ok r w := hr
  rw [h2]
  congr 1
  rw [Bool.eq_iff_iff, hiff, decide_eq_true_eq]
  constructor
  · intro h
    have := E.keyed.inj ha (by rw [h]; exact hb)
    injection this with this
    exact hinj _ _ (by have := congrArg Array.toList this; simpa using this)
  · rintro rfl
    rw [ha] at hb
    exact Option.some.inj hb
end

/-! ### Single operations -/

section
variable {P : Program} {ρ : Operand → Value} {o : Oper} {w : World}
theorem ex_load (ty : TypeId) (x : Operand) (ho : o.op = .load ty x) {p : Addr} (hx : ρ x = .pointer (some p)) {v : Value} (h : (loadVar ty p).run P w = .ok v w) : (execOp ρ o).run P w = .ok (.value v) w := by
  unfold execOp
  simp only [ho, hx, Instr.loadAt, Instr.sureAddr, Sem.run_bind, Sem.run_pure, Result.andThen_ok, h]
theorem ex_eql (t t' : TypeId) (x y : Operand) (ho : o.op = .binOp .eql t x y t') {xs ys : Array Value} (hx : ρ x = .agg xs) (hy : ρ y = .agg ys) {r : Bool} (hg : P.eqGuardType P.depth t = false)
    (h : (Op.equalIn 10000 t (.agg xs) (.agg ys)).run P w = .ok r w) : (execOp ρ o).run P w = .ok (.value (.bool r)) w := by
  unfold execOp
  simp only [ho, hx, hy, Sem.run_bind, run_eqGuard_agg w _ _ _ _ _ _ hg, Result.andThen_ok, run_eql_struct, h, Sem.run_pure]
theorem ex_neq (t t' : TypeId) (x y : Operand) (ho : o.op = .binOp .neq t x y t') {xs ys : Array Value} (hx : ρ x = .agg xs) (hy : ρ y = .agg ys) {r : Bool} (hg : P.eqGuardType P.depth t = false)
    (h : (Op.equalIn 10000 t (.agg xs) (.agg ys)).run P w = .ok r w) : (execOp ρ o).run P w = .ok (.value (.bool (!r))) w := by
  unfold execOp
  simp only [ho, hx, hy, Sem.run_bind, run_eqGuard_agg w _ _ _ _ _ _ hg, Result.andThen_ok, run_neq_struct, h, Sem.run_pure]
theorem ex_build (t : TypeId) (ps : Array (Nat × Operand)) (ho : o.op = .build t ps) {v : Value} (h : (Instr.build t (ps.map fun (i, x) => (i, ρ x))).run P w = .ok v w) : (execOp ρ o).run P w = .ok (.value v) w := by
  unfold execOp
  simp only [ho, Sem.run_bind, h, Result.andThen_ok, Sem.run_pure]
end
section
variable {P : Program} {o : Oper} {a : Act} {v : Value}
theorem quiet_val {C : World → Prop} {K : Act → Prop} (h : ∀ w, C w → (execOp a.eval o).run P w = .ok (.value v) w) (hk : K (a.put o.dst v)) : o.quiet P a C K :=
  ⟨v, fun w hw => by unfold Oper.quietAt; rw [h w hw]; exact ⟨rfl, rfl⟩, hk⟩
theorem wp_val {ops : Array Oper} {rest : List Oper} {w : World} {Q : Exit → Act → World → Prop} (hw : Region.wanted o (yielded ops a.tmps) = true) (h : (execOp a.eval o).run P w = .ok (.value v) w) (hk : wpList P ops Q rest (a.put o.dst v) w) : wpList P ops Q (o :: rest) a w :=
  BigFrame.wpList_want hw fun K hK => by
    have := hK _ _ hk
    unfold Oper.wp
    rw [h]
    exact this
end

/-! ### A region that draws its order, in the worlds that leave alone what lay -/

def Wd (base : Nat) (w : World) : Type := { w' : World // Below base w w' }
instance (base : Nat) (w : World) : Nonempty (Wd base w) := ⟨⟨w, Below.refl _ _⟩⟩
theorem Wd.cell {base : Nat} {w : World} {b o : Nat} {v : Value} (hc : w.cell? ⟨b, o, none⟩ = some v) (hb : b < base) : ∀ n : Wd base w, n.val.cell? ⟨b, o, none⟩ = some v := fun n => (n.2.cell (p := ⟨b, o, none⟩) hb).trans hc
theorem Wd.row {base : Nat} {w : World} {b o : Nat} {cs : List Value} (hc : ∀ j u, cs[j]? = some u → w.cell? ⟨b, o + j, none⟩ = some u) (hb : b < base) : ∀ w', (∃ n : Wd base w, w' = n.val) → ∀ j u, cs[j]? = some u → w'.cell? ⟨b, o + j, none⟩ = some u := by
  rintro w' ⟨n, rfl⟩ j u hu
  exact Wd.cell (hc j u hu) hb n
theorem Wd.call {base : Nat} {w : World} {P : Program} {f : FuncId} {args : Array Value} {v : Value} (h : ∀ w', Below base w w' → Calls P f args w' fun e w'' => Below w'.heap.size w' w'' ∧ e = .returned v) (hbs : base ≤ w.heap.size) (n : Wd base w) :
    Calls P f args n.val fun e w'' => e = .returned v ∧ ∃ m : Wd base w, w'' = m.val :=
  (h n.val n.2).mono fun e w'' ⟨hb, he⟩ => ⟨he, ⟨w'', n.2.trans (hb.mono (Nat.le_trans hbs n.2.size))⟩, rfl⟩
theorem wp_region_wd {P : Program} {id : Nat} {Q : Exit → Act → World → Prop} {a : Act} {w : World} {l : List Oper} {base : Nat} (w0 : World) (hb : Below base w0 w) (hm : P.follows .mixedOrders = true) (hB : Region.lexB .any l.toArray = true)
    (h : wpQuiet P l.toArray (fun w' => ∃ n : Wd base w0, w' = n.val) (fun a' => ∀ w', (∃ n : Wd base w0, w' = n.val) → Q .normal a' w') l a) : (Code.region id l.toArray true).wp P Q a w :=
  wp_region_quiet (C := fun w' => ∃ n : Wd base w0, w' = n.val) hm hB ⟨⟨_, hb.drew⟩, rfl⟩ (by simpa using h)
end Go.Proofs.YthjaepmfkgejkaaDoor
namespace Go.Proofs.YthjaepmfkgejkaaDoor
open Go.RowKit
set_option linter.unusedVariables false

theorem cut_end {α : Type} {a b : List α} {n m : Nat} (ha : a.length = n) (hb : b.length = m) : ((a ++ b).drop n).take m = b := by
  subst ha; subst hb
  simp
def zero32 : List UInt8 := List.replicate 32 0
theorem zero32_ok : IdOk zero32 := by simp [IdOk, zero32]

section
variable {P : Program} {t u i a : TypeId}
theorem kb_id (ht : P.underlying t = some (.array 32 u)) (hu : P.underlying u = some (.int .u8)) (hc : P.cellsOf u = 1) (hct : P.cellsOf t = 32) {l : List UInt8} (hl : IdOk l) : Kb P 2 t (idV l) := by
  have hln : (idV l).length = 32 := by rw [idV_length]; exact hl
  refine kb_arr ht (by rw [hct, hln]) fun j hj => ?_
  rw [hc, Nat.mul_one, List.drop_eq_getElem_cons (by omega), List.take_succ_cons, List.take_zero]
  have hlj : j < l.length := by rw [hl]; exact hj
  rw [show (idV l)[j]'(by omega) = .int .u8 ((l[j]'hlj).toNat : Int) by simp [idV]]
  refine kb_int hu ?_
  simp only [Lit.wf, IntKind.min, IntKind.max, IntKind.signed, IntKind.bits, Bool.and_eq_true]
  have := (l[j]'hlj).toNat_lt
  simp
  omega
end
/-- A ref: an id, an index. -/
abbrev RefD := List UInt8 × Int
def refV (r : RefD) : List Value := idV r.1 ++ [.int .i64 r.2]
def RefOk (r : RefD) : Prop := IdOk r.1 ∧ (Lit.int .i64 r.2).wf = true
theorem refV_length {r : RefD} (h : RefOk r) : (refV r).length = 33 := by
  have := h.1
  unfold IdOk at this
  simp [refV, idV, this]
theorem refV_inj {a b : RefD} (h : refV a = refV b) : a = b := by
  unfold refV at h
  have hl := congrArg List.length h
  simp only [List.length_append, List.length_singleton] at hl
  obtain ⟨h3, h4⟩ := List.append_inj h (by omega)
  simp only [List.cons.injEq, Value.int.injEq, true_and, and_true] at h4
  exact Prod.ext (idV_inj h3) h4
theorem refV_one (r : RefD) : ∀ u ∈ refV r, u.oneCell' = true := by
  intro u hu
  rcases List.mem_append.1 hu with hu | hu
  · exact idV_one _ u hu
  · simp at hu; subst hu; rfl

theorem cellsId : Tryd.prog.cellsOf 45 = 32 := by kernel_rfl
theorem cellsU8 : Tryd.prog.cellsOf 5 = 1 := by kernel_rfl
theorem cellsInt : Tryd.prog.cellsOf 3 = 1 := by kernel_rfl
theorem cellsStr : Tryd.prog.cellsOf 9 = 1 := by kernel_rfl
theorem kbId {l : List UInt8} (hl : IdOk l) : Kb Tryd.prog 2 45 (idV l) := kb_id Tryd.underlying45 Tryd.underlying5 cellsU8 cellsId hl
set_option maxRecDepth 100000 in
theorem eqId : EqT Tryd.prog 45 2 := ⟨by kernel_rfl, of_decide_eq_true (by kernel_rfl), of_decide_eq_true (by kernel_rfl), by kernel_rfl, by kernel_rfl, of_decide_eq_true (by kernel_rfl), by kernel_rfl⟩
theorem run_eqId {a b : List UInt8} (ha : IdOk a) (hb : IdOk b) (w : World) : (Op.equalIn 10000 45 (.agg (idV a).toArray) (.agg (idV b).toArray)).run Tryd.prog w = .ok (decide (a = b)) w :=
  eqId.run idV (fun _ _ => idV_inj) (by rw [idV_length, cellsId]; exact ha) (by rw [idV_length, cellsId]; exact hb) (kbId ha) (kbId hb) w
end Go.Proofs.YthjaepmfkgejkaaDoor
namespace Go.Proofs.YthjaepmfkgejkaaDoor

def shownB (r : Nat) : Bool := decide (32 ≤ r) && !(r == 127)
def plainB (s : ByteArray) (p : Nat → Bool) : Bool := match runesOf s with
  | some l => l.all p
  | none => false
def authorB (s : ByteArray) : Bool := decide (1 ≤ s.size) && decide (s.size ≤ 32) && plainB s shownB
def noteB (s : ByteArray) : Bool := decide (s.size ≤ 256) && isText s
/-- What stands between the slashes. -/
def pieces : List UInt8 → List (List UInt8)
  | [] => [[]]
  | c :: l => if c = 47 then [] :: pieces l else match pieces l with
    | p :: ps => (c :: p) :: ps
    | [] => [[c]]
def pieceB (p : List UInt8) : Bool := !decide (p = []) && !decide (p = [46]) && !decide (p = [46, 46])
def pathB (s : ByteArray) : Bool := decide (1 ≤ s.size) && decide (s.size ≤ 64) && plainB s shownB && (pieces (L s)).all pieceB

/-- Can two paths not stand beside one another? -/
def underB (a b : List UInt8) : Bool := (a ++ [47]).isPrefixOf b
def clashB (a b : List UInt8) : Bool := decide (a = b) || underB a b || underB b a

/-- A text without a slash is one piece. -/
theorem pieces_lone {l : List UInt8} (h : (47 : UInt8) ∉ l) : pieces l = [l] := by
  induction l with
  | nil => rfl
  | cons c l ih =>
    simp only [List.mem_cons, not_or] at h
    rw [pieces, if_neg (fun e => h.1 e.symm), ih h.2]
/-- The first slash ends the first piece. -/
theorem pieces_cut {a b : List UInt8} (h : (47 : UInt8) ∉ a) : pieces (a ++ 47 :: b) = a :: pieces b := by
  induction a with
  | nil => simp [pieces]
  | cons c a ih =>
    simp only [List.mem_cons, not_or] at h
    rw [List.cons_append, pieces, if_neg (fun e => h.1 e.symm), ih h.2]

theorem index_slash {a b : List UInt8} (h : (47 : UInt8) ∉ a) : Lib.index (a ++ 47 :: b) [47] = a.length := by
  induction a with
  | nil => simp [Lib.index]
  | cons c a ih =>
    simp only [List.mem_cons, not_or] at h
    have h1 : ¬ ((47 : UInt8) == c) = true := by simpa using h.1
    rw [List.cons_append, Lib.index, ih h.2]
    simp only [List.isPrefixOf, h1, Bool.false_and]
    simp
/-- A text is cut at its first slash, or has none. -/
theorem slash_cases (l : List UInt8) : (47 : UInt8) ∉ l ∨ ∃ a b, l = a ++ 47 :: b ∧ (47 : UInt8) ∉ a := by
  induction l with
  | nil => exact .inl (by simp)
  | cons c l ih =>
    by_cases hc : c = 47
    · exact .inr ⟨[], l, by simp [hc], by simp⟩
    · rcases ih with ih | ⟨a, b, rfl, ha⟩
      · exact .inl (by simp [ih]; exact fun e => hc e.symm)
      · exact .inr ⟨c :: a, b, rfl, by simp [ha]; exact fun e => hc e.symm⟩
/-- strings.Split at a slash. -/
theorem split_pieces : ∀ (n : Nat) (l : List UInt8), l.length ≤ n → Lib.splitK [47] 0 (l.count 47) l = pieces l := by
  intro n
  induction n with
  | zero =>
    intro l hl
    have : l = [] := List.length_eq_zero_iff.1 (by omega)
    subst this
    rfl
  | succ n ih =>
    intro l hl
    rcases slash_cases l with h | ⟨a, b, rfl, ha⟩
    · rw [pieces_lone h, List.count_eq_zero.2 h]; rfl
    · rw [pieces_cut ha, List.count_append, List.count_eq_zero.2 ha, List.count_cons_self, Nat.zero_add, Lib.splitK, index_slash ha]
      have hlen : (a ++ 47 :: b).length = a.length + b.length + 1 := by simp; omega
      have e1 : ((a.length : Int)).toNat = a.length := by omega
      rw [if_neg (by simp), e1, Nat.add_zero, List.take_left, show ([47] : List UInt8).length = 1 from rfl]
      have e2 : (a ++ 47 :: b).drop (a.length + 1) = b := by rw [List.drop_append]; simp
      rw [e2, ih b (by omega)]

def slashS : ByteArray := ⟨#[47]⟩
theorem splitB_pieces (s : ByteArray) : (Lib.splitB slashS 0 (Lib.countB s slashS) s).map L = pieces (L s) := by
  have h := Lib.splitB_data slashS 0 (Lib.countB s slashS) s
  have hc : Lib.countB s slashS = (L s).count 47 := Lib.count_one 47 (L s)
  have e : (Lib.splitB slashS 0 (Lib.countB s slashS) s).map L = (Lib.splitB slashS 0 (Lib.countB s slashS) s).map (·.data.toList) := rfl
  rw [e, h, hc]
  exact split_pieces _ (L s) (Nat.le_refl _)

theorem plainB_text {s : ByteArray} {p : Nat → Bool} (h : isText s = false) : plainB s p = false := by
  unfold plainB
  unfold isText at h
  cases hr : runesOf s
  · rfl
  · rw [hr] at h; cases h
theorem plainB_true {s : ByteArray} : plainB s (fun _ => true) = isText s := by
  unfold plainB isText
  cases runesOf s <;> simp

end Go.Proofs.YthjaepmfkgejkaaDoor
namespace Go.Proofs.YthjaepmfkgejkaaDoor
set_option linter.unusedVariables false

/-- An operation: kind, document, place, text, count, path. -/
abbrev OpD := UInt8 × RefD × RefD × ByteArray × Int × ByteArray
/-- What an index is: a document, or an element of one. -/
abbrev MadeD := Bool × RefD
abbrev ChangeD := Int × List (List UInt8) × ByteArray × List OpD
abbrev CommitD := List (List UInt8) × List (List UInt8) × ByteArray × ByteArray × Int
abbrev ObjD := UInt8 × ChangeD × CommitD
abbrev PartD := Bool × Bool × Bool × Bool × Bool
def zeroRef : RefD := (zero32, 0)
def noneS : ByteArray := ⟨#[]⟩
def noChangeD : ChangeD := (0, [], noneS, [])
def noCommitD : CommitD := ([], [], noneS, noneS, 0)

/-- Which parts an operation of a kind has: document, place, text, count, path. -/
def partsOf (k : UInt8) : Option PartD :=
  if k = 1 then some (true, true, true, false, false) else if k = 2 then some (true, true, false, true, false) else if k = 3 then some (false, false, false, false, true)
  else if k = 4 then some (true, false, false, false, true) else if k = 5 then some (true, false, false, false, false) else none
def absentB (x : OpD) (p : PartD) : Bool := (p.1 || decide (x.2.1 = zeroRef)) && (p.2.1 || decide (x.2.2.1 = zeroRef)) && (p.2.2.1 || decide (x.2.2.2.1 = noneS)) && (p.2.2.2.1 || decide (x.2.2.2.2.1 = 0)) && (p.2.2.2.2 || decide (x.2.2.2.2.2 = noneS))
def idsB (l : List (List UInt8)) (most : Nat) : Bool := decide (l.length ≤ most) && isSetB l && (decide (l = []) || !decide (l.headD [] = zero32))
def foreignB (deps : List (List UInt8)) (r : RefD) : Bool := isSetB deps && decide (r.1 ∈ deps) && decide (0 ≤ r.2) && decide (r.2 ≤ 2147483647)
def docB (deps : List (List UInt8)) (mk : List MadeD) (r : RefD) : Bool :=
  if r.1 ≠ zero32 then foreignB deps r else decide (0 ≤ r.2) && decide (r.2 < mk.length) && (mk.getD r.2.toNat (false, zeroRef)).1
def elemsB (deps : List (List UInt8)) (mk : List MadeD) (r d : RefD) (n : Int) : Bool :=
  if r.1 ≠ zero32 then foreignB deps r
  else decide (0 ≤ r.2) && decide (n ≤ mk.length) && decide (r.2 ≤ mk.length - n) && ((mk.drop r.2.toNat).take n.toNat).all fun m => !m.1 && decide (m.2 = d)
def fileB (s : ByteArray) : Bool := decide (s.size ≤ 4096) && isText s
def runesN (s : ByteArray) : Nat := match runesOf s with
  | some l => l.length
  | none => 0
/-- May an operation be? -/
def opB (deps : List (List UInt8)) (mk : List MadeD) (x : OpD) : Bool := match partsOf x.1 with
  | none => false
  | some p => absentB x p && (!p.1 || docB deps mk x.2.1) && (!p.2.2.2.2 || pathB x.2.2.2.2.2) &&
    (!decide (x.1 = 2) || (decide (1 ≤ x.2.2.2.2.1) && decide (x.2.2.2.2.1 ≤ 4096) && elemsB deps mk x.2.2.1 x.2.1 x.2.2.2.2.1)) &&
    (!decide (x.1 = 1) || ((decide (x.2.2.1 = x.2.1) || elemsB deps mk x.2.2.1 x.2.1 1) && !decide (x.2.2.2.1 = noneS) && fileB x.2.2.2.1))
/-- What an operation makes. -/
def madeB (x : OpD) : List MadeD := if x.1 = 3 then [(true, zeroRef)] else if x.1 = 1 then List.replicate (runesN x.2.2.2.1) (false, x.2.1) else []
def opsB (deps : List (List UInt8)) : List MadeD → List OpD → Bool
  | _, [] => true
  | mk, x :: t => opB deps mk x && opsB deps (mk ++ madeB x) t
def changeB (c : ChangeD) : Bool := decide (1 ≤ c.1) && decide (c.1 ≤ 1099511627776) && idsB c.2.1 4096 && authorB c.2.2.1 && decide (1 ≤ c.2.2.2.length) && decide (c.2.2.2.length ≤ 4096) && opsB c.2.1 [] c.2.2.2
def commitB (c : CommitD) : Bool := idsB c.1 2 && idsB c.2.1 4096 && authorB c.2.2.1 && noteB c.2.2.2.1 && decide (0 ≤ c.2.2.2.2) && decide (c.2.2.2.2 ≤ 1099511627776)
def noChangeB (c : ChangeD) : Bool := decide (c.1 = 0) && decide (c.2.1 = []) && decide (c.2.2.1 = noneS) && decide (c.2.2.2 = [])
def noCommitB (c : CommitD) : Bool := decide (c.1 = []) && decide (c.2.1 = []) && decide (c.2.2.1 = noneS) && decide (c.2.2.2.1 = noneS) && decide (c.2.2.2.2 = 0)
/-- May an object be? -/
def rightB (o : ObjD) : Bool := if o.1 = 1 then noCommitB o.2.2 && changeB o.2.1 else if o.1 = 2 then noChangeB o.2.1 && commitB o.2.2 else false

/-- The bytes. -/
def numE (n : Int) : List UInt8 := if n < 0 then [] else numB n.toNat
def idsE (l : List (List UInt8)) : List UInt8 := numE (l.length : Int) ++ l.flatten
def refE (deps : List (List UInt8)) (r : RefD) : List UInt8 := numE (if r.1 ≠ zero32 then (deps.idxOf r.1 : Int) + 1 else 0) ++ numE r.2
def ifE (b : Bool) (l : List UInt8) : List UInt8 := if b then l else []
def opE (deps : List (List UInt8)) (x : OpD) : List UInt8 :=
  let p := (partsOf x.1).getD (false, false, false, false, false)
  x.1 :: (ifE p.1 (refE deps x.2.1) ++ (ifE p.2.1 (refE deps x.2.2.1) ++ (ifE p.2.2.1 (textB (L x.2.2.2.1)) ++ (ifE p.2.2.2.1 (numE x.2.2.2.2.1) ++ ifE p.2.2.2.2 (textB (L x.2.2.2.2.2))))))
def opsE (deps : List (List UInt8)) (l : List OpD) : List UInt8 := (l.map (opE deps)).flatten
def changeE (c : ChangeD) : List UInt8 := 67 :: (numE c.1 ++ (idsE c.2.1 ++ (textB (L c.2.2.1) ++ (numE (c.2.2.2.length : Int) ++ opsE c.2.1 c.2.2.2))))
def commitE (c : CommitD) : List UInt8 := 75 :: (idsE c.1 ++ (idsE c.2.1 ++ (textB (L c.2.2.1) ++ (textB (L c.2.2.2.1) ++ numE c.2.2.2.2))))
def objE (o : ObjD) : List UInt8 := if o.1 = 1 then changeE o.2.1 else commitE o.2.2

/-- A reader: what it reads, what is left. -/
abbrev Ps (α : Type) := List UInt8 → Option (α × List UInt8)
def pBind {α β : Type} (d : Ps α) (f : α → Ps β) : Ps β := fun l => match d l with
  | some (a, r) => f a r
  | none => none
def pRet {α : Type} (a : α) : Ps α := fun l => some (a, l)
def pNeed {α : Type} (b : Bool) (d : Ps α) : Ps α := fun l => if b then d l else none
def pByte : Ps UInt8
  | [] => none
  | k :: l => some (k, l)
def pNum : Ps Nat := fun l => match getS l with
  | some (n, k) => some (n, l.drop k)
  | none => none
def pText : Ps ByteArray := fun l => match getTextS l 4096 with
  | some (t, k) => some (⟨t.toArray⟩, l.drop k)
  | none => none
def pId : Ps (List UInt8) := fun l => if l.length < 32 then none else some (l.take 32, l.drop 32)
def pMany {α : Type} (d : Ps α) : Nat → Ps (List α)
  | 0 => pRet []
  | n + 1 => pBind d fun a => pBind (pMany d n) fun t => pRet (a :: t)
def pList {α : Type} (most : Nat) (d : Ps α) : Ps (List α) := pBind pNum fun n => pNeed (decide (n ≤ most)) (pMany d n)
def pRef (deps : List (List UInt8)) : Ps RefD := pBind pNum fun n => pNeed (decide (n ≤ deps.length)) (pBind pNum fun i => pRet (if n = 0 then zero32 else deps.getD (n - 1) zero32, (i : Int)))
def pIf {α : Type} (b : Bool) (z : α) (d : Ps α) : Ps α := if b then d else pRet z
def pNumI : Ps Int := pBind pNum fun n => pRet (n : Int)
def pOp (deps : List (List UInt8)) : Ps OpD := pBind pByte fun k => match partsOf k with
  | none => fun _ => none
  | some p => pBind (pIf p.1 zeroRef (pRef deps)) fun d => pBind (pIf p.2.1 zeroRef (pRef deps)) fun a => pBind (pIf p.2.2.1 noneS pText) fun t => pBind (pIf p.2.2.2.1 0 pNumI) fun c => pBind (pIf p.2.2.2.2 noneS pText) fun q => pRet (k, d, a, t, c, q)
def pChange : Ps ChangeD := pBind pNumI fun t => pBind (pList 4096 pId) fun ds => pBind pText fun a => pBind (pList 4096 (pOp ds)) fun ops => pRet (t, ds, a, ops)
def pCommit : Ps CommitD := pBind (pList 2 pId) fun ps => pBind (pList 4096 pId) fun cs => pBind pText fun a => pBind pText fun m => pBind pNumI fun s => pRet (ps, cs, a, m, s)
def pObj : Ps ObjD := pBind pByte fun k => if k = 67 then pBind pChange fun c => pRet (1, c, noCommitD) else if k = 75 then pBind pCommit fun c => pRet (2, noChangeD, c) else fun _ => none
/-- What bytes are read as. -/
def readS (l : List UInt8) : Option ObjD := match pObj l with
  | some (o, r) => if r = [] ∧ rightB o = true then some o else none
  | none => none
def decodeS (l : List UInt8) : ObjD × Int := if 262144 < l.length then ((0, noChangeD, noCommitD), 2) else match readS l with
  | some o => (o, 0)
  | none => ((0, noChangeD, noCommitD), 6)

section
variable {α β : Type} {d : Ps α} {f : α → Ps β}
theorem pBind_some {l : List UInt8} {b : β} {r : List UInt8} (h : pBind d f l = some (b, r)) : ∃ a s, d l = some (a, s) ∧ f a s = some (b, r) := by
  unfold pBind at h
  rcases hd : d l with _ | ⟨a, s⟩
  · rw [hd] at h; cases h
  · rw [hd] at h; exact ⟨a, s, rfl, h⟩
theorem pBind_at {l s : List UInt8} {a : α} (h : d l = some (a, s)) : pBind d f l = f a s := by unfold pBind; rw [h]
end
theorem num_cut {l : List UInt8} {n : Nat} {r : List UInt8} (h : pNum l = some (n, r)) : l = numB n ++ r ∧ n < 9223372036854775808 := by
  unfold pNum at h
  rcases hg : getS l with _ | ⟨m, k⟩
  · rw [hg] at h; cases h
  · rw [hg] at h; cases h
    exact ⟨by rw [← num_getS hg, List.take_append_drop], getS_bound hg⟩
theorem text_cut {l : List UInt8} {t : ByteArray} {r : List UInt8} (h : pText l = some (t, r)) : l = textB (L t) ++ r ∧ t.size ≤ 4096 := by
  unfold pText at h
  rcases hg : getTextS l 4096 with _ | ⟨m, k⟩
  · rw [hg] at h; cases h
  · rw [hg] at h; cases h
    obtain ⟨h1, h2, h3⟩ := text_getTextS hg
    exact ⟨by show l = textB m ++ _; rw [← h1, List.take_append_drop], by rw [← L_length]; exact h3⟩
end Go.Proofs.YthjaepmfkgejkaaDoor
namespace Go.Proofs.YthjaepmfkgejkaaDoor
set_option linter.unusedVariables false

def OpOk (x : OpD) : Prop := RefOk x.2.1 ∧ RefOk x.2.2.1 ∧ (Lit.int .i64 x.2.2.2.2.1).wf = true
def ChangeOk (c : ChangeD) : Prop := (Lit.int .i64 c.1).wf = true ∧ IdsOk c.2.1 ∧ ∀ x ∈ c.2.2.2, OpOk x
def CommitOk (c : CommitD) : Prop := IdsOk c.1 ∧ IdsOk c.2.1 ∧ (Lit.int .i64 c.2.2.2.2).wf = true
def ObjOk (o : ObjD) : Prop := ChangeOk o.2.1 ∧ CommitOk o.2.2
theorem wf_bound {n : Int} (h : (Lit.int .i64 n).wf = true) : -9223372036854775808 ≤ n ∧ n < 9223372036854775808 := by
  simp only [Lit.wf, IntKind.min, IntKind.max, IntKind.signed, IntKind.bits, Bool.and_eq_true] at h
  simp at h
  omega
theorem numE_nat (n : Nat) : numE (n : Int) = numB n := by unfold numE; rw [if_neg (by omega)]; rfl
section
variable {α : Type} {d : Ps α} {enc : α → List UInt8}
end
/-- Nothing is ahead of the zero id. -/
theorem cmpB_zeros : ∀ (n : Nat) (a : List UInt8), a.length = n → ¬ cmpB a (List.replicate n 0) < 0
  | 0, a, h => by
    rw [List.length_eq_zero_iff.1 h]
    rw [show List.replicate 0 (0 : UInt8) = [] from rfl, cmpB_nil]
    omega
  | n + 1, [], h => by cases h
  | n + 1, x :: a, h => by
    rw [List.replicate_succ, cmpB_cons, if_neg (by rw [UInt8.lt_iff_toNat_lt]; exact Nat.not_lt_zero _)]
    split
    · omega
    · exact cmpB_zeros n a (by simpa using h)
theorem ids_nodup {l : List (List UInt8)} (h : isSetB l = true) : ∀ i j (hij : i < j) (hj : j < l.length), l[i]'(Nat.lt_trans hij hj) ≠ l[j] := fun i j hij hj e => by
  have := (List.pairwise_iff_getElem.1 (isSetB_pair h)) i j (by omega) hj hij
  rw [e, cmpB_self] at this
  omega
theorem idxOf_at {l : List (List UInt8)} (h : isSetB l = true) (i : Nat) (hi : i < l.length) : l.idxOf l[i] = i := by
  have hm : l[i] ∈ l := List.getElem_mem hi
  have hlt := List.idxOf_lt_length_iff.2 hm
  have hg : l[l.idxOf l[i]] = l[i] := List.getElem_idxOf hlt
  rcases (by omega : l.idxOf l[i] < i ∨ i < l.idxOf l[i] ∨ l.idxOf l[i] = i) with q | q | q
  · exact absurd hg (ids_nodup h _ _ q hi)
  · exact absurd hg.symm (ids_nodup h _ _ q hlt)
  · exact q
theorem idsB_zero {l : List (List UInt8)} {most : Nat} (h : idsB l most = true) (ho : IdsOk l) : l.length ≤ most ∧ isSetB l = true ∧ zero32 ∉ l := by
  unfold idsB at h
  simp only [Bool.and_eq_true, decide_eq_true_eq] at h
  refine ⟨h.1.1, h.1.2, fun hz => ?_⟩
  obtain ⟨i, hi, e⟩ := List.getElem_of_mem hz
  cases l with
  | nil => cases hz
  | cons a l =>
    have h2 : a ≠ zero32 := by simpa using h.2
    cases i with
    | zero => exact h2 e
    | succ i =>
      have h3 := (List.pairwise_iff_getElem.1 (isSetB_pair h.1.2)) 0 (i + 1) (by simp) hi (by omega)
      rw [e] at h3
      exact cmpB_zeros 32 a (ho a (by simp)) h3
theorem partsOf_cases {k : UInt8} {p : PartD} (h : partsOf k = some p) : (k = 1 ∧ p = (true, true, true, false, false)) ∨ (k = 2 ∧ p = (true, true, false, true, false)) ∨ (k = 3 ∧ p = (false, false, false, false, true)) ∨ (k = 4 ∧ p = (true, false, false, false, true)) ∨ (k = 5 ∧ p = (true, false, false, false, false)) := by
  unfold partsOf at h
  repeat (split at h; · rename_i hk; cases h; simp [hk])
  cases h
theorem foreign_in {deps : List (List UInt8)} {r : RefD} (h : foreignB deps r = true) : r.1 ∈ deps ∧ 0 ≤ r.2 := by
  unfold foreignB at h
  simp only [Bool.and_eq_true, decide_eq_true_eq] at h
  exact ⟨h.1.1.2, h.1.2⟩
theorem doc_in {deps : List (List UInt8)} {mk : List MadeD} {r : RefD} (h : docB deps mk r = true) : (r.1 = zero32 ∨ r.1 ∈ deps) ∧ 0 ≤ r.2 := by
  unfold docB at h
  split at h
  · have := foreign_in h; exact ⟨.inr this.1, this.2⟩
  · rename_i hz
    simp only [Bool.and_eq_true, decide_eq_true_eq] at h
    exact ⟨.inl (Classical.not_not.1 hz), h.1.1⟩
theorem elems_in {deps : List (List UInt8)} {mk : List MadeD} {r d : RefD} {n : Int} (h : elemsB deps mk r d n = true) : (r.1 = zero32 ∨ r.1 ∈ deps) ∧ 0 ≤ r.2 := by
  unfold elemsB at h
  split at h
  · have := foreign_in h; exact ⟨.inr this.1, this.2⟩
  · rename_i hz
    simp only [Bool.and_eq_true, decide_eq_true_eq] at h
    exact ⟨.inl (Classical.not_not.1 hz), h.1.1.1⟩
theorem fileB_size {s : ByteArray} (h : fileB s = true) : s.size ≤ 4096 := by
  unfold fileB at h
  simp only [Bool.and_eq_true, decide_eq_true_eq] at h
  exact h.1
theorem pathB_size {s : ByteArray} (h : pathB s = true) : s.size ≤ 64 := by
  unfold pathB at h
  simp only [Bool.and_eq_true, decide_eq_true_eq] at h
  exact h.1.1.2
theorem authorB_size {s : ByteArray} (h : authorB s = true) : s.size ≤ 32 := by
  unfold authorB at h
  simp only [Bool.and_eq_true, decide_eq_true_eq] at h
  exact h.1.2
theorem noteB_size {s : ByteArray} (h : noteB s = true) : s.size ≤ 256 := by
  unfold noteB at h
  simp only [Bool.and_eq_true, decide_eq_true_eq] at h
  exact h.1
/-- What an operation that may be names. -/
theorem op_names {deps : List (List UInt8)} {mk : List MadeD} {x : OpD} {p : PartD} (hp : partsOf x.1 = some p) (h : opB deps mk x = true) :
    (p.1 = true → (x.2.1.1 = zero32 ∨ x.2.1.1 ∈ deps) ∧ 0 ≤ x.2.1.2) ∧ (p.1 = false → x.2.1 = zeroRef) ∧ (p.2.1 = true → (x.2.2.1.1 = zero32 ∨ x.2.2.1.1 ∈ deps) ∧ 0 ≤ x.2.2.1.2) ∧ (p.2.1 = false → x.2.2.1 = zeroRef) ∧
    (p.2.2.1 = true → x.2.2.2.1.size ≤ 4096) ∧ (p.2.2.1 = false → x.2.2.2.1 = noneS) ∧ (p.2.2.2.1 = true → 0 ≤ x.2.2.2.2.1) ∧ (p.2.2.2.1 = false → x.2.2.2.2.1 = 0) ∧ (p.2.2.2.2 = true → x.2.2.2.2.2.size ≤ 4096) ∧ (p.2.2.2.2 = false → x.2.2.2.2.2 = noneS) := by
  obtain ⟨k, d, a, t, c, q⟩ := x
  unfold opB at h
  simp only at hp h ⊢
  rw [hp] at h
  simp only [absentB, Bool.and_eq_true] at h
  obtain ⟨⟨⟨⟨hab, hd⟩, hq⟩, h2⟩, h1⟩ := h
  have hat : k = 1 → (a.1 = zero32 ∨ a.1 ∈ deps) ∧ 0 ≤ a.2 := fun e => by
    subst e
    rcases partsOf_cases hp with ⟨_, rfl⟩ | ⟨e, _⟩ | ⟨e, _⟩ | ⟨e, _⟩ | ⟨e, _⟩
    · have hdd := doc_in (by simpa using hd : docB deps mk d = true)
      simp only [decide_true, Bool.not_true, Bool.false_or, Bool.and_eq_true, Bool.or_eq_true, decide_eq_true_eq] at h1
      rcases h1.1.1 with e | e
      · rw [e]; exact hdd
      · exact elems_in e
    all_goals exact absurd e (by decide)
  rcases partsOf_cases hp with ⟨rfl, rfl⟩ | ⟨rfl, rfl⟩ | ⟨rfl, rfl⟩ | ⟨rfl, rfl⟩ | ⟨rfl, rfl⟩
  · simp at hab hd hq h1 h2 ⊢
    exact ⟨doc_in hd, hat rfl, fileB_size h1.2, hab.1, hab.2⟩
  · simp at hab hd hq h1 h2 ⊢
    exact ⟨doc_in hd, elems_in h2.2, hab.1, by omega, hab.2⟩
  · simp at hab hd hq h1 h2 ⊢
    exact ⟨hab.1.1.1, hab.1.1.2, hab.1.2, hab.2, by have := pathB_size hq; omega⟩
  · simp at hab hd hq h1 h2 ⊢
    exact ⟨doc_in hd, hab.1.1, hab.1.2, hab.2, by have := pathB_size hq; omega⟩
  · simp at hab hd hq h1 h2 ⊢
    exact ⟨doc_in hd, hab.1.1.1, hab.1.1.2, hab.1.2, hab.2⟩
theorem ops_each {deps : List (List UInt8)} : ∀ {l : List OpD} {mk : List MadeD}, opsB deps mk l = true → ∀ x ∈ l, ∃ mk, opB deps mk x = true
  | [], _, _, _, h => by cases h
  | y :: l, mk, h, x, hx => by
    unfold opsB at h
    rw [Bool.and_eq_true] at h
    rcases List.mem_cons.1 hx with rfl | hx
    · exact ⟨mk, h.1⟩
    · exact ops_each h.2 x hx
end Go.Proofs.YthjaepmfkgejkaaDoor
namespace Go.Proofs.YthjaepmfkgejkaaDoor
open Go.RowKit
set_option linter.unusedVariables false

theorem may_any (r : Int) (w : World) (h0 : 0 ≤ r) (h1 : r ≤ 2147483647) : Calls Tryd.prog 122 #[.int .i32 r] w fun e w' =>
    w = w' ∧ e = .returned (.bool (mayB r))  := by
  by_cases a1 : r ≤ 1114111
  · by_cases a2 : r < 55296
    · rw [show mayB r = true by simp [mayB, h0, a1, a2]]
      go_enter Tryd.func122, Tryd.ntmps122
      go_wp2
      go_ret
      exact ⟨rfl, rfl⟩
    · rw [show mayB r = decide (57343 < r) by simp [mayB, h0, a1]; omega]
      have : 55296 ≤ r := by omega
      go_enter Tryd.func122, Tryd.ntmps122
      go_wp2
      go_ret
      exact ⟨rfl, rfl⟩
  · rw [show mayB r = false by simp [mayB]; omega]
    go_enter Tryd.func122, Tryd.ntmps122
    go_wp2
    go_ret
    exact ⟨rfl, rfl⟩

def lead (c : Nat) : Int × Nat × Nat :=
  if c < 128 then (0, c, 0) else if c < 192 then (-1, 0, 0) else if c < 224 then (1, c % 32, 128) else if c < 240 then (2, c % 16, 2048)
  else if c < 248 then (3, c % 8, 65536) else (-1, 0, 0)
theorem lead1 {c : Nat} (h : c < 128) : lead c = (0, c, 0) := by simp [lead, h]
theorem leadX {c : Nat} (h : 128 ≤ c ∧ c < 192 ∨ 248 ≤ c) : lead c = (-1, 0, 0) := by
  unfold lead; rw [if_neg (by omega)]; by_cases b : c < 192
  · rw [if_pos b]
  · rw [if_neg b, if_neg (by omega), if_neg (by omega), if_neg (by omega)]
theorem lead2 {c : Nat} (h : 192 ≤ c ∧ c < 224) : lead c = (1, c % 32, 128) := by
  unfold lead; rw [if_neg (by omega), if_neg (by omega), if_pos (by omega)]
theorem lead3 {c : Nat} (h : 224 ≤ c ∧ c < 240) : lead c = (2, c % 16, 2048) := by
  unfold lead; rw [if_neg (by omega), if_neg (by omega), if_neg (by omega), if_pos (by omega)]
theorem lead4 {c : Nat} (h : 240 ≤ c ∧ c < 248) : lead c = (3, c % 8, 65536) := by
  unfold lead; rw [if_neg (by omega), if_neg (by omega), if_neg (by omega), if_neg (by omega), if_pos (by omega)]

set_option maxRecDepth 100000 in
theorem lead_any (c : Nat) (w : World) (hc : c < 256) : Calls Tryd.prog 121 #[.int .u8 c] w fun e w' =>
    w = w' ∧ e = .returned (.tuple #[.int .i64 (lead c).1, .int .i32 (lead c).2.1, .int .i32 (lead c).2.2])  := by
  rcases (by omega : c < 128 ∨ (128 ≤ c ∧ c < 192) ∨ (192 ≤ c ∧ c < 224) ∨ (224 ≤ c ∧ c < 240) ∨ (240 ≤ c ∧ c < 248) ∨ 248 ≤ c) with a | a | a | a | a | a
  · rw [lead1 a]
    go_enter Tryd.func121, Tryd.ntmps121
    go_wp2
    go_ret3
    exact ⟨rfl, rfl⟩
  · rw [leadX (.inl a)]
    go_enter Tryd.func121, Tryd.ntmps121
    go_wp2
    go_ret3
    exact ⟨rfl, rfl⟩
  · rw [lead2 a]
    go_enter Tryd.func121, Tryd.ntmps121
    go_wp2
    go_ret3
    exact ⟨rfl, rfl⟩
  · rw [lead3 a]
    go_enter Tryd.func121, Tryd.ntmps121
    go_wp2
    go_ret3
    exact ⟨rfl, rfl⟩
  · rw [lead4 a]
    go_enter Tryd.func121, Tryd.ntmps121
    go_wp2
    go_ret3
    exact ⟨rfl, rfl⟩
  · rw [leadX (.inr a)]
    go_enter Tryd.func121, Tryd.ntmps121
    go_wp2
    go_ret3
    exact ⟨rfl, rfl⟩

theorem high2 : ∀ c : Fin 256, (bits BinOp.and IntKind.u8 ((c.val : Nat) : Int) 192 == 128) = (c.val / 64 == 2) := by
  decide +kernel
theorem high_yes {c : Nat} (h : c < 256) (g : c / 64 = 2) : (bits BinOp.and IntKind.u8 (c : Int) 192 == 128) = true ∧ (bits BinOp.and IntKind.u8 (c : Int) 192 != 128) = false := by
  have := high2 ⟨c, h⟩
  simp only [g] at this
  exact ⟨this, by simp [bne, this]⟩
theorem high_no {c : Nat} (h : c < 256) (g : ¬ c / 64 = 2) : (bits BinOp.and IntKind.u8 (c : Int) 192 == 128) = false ∧ (bits BinOp.and IntKind.u8 (c : Int) 192 != 128) = true := by
  have := high2 ⟨c, h⟩
  simp only [beq_eq_false_iff_ne.2 g] at this
  exact ⟨this, by simp [bne, this]⟩

/-- What decode gives at a place: the rune and where its bytes end; or 'false'. -/
def DecGives (s : ByteArray) (i : Nat) (w : World) (e : Ending) (w' : World) : Prop :=
  w = w' ∧ (okAt s i = true ∧ e = .returned (.tuple #[.int .i32 (Utf8.decode s i).1, .int .i64 ((i + (Utf8.decode s i).2 : Nat) : Int), .bool true]) ∨
    okAt s i = false ∧ ∃ r n : Int, e = .returned (.tuple #[.int .i32 r, .int .i64 n, .bool false]))
theorem DecGives.yes {s : ByteArray} {i r n : Nat} {w : World} {e : Ending} (k : okAt s i = true) (d : Utf8.decode s i = (r, n)) (h : e = .returned (.tuple #[.int .i32 r, .int .i64 ((i + n : Nat) : Int), .bool true])) : DecGives s i w e w :=
  ⟨rfl, .inl ⟨k, by rw [d]; exact h⟩⟩
theorem DecGives.no {s : ByteArray} {i : Nat} {r n : Int} {w : World} {e : Ending} (k : okAt s i = false) (h : e = .returned (.tuple #[.int .i32 r, .int .i64 n, .bool false])) : DecGives s i w e w :=
  ⟨rfl, .inr ⟨k, _, _, h⟩⟩
theorem ret_tup3 {a b a' b' : Int} {x y : Bool} (h1 : a = a') (h2 : b = b') (h3 : x = y) : Ending.returned (.tuple #[.int .i32 a, .int .i64 b, .bool x]) = .returned (.tuple #[.int .i32 a', .int .i64 b', .bool y]) := by rw [h1, h2, h3]

set_option maxRecDepth 100000 in
theorem decode1 (s : ByteArray) (i : Nat) (w : World) (h0 : i < s.size) (hs : s.size ≤ maxLen) (h : B s i < 128) :
    Calls Tryd.prog 95 #[.string s, .int .i64 i] w (DecGives s i w) := by
  unfold maxLen at hs
  have hb := getB s
  have hB := B_lt s i
  have hsz : (i : Int) < (s.size : Int) := by omega
  go_enter Tryd.func95, Tryd.ntmps95
  go_wp2_with fail
  refine (lead_any _ _ hB).mono ?_
  rw [lead1 h]
  rintro e w' ⟨rfl, rfl⟩
  go_wp2_with fail
  refine wp_loop_rounds 1 ?_
  rw [rounds_succ]
  go_wp2_with (go_at_call 122; refine (may_any _ _ (by omega) (by omega)).mono ?_; rintro e w' ⟨rfl, rfl⟩)
  go_ret3
  have d := dec1 h
  exact .yes d.2 d.1 (ret_tup3 rfl (by omega) (by simp [mayB]; omega))

set_option maxRecDepth 100000 in
theorem decodeX (s : ByteArray) (i : Nat) (w : World) (h0 : i < s.size) (hs : s.size ≤ maxLen) (h : 128 ≤ B s i ∧ B s i < 192 ∨ 248 ≤ B s i) :
    Calls Tryd.prog 95 #[.string s, .int .i64 i] w (DecGives s i w) := by
  unfold maxLen at hs
  have hb := getB s
  have hB := B_lt s i
  have hsz : (i : Int) < (s.size : Int) := by omega
  go_enter Tryd.func95, Tryd.ntmps95
  go_wp2_with fail
  refine (lead_any _ _ hB).mono ?_
  rw [leadX h]
  rintro e w' ⟨rfl, rfl⟩
  go_wp2_with fail
  go_ret3
  exact .no (dec_lone h) rfl

set_option maxHeartbeats 2000000 in
set_option maxRecDepth 1000000 in
theorem decode2 (s : ByteArray) (i : Nat) (w : World) (h0 : i < s.size) (hs : s.size ≤ maxLen) (h : 192 ≤ B s i ∧ B s i < 224) :
    Calls Tryd.prog 95 #[.string s, .int .i64 i] w (DecGives s i w) := by
  unfold maxLen at hs
  have hb := getB s
  have hB := B_lt s i
  have hB1 := B_lt s (i + 1)
  have hsz : (i : Int) < (s.size : Int) := by omega
  by_cases hl : s.size ≤ i + 1
  · go_enter Tryd.func95, Tryd.ntmps95
    go_wp2_with fail
    refine (lead_any _ _ hB).mono ?_
    rw [lead2 h]
    rintro e w' ⟨rfl, rfl⟩
    go_wp2_with fail
    go_ret3
    exact .no (dec2_no h (not_cont (.inl (by omega)))) rfl
  by_cases c1 : ¬ B s (i + 1) / 64 = 2
  · have ⟨q1, p1⟩ := high_no hB1 c1
    go_enter Tryd.func95, Tryd.ntmps95
    go_wp2_with fail
    refine (lead_any _ _ hB).mono ?_
    rw [lead2 h]
    rintro e w' ⟨rfl, rfl⟩
    go_wp2_with fail
    refine wp_loop_rounds 1 ?_
    rw [rounds_succ]
    go_wp2_with fail
    go_ret3
    exact .no (dec2_no h (not_cont (.inr c1))) rfl
  have c1' : B s (i + 1) / 64 = 2 := by omega
  have ⟨q1, p1⟩ := high_yes hB1 c1'
  have G1 := Lib.hid (cont_of (s := s) (k := i + 1) (by omega) c1')
  clear c1 c1'
  have hv : (((B s i : Nat) : Int) % 32) * 64 + ((B s (i + 1) : Nat) : Int) % 64 = ((v2 s i : Nat) : Int) := by unfold v2; omega
  have HV := Lib.hid hv; clear hv
  by_cases v : 128 ≤ v2 s i
  · have v' : (128 : Int) ≤ (((B s i : Nat) : Int) % 32) * 64 + ((B s (i + 1) : Nat) : Int) % 64 := by rw [HV.out]; omega
    go_enter Tryd.func95, Tryd.ntmps95
    go_wp2_with fail
    refine (lead_any _ _ hB).mono ?_
    rw [lead2 h]
    rintro e w' ⟨rfl, rfl⟩
    go_wp2_with fail
    refine wp_loop_rounds 2 ?_
    rw [rounds_succ]
    go_wp2_with fail
    rw [rounds_succ]
    go_wp2_with (go_at_call 122; refine (may_any _ _ (by omega) (by omega)).mono ?_; rintro e w' ⟨rfl, rfl⟩)
    go_ret3
    rcases dec2 h G1.out with ⟨_, d, k⟩ | ⟨d, k⟩
    · exact .yes k d (ret_tup3 HV.out (by omega) (by simp [mayB]; omega))
    · omega
  · have v' : ¬ (128 : Int) ≤ (((B s i : Nat) : Int) % 32) * 64 + ((B s (i + 1) : Nat) : Int) % 64 := by rw [HV.out]; omega
    go_enter Tryd.func95, Tryd.ntmps95
    go_wp2_with fail
    refine (lead_any _ _ hB).mono ?_
    rw [lead2 h]
    rintro e w' ⟨rfl, rfl⟩
    go_wp2_with fail
    refine wp_loop_rounds 2 ?_
    rw [rounds_succ]
    go_wp2_with fail
    rw [rounds_succ]
    go_wp2_with fail
    go_ret3
    rcases dec2 h G1.out with ⟨d, _⟩ | ⟨_, k⟩
    · omega
    · exact .no k rfl

set_option maxHeartbeats 2000000 in
set_option maxRecDepth 1000000 in
theorem decode3 (s : ByteArray) (i : Nat) (w : World) (h0 : i < s.size) (hs : s.size ≤ maxLen) (h : 224 ≤ B s i ∧ B s i < 240) :
    Calls Tryd.prog 95 #[.string s, .int .i64 i] w (DecGives s i w) := by
  unfold maxLen at hs
  have hb := getB s
  have hB := B_lt s i
  have hB1 := B_lt s (i + 1)
  have hB2 := B_lt s (i + 1 + 1)
  have hsz : (i : Int) < (s.size : Int) := by omega
  by_cases hl : s.size ≤ i + 2
  · go_enter Tryd.func95, Tryd.ntmps95
    go_wp2_with fail
    refine (lead_any _ _ hB).mono ?_
    rw [lead3 h]
    rintro e w' ⟨rfl, rfl⟩
    go_wp2_with fail
    go_ret3
    exact .no (dec3_no h (.inr (not_cont (.inl (by omega))))) rfl
  by_cases c1 : ¬ B s (i + 1) / 64 = 2
  · have ⟨q1, p1⟩ := high_no hB1 c1
    go_enter Tryd.func95, Tryd.ntmps95
    go_wp2_with fail
    refine (lead_any _ _ hB).mono ?_
    rw [lead3 h]
    rintro e w' ⟨rfl, rfl⟩
    go_wp2_with fail
    refine wp_loop_rounds 1 ?_
    rw [rounds_succ]
    go_wp2_with fail
    go_ret3
    exact .no (dec3_no h (.inl (not_cont (.inr c1)))) rfl
  have c1' : B s (i + 1) / 64 = 2 := by omega
  have ⟨q1, p1⟩ := high_yes hB1 c1'
  have G1 := Lib.hid (cont_of (s := s) (k := i + 1) (by omega) c1')
  clear c1 c1'
  by_cases c2 : ¬ B s (i + 1 + 1) / 64 = 2
  · have ⟨q2, p2⟩ := high_no hB2 c2
    go_enter Tryd.func95, Tryd.ntmps95
    go_wp2_with fail
    refine (lead_any _ _ hB).mono ?_
    rw [lead3 h]
    rintro e w' ⟨rfl, rfl⟩
    go_wp2_with fail
    refine wp_loop_rounds 2 ?_
    rw [rounds_succ]
    go_wp2_with fail
    rw [rounds_succ]
    go_wp2_with fail
    go_ret3
    exact .no (dec3_no h (.inr (not_cont (.inr c2)))) rfl
  have c2' : B s (i + 1 + 1) / 64 = 2 := by omega
  have ⟨q2, p2⟩ := high_yes hB2 c2'
  have G2 := Lib.hid (cont_of (s := s) (k := i + 1 + 1) (by omega) c2')
  clear c2 c2'
  have hv : ((((B s i : Nat) : Int) % 16) * 64 + ((B s (i + 1) : Nat) : Int) % 64) * 64 + ((B s (i + 1 + 1) : Nat) : Int) % 64 = ((v3 s i : Nat) : Int) := by unfold v3; rw [show i + 2 = i + 1 + 1 from rfl]; omega
  have HV := Lib.hid hv; clear hv
  by_cases v : 2048 ≤ v3 s i
  · have v' : (2048 : Int) ≤ ((((B s i : Nat) : Int) % 16) * 64 + ((B s (i + 1) : Nat) : Int) % 64) * 64 + ((B s (i + 1 + 1) : Nat) : Int) % 64 := by rw [HV.out]; omega
    go_enter Tryd.func95, Tryd.ntmps95
    go_wp2_with fail
    refine (lead_any _ _ hB).mono ?_
    rw [lead3 h]
    rintro e w' ⟨rfl, rfl⟩
    go_wp2_with fail
    refine wp_loop_rounds 3 ?_
    rw [rounds_succ]
    go_wp2_with fail
    rw [rounds_succ]
    go_wp2_with fail
    rw [rounds_succ]
    go_wp2_with (go_at_call 122; refine (may_any _ _ (by omega) (by omega)).mono ?_; rintro e w' ⟨rfl, rfl⟩)
    go_ret3
    rcases dec3 h G1.out G2.out with ⟨_, hm, d, k⟩ | ⟨d, k⟩
    · exact .yes k d (ret_tup3 HV.out (by omega) (by rw [HV.out]; exact hm))
    · have hm : mayB (v3 s i) = false := d.resolve_left (by omega)
      exact .no k (ret_tup3 rfl rfl (by rw [HV.out]; exact hm))
  · have v' : ¬ (2048 : Int) ≤ ((((B s i : Nat) : Int) % 16) * 64 + ((B s (i + 1) : Nat) : Int) % 64) * 64 + ((B s (i + 1 + 1) : Nat) : Int) % 64 := by rw [HV.out]; omega
    go_enter Tryd.func95, Tryd.ntmps95
    go_wp2_with fail
    refine (lead_any _ _ hB).mono ?_
    rw [lead3 h]
    rintro e w' ⟨rfl, rfl⟩
    go_wp2_with fail
    refine wp_loop_rounds 3 ?_
    rw [rounds_succ]
    go_wp2_with fail
    rw [rounds_succ]
    go_wp2_with fail
    rw [rounds_succ]
    go_wp2_with fail
    go_ret3
    rcases dec3 h G1.out G2.out with ⟨d, _⟩ | ⟨_, k⟩
    · omega
    · exact .no k rfl

set_option maxHeartbeats 2000000 in
set_option maxRecDepth 1000000 in
theorem decode4 (s : ByteArray) (i : Nat) (w : World) (h0 : i < s.size) (hs : s.size ≤ maxLen) (h : 240 ≤ B s i ∧ B s i < 248) :
    Calls Tryd.prog 95 #[.string s, .int .i64 i] w (DecGives s i w) := by
  unfold maxLen at hs
  have hb := getB s
  have hB := B_lt s i
  have hB1 := B_lt s (i + 1)
  have hB2 := B_lt s (i + 1 + 1)
  have hB3 := B_lt s (i + 1 + 2)
  have hsz : (i : Int) < (s.size : Int) := by omega
  by_cases hl : s.size ≤ i + 3
  · go_enter Tryd.func95, Tryd.ntmps95
    go_wp2_with fail
    refine (lead_any _ _ hB).mono ?_
    rw [lead4 h]
    rintro e w' ⟨rfl, rfl⟩
    go_wp2_with fail
    go_ret3
    exact .no (dec4_no h (.inr (.inr (not_cont (.inl (by omega)))))) rfl
  by_cases c1 : ¬ B s (i + 1) / 64 = 2
  · have ⟨q1, p1⟩ := high_no hB1 c1
    go_enter Tryd.func95, Tryd.ntmps95
    go_wp2_with fail
    refine (lead_any _ _ hB).mono ?_
    rw [lead4 h]
    rintro e w' ⟨rfl, rfl⟩
    go_wp2_with fail
    refine wp_loop_rounds 1 ?_
    rw [rounds_succ]
    go_wp2_with fail
    go_ret3
    exact .no (dec4_no h (.inl (not_cont (.inr c1)))) rfl
  have c1' : B s (i + 1) / 64 = 2 := by omega
  have ⟨q1, p1⟩ := high_yes hB1 c1'
  have G1 := Lib.hid (cont_of (s := s) (k := i + 1) (by omega) c1')
  clear c1 c1'
  by_cases c2 : ¬ B s (i + 1 + 1) / 64 = 2
  · have ⟨q2, p2⟩ := high_no hB2 c2
    go_enter Tryd.func95, Tryd.ntmps95
    go_wp2_with fail
    refine (lead_any _ _ hB).mono ?_
    rw [lead4 h]
    rintro e w' ⟨rfl, rfl⟩
    go_wp2_with fail
    refine wp_loop_rounds 2 ?_
    rw [rounds_succ]
    go_wp2_with fail
    rw [rounds_succ]
    go_wp2_with fail
    go_ret3
    exact .no (dec4_no h (.inr (.inl (not_cont (.inr c2))))) rfl
  have c2' : B s (i + 1 + 1) / 64 = 2 := by omega
  have ⟨q2, p2⟩ := high_yes hB2 c2'
  have G2 := Lib.hid (cont_of (s := s) (k := i + 1 + 1) (by omega) c2')
  clear c2 c2'
  by_cases c3 : ¬ B s (i + 1 + 2) / 64 = 2
  · have ⟨q3, p3⟩ := high_no hB3 c3
    go_enter Tryd.func95, Tryd.ntmps95
    go_wp2_with fail
    refine (lead_any _ _ hB).mono ?_
    rw [lead4 h]
    rintro e w' ⟨rfl, rfl⟩
    go_wp2_with fail
    refine wp_loop_rounds 3 ?_
    rw [rounds_succ]
    go_wp2_with fail
    rw [rounds_succ]
    go_wp2_with fail
    rw [rounds_succ]
    go_wp2_with fail
    go_ret3
    exact .no (dec4_no h (.inr (.inr (not_cont (.inr c3))))) rfl
  have c3' : B s (i + 1 + 2) / 64 = 2 := by omega
  have ⟨q3, p3⟩ := high_yes hB3 c3'
  have G3 := Lib.hid (cont_of (s := s) (k := i + 1 + 2) (by omega) c3')
  clear c3 c3'
  have hv : (((((B s i : Nat) : Int) % 8) * 64 + ((B s (i + 1) : Nat) : Int) % 64) * 64 + ((B s (i + 1 + 1) : Nat) : Int) % 64) * 64 + ((B s (i + 1 + 2) : Nat) : Int) % 64 = ((v4 s i : Nat) : Int) := by unfold v4; rw [show i + 2 = i + 1 + 1 from rfl, show i + 3 = i + 1 + 2 from rfl]; omega
  have HV := Lib.hid hv; clear hv
  by_cases v : 65536 ≤ v4 s i
  · have v' : (65536 : Int) ≤ (((((B s i : Nat) : Int) % 8) * 64 + ((B s (i + 1) : Nat) : Int) % 64) * 64 + ((B s (i + 1 + 1) : Nat) : Int) % 64) * 64 + ((B s (i + 1 + 2) : Nat) : Int) % 64 := by rw [HV.out]; omega
    go_enter Tryd.func95, Tryd.ntmps95
    go_wp2_with fail
    refine (lead_any _ _ hB).mono ?_
    rw [lead4 h]
    rintro e w' ⟨rfl, rfl⟩
    go_wp2_with fail
    refine wp_loop_rounds 4 ?_
    rw [rounds_succ]
    go_wp2_with fail
    rw [rounds_succ]
    go_wp2_with fail
    rw [rounds_succ]
    go_wp2_with fail
    rw [rounds_succ]
    go_wp2_with (go_at_call 122; refine (may_any _ _ (by omega) (by omega)).mono ?_; rintro e w' ⟨rfl, rfl⟩)
    go_ret3
    rcases dec4 h G1.out G2.out G3.out with ⟨_, hm, d, k⟩ | ⟨d, k⟩
    · exact .yes k d (ret_tup3 HV.out (by omega) (by rw [HV.out]; exact hm))
    · have hm : mayB (v4 s i) = false := d.resolve_left (by omega)
      exact .no k (ret_tup3 rfl rfl (by rw [HV.out]; exact hm))
  · have v' : ¬ (65536 : Int) ≤ (((((B s i : Nat) : Int) % 8) * 64 + ((B s (i + 1) : Nat) : Int) % 64) * 64 + ((B s (i + 1 + 1) : Nat) : Int) % 64) * 64 + ((B s (i + 1 + 2) : Nat) : Int) % 64 := by rw [HV.out]; omega
    go_enter Tryd.func95, Tryd.ntmps95
    go_wp2_with fail
    refine (lead_any _ _ hB).mono ?_
    rw [lead4 h]
    rintro e w' ⟨rfl, rfl⟩
    go_wp2_with fail
    refine wp_loop_rounds 4 ?_
    rw [rounds_succ]
    go_wp2_with fail
    rw [rounds_succ]
    go_wp2_with fail
    rw [rounds_succ]
    go_wp2_with fail
    rw [rounds_succ]
    go_wp2_with fail
    go_ret3
    rcases dec4 h G1.out G2.out G3.out with ⟨d, _⟩ | ⟨_, k⟩
    · omega
    · exact .no k rfl


theorem decode_any (s : ByteArray) (i : Nat) (w : World) (h0 : i < s.size) (hs : s.size ≤ maxLen) :
    Calls Tryd.prog 95 #[.string s, .int .i64 i] w (DecGives s i w) := by
  have := B_lt s i
  rcases (by omega : B s i < 128 ∨ (128 ≤ B s i ∧ B s i < 192 ∨ 248 ≤ B s i) ∨ (192 ≤ B s i ∧ B s i < 224) ∨ (224 ≤ B s i ∧ B s i < 240) ∨ (240 ≤ B s i ∧ B s i < 248)) with h | h | h | h | h
  · exact decode1 s i w h0 hs h
  · exact decodeX s i w h0 hs h
  · exact decode2 s i w h0 hs h
  · exact decode3 s i w h0 hs h
  · exact decode4 s i w h0 hs h
end Go.Proofs.YthjaepmfkgejkaaDoor
namespace Go.Proofs.YthjaepmfkgejkaaDoor
open Go.RowKit
set_option linter.unusedVariables false

/-- What Check says: 0, OK; or a place, ErrText. -/
def ChkGives (s : ByteArray) (w : World) (e : Ending) (w' : World) : Prop :=
  w = w' ∧ (isText s = true ∧ e = .returned (.tuple #[.int .i64 0, .int .i64 0]) ∨ isText s = false ∧ ∃ n : Int, e = .returned (.tuple #[.int .i64 n, .int .i64 5]))

set_option maxRecDepth 100000 in
theorem check_any (s : ByteArray) (w : World) (hs : s.size ≤ maxLen) :
    Calls Tryd.prog 64 #[.string s] w (ChkGives s w) := by
  have hs' := hs
  unfold maxLen at hs
  go_enter Tryd.func64, Tryd.ntmps64
  go_wp2
  go_loop [2] (fun t => ∃ k : Nat, k ≤ s.size ∧ t = .int .i64 k ∧ Hid (isText s = (runesAt s k).isSome)) (fun t => s.size - (intOf t).toNat)
  case atStart => exact ⟨0, Nat.zero_le _, rfl, Lib.hid rfl⟩
  case round =>
    obtain ⟨k, hk, rfl, hR⟩ := hrel
    by_cases hlt : k < s.size
    · have hin := dec_in hlt
      go_wp2_with fail
      refine (decode_any s k _ hlt hs').mono ?_
      rintro e w' ⟨rfl, ⟨ho, rfl⟩ | ⟨ho, r, n, rfl⟩⟩
      · have HO := Lib.hid ho; clear ho
        go_wp2_with fail
        go_round
        case rel => exact ⟨k + (Utf8.decode s k).2, by omega, rfl, Lib.hid (by rw [hR.out, runesAt_ok hlt HO.out]; simp)⟩
        case measure => simp [intOf]; omega
      · have HO := Lib.hid ho; clear ho
        go_wp2_with fail
        go_ret2
        exact ⟨rfl, .inr ⟨by rw [hR.out, runesAt_bad hlt HO.out]; rfl, _, rfl⟩⟩
    · go_wp2_with fail
      go_ret2
      exact ⟨rfl, .inl ⟨by rw [hR.out, runesAt_end (by omega)]; rfl, rfl⟩⟩

end Go.Proofs.YthjaepmfkgejkaaDoor
namespace Go.Proofs
open Go.Shelf
open Go.RowKit Go.Sort Go.Lib in
def Tryd.lays146_ren : Go.Shelf.Ren := ⟨fun | 146 => 120 | 221 => 129 | 268 => 139 | 138 => 140 | 143 => 141 | 195 => 150 | 197 => 151 | 218 => 152 | 219 => 153 | 260 => 156 | 217 => 157 | 225 => 158 | 224 => 159 | 267 => 160 | 266 => 161 | 314 => 162 | n => n, fun | 9 => 9 | 31 => 56 | 3 => 3 | 4 => 4 | 0 => 0 | 105 => 209 | 21 => 21 | 5 => 5 | 46 => 129 | 119 => 227 | 139 => 230 | 138 => 229 | 146 => 231 | 51 => 175 | n => n, fun | 1 => 0 | 3 => 4 | 4 => 5 | n => n⟩
theorem Tryd.lays146 : Go.Proofs.Lays.n146 Tryd.prog Tryd.lays146_ren := {
  mixed := by kernel_rfl
  f138 := Tryd.func140.trans (congrArg some (by kernel_rfl))
  f143 := Tryd.func141.trans (congrArg some (by kernel_rfl))
  f146 := Tryd.func120.trans (congrArg some (by kernel_rfl))
  f195 := Tryd.func150.trans (congrArg some (by kernel_rfl))
  f197 := Tryd.func151.trans (congrArg some (by kernel_rfl))
  f217 := Tryd.func157.trans (congrArg some (by kernel_rfl))
  f218 := Tryd.func152.trans (congrArg some (by kernel_rfl))
  f219 := Tryd.func153.trans (congrArg some (by kernel_rfl))
  f221 := Tryd.func129.trans (congrArg some (by kernel_rfl))
  f224 := Tryd.func159.trans (congrArg some (by kernel_rfl))
  f225 := Tryd.func158.trans (congrArg some (by kernel_rfl))
  f260 := Tryd.func156.trans (congrArg some (by kernel_rfl))
  f266 := Tryd.func161.trans (congrArg some (by kernel_rfl))
  f267 := Tryd.func160.trans (congrArg some (by kernel_rfl))
  f268 := Tryd.func139.trans (congrArg some (by kernel_rfl))
  f314 := Tryd.func162.trans (congrArg some (by kernel_rfl))
  t0 := Tryd.underlying0
  a0 := Tryd.isAgg0
  z0 := Tryd.sizeOf0
  v0 := Tryd.zeroValue0
  t3 := Tryd.underlying3
  a3 := Tryd.isAgg3
  z3 := Tryd.sizeOf3
  v3 := Tryd.zeroValue3
  t4 := Tryd.underlying4
  a4 := Tryd.isAgg4
  z4 := Tryd.sizeOf4
  v4 := Tryd.zeroValue4
  t5 := Tryd.underlying5
  a5 := Tryd.isAgg5
  z5 := Tryd.sizeOf5
  v5 := Tryd.zeroValue5
  t9 := Tryd.underlying9
  a9 := Tryd.isAgg9
  z9 := Tryd.sizeOf9
  v9 := Tryd.zeroValue9
  t21 := Tryd.underlying21
  a21 := Tryd.isAgg21
  z21 := Tryd.sizeOf21
  v21 := Tryd.zeroValue21
  t31 := Tryd.underlying56
  a31 := Tryd.isAgg56
  z31 := Tryd.sizeOf56
  v31 := Tryd.zeroValue56
  t46 := Tryd.underlying129
  a46 := Tryd.isAgg129
  z46 := Tryd.sizeOf129
  v46 := Tryd.zeroValue129
  t51 := Tryd.underlying175
  a51 := Tryd.isAgg175
  z51 := Tryd.sizeOf175
  v51 := Tryd.zeroValue175
  t105 := Tryd.underlying209
  a105 := Tryd.isAgg209
  z105 := Tryd.sizeOf209
  v105 := Tryd.zeroValue209
  t119 := Tryd.underlying227
  a119 := Tryd.isAgg227
  z119 := Tryd.sizeOf227
  t138 := Tryd.underlying229
  a138 := Tryd.isAgg229
  z138 := Tryd.sizeOf229
  v138 := Tryd.zeroValue229
  t139 := Tryd.underlying230
  a139 := Tryd.isAgg230
  z139 := Tryd.sizeOf230
  v139 := Tryd.zeroValue230
  t146 := Tryd.underlying231
  a146 := Tryd.isAgg231
  z146 := Tryd.sizeOf231
  v146 := Tryd.zeroValue231
  g1 := by kernel_rfl
  g3 := by kernel_rfl
  g4 := by kernel_rfl }
open Go.RowKit Go.Lib in
theorem Tryd.strings_Split (s sep : ByteArray) (m : Int) (w : World) (hs : s.size < 4294967281) (hm : w.cell? ⟨0, 0, none⟩ = some (.int .i64 m)) (h1 : 1 ≤ sep.size) :
    Calls Tryd.prog 120 #[.string s, .string sep] w fun e w' =>
      e = .returned (.slice (some ⟨w.heap.size, 0, none⟩) (Lib.countB s sep + 1) (Lib.countB s sep + 1)) ∧ w' = w.alloc (.cells ((Lib.splitB sep 0 (Lib.countB s sep) s).map Value.string).toArray 9) := Any.strings_Split Tryd.lays146 (by kernel_rfl) s sep m w hs hm h1
end Go.Proofs
namespace Go.Proofs.YthjaepmfkgejkaaDoor
open Go.RowKit
set_option linter.unusedVariables false

theorem ret_bool {a b : Bool} (h : a = b) : Ending.returned (.bool a) = .returned (.bool b) := by rw [h]

theorem shown_any (r : Nat) (w : World) (hr : r ≤ 2147483647) : Calls Tryd.prog 87 #[.int .i32 r] w fun e w' => w = w' ∧ e = .returned (.bool (shownB r)) := by
  have hy : 32 ≤ r ∧ r ≠ 127 → shownB r = true := by intro h; simp [shownB, h]
  have hn : ¬ (32 ≤ r ∧ r ≠ 127) → shownB r = false := by intro h; rw [Bool.eq_false_iff]; simp [shownB]; omega
  rcases (by omega : r < 32 ∨ r = 127 ∨ (32 ≤ r ∧ r < 127) ∨ 127 < r) with h | h | h | h
  all_goals
    first
    | rw [hy (by omega)]
    | rw [hn (by omega)]
    clear hy hn
    first
    | (subst h; go_enter Tryd.func87, Tryd.ntmps87; go_wp2; go_ret; refine ⟨rfl, ret_bool ?_⟩; simp; done)
    | (go_enter Tryd.func87, Tryd.ntmps87; go_wp2; go_ret; refine ⟨rfl, ret_bool ?_⟩; simp; omega)
    | (go_enter Tryd.func87, Tryd.ntmps87; go_wp2; go_ret; refine ⟨rfl, ret_bool ?_⟩; simp; done)
    | (go_enter Tryd.func87, Tryd.ntmps87; go_wp2; go_ret; refine ⟨rfl, ret_bool ?_⟩; simp; omega)

theorem yes_any (r : Nat) (w : World) : Calls Tryd.prog 93 #[.int .i32 r] w fun e w' => w = w' ∧ e = .returned (.bool true) := by
  go_enter Tryd.func93, Tryd.ntmps93
  go_wp2
  go_ret
  exact ⟨rfl, rfl⟩

theorem all_head {p : Nat → Bool} {s : ByteArray} {k : Nat} (h : k < s.size) (ho : okAt s k = true) :
    ((runesAt s k).map (·.all p)) = (((runesAt s (k + (Utf8.decode s k).2)).map (·.all p)).map (p (Utf8.decode s k).1 && ·)) := by
  rw [runesAt_ok h ho]
  cases runesAt s (k + (Utf8.decode s k).2) <;> simp

/-- A text that is one: each place that is come to is right. -/
def okFrom (s : ByteArray) (k : Nat) : Prop := (runesAt s k).isSome = true
theorem okFrom.at_ {s : ByteArray} {k : Nat} (h : okFrom s k) (hk : k < s.size) : okAt s k = true ∧ okFrom s (k + (Utf8.decode s k).2) := by
  cases ho : okAt s k
  · unfold okFrom at h; rw [runesAt_bad hk ho] at h; cases h
  · refine ⟨rfl, ?_⟩
    unfold okFrom at h ⊢
    rw [runesAt_ok hk ho] at h
    simpa using h

set_option maxHeartbeats 1000000 in
set_option maxRecDepth 100000 in
theorem plain_shown (s : ByteArray) (w : World) (hs : s.size ≤ maxLen) :
    Calls Tryd.prog 86 #[.string s, .func (.func 87) #[] #[]] w fun e w' => Below w.heap.size w w' ∧ e = .returned (.bool (plainB s shownB)) := by
  go_enter Tryd.func86, Tryd.ntmps86
  go_wp2_with fail
  refine (check_any s _ hs).mono ?_
  rintro e w1 ⟨rfl, ⟨ht, rfl⟩ | ⟨ht, n, rfl⟩⟩
  · have hpl : plainB s shownB = ((runesAt s 0).map (·.all shownB)).getD false := by
      unfold plainB; rw [runesOf_eq]
      cases runesAt s 0 <;> rfl
    have HP := Lib.hid hpl; clear hpl
    have hok : okFrom s 0 := ht
    have HK := Lib.hid hok; clear hok
    clear ht
    unfold maxLen at hs
    go_wp2_with fail
    go_loopw [] (fun wr => ∃ k : Nat, k ≤ s.size ∧ wr = w.iter s k ∧ Hid (okFrom s k) ∧ Hid (plainB s shownB = ((runesAt s k).map (·.all shownB)).getD false)) (fun wr => s.size - wr.iterPos w.heap.size)
    case atStart => exact ⟨0, by omega, rfl, HK, HP⟩
    case round =>
      obtain ⟨k, hk, rfl, hK, hR⟩ := hrel
      by_cases hp : k < s.size
      · have hnx : ∀ ty, (Instr.next (.pointer (some ⟨w.heap.size, 0, none⟩)) true ty).run Tryd.prog (w.iter s k) = _ := fun ty => run_next_any w s k ty hp
        have hin := dec_in hp
        have hrl := decode_le s k
        obtain ⟨ho, hk2⟩ := hK.out.at_ hp
        have HO := Lib.hid ho; clear ho
        have HK2 := Lib.hid hk2; clear hk2
        cases hpr : shownB (Utf8.decode s k).1
        · have HPR := Lib.hid hpr; clear hpr
          go_wp2_with fail
          refine (shown_any _ _ hrl).mono ?_
          rintro e w2 ⟨rfl, rfl⟩
          rw [HPR.out]
          go_wp2_with fail
          go_ret
          refine ⟨(Below.refl _ w).alloc (Nat.le_refl _) _, ?_⟩
          rw [hR.out, all_head hp HO.out, HPR.out]
          cases runesAt s (k + (Utf8.decode s k).2) <;> rfl
        · have HPR := Lib.hid hpr; clear hpr
          go_wp2_with fail
          refine (shown_any _ _ hrl).mono ?_
          rintro e w2 ⟨rfl, rfl⟩
          rw [HPR.out]
          go_wp2_with fail
          go_roundw
          case rel =>
            refine ⟨k + (Utf8.decode s k).2, by omega, rfl, HK2, Lib.hid ?_⟩
            rw [hR.out, all_head hp HO.out, HPR.out]
            cases runesAt s (k + (Utf8.decode s k).2) <;> simp
          case measure => simp; omega
      · have hnx : ∀ ty, (Instr.next (.pointer (some ⟨w.heap.size, 0, none⟩)) true ty).run Tryd.prog (w.iter s k) = _ := fun ty => run_next_end w s k ty hp
        go_wp2_with fail
        go_ret
        refine ⟨(Below.refl _ w).alloc (Nat.le_refl _) _, ?_⟩
        rw [hR.out, runesAt_end (by omega)]; rfl
  · have HT := Lib.hid ht; clear ht
    go_wp2_with fail
    go_ret
    exact ⟨Below.refl _ _, by rw [plainB_text HT.out]; rfl⟩

/-- A text's runes, whatever they are. -/
def anyB (_ : Nat) : Bool := true
theorem anyB_text (s : ByteArray) : plainB s anyB = isText s := plainB_true
theorem yes_any' (r : Nat) (w : World) : Calls Tryd.prog 93 #[.int .i32 r] w fun e w' => w = w' ∧ e = .returned (.bool (anyB r)) := yes_any r w
set_option maxHeartbeats 1000000 in
set_option maxRecDepth 100000 in
theorem plain_yes (s : ByteArray) (w : World) (hs : s.size ≤ maxLen) :
    Calls Tryd.prog 86 #[.string s, .func (.func 93) #[] #[]] w fun e w' => Below w.heap.size w w' ∧ e = .returned (.bool (plainB s anyB)) := by
  go_enter Tryd.func86, Tryd.ntmps86
  go_wp2_with fail
  refine (check_any s _ hs).mono ?_
  rintro e w1 ⟨rfl, ⟨ht, rfl⟩ | ⟨ht, n, rfl⟩⟩
  · have hpl : plainB s anyB = ((runesAt s 0).map (·.all anyB)).getD false := by
      unfold plainB; rw [runesOf_eq]
      cases runesAt s 0 <;> rfl
    have HP := Lib.hid hpl; clear hpl
    have hok : okFrom s 0 := ht
    have HK := Lib.hid hok; clear hok
    clear ht
    unfold maxLen at hs
    go_wp2_with fail
    go_loopw [] (fun wr => ∃ k : Nat, k ≤ s.size ∧ wr = w.iter s k ∧ Hid (okFrom s k) ∧ Hid (plainB s anyB = ((runesAt s k).map (·.all anyB)).getD false)) (fun wr => s.size - wr.iterPos w.heap.size)
    case atStart => exact ⟨0, by omega, rfl, HK, HP⟩
    case round =>
      obtain ⟨k, hk, rfl, hK, hR⟩ := hrel
      by_cases hp : k < s.size
      · have hnx : ∀ ty, (Instr.next (.pointer (some ⟨w.heap.size, 0, none⟩)) true ty).run Tryd.prog (w.iter s k) = _ := fun ty => run_next_any w s k ty hp
        have hin := dec_in hp
        have hrl := decode_le s k
        obtain ⟨ho, hk2⟩ := hK.out.at_ hp
        have HO := Lib.hid ho; clear ho
        have HK2 := Lib.hid hk2; clear hk2
        cases hpr : anyB (Utf8.decode s k).1
        · have HPR := Lib.hid hpr; clear hpr
          go_wp2_with fail
          refine (yes_any' _ _).mono ?_
          rintro e w2 ⟨rfl, rfl⟩
          rw [HPR.out]
          go_wp2_with fail
          go_ret
          refine ⟨(Below.refl _ w).alloc (Nat.le_refl _) _, ?_⟩
          rw [hR.out, all_head hp HO.out, HPR.out]
          cases runesAt s (k + (Utf8.decode s k).2) <;> rfl
        · have HPR := Lib.hid hpr; clear hpr
          go_wp2_with fail
          refine (yes_any' _ _).mono ?_
          rintro e w2 ⟨rfl, rfl⟩
          rw [HPR.out]
          go_wp2_with fail
          go_roundw
          case rel =>
            refine ⟨k + (Utf8.decode s k).2, by omega, rfl, HK2, Lib.hid ?_⟩
            rw [hR.out, all_head hp HO.out, HPR.out]
            cases runesAt s (k + (Utf8.decode s k).2) <;> simp
          case measure => simp; omega
      · have hnx : ∀ ty, (Instr.next (.pointer (some ⟨w.heap.size, 0, none⟩)) true ty).run Tryd.prog (w.iter s k) = _ := fun ty => run_next_end w s k ty hp
        go_wp2_with fail
        go_ret
        refine ⟨(Below.refl _ w).alloc (Nat.le_refl _) _, ?_⟩
        rw [hR.out, runesAt_end (by omega)]; rfl
  · have HT := Lib.hid ht; clear ht
    go_wp2_with fail
    go_ret
    exact ⟨Below.refl _ _, by rw [plainB_text HT.out]; rfl⟩
end Go.Proofs.YthjaepmfkgejkaaDoor
namespace Go.Proofs.YthjaepmfkgejkaaDoor
open Go.RowKit
set_option linter.unusedVariables false

theorem ba (a b c : Bool) (h : a = true) (h' : b = true) : (a && b && c) = c := by rw [h, h']; simp

theorem author_any (s : ByteArray) (w : World) (hs : s.size ≤ maxLen) : Calls Tryd.prog 60 #[.string s] w fun e w' => Below w.heap.size w w' ∧ e = .returned (.bool (authorB s)) := by
  have hs' := hs
  unfold maxLen at hs
  by_cases h1 : 1 ≤ s.size
  · by_cases h2 : s.size ≤ 32
    · rw [show authorB s = plainB s shownB by simp [authorB, h1, h2]]
      go_enter Tryd.func60, Tryd.ntmps60
      go_wp2_with (go_at_call 86; refine (plain_shown s _ hs').mono ?_; rintro e w1 ⟨hb1, rfl⟩)
      go_ret
      exact ⟨hb1, rfl⟩
    · rw [show authorB s = false by simp [authorB, h2]]
      go_enter Tryd.func60, Tryd.ntmps60
      go_wp2_with fail
      go_ret
      exact ⟨Below.refl _ _, rfl⟩
  · rw [show authorB s = false by simp [authorB, h1]]
    go_enter Tryd.func60, Tryd.ntmps60
    go_wp2_with fail
    go_ret
    exact ⟨Below.refl _ _, rfl⟩

theorem note_any (s : ByteArray) (w : World) (hs : s.size ≤ maxLen) : Calls Tryd.prog 62 #[.string s] w fun e w' => Below w.heap.size w w' ∧ e = .returned (.bool (noteB s)) := by
  have hs' := hs
  unfold maxLen at hs
  by_cases h2 : s.size ≤ 256
  · rw [show noteB s = plainB s anyB by simp [noteB, h2, anyB_text]]
    go_enter Tryd.func62, Tryd.ntmps62
    go_wp2_with (go_at_call 86; refine (plain_yes s _ hs').mono ?_; rintro e w1 ⟨hb1, rfl⟩)
    go_ret
    exact ⟨hb1, rfl⟩
  · rw [show noteB s = false by simp [noteB, h2]]
    go_enter Tryd.func62, Tryd.ntmps62
    go_wp2_with fail
    go_ret
    exact ⟨Below.refl _ _, rfl⟩

/-- The library's variable MaxLen holds a number. -/
def Glob (w : World) : Prop := ∃ m : Int, w.cell? ⟨0, 0, none⟩ = some (.int .i64 m)
theorem Glob.keep {w w' : World} {B : Nat} (h : Glob w) (hb : Below B w w') (hB : 0 < B) : Glob w' := by
  obtain ⟨m, hm⟩ := h
  exact ⟨m, (hb.cell (p := ⟨0, 0, none⟩) hB).trans hm⟩
theorem Glob.lt {w : World} (h : Glob w) : 0 < w.heap.size := by
  obtain ⟨m, hm⟩ := h
  rcases Nat.lt_or_ge 0 w.heap.size with a | a
  · exact a
  · unfold World.cell? at hm
    rw [Array.getElem?_eq_none a] at hm
    cases hm
theorem Glob.next {w w' : World} (h : Glob w) (hb : Below w.heap.size w w') : Glob w' := h.keep hb h.lt

theorem piece_eq (p : ByteArray) : pieceB (L p) = (!p.toList.isEmpty && !(p.toList == [46]) && !(p.toList == [46, 46])) := by
  rw [toList_L, Bool.eq_iff_iff]
  simp [pieceB]

set_option maxRecDepth 100000 in
theorem path_any (s : ByteArray) (w : World) (hs : s.size ≤ maxLen) (hg : Glob w) : Calls Tryd.prog 90 #[.string s] w fun e w' => Below w.heap.size w w' ∧ e = .returned (.bool (pathB s)) := by
  have hs' := hs
  unfold maxLen at hs
  by_cases h1 : s.size < 1
  · rw [show pathB s = false by simp [pathB]; omega]
    go_enter Tryd.func90, Tryd.ntmps90
    go_wp2_with fail
    go_ret
    exact ⟨Below.refl _ _, rfl⟩
  by_cases h2 : 64 < s.size
  · rw [show pathB s = false by simp [pathB]; omega]
    go_enter Tryd.func90, Tryd.ntmps90
    go_wp2_with fail
    go_ret
    exact ⟨Below.refl _ _, rfl⟩
  cases hp : plainB s shownB
  · have HP := Lib.hid hp; clear hp
    rw [show pathB s = false by simp [pathB, HP.out]]
    go_enter Tryd.func90, Tryd.ntmps90
    go_wp2_with (go_at_call 86; refine (plain_shown s _ hs').mono ?_; rw [HP.out]; rintro e w1 ⟨hb1, rfl⟩)
    go_ret
    exact ⟨hb1, rfl⟩
  · have HP := Lib.hid hp; clear hp
    have HN : Hid (pathB s = ((Lib.splitB slashS 0 (Lib.countB s slashS) s).map L).all pieceB) := Lib.hid (by rw [splitB_pieces]; simp [pathB, HP.out]; omega)
    have hlen := Lib.splitB_all slashS (by decide) 0 (Lib.countB s slashS) s rfl
    have hle := Lib.countB_le slashS (by decide) _ s (Nat.le_refl _)
    generalize hq : Lib.splitB slashS 0 (Lib.countB s slashS) s = q at *
    have HQ := Lib.hid hq; clear hq
    have hql : q.length ≤ 65 := by omega
    have HL := Lib.hid hlen; clear hlen hle
    go_enter Tryd.func90, Tryd.ntmps90
    go_wp2_with (go_at_call 86; refine (plain_shown s _ hs').mono ?_; rw [HP.out]; rintro e w1 ⟨hb1, rfl⟩)
    obtain ⟨m, hm⟩ := hg.next hb1
    refine (Tryd.strings_Split s slashS m w1 (by omega) hm (by decide)).mono ?_
    rw [HQ.out, ← HL.out]
    rintro e w2 ⟨rfl, hw2⟩
    have hbw : Below w.heap.size w w2 := by rw [hw2]; exact hb1.alloc hb1.size _
    have hcell : ∀ j, (h : j < q.length) → w2.cell? ⟨w1.heap.size, j, none⟩ = some (.string q[j]) := by
      intro j h
      rw [hw2, World.cell?_alloc_new]
      simp [h]
    have HC := Lib.hid hcell; clear hcell hw2
    go_wp2_with fail
    go_loop [21] (fun t => ∃ k : Nat, k ≤ q.length ∧ t = .int .i64 k ∧ Hid (∀ j (h : j < q.length), j < k → pieceB (L q[j]) = true)) (fun t => q.length - (intOf t).toNat)
    case atStart => exact ⟨0, by omega, rfl, Lib.hid fun j _ hj => absurd hj (by omega)⟩
    case round =>
      obtain ⟨k, hk, rfl, hR⟩ := hrel
      by_cases hlt : k < q.length
      · have hc := HC.out k hlt
        have hpe := piece_eq q[k]
        have hstop : pieceB (L q[k]) = false → pathB s = false := by
          intro h
          rw [HN.out, List.all_eq_false]
          exact ⟨L q[k], List.mem_map_of_mem (List.getElem_mem hlt), by simp [h]⟩
        have hgo : pieceB (L q[k]) = true → ∀ j (h : j < q.length), j < k + 1 → pieceB (L q[j]) = true := by
          intro h j hj hjk
          rcases (by omega : j < k ∨ j = k) with h' | h'
          · exact hR.out j hj h'
          · subst h'; exact h
        generalize hqk : q[k] = p at *
        clear hqk
        have HPE := Lib.hid hpe; clear hpe
        have HST := Lib.hid hstop; clear hstop
        have HGO := Lib.hid hgo; clear hgo
        cases e1 : p.toList.isEmpty
        · cases e2 : (p.toList == [46])
          · cases e3 : (p.toList == [46, 46])
            · have hy : Hid (pieceB (L p) = true) := Lib.hid (by rw [HPE.out, e1, e2, e3]; rfl)
              go_wp2_with fail
              go_round
              case rel => exact ⟨k + 1, by omega, by go_num, Lib.hid (HGO.out hy.out)⟩
              case measure => simp [intOf]; omega
            · have hy : Hid (pathB s = false) := Lib.hid (HST.out (by rw [HPE.out, e1, e2, e3]; rfl))
              go_wp2_with fail
              go_ret
              exact ⟨hbw, by rw [hy.out]; rfl⟩
          · have hy : Hid (pathB s = false) := Lib.hid (HST.out (by rw [HPE.out, e1, e2]; rfl))
            go_wp2_with fail
            go_ret
            exact ⟨hbw, by rw [hy.out]; rfl⟩
        · have hy : Hid (pathB s = false) := Lib.hid (HST.out (by rw [HPE.out, e1]; rfl))
          go_wp2_with fail
          go_ret
          exact ⟨hbw, by rw [hy.out]; rfl⟩
      · go_wp2_with fail
        go_ret
        refine ⟨hbw, ?_⟩
        have : pathB s = true := by
          rw [HN.out, List.all_eq_true]
          intro x hx
          obtain ⟨y, hy, rfl⟩ := List.mem_map.1 hx
          obtain ⟨j, hj, rfl⟩ := List.getElem_of_mem hy
          exact hR.out j hj (by omega)
        rw [this]; rfl
end Go.Proofs.YthjaepmfkgejkaaDoor
namespace Go.Proofs.YthjaepmfkgejkaaDoor

def valOf (l : List UInt8) : Nat := l.foldl (fun a c => 10 * a + (c.toNat - 48)) 0
theorem valOf_snoc (l : List UInt8) (c : UInt8) : valOf (l ++ [c]) = 10 * valOf l + (c.toNat - 48) := by simp [valOf]
theorem digit_toNat {d : Nat} (h : d < 10) : (UInt8.ofNat (48 + d)).toNat = 48 + d := by
  simp; omega
theorem decDigits_step {u : Nat} (h : ¬ u < 10) : Lib.decDigits u = Lib.decDigits (u / 10) ++ [UInt8.ofNat (48 + u % 10)] := by
  rw [Lib.decDigits, dif_neg h]
theorem valOf_digits : ∀ (n u : Nat), u ≤ n → valOf (Lib.decDigits u) = u := by
  intro n
  induction n with
  | zero => intro u hu; rw [show u = 0 by omega, Lib.decDigits_one (by omega)]; decide
  | succ n ih =>
    intro u hu
    by_cases h : u < 10
    · rw [Lib.decDigits_one h]
      have := valOf_snoc [] (UInt8.ofNat (48 + u))
      rw [List.nil_append] at this
      rw [this, digit_toNat h]
      simp [valOf]
    · rw [decDigits_step h, valOf_snoc, ih (u / 10) (by omega), digit_toNat (by omega)]
      omega
theorem decDigits_inj {a b : Nat} (h : Lib.decDigits a = Lib.decDigits b) : a = b := by
  have h1 := valOf_digits a a (Nat.le_refl _)
  have h2 := valOf_digits b b (Nat.le_refl _)
  rw [h] at h1; omega
theorem decDigits_mem : ∀ (n u : Nat), u ≤ n → ∀ c ∈ Lib.decDigits u, 48 ≤ c.toNat ∧ c.toNat ≤ 57 := by
  intro n
  induction n with
  | zero => intro u hu; rw [show u = 0 by omega, Lib.decDigits_one (by omega)]; decide
  | succ n ih =>
    intro u hu c hc
    by_cases h : u < 10
    · rw [Lib.decDigits_one h] at hc
      simp only [List.mem_singleton] at hc
      subst hc
      rw [digit_toNat h]; omega
    · rw [decDigits_step h] at hc
      rcases List.mem_append.1 hc with hc | hc
      · exact ih (u / 10) (by omega) c hc
      · simp only [List.mem_singleton] at hc
        subst hc
        rw [digit_toNat (by omega)]; omega

/-- What stands ahead of the first slash. -/
def firstc (l : List UInt8) : List UInt8 := l.takeWhile (· != 47)
def restc (l : List UInt8) : List UInt8 := l.dropWhile (· != 47)
theorem first_rest (l : List UInt8) : firstc l ++ restc l = l := List.takeWhile_append_dropWhile
theorem firstc_no (l : List UInt8) : (47 : UInt8) ∉ firstc l := by
  induction l with
  | nil => simp [firstc]
  | cons c l ih =>
    unfold firstc at ih ⊢
    rw [List.takeWhile_cons]
    split
    · rename_i hc
      simp only [List.mem_cons, not_or]
      exact ⟨fun e => by rw [← e] at hc; simp at hc, ih⟩
    · simp
theorem firstc_app {a : List UInt8} (ha : (47 : UInt8) ∉ a) (b : List UInt8) : firstc (a ++ 47 :: b) = a := by
  unfold firstc
  rw [List.takeWhile_append_of_pos]
  · simp
  · intro x hx
    simp only [bne_iff_ne]
    intro e; exact ha (e ▸ hx)
theorem firstc_lone {a : List UInt8} (ha : (47 : UInt8) ∉ a) : firstc a = a := by
  have := List.takeWhile_append_of_pos (p := (· != (47 : UInt8))) (l₁ := a) (l₂ := []) (by
    intro x hx
    simp only [bne_iff_ne]
    intro e; exact ha (e ▸ hx))
  simpa [firstc] using this
theorem restc_form (l : List UInt8) : restc l = [] ∨ ∃ b, restc l = 47 :: b := by
  rcases slash_cases l with h | ⟨a, b, rfl, ha⟩
  · left
    have := first_rest l
    rw [firstc_lone h] at this
    have := congrArg List.length this
    simp at this
    exact this
  · right
    have := first_rest (a ++ 47 :: b)
    rw [firstc_app ha] at this
    exact ⟨b, List.append_cancel_left this⟩

theorem under_first {a b : List UInt8} (h : underB a b = true) : firstc a = firstc b := by
  unfold underB at h
  rw [List.isPrefixOf_iff_prefix] at h
  obtain ⟨t, rfl⟩ := h
  rw [List.append_assoc]
  rcases slash_cases a with ha | ⟨x, y, rfl, hx⟩
  · rw [firstc_lone ha]; exact (firstc_app ha _).symm
  · rw [firstc_app hx, List.append_assoc]; exact (firstc_app hx _).symm
theorem clash_first {a b : List UInt8} (h : clashB a b = true) : firstc a = firstc b := by
  unfold clashB at h
  simp only [Bool.or_eq_true, decide_eq_true_eq] at h
  rcases h with (h | h) | h
  · rw [h]
  · exact under_first h
  · exact (under_first h).symm

/-- The candidate of a number. -/
def candS (l : List UInt8) (n : Nat) : List UInt8 := firstc l ++ [126] ++ Lib.decDigits n ++ restc l
theorem cand_first (l : List UInt8) (n : Nat) : firstc (candS l n) = firstc l ++ [126] ++ Lib.decDigits n := by
  have hno : (47 : UInt8) ∉ firstc l ++ [126] ++ Lib.decDigits n := by
    intro h
    rcases List.mem_append.1 h with h | h
    · rcases List.mem_append.1 h with h | h
      · exact firstc_no l h
      · simp at h
    · have := decDigits_mem n n (Nat.le_refl _) _ h
      simp at this
  unfold candS
  rcases restc_form l with h | ⟨b, h⟩
  · rw [h, List.append_nil, firstc_lone hno]
  · rw [h, firstc_app hno]
theorem cand_inj {l : List UInt8} {a b : Nat} (h : firstc (candS l a) = firstc (candS l b)) : a = b := by
  rw [cand_first, cand_first] at h
  exact decDigits_inj (List.append_cancel_left h)

def clashesB (t : List UInt8) (taken : List (List UInt8)) : Bool := taken.any (clashB t)

theorem pigeon {α : Type} [DecidableEq α] (f : Nat → α) (hf : ∀ a b, f a = f b → a = b) : ∀ (T : List α) (J : List Nat), J.Nodup → (∀ j ∈ J, f j ∈ T) → J.length ≤ T.length := by
  intro T
  induction T with
  | nil =>
    intro J _ h
    cases J with
    | nil => simp
    | cons j J => exact absurd (h j (by simp)) (by simp)
  | cons t T ih =>
    intro J hJ h
    by_cases he : ∃ j ∈ J, f j = t
    · obtain ⟨j0, hj0, hf0⟩ := he
      have h1 := ih (J.erase j0) (hJ.erase j0) (by
        intro j hj
        have hm := (List.Nodup.mem_erase_iff hJ).1 hj
        rcases List.mem_cons.1 (h j hm.2) with e | e
        · exact absurd (hf _ _ (e.trans hf0.symm)) hm.1
        · exact e)
      rw [List.length_erase_of_mem hj0] at h1
      simp only [List.length_cons]; omega
    · have h1 := ih J hJ (by
        intro j hj
        rcases List.mem_cons.1 (h j hj) with e | e
        · exact absurd ⟨j, hj, e⟩ he
        · exact e)
      simp only [List.length_cons]; omega

/-- Candidates that clash are no more than the taken ones. -/
theorem cand_few {l : List UInt8} {taken : List (List UInt8)} {m : Nat} (h : ∀ j, 1 ≤ j → j ≤ m → clashesB (candS l j) taken = true) : m ≤ taken.length := by
  have := pigeon (fun j => firstc (candS l (j + 1))) (fun a b e => by have := cand_inj e; omega) (taken.map firstc) (List.range m) List.nodup_range (by
    intro j hj
    have hj' : j < m := by simpa using hj
    have hc := h (j + 1) (by omega) (by omega)
    unfold clashesB at hc
    rw [List.any_eq_true] at hc
    obtain ⟨o, ho, hco⟩ := hc
    rw [show firstc (candS l (j + 1)) = firstc o from clash_first hco]
    exact List.mem_map_of_mem ho)
  simpa using this

/-- Tries on, at number n. -/
def freshGo (l : List UInt8) (taken : List (List UInt8)) : Nat → Nat → List UInt8 → List UInt8
  | 0, _, t => t
  | f + 1, n, t => if clashesB t taken then freshGo l taken f (n + 1) (candS l n) else t
/-- A path that clashes with none. -/
def freshS (l : List UInt8) (taken : List (List UInt8)) : List UInt8 := freshGo l taken (taken.length + 2) 1 l

end Go.Proofs.YthjaepmfkgejkaaDoor
namespace Go.Proofs.YthjaepmfkgejkaaDoor
open Go.RowKit
set_option linter.unusedVariables false

/-- The loop's state: at number k, with f steps left, the text t is tried. -/
structure Trying (s : ByteArray) (taken : List (List UInt8)) (k f : Nat) (t : ByteArray) : Prop where
  one : 1 ≤ k
  sum : k + f = taken.length + 3
  size : t.size ≤ s.size + 4
  is : freshS (L s) taken = freshGo (L s) taken f k (L t)
  cand : 2 ≤ k → L t = candS (L s) (k - 1)
  behind : ∀ j, 1 ≤ j → j + 1 < k → clashesB (candS (L s) j) taken = true

theorem Trying.start (s : ByteArray) (taken : List (List UInt8)) : Trying s taken 1 (taken.length + 2) s :=
  ⟨by omega, by omega, by omega, rfl, fun h => absurd h (by omega), fun j h1 h2 => absurd h2 (by omega)⟩
theorem Trying.left {s t : ByteArray} {taken : List (List UInt8)} {k f : Nat} (h : Trying s taken k f t) : ∃ g, f = g + 1 ∧ k ≤ taken.length + 2 := by
  have := cand_few (l := L s) (taken := taken) (m := k - 2) (fun j h1 h2 => h.behind j h1 (by omega))
  have := h.sum
  exact ⟨f - 1, by omega, by omega⟩
theorem Trying.next {s t t' : ByteArray} {taken : List (List UInt8)} {k f : Nat} (h : Trying s taken k (f + 1) t) (hc : clashesB (L t) taken = true) (ht : L t' = candS (L s) k) (hz : t'.size ≤ s.size + 4) : Trying s taken (k + 1) f t' := by
  have h1 := h.one
  refine ⟨by omega, by have := h.sum; omega, hz, ?_, fun _ => by rw [Nat.add_sub_cancel]; exact ht, fun j hj hk => ?_⟩
  · rw [h.is, freshGo, if_pos hc, ht]
  · rcases (by omega : j + 1 < k ∨ j = k - 1) with a | a
    · exact h.behind j hj a
    · subst a
      rw [← h.cand (by omega)]; exact hc
theorem Trying.done {s t : ByteArray} {taken : List (List UInt8)} {k f : Nat} (h : Trying s taken k (f + 1) t) (hc : clashesB (L t) taken = false) : L t = freshS (L s) taken := by
  rw [h.is, freshGo, if_neg (by rw [hc]; simp)]

end Go.Proofs.YthjaepmfkgejkaaDoor
