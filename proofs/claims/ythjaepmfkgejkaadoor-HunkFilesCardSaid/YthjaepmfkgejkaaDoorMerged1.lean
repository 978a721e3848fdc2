/-
  Words for memory: a slice that reads as a list; append of one element to a row of the call's own. No conditions; no program.
  Ids and keys as cells: what a value of such a type holds, read as data; loads and stores of several cells at once. Over any program; conditions as each says.
  Lists of ids: their cells, whether they are a set, where an id stands in one. No conditions; no program.
  Values of several cells in the steps of a walk: loads, '==', zero values; regions that draw their order and only read, but for calls that leave alone what lay. Over any program; conditions as each says.
  Worlds that only drew and grew. No conditions; no program.
  A region that draws its order: ahead operations that only read, but for calls that stay in a class of worlds; behind them a row of operations, each waiting for the one ahead of it. One walk in the text's order serves every order. Over any program; conditions as each says.
  A region that draws its order, in the worlds that only drew and grew. Conditions: as the law says.
  A text's lines. No conditions; no program.
  The contracts of Go's library that this claim uses, laid at this program by the kit's tools (lay-shelf, lay-plain). Conditions: as each says.
  The contracts of Go's library that this claim uses, laid at this program by the kit's tools (lay-shelf, lay-plain). Conditions: as each says.
  The model's decoder of UTF-8 by its bytes as numbers: which case a place of a string is in, and what the decoder gives there. No conditions; no program.
  What utf's functions give: may, lead, decode, Check. Conditions: a place lies within the text.
  The reference's way to a rune (try one to four bytes, write what comes out, compare) finds just what the model's decoder finds. No conditions; no program.
  Plain facts on strings as lists of bytes: equality, cuts, the bytes as numbers. No conditions; no program.
  What the functions of utf (Check) and of the reference's layer 3 (May, Bytes, One) give. Conditions: a place lies within the text; a rune lies in its range.
  What layer 7's predicates say, as plain functions on a string's bytes and runes. No conditions; no program.
  What layer 7's predicates of one text give: sign, shown, plain, Author, Note, Name, Path. Conditions: none but that a text's length is an int's; Path asks that the library's variable MaxLen holds a number.
  What Author, Note, Name and Path give. Path asks that the library's variable MaxLen holds a number.
  A path that clashes with none, as a plain function; that it is found within as many steps as there are taken paths. No conditions; no program.
-/
import Derived.WalkKit
import Derived.WalkSmall
import Derived.Lib.Hide
import Derived.Laws.Tables
import Derived.Laws.Rows
import Derived.Laws.ResultCell
import Derived.Test.YthjaepmfkgejkaaDoorKeySpec
import Derived.OpenShut
import Derived.Deep.Slices
import Derived.Deep.Fields
import Derived.StillTailTactics
import Derived.BigQuiet
import Derived.DeepKeys4
import Derived.Maps.Own
import Derived.Laws.StructEq
import Derived.Sort.Grow
import Derived.Deep.Draws
import Derived.Below
import Derived.StillTail
import Derived.Lib.SplitLaws
import Derived.Shelf.Strconv.Itoa3
import Derived.Shelf.Strings.Split
import Derived.Test.YthjaepmfkgejkaaDoorProg
import Derived.Shelf.Sort.Plain
import Derived.Shelf.Strings.Prefix
import Derived.Shelf.Slices.CompactS
import Derived.Laws.RangeAny
import Derived.Handy
import Derived.PlainAid
import Derived.Laws.BytesArg
import Derived.Lib.Strings
import Derived.Lib.RabinKarpLaws
import Derived.Lib.SmallJoins
import Derived.Deep.RegionWith
import Derived.Deep.DeepCutAuto
import Derived.Deep.CutBlock
import Derived.Deep.LoopGhost
import Derived.Deep.QuietTactic
import Derived.WalkSpells
import Derived.WalkLawsBesides
import Derived.Lib.Split
import Derived.Lib.ItoaNum
import Derived.Lib.OthersKept
namespace Go.Proofs.YthjaepmfkgejkaaDoor
open Go.RowKit
set_option linter.unusedVariables false

/-- The slice value '.slice A n c' holds the cells xs (sz of them an element), in a block below B. -/
def Sl (w : World) (B : Nat) (A : Option Addr) (n sz : Nat) (xs : List Value) : Prop :=
  xs.length = n * sz ∧ (0 < n → ∃ b off, A = some ⟨b, off, none⟩ ∧ b < B ∧ ∀ j u, xs[j]? = some u → w.cell? ⟨b, off + j, none⟩ = some u)

section
variable {w w' : World} {B B' n sz : Nat} {A : Option Addr} {xs : List Value}
theorem Sl.nil : Sl w B A 0 sz [] := ⟨by simp, fun h => absurd h (by omega)⟩
theorem Sl.keep (h : Sl w B A n sz xs) (hb : Below B w w') : Sl w' B A n sz xs := by
  refine ⟨h.1, fun hn => ?_⟩
  obtain ⟨b, off, e, hlt, hc⟩ := h.2 hn
  exact ⟨b, off, e, hlt, fun j u hu => (hb.cell (p := ⟨b, off + j, none⟩) hlt).trans (hc j u hu)⟩
theorem Sl.more (h : Sl w B A n sz xs) (hB : B ≤ B') : Sl w B' A n sz xs := by
  refine ⟨h.1, fun hn => ?_⟩
  obtain ⟨b, off, e, hlt, hc⟩ := h.2 hn
  exact ⟨b, off, e, by omega, hc⟩
theorem Sl.of_own {base : Nat} {e : TypeId} {c : Nat} (h : w.ownsRow base e sz (.slice A n c) n xs) : Sl w w.heap.size A n sz xs := by
  refine ⟨h.1, fun hn => ?_⟩
  rcases h.2 with ⟨_, h0⟩ | ⟨g, cap, cur, hv, hbg, hg, hle, hm, hcs, ht⟩
  · omega
  · injection hv with hA
    subst hA
    have hlt := (h.lt g (by simp [Value.ownBlock])).2
    refine ⟨g, 0, rfl, hlt, fun j u hu => ?_⟩
    have := h.cells (g := g) (by simp [Value.ownBlock]) j u hu
    have e : (⟨g, 0, none⟩ : Addr).add j = ⟨g, 0 + j, none⟩ := by unfold Addr.add; split <;> simp_all
    rw [← e]; exact this
theorem Sl.lt (h : Sl w B A n sz xs) (hn : 0 < n) (hs : 0 < sz) : ∃ b off, A = some ⟨b, off, none⟩ ∧ b < w.heap.size ∧ b < B := by
  obtain ⟨b, off, e, hlt, hc⟩ := h.2 hn
  have hl : 0 < xs.length := by rw [h.1]; exact Nat.mul_pos hn hs
  have := hc 0 _ (List.getElem?_eq_getElem hl)
  refine ⟨b, off, e, ?_, hlt⟩
  rcases Nat.lt_or_ge b w.heap.size with a | a
  · exact a
  · unfold World.cell? at this
    rw [Array.getElem?_eq_none a] at this
    cases this
/-- A slice that is there lies in the world's own blocks. -/
theorem Sl.here (h : Sl w B A n sz xs) (hs : 0 < sz) : Sl w w.heap.size A n sz xs := by
  refine ⟨h.1, fun hn => ?_⟩
  obtain ⟨b, off, e, hlt, _⟩ := h.lt hn hs
  obtain ⟨b', off', e', _, hc⟩ := h.2 hn
  rw [e] at e'
  injection e' with e'
  injection e' with e1 e2
  subst e1 e2
  exact ⟨b, off, e, hlt, hc⟩
end

/-- 'append(out, x)', x of one cell, at a row of the call's own: x has just been laid in a block. -/
theorem wp_app1 {P : Program} {ops : Array Oper} {rest : List Oper} {o : Oper} {a : Act} {Q : Exit → Act → World → Prop} {w : World} (hgd : o.guard = none) (s x : Operand) (t : TypeId)
    (ho : o.op = .call { callee := .builtin .append, args := #[s, x], argTypes := #[t, t] })
    (base : Nat) (e : TypeId) (z : Value) (bytes : Nat) (ht : P.underlying t = some (.slice e)) (hinf : (P.info? e).map (fun i => (i.zero, i.size, i.bytes)) = some (some z, 1, bytes))
    (hz1 : z.cells.size = 1) (v : Value) (n : Nat) (xs : List Value) (hs : a.eval s = v) (hown : w.ownsRow base e 1 v n xs)
    (u : Value) (et : TypeId) (hx : a.eval x = .slice (some ⟨w.heap.size, 0, none⟩) 1 1) (hu : u.oneCell' = true)
    (hn : n + 1 ≤ maxLen) (hb : (n + 1) * bytes ≤ 140737488355328) (hbase : base ≤ w.heap.size)
    (h : ∀ v' w', w'.ownsRow base e 1 v' (n + 1) (xs ++ [u]) → (∀ B a, B ≤ base → Below B a w → Below B a w') → wpList P ops Q rest (a.put o.dst v') w') :
    wpList P ops Q (o :: rest) a (w.alloc (.cells #[u] et)) := by
  obtain ⟨i0, hi, hz0, hz2, hz3⟩ := info_parts hinf
  refine wpList_append_own _ hgd s x t ho base e i0 z 1 bytes ht hi hz0 hz2 hz3 hz1 (by decide) v n xs hs (hown.alloc _) ⟨w.heap.size, 0, none⟩ 1 1 [u] hx rfl ?_ ?_ hn hb (by simp; omega) ?_
  · intro j u' hj
    match j, hj with
    | 0, hj => simp at hj; subst hj; simp [Addr.add]
  · intro u' hu'
    simp at hu'; subst hu'; exact hu
  · intro v' w' hown' hgrow _
    refine h v' w' hown' fun B a hB hba => ?_
    refine (hba.alloc (by omega) _).grown hgrow (by simp; omega) fun k hk => ?_
    have := (hown.lt k hk).1
    omega
/-- The same, x of several cells. -/
theorem wp_appN {P : Program} {ops : Array Oper} {rest : List Oper} {o : Oper} {a : Act} {Q : Exit → Act → World → Prop} {w : World} (hgd : o.guard = none) (s x : Operand) (t : TypeId)
    (ho : o.op = .call { callee := .builtin .append, args := #[s, x], argTypes := #[t, t] })
    (base : Nat) (e : TypeId) (z : Value) (size bytes : Nat) (ht : P.underlying t = some (.slice e)) (hinf : (P.info? e).map (fun i => (i.zero, i.size, i.bytes)) = some (some z, size, bytes))
    (hz1 : z.cells.size = size) (hsz : 0 < size) (v : Value) (n : Nat) (xs : List Value) (hs : a.eval s = v) (hown : w.ownsRow base e size v n xs)
    (us : List Value) (et : TypeId) (hl : us.length = size) (hx : a.eval x = .slice (some ⟨w.heap.size, 0, none⟩) 1 1) (hu : ∀ u ∈ us, u.oneCell' = true)
    (hn : n + 1 ≤ maxLen) (hb : (n + 1) * bytes ≤ 140737488355328) (hbase : base ≤ w.heap.size)
    (h : ∀ v' w', w'.ownsRow base e size v' (n + 1) (xs ++ us) → (∀ B a, B ≤ base → Below B a w → Below B a w') → wpList P ops Q rest (a.put o.dst v') w') :
    wpList P ops Q (o :: rest) a (w.alloc (.cells us.toArray et)) := by
  obtain ⟨i0, hi, hz0, hz2, hz3⟩ := info_parts hinf
  refine wpList_append_own _ hgd s x t ho base e i0 z size bytes ht hi hz0 hz2 hz3 hz1 hsz v n xs hs (hown.alloc _) ⟨w.heap.size, 0, none⟩ 1 1 us hx (by simp [hl]) ?_ hu hn hb (by simp; omega) ?_
  · intro j u' hj
    have e : (⟨w.heap.size, 0, none⟩ : Addr).add j = ⟨w.heap.size, j, none⟩ := by unfold Addr.add; split <;> simp_all
    rw [e, World.cell?_alloc_new]
    simpa using hj
  · intro v' w' hown' hgrow _
    refine h v' w' hown' fun B a hB hba => ?_
    refine (hba.alloc (by omega) _).grown hgrow (by simp; omega) fun k hk => ?_
    have := (hown.lt k hk).1
    omega

theorem below_setRow' {B g : Nat} {w0 w : World} (hb : Below B w0 w) (hBg : B ≤ g) (cs : Array Value) : Below B w0 (w.setRow g cs) :=
  hb.trans ⟨rfl, rfl, rfl, by simp, fun k hk => setRow_other w g k cs (by omega)⟩
/-- A whole block stored into; the world behind it is known by what it holds alone. -/
theorem wp_storeN {P : Program} {ops : Array Oper} {rest : List Oper} {o : Oper} {a : Act} {w : World} {Q : Exit → Act → World → Prop} (hgd : o.guard = none) (ty : TypeId) (x y : Operand) (ho : o.op = .store ty x y)
    (g : Nat) (cells : Array Value) (hx : a.eval x = .pointer (some ⟨g, 0, none⟩)) (hy : a.eval y = .agg cells)
    (t : TypeId) (old : Array Value) (hg : w.heap[g]? = some (.cells old t (0, 0))) (hi : (P.info? ty).map (·.size) = some cells.size)
    (hold : old.size = cells.size) (h1 : cells.all (·.oneCell') = true) {B : Nat} {w0 : World} (hb : Below B w0 w) (hB : B ≤ g)
    (h : ∀ W : World, Below B w0 W → W.heap[g]? = some (.cells cells t (0, 0)) → (∀ k, k ≠ g → W.heap[k]? = w.heap[k]?) → wpList P ops Q rest (a.put o.dst undef) W) : wpList P ops Q (o :: rest) a w :=
  wpList_store_row hgd ty x y ho g cells hx hy t old hg hi hold h1 (h _ (below_setRow' hb hB _) (setRow_heap _ _ _ _ _ _ hg) (fun k hk => setRow_other _ _ _ _ hk))
/-- A result that lies in a block, beside one that does not. -/
theorem results_row_tmp {P : Program} {fn : Func} {p u : Tmp} {ty : TypeId} (h : fn.results = #[.cell p ty, .tmp u]) (tmps : Array Value) (w : World) {a : Addr} {v x : Value}
    (hp : tmps.getD p undef = .pointer (some a)) (hu : tmps.getD u undef = x) (hl : (loadVar ty a).run P w = .ok v w) : (results fn tmps).run P w = .ok (.tuple #[v, x]) w := by
  rw [results_cell_tmp h, hp, hu]
  show ((Sem.pure a).run P w).andThen _ = _
  simp [Sem.run, Result.andThen, hl]
end Go.Proofs.YthjaepmfkgejkaaDoor
namespace Go.Proofs.YthjaepmfkgejkaaDoor
open Go.RowKit
set_option linter.unusedVariables false

/-- An id's cells; a key's. -/
def idV (l : List UInt8) : List Value := l.map fun b => Value.int .u8 (b.toNat : Int)
def keyV (k : KeyD) : List Value := .int .i64 k.1 :: (idV k.2.1 ++ [.int .i64 k.2.2])
def IdOk (l : List UInt8) : Prop := l.length = 32
def KeyOk (k : KeyD) : Prop := (Lit.int .i64 k.1).wf = true ∧ IdOk k.2.1 ∧ (Lit.int .i64 k.2.2).wf = true
theorem idV_length (l : List UInt8) : (idV l).length = l.length := by simp [idV]
theorem keyV_length {k : KeyD} (h : KeyOk k) : (keyV k).length = 34 := by
  have := h.2.1
  unfold IdOk at this
  simp [keyV, idV, this]
theorem idV_one (l : List UInt8) : ∀ u ∈ idV l, u.oneCell' = true := by
  intro u hu
  obtain ⟨b, _, rfl⟩ := List.mem_map.1 hu
  rfl
theorem keyV_one (k : KeyD) : ∀ u ∈ keyV k, u.oneCell' = true := by
  intro u hu
  unfold keyV at hu
  rcases List.mem_cons.1 hu with rfl | hu
  · rfl
  · rcases List.mem_append.1 hu with hu | hu
    · exact idV_one _ u hu
    · simp at hu; subst hu; rfl
theorem idV_inj {a b : List UInt8} (h : idV a = idV b) : a = b := by
  induction a generalizing b with
  | nil => cases b with
    | nil => rfl
    | cons _ _ => simp [idV] at h
  | cons x a ih => cases b with
    | nil => simp [idV] at h
    | cons y b =>
      simp only [idV, List.map_cons, List.cons.injEq, Value.int.injEq, true_and] at h
      rw [ih h.2, UInt8.toNat_inj.1 (by omega : x.toNat = y.toNat)]
theorem keyV_inj {a b : KeyD} (h : keyV a = keyV b) : a = b := by
  unfold keyV at h
  simp only [List.cons.injEq, Value.int.injEq, true_and] at h
  obtain ⟨h1, h2⟩ := h
  have hl := congrArg List.length h2
  simp only [List.length_append, List.length_singleton] at hl
  obtain ⟨h3, h4⟩ := List.append_inj h2 (by omega)
  simp only [List.cons.injEq, Value.int.injEq, true_and, and_true] at h4
  exact Prod.ext h1 (Prod.ext (idV_inj h3) h4)

section
variable {H : Type} {enc : TypeId × Value → H} {P : Program} {w : World} {base : Nat} {spare : Nat → Bool} {held : Bool} {fuel : Nat} {cs : List Value} {x : DataW H × List MemPlace}

theorem trod_id {t u : TypeId} (ht : P.underlying t = some (.array 32 u)) (hu : P.underlying u = some (.int .u8)) (hc : P.cellsOf u = 1) (hct : P.cellsOf t = 32)
    (h : DataW.trod enc P w base spare held fuel t cs = some x) : ∃ l : List UInt8, IdOk l ∧ cs = idV l := by
  obtain ⟨xs, m, _, _, hlen, hxl, hf⟩ := DataW.trod_array ht h
  rw [hct] at hlen
  have each : ∀ i, i < 32 → ∃ b : UInt8, cs[i]? = some (.int .u8 (b.toNat : Int)) := by
    intro i hi
    have h1 := hf i hi
    rw [hc, List.getElem?_eq_getElem (by omega : i < xs.length)] at h1
    obtain ⟨n, h2, _, hw⟩ := DataW.trod_int hu h1
    have hr : 0 ≤ n ∧ n ≤ 255 := by
      simp only [Lit.wf, IntKind.min, IntKind.max, IntKind.signed, IntKind.bits, Bool.and_eq_true] at hw
      simp at hw
      omega
    rw [Nat.mul_one, List.drop_eq_getElem_cons (by omega), List.take_succ_cons] at h2
    have h3 : cs[i]'(by omega) = .int .u8 n := (List.cons.inj h2).1
    refine ⟨UInt8.ofNat n.toNat, ?_⟩
    rw [List.getElem?_eq_getElem (by omega), h3]
    congr 2
    simp
    omega
  obtain ⟨f, hf⟩ := Go.Deep.choose_lt each
  refine ⟨(List.range 32).map f, by simp [IdOk], ?_⟩
  apply List.ext_getElem?
  intro i
  by_cases hi : i < 32
  · rw [hf i hi]
    simp [idV, hi]
  · rw [List.getElem?_eq_none (by omega), List.getElem?_eq_none (by simp [idV]; omega)]
theorem trod_key {t a u i : TypeId} {f0 f1 f2 : Field} (ht : P.underlying t = some (.struct #[f0, f1, f2])) (h0 : f0.type = i ∧ f0.offset = 0) (h1 : f1.type = a ∧ f1.offset = 1) (h2 : f2.type = i ∧ f2.offset = 33)
    (hi : P.underlying i = some (.int .i64)) (ha : P.underlying a = some (.array 32 u)) (hu : P.underlying u = some (.int .u8)) (ci : P.cellsOf i = 1) (ca : P.cellsOf a = 32) (cu : P.cellsOf u = 1) (ct : P.cellsOf t = 34)
    (h : DataW.trod enc P w base spare held fuel t cs = some x) : ∃ k : KeyD, KeyOk k ∧ cs = keyV k := by
  obtain ⟨xs, n, _, _, hlen, hxl, hf⟩ := DataW.trod_struct ht h
  rw [ct] at hlen
  have hxl' : xs.length = 3 := hxl
  have g0 := hf 0 f0 rfl
  have g1 := hf 1 f1 rfl
  have g2 := hf 2 f2 rfl
  rw [h0.1, h0.2, ci, List.getElem?_eq_getElem (by omega)] at g0
  rw [h1.1, h1.2, ca, List.getElem?_eq_getElem (by omega)] at g1
  rw [h2.1, h2.2, ci, List.getElem?_eq_getElem (by omega)] at g2
  obtain ⟨n0, e0, _, w0⟩ := DataW.trod_int hi g0
  obtain ⟨l, hl, e1⟩ := trod_id ha hu cu ca g1
  obtain ⟨n2, e2, _, w2⟩ := DataW.trod_int hi g2
  refine ⟨(n0, l, n2), ⟨w0, hl, w2⟩, ?_⟩
  have hsplit : cs = cs.take 1 ++ ((cs.drop 1).take 32 ++ (cs.drop 33).take 1) := by
    have a1 : (cs.drop 33).take 1 = cs.drop 33 := List.take_of_length_le (by simp; omega)
    rw [a1, show cs.drop 33 = (cs.drop 1).drop 32 by rw [List.drop_drop], List.take_append_drop, List.take_append_drop]
  rw [hsplit, e1, e2, show cs.take 1 = (cs.drop 0).take 1 from rfl, e0]
  rfl
end

/-- A load of several cells at once. -/
theorem run_loadN {P : Program} (w : World) (b off : Nat) (ty : TypeId) (cs : List Value) (d : TypeDesc) (hc : ∀ j u, cs[j]? = some u → w.cell? ⟨b, off + j, none⟩ = some u)
    (hu : P.underlying ty = some d) (hd : (match d with | .struct _ | .array _ _ => true | _ => false) = true) (hi : (P.info? ty).map (·.size) = some cs.length) :
    (loadVar ty ⟨b, off, none⟩).run P w = .ok (.agg cs.toArray) w := by
  have hl : (loadCells ⟨b, off, none⟩ cs.length).run P w = .ok cs.toArray w :=
    run_loadCells_list (P := P) w ⟨b, off, none⟩ cs (fun j v hv => by
      have hadd : (⟨b, off, none⟩ : Addr).add j = ⟨b, off + j, none⟩ := by unfold Addr.add; split <;> simp_all
      rw [hadd]
      exact hc j v hv)
  cases hq : P.info? ty with
  | none => simp [hq] at hi
  | some i =>
    have hs : i.size = cs.length := by simpa [hq] using hi
    have hagg : (isAgg ty).run P w = .ok true w := by
      unfold isAgg
      rw [Sem.run_bind, run_underlying hu w]
      cases d <;> simp_all
    simp [loadVar, Sem.run_bind, hagg, sizeOf, typeInfo, hq, hs, hl]
theorem wp_loadN {P : Program} {ops : Array Oper} {rest : List Oper} {o : Oper} {a : Act} {w : World} {Q : Exit → Act → World → Prop} (hgd : o.guard = none) (ty : TypeId) (x : Operand) (ho : o.op = .load ty x)
    (b off : Nat) (hx : a.eval x = .pointer (some ⟨b, off, none⟩)) (cs : List Value) (d : TypeDesc) (hc : ∀ j u, cs[j]? = some u → w.cell? ⟨b, off + j, none⟩ = some u)
    (hu : P.underlying ty = some d) (hd : (match d with | .struct _ | .array _ _ => true | _ => false) = true) (hi : (P.info? ty).map (·.size) = some cs.length)
    (h : wpList P ops Q rest (a.put o.dst (.agg cs.toArray)) w) : wpList P ops Q (o :: rest) a w :=
  wpList_plain hgd fun K hK => by
    have := hK _ _ h
    unfold Oper.wp execOp
    simp only [ho, hx, Instr.loadAt, Instr.sureAddr, Sem.run_bind, Sem.run_pure, Result.andThen_ok, run_loadN w b off ty cs d hc hu hd hi]
    exact this
end Go.Proofs.YthjaepmfkgejkaaDoor
namespace Go.Proofs.YthjaepmfkgejkaaDoor
open Go.RowKit
set_option linter.unusedVariables false

def idsV (l : List (List UInt8)) : List Value := l.flatMap idV
def IdsOk (l : List (List UInt8)) : Prop := ∀ i ∈ l, IdOk i
theorem IdsOk.tail {a : List UInt8} {l : List (List UInt8)} (h : IdsOk (a :: l)) : IdsOk l := fun i hi => h i (by simp [hi])
theorem IdsOk.sub {a b : List (List UInt8)} (h : IdsOk b) (hs : ∀ i ∈ a, i ∈ b) : IdsOk a := fun i hi => h i (hs i hi)
theorem IdsOk.app {a b : List (List UInt8)} (ha : IdsOk a) (hb : IdsOk b) : IdsOk (a ++ b) := fun i hi => (List.mem_append.1 hi).elim (ha i) (hb i)
theorem idsV_length : ∀ {l : List (List UInt8)}, IdsOk l → (idsV l).length = l.length * 32
  | [], _ => rfl
  | a :: l, h => by
    have h1 : (idV a).length = 32 := by rw [idV_length]; exact h a (by simp)
    have h2 := idsV_length h.tail
    simp only [idsV, List.flatMap_cons, List.length_append, List.length_cons] at h2 ⊢
    rw [h1, h2]; omega
theorem idsV_app (a b : List (List UInt8)) : idsV (a ++ b) = idsV a ++ idsV b := by simp [idsV]
theorem idsV_one (l : List (List UInt8)) : ∀ u ∈ idsV l, u.oneCell' = true := by
  intro u hu
  obtain ⟨a, _, ha⟩ := List.mem_flatMap.1 hu
  exact idV_one a u ha
theorem idsV_get : ∀ {l : List (List UInt8)}, IdsOk l → ∀ (i : Nat) (h : i < l.length) (j : Nat) (u : Value), (idV l[i])[j]? = some u → (idsV l)[i * 32 + j]? = some u
  | [], _, _, h, _, _, _ => by cases h
  | a :: l, ho, 0, _, j, u, hj => by
    have h1 : (idV a).length = 32 := by rw [idV_length]; exact ho a (by simp)
    have hlt := (List.getElem?_eq_some_iff.1 hj).1
    simp only [idsV, List.flatMap_cons, Nat.zero_mul, Nat.zero_add]
    rw [List.getElem?_append_left (by simpa using hlt)]
    exact hj
  | a :: l, ho, i + 1, h, j, u, hj => by
    have h1 : (idV a).length = 32 := by rw [idV_length]; exact ho a (by simp)
    have := idsV_get ho.tail i (by simpa using h) j u (by simpa using hj)
    simp only [idsV, List.flatMap_cons] at this ⊢
    rw [List.getElem?_append_right (by omega), h1, show (i + 1) * 32 + j - 32 = i * 32 + j by omega]
    exact this

theorem Sl.id {w : World} {B b off : Nat} {l : List (List UInt8)} (ho : IdsOk l) (h : ∀ j u, (idsV l)[j]? = some u → w.cell? ⟨b, off + j, none⟩ = some u) {i : Nat} (hi : i < l.length) : ∀ j u, (idV l[i])[j]? = some u → w.cell? ⟨b, off + i * 32 + j, none⟩ = some u := by
  intro j u hj
  rw [Nat.add_assoc]
  exact h _ _ (idsV_get ho i hi j u hj)

/-- Do ids rise strictly? -/
def isSetB : List (List UInt8) → Bool
  | a :: b :: r => decide (cmpB a b < 0) && isSetB (b :: r)
  | _ => true
theorem isSetB_iff : ∀ {l : List (List UInt8)}, isSetB l = true ↔ ∀ i (h : i + 1 < l.length), cmpB (l[i]'(by omega)) l[i + 1] < 0
  | [] => by simp [isSetB]
  | [a] => by simp [isSetB]
  | a :: b :: r => by
    rw [isSetB, Bool.and_eq_true, decide_eq_true_eq, isSetB_iff (l := b :: r)]
    constructor
    · rintro ⟨h1, h2⟩ i hi
      cases i with
      | zero => exact h1
      | succ i => exact h2 i (by simpa using hi)
    · intro h
      exact ⟨h 0 (by simp), fun i hi => h (i + 1) (by simpa using hi)⟩
theorem isSetB_pair {l : List (List UInt8)} (h : isSetB l = true) : l.Pairwise fun a b => cmpB a b < 0 := by
  induction l with
  | nil => exact List.Pairwise.nil
  | cons a l ih =>
    rw [List.pairwise_cons]
    have ht : isSetB l = true := by
      cases l with
      | nil => rfl
      | cons b r => rw [isSetB, Bool.and_eq_true] at h; exact h.2
    refine ⟨?_, ih ht⟩
    intro x hx
    cases l with
    | nil => cases hx
    | cons b r =>
      rw [isSetB, Bool.and_eq_true, decide_eq_true_eq] at h
      rcases List.mem_cons.1 hx with rfl | hx
      · exact h.1
      · exact cmpB_trans h.1 ((List.pairwise_cons.1 (ih ht)).1 x hx)
theorem isSetB_of_pair {l : List (List UInt8)} (h : l.Pairwise fun a b => cmpB a b < 0) : isSetB l = true := by
  rw [isSetB_iff]
  intro i hi
  exact (List.pairwise_iff_getElem.1 h) i (i + 1) (by omega) hi (by omega)

/-- A load of several cells, in a region that draws. -/
theorem wpStill_loadN {P : Program} {ops : Array Oper} {rest : List Oper} {o : Oper} {a : Act} {w : World} {Q : Act → Prop} (hw : Region.wanted o (yielded ops a.tmps) = true) (ty : TypeId) (x : Operand) (ho : o.op = .load ty x)
    (b off : Nat) (hx : a.eval x = .pointer (some ⟨b, off, none⟩)) (cs : List Value) (d : TypeDesc) (hc : ∀ j u, cs[j]? = some u → w.cell? ⟨b, off + j, none⟩ = some u)
    (hu : P.underlying ty = some d) (hd : (match d with | .struct _ | .array _ _ => true | _ => false) = true) (hi : (P.info? ty).map (·.size) = some cs.length)
    (h : wpStill P ops w Q rest (a.put o.dst (.agg cs.toArray))) : wpStill P ops w Q (o :: rest) a := by
  unfold wpStill
  rw [if_pos hw]
  unfold Oper.still execOp
  simp only [ho, hx, Instr.loadAt, Instr.sureAddr, Sem.run_bind, Sem.run_pure, Result.andThen_ok, run_loadN w b off ty cs d hc hu hd hi]
  exact ⟨rfl, h⟩
end Go.Proofs.YthjaepmfkgejkaaDoor
namespace Go.Proofs.YthjaepmfkgejkaaDoor
open Go.RowKit
set_option linter.unusedVariables false

/-! ### Values with a key's cells -/

theorem mapM_some {α β : Type} {f : α → Option β} : ∀ {l : List α}, (∀ x ∈ l, ∃ y, f x = some y) → ∃ ys, l.mapM f = some ys
  | [], _ => ⟨[], rfl⟩
  | x :: l, h => by
    obtain ⟨y, hy⟩ := h x (by simp)
    obtain ⟨ys, hys⟩ := mapM_some (l := l) fun z hz => h z (by simp [hz])
    exact ⟨y :: ys, by simp [List.mapM_cons, hy, hys]⟩

/-- Cells of a type that '==' goes through. -/
def Kb (P : Program) (n : Nat) (t : TypeId) (cs : List Value) : Prop := ∀ d, n ≤ d → ∃ l, P.keyLits d t cs = some l
section
variable {P : Program} {t e : TypeId} {m n : Nat} {cs : List Value}
theorem kb_int {k : IntKind} {z : Int} (hu : P.underlying t = some (.int k)) (hw : (Lit.int k z).wf = true) : Kb P 1 t [.int k z] := by
  intro d hd
  cases d with
  | zero => omega
  | succ d => exact ⟨_, by simp [Program.keyLits, hu, hw]; rfl⟩
theorem kb_bool {z : Bool} (hu : P.underlying t = some .bool) : Kb P 1 t [.bool z] := by
  intro d hd
  cases d with
  | zero => omega
  | succ d => exact ⟨_, by simp [Program.keyLits, hu]; rfl⟩
theorem kb_str {s : ByteArray} (hu : P.underlying t = some .string) (hs : s.size ≤ maxLen) : Kb P 1 t [.string s] := by
  intro d hd
  cases d with
  | zero => omega
  | succ d => exact ⟨_, by simp [Program.keyLits, hu, hs]; rfl⟩
theorem kb_arr (hu : P.underlying t = some (.array n e)) (hl : cs.length = P.cellsOf t) (h : ∀ i, i < n → Kb P m e ((cs.drop (i * P.cellsOf e)).take (P.cellsOf e))) : Kb P (m + 1) t cs := by
  intro d hd
  cases d with
  | zero => omega
  | succ d =>
    obtain ⟨ys, hys⟩ := mapM_some (l := List.range n) (f := fun i => P.keyLits d e ((cs.drop (i * P.cellsOf e)).take (P.cellsOf e))) fun i hi => h i (by simpa using hi) d (by omega)
    exact ⟨_, by simp only [Program.keyLits, hu, hl, if_true, hys]; rfl⟩
theorem kb_struct {fs : Array Field} (hu : P.underlying t = some (.struct fs)) (hl : cs.length = P.cellsOf t) (hn : fs.all (·.name != "_") = true) (h : ∀ f ∈ fs.toList, Kb P m f.type ((cs.drop f.offset).take (P.cellsOf f.type))) : Kb P (m + 1) t cs := by
  intro d hd
  cases d with
  | zero => omega
  | succ d =>
    obtain ⟨ys, hys⟩ := mapM_some (l := fs.toList) (f := fun f => P.keyLits d f.type ((cs.drop f.offset).take (P.cellsOf f.type))) fun f hf => h f hf d (by omega)
    exact ⟨_, by simp only [Program.keyLits, hu, hl, hn, and_self, if_true, hys]; rfl⟩
/-- What the gates of a type say that is compared cell by cell. -/
structure EqT (P : Program) (t : TypeId) (m : Nat) : Prop where
  laid : laidOutB P = true
  few : P.types.size + 2 ≤ 10000
  row : t < P.types.size
  key : P.keyType t = true
  wide : (match P.underlying t with | some (.array _ _) | some (.struct _) => true | _ => false) = true
  deep : m ≤ P.types.size + 1
  noGuard : P.eqGuardType P.depth t = false
theorem EqT.keyed (E : EqT P t m) : Maps.Keyed P t := Maps.Keyed.of_law (deep_law_laid E.laid (m := P.types.size + 1) E.few E.row E.key E.wide)
theorem EqT.is (E : EqT P t m) (hl : cs.length = P.cellsOf t) (h : Kb P m t cs) : ∃ l, keyOf P t (.agg cs.toArray) = some l := by
  obtain ⟨l, hl2⟩ := h (P.types.size + 1) E.deep
  have hw := E.wide
  have hf : (Value.agg cs.toArray).formed P t = true := by
    unfold Value.formed
    split at hw <;> simp_all
  have hc : (P.keyLits (P.types.size + 1) t (Value.agg cs.toArray).cells.toList).map (fun ls => Lit.string (keyBytes ls)) = some (.string (keyBytes l)) := by
    rw [show (Value.agg cs.toArray).cells.toList = cs from rfl, hl2]; rfl
  refine ⟨.string (keyBytes l), ?_⟩
  unfold keyOf
  split at hw
  · rename_i hu; simp only [hu, E.key, hf, Bool.and_self, if_true]; exact hc
  · rename_i hu; simp only [hu, E.key, hf, Bool.and_self, if_true]; exact hc
  · cases hw
theorem EqT.run (E : EqT P t m) {α : Type} [DecidableEq α] (enc : α → List Value) (hinj : ∀ a b, enc a = enc b → a = b) {a b : α} (la : (enc a).length = P.cellsOf t) (lb : (enc b).length = P.cellsOf t) (ha : Kb P m t (enc a)) (hb : Kb P m t (enc b)) (w : World) :
    (Op.equalIn 10000 t (.agg (enc a).toArray) (.agg (enc b).toArray)).run P w = .ok (decide (a = b)) w := by
  obtain ⟨ka, ha⟩ := E.is la ha
  obtain ⟨kb, hb⟩ := E.is lb hb
  obtain ⟨r, hr, hiff⟩ := run_equal_deep w (m := P.types.size + 1) (by have := E.few; omega) E.key E.wide ha hb
  have h2 : (Op.equalIn 10000 t (.agg (enc a).toArray) (.agg (enc b).toArray)).run P w = .ok r w := hr
  rw [h2]
  congr 1
  rw [Bool.eq_iff_iff, hiff, decide_eq_true_eq]
  constructor
  · intro h
    have := E.keyed.inj ha (by rw [h]; exact hb)
    injection this with this
    exact hinj _ _ (by have := congrArg Array.toList this; simpa using this)
  · rintro rfl
    rw [ha] at hb
    exact Option.some.inj hb
end

/-! ### Single operations -/

section
variable {P : Program} {ρ : Operand → Value} {o : Oper} {w : World}
theorem ex_load (ty : TypeId) (x : Operand) (ho : o.op = .load ty x) {p : Addr} (hx : ρ x = .pointer (some p)) {v : Value} (h : (loadVar ty p).run P w = .ok v w) : (execOp ρ o).run P w = .ok (.value v) w := by
  unfold execOp
  simp only [ho, hx, Instr.loadAt, Instr.sureAddr, Sem.run_bind, Sem.run_pure, Result.andThen_ok, h]
theorem ex_eql (t t' : TypeId) (x y : Operand) (ho : o.op = .binOp .eql t x y t') {xs ys : Array Value} (hx : ρ x = .agg xs) (hy : ρ y = .agg ys) {r : Bool} (hg : P.eqGuardType P.depth t = false)
    (h : (Op.equalIn 10000 t (.agg xs) (.agg ys)).run P w = .ok r w) : (execOp ρ o).run P w = .ok (.value (.bool r)) w := by
  unfold execOp
  simp only [ho, hx, hy, Sem.run_bind, run_eqGuard_agg w _ _ _ _ _ _ hg, Result.andThen_ok, run_eql_struct, h, Sem.run_pure]
theorem ex_neq (t t' : TypeId) (x y : Operand) (ho : o.op = .binOp .neq t x y t') {xs ys : Array Value} (hx : ρ x = .agg xs) (hy : ρ y = .agg ys) {r : Bool} (hg : P.eqGuardType P.depth t = false)
    (h : (Op.equalIn 10000 t (.agg xs) (.agg ys)).run P w = .ok r w) : (execOp ρ o).run P w = .ok (.value (.bool (!r))) w := by
  unfold execOp
  simp only [ho, hx, hy, Sem.run_bind, run_eqGuard_agg w _ _ _ _ _ _ hg, Result.andThen_ok, run_neq_struct, h, Sem.run_pure]
theorem ex_build (t : TypeId) (ps : Array (Nat × Operand)) (ho : o.op = .build t ps) {v : Value} (h : (Instr.build t (ps.map fun (i, x) => (i, ρ x))).run P w = .ok v w) : (execOp ρ o).run P w = .ok (.value v) w := by
  unfold execOp
  simp only [ho, Sem.run_bind, h, Result.andThen_ok, Sem.run_pure]
end
section
variable {P : Program} {o : Oper} {a : Act} {v : Value}
theorem quiet_val {C : World → Prop} {K : Act → Prop} (h : ∀ w, C w → (execOp a.eval o).run P w = .ok (.value v) w) (hk : K (a.put o.dst v)) : o.quiet P a C K :=
  ⟨v, fun w hw => by unfold Oper.quietAt; rw [h w hw]; exact ⟨rfl, rfl⟩, hk⟩
theorem wp_val {ops : Array Oper} {rest : List Oper} {w : World} {Q : Exit → Act → World → Prop} (hw : Region.wanted o (yielded ops a.tmps) = true) (h : (execOp a.eval o).run P w = .ok (.value v) w) (hk : wpList P ops Q rest (a.put o.dst v) w) : wpList P ops Q (o :: rest) a w :=
  BigFrame.wpList_want hw fun K hK => by
    have := hK _ _ hk
    unfold Oper.wp
    rw [h]
    exact this
theorem still_val {ops : Array Oper} {rest : List Oper} {w : World} {Q : Act → Prop} (hw : Region.wanted o (yielded ops a.tmps) = true) (h : (execOp a.eval o).run P w = .ok (.value v) w) (hk : wpStill P ops w Q rest (a.put o.dst v)) : wpStill P ops w Q (o :: rest) a := by
  unfold wpStill
  rw [if_pos hw]
  unfold Oper.still
  rw [h]
  exact ⟨rfl, hk⟩
end

/-! ### A region that draws its order, in the worlds that leave alone what lay -/

def Wd (base : Nat) (w : World) : Type := { w' : World // Below base w w' }
instance (base : Nat) (w : World) : Nonempty (Wd base w) := ⟨⟨w, Below.refl _ _⟩⟩
theorem Wd.cell {base : Nat} {w : World} {b o : Nat} {v : Value} (hc : w.cell? ⟨b, o, none⟩ = some v) (hb : b < base) : ∀ n : Wd base w, n.val.cell? ⟨b, o, none⟩ = some v := fun n => (n.2.cell (p := ⟨b, o, none⟩) hb).trans hc
theorem Wd.row {base : Nat} {w : World} {b o : Nat} {cs : List Value} (hc : ∀ j u, cs[j]? = some u → w.cell? ⟨b, o + j, none⟩ = some u) (hb : b < base) : ∀ w', (∃ n : Wd base w, w' = n.val) → ∀ j u, cs[j]? = some u → w'.cell? ⟨b, o + j, none⟩ = some u := by
  rintro w' ⟨n, rfl⟩ j u hu
  exact Wd.cell (hc j u hu) hb n
theorem Wd.call {base : Nat} {w : World} {P : Program} {f : FuncId} {args : Array Value} {v : Value} (h : ∀ w', Below base w w' → Calls P f args w' fun e w'' => Below w'.heap.size w' w'' ∧ e = .returned v) (hbs : base ≤ w.heap.size) (n : Wd base w) :
    Calls P f args n.val fun e w'' => e = .returned v ∧ ∃ m : Wd base w, w'' = m.val :=
  (h n.val n.2).mono fun e w'' ⟨hb, he⟩ => ⟨he, ⟨w'', n.2.trans (hb.mono (Nat.le_trans hbs n.2.size))⟩, rfl⟩
theorem wp_region_wd {P : Program} {id : Nat} {Q : Exit → Act → World → Prop} {a : Act} {w : World} {l : List Oper} {base : Nat} (w0 : World) (hb : Below base w0 w) (hm : P.follows .mixedOrders = true) (hB : Region.lexB .any l.toArray = true)
    (h : wpQuiet P l.toArray (fun w' => ∃ n : Wd base w0, w' = n.val) (fun a' => ∀ w', (∃ n : Wd base w0, w' = n.val) → Q .normal a' w') l a) : (Code.region id l.toArray true).wp P Q a w :=
  wp_region_quiet (C := fun w' => ∃ n : Wd base w0, w' = n.val) hm hB ⟨⟨_, hb.drew⟩, rfl⟩ (by simpa using h)
end Go.Proofs.YthjaepmfkgejkaaDoor
namespace Go.Proofs.YthjaepmfkgejkaaDoor
open Go.RowKit Go.Sort
set_option linter.unusedVariables false

/-- The world has drawn, and new blocks lie behind; nothing else. -/
def Gr (w w' : World) : Prop := ∃ q os, w' = grow (w.drewN q) os
theorem Gr.refl (w : World) : Gr w w := ⟨0, #[], by rw [grow_empty]; rfl⟩
theorem Gr.trans {a b c : World} (h : Gr a b) (k : Gr b c) : Gr a c := by
  obtain ⟨q, os, rfl⟩ := h
  obtain ⟨q', os', rfl⟩ := k
  refine ⟨q + q', os ++ os', ?_⟩
  rw [show (grow (a.drewN q) os).drewN q' = grow ((a.drewN q).drewN q') os from rfl, grow_grow, World.drewN_drewN]
theorem Gr.alloc {a b : World} (h : Gr a b) (o : Obj) : Gr a (b.alloc o) := h.trans ⟨0, #[o], by rw [alloc_eq_grow]; rfl⟩
theorem Gr.drewN {a b : World} (h : Gr a b) (q : Nat) : Gr a (b.drewN q) := h.trans ⟨q, #[], by rw [grow_empty]⟩
theorem Gr.drew {a b : World} (h : Gr a b) : Gr a b.drew := h.drewN 1
theorem Gr.below {a b : World} (h : Gr a b) : Below a.heap.size a b := by
  obtain ⟨q, os, rfl⟩ := h
  refine ⟨rfl, rfl, rfl, by simp [grow, World.drewN], fun k hk => ?_⟩
  show (a.heap ++ os)[k]? = _
  rw [Array.getElem?_append_left hk]
end Go.Proofs.YthjaepmfkgejkaaDoor
namespace Go.Proofs.YthjaepmfkgejkaaDoor
open Go.RowKit
set_option linter.unusedVariables false

/-- How many of the first k are still to come. -/
def toCome (listed : Array Bool) : Nat → Nat
  | 0 => 0
  | k + 1 => toCome listed k + (if listed.getD k true = false then 1 else 0)
theorem toCome_none {listed : Array Bool} : ∀ {k : Nat}, toCome listed k = 0 → ∀ j, j < k → listed.getD j true = true
  | 0, _, _, h => by omega
  | k + 1, h, j, hj => by
    unfold toCome at h
    by_cases hk : listed.getD k true = false
    · rw [if_pos hk] at h; omega
    · rw [if_neg hk] at h
      rcases (by omega : j < k ∨ j = k) with q | rfl
      · exact toCome_none (by omega) j q
      · simpa using hk
theorem toCome_least {listed : Array Bool} : ∀ {k : Nat}, toCome listed k ≠ 0 → ∃ j, j < k ∧ listed.getD j true = false ∧ ∀ i, i < j → listed.getD i true = true
  | 0, h => absurd rfl h
  | k + 1, h => by
    by_cases h0 : toCome listed k = 0
    · refine ⟨k, by omega, ?_, toCome_none h0⟩
      unfold toCome at h
      by_cases hk : listed.getD k true = false
      · exact hk
      · rw [if_neg hk, h0] at h; exact absurd rfl h
    · obtain ⟨j, hj, h1, h2⟩ := toCome_least h0
      exact ⟨j, by omega, h1, h2⟩
theorem toCome_beyond {listed : Array Bool} {i : Nat} : ∀ {k : Nat}, k ≤ i → toCome (listed.setIfInBounds i true) k = toCome listed k
  | 0, _ => rfl
  | k + 1, h => by
    unfold toCome
    rw [toCome_beyond (by omega), getD_set_ne true (by omega)]
theorem toCome_set {listed : Array Bool} {i : Nat} (hi : listed.getD i true = false) : ∀ {k : Nat}, i < k → toCome (listed.setIfInBounds i true) k + 1 = toCome listed k
  | 0, h => by omega
  | k + 1, h => by
    rcases (by omega : i < k ∨ i = k) with q | rfl
    · have := toCome_set hi q
      unfold toCome
      rw [getD_set_ne true (by omega)]
      omega
    · unfold toCome
      rw [toCome_beyond (Nat.le_refl _), if_pos hi]
      have : (listed.setIfInBounds i true).getD i true = true := by
        have hlt : i < listed.size := by
          rcases Nat.lt_or_ge i listed.size with q | q
          · exact q
          · simp [Array.getElem?_eq_none q] at hi
        simp [hlt]
      rw [if_neg (by rw [this]; simp)]
theorem getD_rep {m j : Nat} (b : Bool) (h : j < m) : (Array.replicate m false).getD j b = false := by simp [h]
theorem toCome_all (n : Nat) : ∀ k, k ≤ n → toCome (Array.replicate n false) k = k
  | 0, _ => rfl
  | k + 1, h => by
    unfold toCome
    rw [toCome_all n k (by omega), if_pos (getD_rep true (by omega))]

/-- Each operation ahead waits, and is guarded, by earlier ones alone. -/
def backB (md : Region.Mode) (H : Array Oper) : Bool :=
  (List.range H.size).all fun j => match H[j]? with
    | some o => (o.after.all fun e => !Region.binds md e || decide (e.on < j)) && (match o.guard with | some (k, _) => decide (k < H.size) | none => true)
    | none => true
theorem backB_spec {md : Region.Mode} {H : Array Oper} (h : backB md H = true) {j : Nat} {o : Oper} (ho : H[j]? = some o) : (∀ e ∈ o.after, Region.binds md e = true → e.on < j) ∧ ∀ k b, o.guard = some (k, b) → k < H.size := by
  have hj := (Array.getElem?_eq_some_iff.1 ho).1
  have h1 := List.all_eq_true.1 h j (List.mem_range.2 hj)
  simp only [ho, Bool.and_eq_true] at h1
  refine ⟨fun e he hb => ?_, fun k b hg => ?_⟩
  · have := Array.all_eq_true'.1 h1.1 e he
    simpa [hb] using this
  · have := h1.2
    rw [hg] at this
    simpa using this

section
variable {P : Program} {md : Region.Mode} {H ops : Array Oper} {C : World → Prop}
/-- The two lists of what is done agree on what stands ahead. -/
structure Agree (H ops : Array Oper) (done listed : Array Bool) : Prop where
  size : done.size = H.size
  same : ∀ j b, j < H.size → done.getD j b = listed.getD j b

theorem Agree.set {done listed : Array Bool} (h : Agree H ops done listed) {i : Nat} (hl : H.size ≤ listed.size) : Agree H ops (done.setIfInBounds i true) (listed.setIfInBounds i true) := by
  refine ⟨by simpa using h.size, fun j b hj => ?_⟩
  by_cases e : i = j
  · subst e
    have h1 : i < done.size := by rw [h.size]; exact hj
    have h2 : i < listed.size := by omega
    simp [h1, h2]
  · rw [getD_set_ne b e, getD_set_ne b e]
    exact h.same j b hj
theorem wanted_ahead (hH : ∀ j, j < H.size → H[j]? = ops[j]?) (hb : backB md H = true) {j : Nat} {o : Oper} (ho : H[j]? = some o) (tmps : Array Value) : Region.wanted o (yielded H tmps) = Region.wanted o (yielded ops tmps) := by
  have hg := (backB_spec hb ho).2
  unfold Region.wanted
  cases hgd : o.guard with
  | none => rfl
  | some g =>
    obtain ⟨k, b⟩ := g
    have hk := hg k b hgd
    have : yielded H tmps k = yielded ops tmps k := by unfold yielded; rw [hH k hk]
    simp only [this]
theorem wpAny_ahead {n g : Nat} {Q : Act → Prop} {Q' : Exit → Act → World → Prop} (hn : n < ops.size) (hHn : H.size = n) (hH : ∀ j, j < H.size → H[j]? = ops[j]?) (hb : backB md H = true) (hs : Region.sinkB md ops n = true) (hc : Region.chainB md ops n = true)
    (hT : ∀ (listed : Array Bool) (a : Act) (w : World), HeadInv md ops n listed → (∀ j, j < n → listed.getD j true = true) → Q a → C w → wpAny P md ops Q' g listed a w) :
    ∀ (f : Nat) (done listed : Array Bool) (a : Act) (w : World), toCome listed n = f → HeadInv md ops n listed → Agree H ops done listed → C w → wpAnyQ P md H C Q f done a → wpAny P md ops Q' (f + g) listed a w
  | 0, done, listed, a, w, hf, inv, ag, hw, h => by
    rw [Nat.zero_add]
    exact hT listed a w inv (toCome_none hf) h.2 hw
  | f + 1, done, listed, a, w, hf, inv, ag, hw, h => by
    obtain ⟨j0, hj0, hu0, hl0⟩ := toCome_least (listed := listed) (k := n) (by omega)
    have hready : ∀ j, j < n → (j ∈ Region.ready md H done ↔ j ∈ Region.ready md ops listed) := by
      intro j hj
      rw [mem_ready, mem_ready, hH j (by omega), ag.same j true (by omega)]
      refine and_congr Iff.rfl (exists_congr fun o => and_congr_right fun ho => ?_)
      have hbk := (backB_spec hb ((hH j (by omega)).trans ho)).1
      refine forall_congr' fun e => forall_congr' fun he => forall_congr' fun hbd => ?_
      rw [ag.same e.on false (by have := hbk e he hbd; omega)]
    have hne : Region.ready md ops listed ≠ [] := by
      intro h0
      obtain ⟨o, ho⟩ : ∃ o, ops[j0]? = some o := ⟨_, Array.getElem?_eq_getElem (by omega)⟩
      have : j0 ∈ Region.ready md ops listed := mem_ready.2 ⟨hu0, o, ho, fun e he hbd => by
        have hlt := (backB_spec hb ((hH j0 (by omega)).trans ho)).1 e he hbd
        have h1 := hl0 e.on hlt
        have hsz : e.on < listed.size := by rw [inv.size]; omega
        simpa [hsz] using h1⟩
      rw [h0] at this
      cases this
    rw [show f + 1 + g = (f + g) + 1 by omega]
    refine ⟨fun h0 => absurd h0 hne, fun i hi => ?_⟩
    have hin : i < n := by
      rcases Nat.lt_or_ge i n with q | q
      · exact q
      · exact absurd hi (tail_waits hs hc hn inv _ j0 rfl hj0 hu0 i q)
    have hiu := (mem_ready.1 hi).1
    have hq := h.2 i ((hready i hin).2 hi)
    obtain ⟨o, ho⟩ : ∃ o, ops[i]? = some o := ⟨_, Array.getElem?_eq_getElem (by omega)⟩
    have hoH : H[i]? = some o := (hH i (by omega)).trans ho
    have go : ∀ (a' : Act) (w' : World), C w' → wpAnyQ P md H C Q f (done.setIfInBounds i true) a' → wpAny P md ops Q' (f + g) (listed.setIfInBounds i true) a' w' := fun a' w' hw' hk =>
      wpAny_ahead hn hHn hH hb hs hc hT f _ _ a' w' (by have := toCome_set hiu hin; omega) (inv.set hi hin) (ag.set (by rw [inv.size]; omega)) hw' hk
    unfold qOp at hq
    simp only [hoH] at hq
    rw [wanted_ahead hH hb hoH] at hq
    unfold wpOp
    simp only [ho]
    split
    · rename_i hwd
      rw [if_pos hwd] at hq
      exact .inl (Oper.wp_of_quiet hw go hq)
    · rename_i hwd
      rw [if_neg hwd] at hq
      exact go _ _ hw hq
end

/-- The whole region. -/
theorem wp_region_quiet_tail {P : Program} {id : Nat} {Q : Exit → Act → World → Prop} {a : Act} {w : World} {l : List Oper} (n : Nat) (C : World → Prop) (hC : C w.drew) (hm : P.follows .mixedOrders = true)
    (h1 : Region.lexB .any (l.take n).toArray = true) (h2 : backB .any (l.take n).toArray = true) (h3 : (decide (n < l.length) && Region.sinkB .any l.toArray n && Region.chainB .any l.toArray n) = true)
    (h4 : Region.seqB .any l.toArray (l.length - n) n (Array.replicate n true ++ Array.replicate (l.length - n) false) = true)
    (h : wpQuiet P (l.take n).toArray C (fun a' => ∀ w', C w' → wpList P l.toArray Q (l.drop n) a' w') (l.take n) a) : (Code.region id l.toArray true).wp P Q a w := by
  simp only [Bool.and_eq_true, decide_eq_true_eq] at h3
  obtain ⟨⟨hn, hs⟩, hc⟩ := h3
  have htl : (l.take n).length = n := by simp; omega
  refine wp_region_any hm ?_
  have inv0 : HeadInv .any l.toArray n (Array.replicate l.toArray.size false) :=
    ⟨by simp, fun j oj _ hl => (by rw [getD_replicate_false] at hl; cases hl), fun t _ ht => getD_in (by simpa using ht) (getD_replicate_false _ _)⟩
  simp only [Region.lexB, Bool.and_eq_true] at h1
  have hQ := wpAnyQ_lex (P := P) (C := C) (md := .any) (Q := fun a' => ∀ w', C w' → wpList P l.toArray Q (l.drop n) a' w') h1.1 (l.take n) 0 (Array.replicate (l.take n).toArray.size false) a (by simp) (by simpa using h1.2) h
  have := wpAny_ahead (P := P) (md := .any) (H := (l.take n).toArray) (ops := l.toArray) (C := C) (n := n) (g := l.length - n) (Q := fun a' => ∀ w', C w' → wpList P l.toArray Q (l.drop n) a' w') (Q' := Q) (by simpa using hn) (by simpa using htl)
    (fun j hj => by
      have hj' : j < n := by simp at hj; omega
      simp [hj'])
    h2 hs hc
    (fun listed a' w' inv hall hq hw' => by
      have hL : listed = Array.replicate n true ++ Array.replicate (l.length - n) false := by
        apply Array.ext_getElem?
        intro j
        have hsz : listed.size = l.length := by simpa using inv.size
        by_cases hj : j < n
        · have := hall j hj
          have hjs : j < listed.size := by omega
          rw [Array.getElem?_append_left (by simpa using hj)]
          simp [hjs, hj] at this ⊢
          exact this
        · by_cases hj2 : j < l.length
          · have := inv.tail j (by omega) (by simpa using hj2)
            have hjs : j < listed.size := by omega
            have hv : listed[j]? = some false := by
              rw [Array.getElem?_eq_getElem hjs]
              simpa [hjs] using this
            have hk : j - (Array.replicate n true).size < l.length - n := by rw [Array.size_replicate]; omega
            rw [hv, Array.getElem?_append_right (by rw [Array.size_replicate]; omega), Array.getElem?_replicate, if_pos hk]
          · rw [Array.getElem?_eq_none (by omega), Array.getElem?_eq_none (by simp; omega)]
      have hdl : (l.drop n).length = l.length - n := by simp
      have := wpAny_of_seq (md := .any) (Q' := Q) (l.drop n) n listed a' w' (fun j => by simp [List.getElem?_drop]) (by rw [hdl, hL]; exact h4) (hq w' hw')
      rwa [hdl] at this)
    (l.take n).length (Array.replicate (l.take n).toArray.size false) (Array.replicate l.toArray.size false) a w.drew (by rw [htl]; exact toCome_all _ _ (by simp; omega)) inv0
    ⟨by simp, fun j b hj => by
      have h2 : j < l.toArray.size := by
        have hj' : j < (l.take n).length := hj
        rw [List.size_toArray]
        omega
      rw [getD_rep b hj, getD_rep b h2]⟩ hC hQ
  rw [htl, show n + (l.length - n) = l.toArray.size by simp; omega] at this
  exact this
theorem wp_region_tail_wd {P : Program} {id : Nat} {Q : Exit → Act → World → Prop} {a : Act} {w : World} {l : List Oper} (n : Nat) {base : Nat} (w0 : World) (hb : Below base w0 w) (hm : P.follows .mixedOrders = true)
    (h1 : Region.lexB .any (l.take n).toArray = true) (h2 : backB .any (l.take n).toArray = true) (h3 : (decide (n < l.length) && Region.sinkB .any l.toArray n && Region.chainB .any l.toArray n) = true)
    (h4 : Region.seqB .any l.toArray (l.length - n) n (Array.replicate n true ++ Array.replicate (l.length - n) false) = true)
    (h : wpQuiet P (l.take n).toArray (fun w' => ∃ k : Wd base w0, w' = k.val) (fun a' => ∀ w', (∃ k : Wd base w0, w' = k.val) → wpList P l.toArray Q (l.drop n) a' w') (l.take n) a) : (Code.region id l.toArray true).wp P Q a w :=
  wp_region_quiet_tail n (fun w' => ∃ k : Wd base w0, w' = k.val) ⟨⟨_, hb.drew⟩, rfl⟩ hm h1 h2 h3 h4 h

/-! ### The worlds that only drew and grew -/

def Wg (w : World) : Type := { w' : World // Gr w w' }
instance (w : World) : Nonempty (Wg w) := ⟨⟨w, Gr.refl _⟩⟩
theorem Wg.cell {w : World} {b o : Nat} {v : Value} (hc : w.cell? ⟨b, o, none⟩ = some v) (hb : b < w.heap.size) : ∀ n : Wg w, n.val.cell? ⟨b, o, none⟩ = some v := fun n => (n.2.below.cell (p := ⟨b, o, none⟩) hb).trans hc
theorem Wg.row {w : World} {b o : Nat} {cs : List Value} (hc : ∀ j u, cs[j]? = some u → w.cell? ⟨b, o + j, none⟩ = some u) (hb : b < w.heap.size) : ∀ w', (∃ n : Wg w, w' = n.val) → ∀ j u, cs[j]? = some u → w'.cell? ⟨b, o + j, none⟩ = some u := by
  rintro w' ⟨n, rfl⟩ j u hu
  exact Wg.cell (hc j u hu) hb n
theorem Wg.call {w : World} {P : Program} {f : FuncId} {args : Array Value} {v : Value} (h : ∀ w', Calls P f args w' fun e w'' => Gr w' w'' ∧ e = .returned v) (n : Wg w) :
    Calls P f args n.val fun e w'' => e = .returned v ∧ ∃ m : Wg w, w'' = m.val :=
  (h n.val).mono fun e w'' ⟨hb, he⟩ => ⟨he, ⟨w'', n.2.trans hb⟩, rfl⟩
theorem wp_region_tail_wg {P : Program} {id : Nat} {Q : Exit → Act → World → Prop} {a : Act} {w : World} {l : List Oper} (n : Nat) (hm : P.follows .mixedOrders = true)
    (h1 : Region.lexB .any (l.take n).toArray = true) (h2 : backB .any (l.take n).toArray = true) (h3 : (decide (n < l.length) && Region.sinkB .any l.toArray n && Region.chainB .any l.toArray n) = true)
    (h4 : Region.seqB .any l.toArray (l.length - n) n (Array.replicate n true ++ Array.replicate (l.length - n) false) = true)
    (h : wpQuiet P (l.take n).toArray (fun w' => ∃ k : Wg w, w' = k.val) (fun a' => ∀ w', (∃ k : Wg w, w' = k.val) → wpList P l.toArray Q (l.drop n) a' w') (l.take n) a) : (Code.region id l.toArray true).wp P Q a w :=
  wp_region_quiet_tail n (fun w' => ∃ k : Wg w, w' = k.val) ⟨⟨_, (Gr.refl w).drew⟩, rfl⟩ hm h1 h2 h3 h4 h
end Go.Proofs.YthjaepmfkgejkaaDoor
namespace Go.Proofs.YthjaepmfkgejkaaDoor
open Go.RowKit
set_option linter.unusedVariables false

theorem wp_region_wr {P : Program} {id : Nat} {Q : Exit → Act → World → Prop} {a : Act} {w : World} {l : List Oper} (hm : P.follows .mixedOrders = true) (hB : Region.lexB .any l.toArray = true)
    (h : wpQuiet P l.toArray (fun w' => ∃ n : Wg w, w' = n.val) (fun a' => ∀ w', (∃ n : Wg w, w' = n.val) → Q .normal a' w') l a) : (Code.region id l.toArray true).wp P Q a w :=
  wp_region_quiet (C := fun w' => ∃ n : Wg w, w' = n.val) hm hB ⟨⟨_, (Gr.refl w).drew⟩, rfl⟩ (by simpa using h)
end Go.Proofs.YthjaepmfkgejkaaDoor
namespace Go.Proofs.YthjaepmfkgejkaaDoor
set_option linter.unusedVariables false

def linesS : List UInt8 → List (List UInt8)
  | [] => []
  | b :: r => if b = 10 then [10] :: linesS r else match linesS r with
    | [] => [[b]]
    | l :: ls => (b :: l) :: ls
theorem linesS_ten (r : List UInt8) : linesS (10 :: r) = [10] :: linesS r := by simp [linesS]
theorem linesS_ne {b : UInt8} (h : b ≠ 10) (r : List UInt8) : linesS (b :: r) = match linesS r with | [] => [[b]] | l :: ls => (b :: l) :: ls := by simp [linesS, h]
theorem linesS_nil {s : List UInt8} (h : linesS s = []) : s = [] := by
  cases s with
  | nil => rfl
  | cons b r =>
    by_cases hb : b = 10
    · subst hb; rw [linesS_ten] at h; cases h
    · rw [linesS_ne hb] at h
      split at h <;> cases h
theorem linesS_join : ∀ s : List UInt8, (linesS s).flatten = s
  | [] => rfl
  | b :: r => by
    have ih := linesS_join r
    by_cases hb : b = 10
    · subst hb; rw [linesS_ten, List.flatten_cons, ih]; rfl
    · rw [linesS_ne hb]
      split
      · rename_i h; rw [linesS_nil h]; rfl
      · rename_i l ls h; rw [h] at ih; rw [List.flatten_cons, List.cons_append, ← List.flatten_cons, ih]
theorem linesS_mem_ne : ∀ (s : List UInt8), ∀ l ∈ linesS s, l ≠ []
  | [], l, h => absurd h (by simp [linesS])
  | b :: r, l, h => by
    have ih := linesS_mem_ne r
    by_cases hb : b = 10
    · subst hb
      rw [linesS_ten] at h
      rcases List.mem_cons.1 h with rfl | h
      · simp
      · exact ih l h
    · rw [linesS_ne hb] at h
      split at h
      · rw [List.mem_singleton.1 h]; simp
      · rename_i l' ls h'
        rcases List.mem_cons.1 h with rfl | h
        · simp
        · exact ih l (by rw [h']; exact List.mem_cons_of_mem _ h)
/-- A byte 10 stands at a line's end only. -/
theorem linesS_inner : ∀ (s : List UInt8), ∀ l ∈ linesS s, ∀ k, l[k]? = some 10 → k + 1 = l.length
  | [], l, h => absurd h (by simp [linesS])
  | b :: r, l, h => by
    have ih := linesS_inner r
    by_cases hb : b = 10
    · subst hb
      rw [linesS_ten] at h
      rcases List.mem_cons.1 h with rfl | h
      · intro k hk
        have : k < 1 := (List.getElem?_eq_some_iff.1 hk).1
        simp; omega
      · exact ih l h
    · rw [linesS_ne hb] at h
      split at h
      · rw [List.mem_singleton.1 h]
        intro k hk
        have : k < 1 := (List.getElem?_eq_some_iff.1 hk).1
        simp; omega
      · rename_i l' ls h'
        rcases List.mem_cons.1 h with rfl | h
        · intro k hk
          cases k with
          | zero => simp at hk; exact absurd hk hb
          | succ k =>
            have := ih l' (by rw [h']; exact List.mem_cons_self) k (by simpa using hk)
            simp; omega
        · exact ih l (by rw [h']; exact List.mem_cons_of_mem _ h)
/-- Every line but the last ends with a byte 10. -/
theorem linesS_ends : ∀ (s : List UInt8) (i : Nat), i + 1 < (linesS s).length → ∀ l, (linesS s)[i]? = some l → l.getLast? = some 10
  | [], i, h => absurd h (by simp [linesS])
  | b :: r, i, h => by
    have ih := linesS_ends r
    by_cases hb : b = 10
    · subst hb
      rw [linesS_ten] at h ⊢
      intro l hl
      cases i with
      | zero => simp at hl; subst hl; rfl
      | succ i => exact ih i (by simpa using h) l (by simpa using hl)
    · rw [linesS_ne hb] at h ⊢
      split
      · rename_i h'; rw [h'] at h; simp at h
      · rename_i l' ls h'
        rw [h'] at h
        intro l hl
        cases i with
        | zero =>
          simp at hl
          subst hl
          have h2 := ih 0 (by rw [h']; simpa using h) l' (by rw [h']; rfl)
          have h3 := linesS_mem_ne r l' (by rw [h']; exact List.mem_cons_self)
          obtain ⟨a, t, rfl⟩ := List.exists_cons_of_ne_nil h3
          rw [List.getLast?_cons_cons]; exact h2
        | succ i => exact ih (i + 1) (by rw [h']; simpa using h) l (by rw [h']; simpa using hl)

/-- What strings.SplitAfter gives at a byte 10. -/
def afterS (s : List UInt8) : List (List UInt8) := Lib.splitK [10] 1 (Lib.count s [10]) s
def tailS (s : List UInt8) : List (List UInt8) := if s = [] ∨ s.getLast? = some 10 then [[]] else []
theorem index_ten (b : UInt8) (l : List UInt8) : Lib.index (b :: l) [10] = if b = 10 then 0 else if Lib.index l [10] == -1 then -1 else Lib.index l [10] + 1 := by
  unfold Lib.index
  by_cases hb : b = 10
  · subst hb; simp
  · rw [if_neg (by simp; exact fun e => hb e.symm), if_neg hb]
    cases l <;> rfl
theorem afterS_ten (r : List UInt8) : afterS (10 :: r) = [10] :: afterS r := by
  unfold afterS
  rw [Lib.count_cons_eq, Nat.add_comm]
  show (if Lib.index (10 :: r) [10] == -1 then _ else _) = _
  rw [index_ten, if_pos rfl]
  rfl
theorem splitK_ne {b : UInt8} (h : b ≠ 10) (r : List UInt8) : ∀ k, ∃ p ps, Lib.splitK [10] 1 k r = p :: ps ∧ Lib.splitK [10] 1 k (b :: r) = (b :: p) :: ps
  | 0 => ⟨r, [], rfl, rfl⟩
  | k + 1 => by
    unfold Lib.splitK
    rw [index_ten, if_neg h]
    by_cases hi : Lib.index r [10] = -1
    · rw [hi]
      exact ⟨r, [], rfl, rfl⟩
    · have hge := Lib.index_ge r [10]
      obtain ⟨n, hn⟩ : ∃ n : Nat, Lib.index r [10] = n := ⟨(Lib.index r [10]).toNat, by omega⟩
      have h1 : (Lib.index r [10] == -1) = false := by rw [beq_eq_false_iff_ne]; exact hi
      have h2 : (Lib.index r [10] + 1 == -1) = false := by rw [beq_eq_false_iff_ne]; omega
      rw [h1]
      simp only [Bool.false_eq_true, if_false, h2]
      have h3 : (Lib.index r [10] + 1).toNat = n + 1 := by omega
      have h4 : (Lib.index r [10]).toNat = n := by omega
      rw [h3, h4]
      refine ⟨_, _, rfl, ?_⟩
      rw [show n + 1 + 1 = (n + 1) + 1 from rfl, List.take_succ_cons, show n + 1 + [(10 : UInt8)].length = (n + [(10 : UInt8)].length) + 1 by simp, List.drop_succ_cons]
theorem afterS_ne {b : UInt8} (h : b ≠ 10) (r : List UInt8) : ∃ p ps, afterS r = p :: ps ∧ afterS (b :: r) = (b :: p) :: ps := by
  unfold afterS
  rw [Lib.count_cons_ne b 10 r h]
  exact splitK_ne h r _
theorem afterS_is : ∀ s : List UInt8, afterS s = linesS s ++ tailS s
  | [] => rfl
  | b :: r => by
    have ih := afterS_is r
    by_cases hb : b = 10
    · subst hb
      rw [afterS_ten, linesS_ten, ih, List.cons_append]
      congr 2
      unfold tailS
      cases r with
      | nil => simp
      | cons a t => rw [List.getLast?_cons_cons]; simp
    · obtain ⟨p, ps, h1, h2⟩ := afterS_ne hb r
      rw [h2, linesS_ne hb]
      rw [h1] at ih
      cases r with
      | nil =>
        simp [linesS, tailS] at ih
        obtain ⟨rfl, rfl⟩ := ih
        simp [linesS, tailS, hb]
      | cons a t =>
        have ht : tailS (b :: a :: t) = tailS (a :: t) := by unfold tailS; rw [List.getLast?_cons_cons]; simp
        rw [ht]
        split
        · rename_i h'; exact absurd (linesS_nil h') (by simp)
        · rename_i l ls h'
          rw [h', List.cons_append] at ih
          obtain ⟨rfl, rfl⟩ := List.cons.inj ih
          rfl
/-- The last piece is empty, or the pieces are the lines. -/
theorem afterS_cut (s : List UInt8) : (∃ l, afterS s = l ++ [[]] ∧ l = linesS s) ∨ (∃ l p, afterS s = l ++ [p] ∧ p ≠ [] ∧ l ++ [p] = linesS s) := by
  have h := afterS_is s
  unfold tailS at h
  split at h
  · exact .inl ⟨_, h, rfl⟩
  · rename_i hn
    rw [List.append_nil] at h
    have hne : linesS s ≠ [] := fun e => hn (.inl (linesS_nil e))
    refine .inr ⟨(linesS s).dropLast, (linesS s).getLast hne, ?_, linesS_mem_ne s _ (List.getLast_mem hne), List.dropLast_concat_getLast hne⟩
    rw [h, List.dropLast_concat_getLast hne]
end Go.Proofs.YthjaepmfkgejkaaDoor
namespace Go.Proofs
open Go.Shelf
def Tryd.lays171_ren : Go.Shelf.Ren := ⟨fun | 171 => 41 | 243 => 73 | 246 => 113 | 283 => 132 | 284 => 133 | 285 => 134 | 286 => 135 | 129 => 107 | 317 => 144 | 318 => 145 | 319 => 146 | 320 => 147 | 337 => 154 | 338 => 155 | n => n, fun | 3 => 3 | 9 => 9 | 2 => 2 | 4 => 4 | 171 => 205 | 0 => 0 | 53 => 40 | 37 => 30 | 5 => 5 | 173 => 207 | 212 => 219 | 51 => 175 | 20 => 20 | 213 => 220 | 46 => 129 | 232 => 44 | 233 => 226 | n => n, fun | 17 => 1 | 18 => 2 | 19 => 3 | n => n⟩
theorem Tryd.lays171 : Go.Proofs.Lays.n171 Tryd.prog Tryd.lays171_ren := {
  mixed := by kernel_rfl
  f129 := Tryd.func107.trans (congrArg some (by kernel_rfl))
  f171 := Tryd.func41.trans (congrArg some (by kernel_rfl))
  f243 := Tryd.func73.trans (congrArg some (by kernel_rfl))
  f246 := Tryd.func113.trans (congrArg some (by kernel_rfl))
  f283 := Tryd.func132.trans (congrArg some (by kernel_rfl))
  f284 := Tryd.func133.trans (congrArg some (by kernel_rfl))
  f285 := Tryd.func134.trans (congrArg some (by kernel_rfl))
  f286 := Tryd.func135.trans (congrArg some (by kernel_rfl))
  f317 := Tryd.func144.trans (congrArg some (by kernel_rfl))
  f318 := Tryd.func145.trans (congrArg some (by kernel_rfl))
  f319 := Tryd.func146.trans (congrArg some (by kernel_rfl))
  f320 := Tryd.func147.trans (congrArg some (by kernel_rfl))
  f337 := Tryd.func154.trans (congrArg some (by kernel_rfl))
  f338 := Tryd.func155.trans (congrArg some (by kernel_rfl))
  t0 := Tryd.underlying0
  a0 := Tryd.isAgg0
  z0 := Tryd.sizeOf0
  v0 := Tryd.zeroValue0
  t2 := Tryd.underlying2
  a2 := Tryd.isAgg2
  z2 := Tryd.sizeOf2
  v2 := Tryd.zeroValue2
  t3 := Tryd.underlying3
  a3 := Tryd.isAgg3
  z3 := Tryd.sizeOf3
  v3 := Tryd.zeroValue3
  t4 := Tryd.underlying4
  a4 := Tryd.isAgg4
  z4 := Tryd.sizeOf4
  v4 := Tryd.zeroValue4
  t5 := Tryd.underlying5
  a5 := Tryd.isAgg5
  z5 := Tryd.sizeOf5
  v5 := Tryd.zeroValue5
  t9 := Tryd.underlying9
  a9 := Tryd.isAgg9
  z9 := Tryd.sizeOf9
  v9 := Tryd.zeroValue9
  t20 := Tryd.underlying20
  a20 := Tryd.isAgg20
  z20 := Tryd.sizeOf20
  v20 := Tryd.zeroValue20
  t37 := Tryd.underlying30
  a37 := Tryd.isAgg30
  z37 := Tryd.sizeOf30
  v37 := Tryd.zeroValue30
  t46 := Tryd.underlying129
  a46 := Tryd.isAgg129
  z46 := Tryd.sizeOf129
  v46 := Tryd.zeroValue129
  t51 := Tryd.underlying175
  a51 := Tryd.isAgg175
  z51 := Tryd.sizeOf175
  v51 := Tryd.zeroValue175
  t53 := Tryd.underlying40
  a53 := Tryd.isAgg40
  z53 := Tryd.sizeOf40
  v53 := Tryd.zeroValue40
  t171 := Tryd.underlying205
  a171 := Tryd.isAgg205
  z171 := Tryd.sizeOf205
  v171 := Tryd.zeroValue205
  t173 := Tryd.underlying207
  a173 := Tryd.isAgg207
  z173 := Tryd.sizeOf207
  v173 := Tryd.zeroValue207
  t212 := Tryd.underlying219
  a212 := Tryd.isAgg219
  z212 := Tryd.sizeOf219
  v212 := Tryd.zeroValue219
  t213 := Tryd.underlying220
  a213 := Tryd.isAgg220
  z213 := Tryd.sizeOf220
  t232 := Tryd.underlying44
  a232 := Tryd.isAgg44
  z232 := Tryd.sizeOf44
  v232 := Tryd.zeroValue44
  t233 := Tryd.underlying226
  a233 := Tryd.isAgg226
  z233 := Tryd.sizeOf226
  v233 := Tryd.zeroValue226
  g17 := by kernel_rfl
  g18 := by kernel_rfl
  g19 := by kernel_rfl }
open Go.RowKit Go.Sort Go.Lib in
theorem Tryd.strconv_Itoa_small (i : Nat) (hi : i < 100) (w : World) :
    Calls Tryd.prog 41 #[.int .i64 i] w fun e w' => e = .returned (.string ⟨(Lib.decDigits i).toArray⟩) ∧ w' = w := Any.strconv_Itoa_small Tryd.lays171 i hi w
def Tryd.lays146_ren : Go.Shelf.Ren := ⟨fun | 146 => 120 | 221 => 129 | 268 => 139 | 138 => 140 | 143 => 141 | 195 => 150 | 197 => 151 | 218 => 152 | 219 => 153 | 260 => 156 | 217 => 157 | 225 => 158 | 224 => 159 | 267 => 160 | 266 => 161 | 314 => 162 | n => n, fun | 9 => 9 | 31 => 56 | 3 => 3 | 4 => 4 | 0 => 0 | 105 => 209 | 21 => 21 | 5 => 5 | 46 => 129 | 119 => 227 | 139 => 230 | 138 => 229 | 146 => 231 | 51 => 175 | n => n, fun | 1 => 0 | 3 => 4 | 4 => 5 | n => n⟩
theorem Tryd.lays146 : Go.Proofs.Lays.n146 Tryd.prog Tryd.lays146_ren := {
  mixed := by kernel_rfl
  f138 := Tryd.func140.trans (congrArg some (by kernel_rfl))
  f143 := Tryd.func141.trans (congrArg some (by kernel_rfl))
  f146 := Tryd.func120.trans (congrArg some (by kernel_rfl))
  f195 := Tryd.func150.trans (congrArg some (by kernel_rfl))
  f197 := Tryd.func151.trans (congrArg some (by kernel_rfl))
  f217 := Tryd.func157.trans (congrArg some (by kernel_rfl))
  f218 := Tryd.func152.trans (congrArg some (by kernel_rfl))
  f219 := Tryd.func153.trans (congrArg some (by kernel_rfl))
  f221 := Tryd.func129.trans (congrArg some (by kernel_rfl))
  f224 := Tryd.func159.trans (congrArg some (by kernel_rfl))
  f225 := Tryd.func158.trans (congrArg some (by kernel_rfl))
  f260 := Tryd.func156.trans (congrArg some (by kernel_rfl))
  f266 := Tryd.func161.trans (congrArg some (by kernel_rfl))
  f267 := Tryd.func160.trans (congrArg some (by kernel_rfl))
  f268 := Tryd.func139.trans (congrArg some (by kernel_rfl))
  f314 := Tryd.func162.trans (congrArg some (by kernel_rfl))
  t0 := Tryd.underlying0
  a0 := Tryd.isAgg0
  z0 := Tryd.sizeOf0
  v0 := Tryd.zeroValue0
  t3 := Tryd.underlying3
  a3 := Tryd.isAgg3
  z3 := Tryd.sizeOf3
  v3 := Tryd.zeroValue3
  t4 := Tryd.underlying4
  a4 := Tryd.isAgg4
  z4 := Tryd.sizeOf4
  v4 := Tryd.zeroValue4
  t5 := Tryd.underlying5
  a5 := Tryd.isAgg5
  z5 := Tryd.sizeOf5
  v5 := Tryd.zeroValue5
  t9 := Tryd.underlying9
  a9 := Tryd.isAgg9
  z9 := Tryd.sizeOf9
  v9 := Tryd.zeroValue9
  t21 := Tryd.underlying21
  a21 := Tryd.isAgg21
  z21 := Tryd.sizeOf21
  v21 := Tryd.zeroValue21
  t31 := Tryd.underlying56
  a31 := Tryd.isAgg56
  z31 := Tryd.sizeOf56
  v31 := Tryd.zeroValue56
  t46 := Tryd.underlying129
  a46 := Tryd.isAgg129
  z46 := Tryd.sizeOf129
  v46 := Tryd.zeroValue129
  t51 := Tryd.underlying175
  a51 := Tryd.isAgg175
  z51 := Tryd.sizeOf175
  v51 := Tryd.zeroValue175
  t105 := Tryd.underlying209
  a105 := Tryd.isAgg209
  z105 := Tryd.sizeOf209
  v105 := Tryd.zeroValue209
  t119 := Tryd.underlying227
  a119 := Tryd.isAgg227
  z119 := Tryd.sizeOf227
  t138 := Tryd.underlying229
  a138 := Tryd.isAgg229
  z138 := Tryd.sizeOf229
  v138 := Tryd.zeroValue229
  t139 := Tryd.underlying230
  a139 := Tryd.isAgg230
  z139 := Tryd.sizeOf230
  v139 := Tryd.zeroValue230
  t146 := Tryd.underlying231
  a146 := Tryd.isAgg231
  z146 := Tryd.sizeOf231
  v146 := Tryd.zeroValue231
  g1 := by kernel_rfl
  g3 := by kernel_rfl
  g4 := by kernel_rfl }
open Go.RowKit Go.Lib in
theorem Tryd.strings_Split (s sep : ByteArray) (m : Int) (w : World) (hs : s.size < 4294967281) (hm : w.cell? ⟨0, 0, none⟩ = some (.int .i64 m)) (h1 : 1 ≤ sep.size) :
    Calls Tryd.prog 120 #[.string s, .string sep] w fun e w' =>
      e = .returned (.slice (some ⟨w.heap.size, 0, none⟩) (Lib.countB s sep + 1) (Lib.countB s sep + 1)) ∧ w' = w.alloc (.cells ((Lib.splitB sep 0 (Lib.countB s sep) s).map Value.string).toArray 9) := Any.strings_Split Tryd.lays146 (by kernel_rfl) s sep m w hs hm h1
end Go.Proofs
namespace Go.Proofs
open Go.Shelf
def Tryd.lays221_ren : Go.Shelf.Ren := ⟨fun | 221 => 129 | 268 => 139 | 138 => 140 | 143 => 141 | 195 => 150 | 197 => 151 | 218 => 152 | 219 => 153 | 260 => 156 | 217 => 157 | 225 => 158 | 224 => 159 | 267 => 160 | 266 => 161 | 314 => 162 | n => n, fun | 9 => 9 | 3 => 3 | 31 => 56 | 4 => 4 | 0 => 0 | 105 => 209 | 21 => 21 | 5 => 5 | 46 => 129 | 119 => 227 | 139 => 230 | 138 => 229 | 146 => 231 | 51 => 175 | n => n, fun | 1 => 0 | 3 => 4 | 4 => 5 | n => n⟩
theorem Tryd.lays221 : Go.Proofs.Lays.n221 Tryd.prog Tryd.lays221_ren := {
  mixed := by kernel_rfl
  f138 := Tryd.func140.trans (congrArg some (by kernel_rfl))
  f143 := Tryd.func141.trans (congrArg some (by kernel_rfl))
  f195 := Tryd.func150.trans (congrArg some (by kernel_rfl))
  f197 := Tryd.func151.trans (congrArg some (by kernel_rfl))
  f217 := Tryd.func157.trans (congrArg some (by kernel_rfl))
  f218 := Tryd.func152.trans (congrArg some (by kernel_rfl))
  f219 := Tryd.func153.trans (congrArg some (by kernel_rfl))
  f221 := Tryd.func129.trans (congrArg some (by kernel_rfl))
  f224 := Tryd.func159.trans (congrArg some (by kernel_rfl))
  f225 := Tryd.func158.trans (congrArg some (by kernel_rfl))
  f260 := Tryd.func156.trans (congrArg some (by kernel_rfl))
  f266 := Tryd.func161.trans (congrArg some (by kernel_rfl))
  f267 := Tryd.func160.trans (congrArg some (by kernel_rfl))
  f268 := Tryd.func139.trans (congrArg some (by kernel_rfl))
  f314 := Tryd.func162.trans (congrArg some (by kernel_rfl))
  t0 := Tryd.underlying0
  a0 := Tryd.isAgg0
  z0 := Tryd.sizeOf0
  v0 := Tryd.zeroValue0
  t3 := Tryd.underlying3
  a3 := Tryd.isAgg3
  z3 := Tryd.sizeOf3
  v3 := Tryd.zeroValue3
  t4 := Tryd.underlying4
  a4 := Tryd.isAgg4
  z4 := Tryd.sizeOf4
  v4 := Tryd.zeroValue4
  t5 := Tryd.underlying5
  a5 := Tryd.isAgg5
  z5 := Tryd.sizeOf5
  v5 := Tryd.zeroValue5
  t9 := Tryd.underlying9
  a9 := Tryd.isAgg9
  z9 := Tryd.sizeOf9
  v9 := Tryd.zeroValue9
  t21 := Tryd.underlying21
  a21 := Tryd.isAgg21
  z21 := Tryd.sizeOf21
  v21 := Tryd.zeroValue21
  t31 := Tryd.underlying56
  a31 := Tryd.isAgg56
  z31 := Tryd.sizeOf56
  v31 := Tryd.zeroValue56
  t46 := Tryd.underlying129
  a46 := Tryd.isAgg129
  z46 := Tryd.sizeOf129
  v46 := Tryd.zeroValue129
  t51 := Tryd.underlying175
  a51 := Tryd.isAgg175
  z51 := Tryd.sizeOf175
  v51 := Tryd.zeroValue175
  t105 := Tryd.underlying209
  a105 := Tryd.isAgg209
  z105 := Tryd.sizeOf209
  v105 := Tryd.zeroValue209
  t119 := Tryd.underlying227
  a119 := Tryd.isAgg227
  z119 := Tryd.sizeOf227
  t138 := Tryd.underlying229
  a138 := Tryd.isAgg229
  z138 := Tryd.sizeOf229
  v138 := Tryd.zeroValue229
  t139 := Tryd.underlying230
  a139 := Tryd.isAgg230
  z139 := Tryd.sizeOf230
  v139 := Tryd.zeroValue230
  t146 := Tryd.underlying231
  a146 := Tryd.isAgg231
  z146 := Tryd.sizeOf231
  v146 := Tryd.zeroValue231
  g1 := by kernel_rfl
  g3 := by kernel_rfl
  g4 := by kernel_rfl }
open Go.RowKit Go.Lib in
theorem Tryd.strings_genSplit (s sep : ByteArray) (sv : Nat) (n : Int) (N : Nat) (m : Int) (w : World) (hs : s.size < 4294967281) (hm : w.cell? ⟨0, 0, none⟩ = some (.int .i64 m)) (h1 : 1 ≤ sep.size) (hsv : sv ≤ sep.size) (hn0 : n ≠ 0) (hn63 : n ≤ 9223372036854775807) (hN : (N : Int) = min (if n < 0 then (Lib.countB s sep : Int) + 1 else n) ((s.size : Int) + 1)) :
    Calls Tryd.prog 129 #[.string s, .string sep, .int .i64 sv, .int .i64 n] w fun e w' =>
      e = .returned (.slice (some ⟨w.heap.size, 0, none⟩) (Lib.splitB sep sv (N - 1) s).length N) ∧ w' = w.alloc (.cells (Lib.cellsOf (Lib.splitB sep sv (N - 1) s) N) 9) := Any.strings_genSplit Tryd.lays221 (by kernel_rfl) s sep sv n N m w hs hm h1 hsv hn0 hn63 hN
def Tryd.lays190_ren : Go.Shelf.Ren := ⟨fun | 190 => 38 | 125 => 67 | 258 => 66 | 128 => 106 | 129 => 107 | 302 => 97 | 303 => 98 | 304 => 99 | 305 => 100 | 306 => 101 | 307 => 102 | 308 => 103 | 309 => 104 | 310 => 105 | 333 => 123 | 329 => 124 | 330 => 125 | 334 => 126 | 335 => 127 | 336 => 128 | 344 => 138 | n => n, fun | 31 => 56 | 9 => 9 | 3 => 3 | 46 => 129 | 0 => 0 | 51 => 175 | 53 => 40 | 4 => 4 | 183 => 168 | 182 => 167 | 131 => 50 | 5 => 5 | 218 => 196 | 222 => 200 | 228 => 211 | 229 => 212 | n => n, fun | n => n⟩
theorem Tryd.lays190 : Go.Proofs.Lays.n190 Tryd.prog Tryd.lays190_ren := {
  mixed := by kernel_rfl
  f125 := Tryd.func67.trans (congrArg some (by kernel_rfl))
  f128 := Tryd.func106.trans (congrArg some (by kernel_rfl))
  f129 := Tryd.func107.trans (congrArg some (by kernel_rfl))
  f190 := Tryd.func38.trans (congrArg some (by kernel_rfl))
  f258 := Tryd.func66.trans (congrArg some (by kernel_rfl))
  f302 := Tryd.func97.trans (congrArg some (by kernel_rfl))
  f303 := Tryd.func98.trans (congrArg some (by kernel_rfl))
  f304 := Tryd.func99.trans (congrArg some (by kernel_rfl))
  f305 := Tryd.func100.trans (congrArg some (by kernel_rfl))
  f306 := Tryd.func101.trans (congrArg some (by kernel_rfl))
  f307 := Tryd.func102.trans (congrArg some (by kernel_rfl))
  f308 := Tryd.func103.trans (congrArg some (by kernel_rfl))
  f309 := Tryd.func104.trans (congrArg some (by kernel_rfl))
  f310 := Tryd.func105.trans (congrArg some (by kernel_rfl))
  f329 := Tryd.func124.trans (congrArg some (by kernel_rfl))
  f330 := Tryd.func125.trans (congrArg some (by kernel_rfl))
  f333 := Tryd.func123.trans (congrArg some (by kernel_rfl))
  f334 := Tryd.func126.trans (congrArg some (by kernel_rfl))
  f335 := Tryd.func127.trans (congrArg some (by kernel_rfl))
  f336 := Tryd.func128.trans (congrArg some (by kernel_rfl))
  f344 := Tryd.func138.trans (congrArg some (by kernel_rfl))
  t0 := Tryd.underlying0
  a0 := Tryd.isAgg0
  z0 := Tryd.sizeOf0
  v0 := Tryd.zeroValue0
  t3 := Tryd.underlying3
  a3 := Tryd.isAgg3
  z3 := Tryd.sizeOf3
  v3 := Tryd.zeroValue3
  t4 := Tryd.underlying4
  a4 := Tryd.isAgg4
  z4 := Tryd.sizeOf4
  v4 := Tryd.zeroValue4
  t5 := Tryd.underlying5
  a5 := Tryd.isAgg5
  z5 := Tryd.sizeOf5
  v5 := Tryd.zeroValue5
  t9 := Tryd.underlying9
  a9 := Tryd.isAgg9
  z9 := Tryd.sizeOf9
  v9 := Tryd.zeroValue9
  t31 := Tryd.underlying56
  a31 := Tryd.isAgg56
  z31 := Tryd.sizeOf56
  v31 := Tryd.zeroValue56
  t46 := Tryd.underlying129
  a46 := Tryd.isAgg129
  z46 := Tryd.sizeOf129
  v46 := Tryd.zeroValue129
  t51 := Tryd.underlying175
  a51 := Tryd.isAgg175
  z51 := Tryd.sizeOf175
  v51 := Tryd.zeroValue175
  t53 := Tryd.underlying40
  a53 := Tryd.isAgg40
  z53 := Tryd.sizeOf40
  v53 := Tryd.zeroValue40
  t131 := Tryd.underlying50
  a131 := Tryd.isAgg50
  z131 := Tryd.sizeOf50
  v131 := Tryd.zeroValue50
  t182 := Tryd.underlying167
  a182 := Tryd.isAgg167
  z182 := Tryd.sizeOf167
  v182 := Tryd.zeroValue167
  t183 := Tryd.underlying168
  a183 := Tryd.isAgg168
  z183 := Tryd.sizeOf168
  v183 := Tryd.zeroValue168
  t218 := Tryd.underlying196
  a218 := Tryd.isAgg196
  z218 := Tryd.sizeOf196
  v218 := Tryd.zeroValue196
  t222 := Tryd.underlying200
  a222 := Tryd.isAgg200
  z222 := Tryd.sizeOf200
  v222 := Tryd.zeroValue200
  t228 := Tryd.underlying211
  a228 := Tryd.isAgg211
  z228 := Tryd.sizeOf211
  v228 := Tryd.zeroValue211
  t229 := Tryd.underlying212
  a229 := Tryd.isAgg212
  z229 := Tryd.sizeOf212
  v229 := Tryd.zeroValue212 }
open Go.Sort Go.RowKit in
theorem Tryd.slices_Sort_string (blk off cap : Nat) (ss : List (List UInt8)) (w : World) (hH : Holds encStr w blk off ss.toArray) (hblk : blk < w.heap.size) (hsz : ss.length < 4611686018427387904) :
    Calls Tryd.prog 38 #[.slice (some ⟨blk, off, none⟩) ss.length cap] w fun e w' =>
      e = .returned (.tuple #[]) ∧ ∃ n os, w' = grow (putRow encStr (Sort.ahead w n) blk off (ss.mergeSort fun x y => decide (x ≤ y)).toArray) os := Any.slices_Sort_string Tryd.lays190 blk off cap ss w hH hblk hsz
def Tryd.lays194_ren : Go.Shelf.Ren := ⟨fun | 194 => 39 | n => n, fun | 31 => 56 | 9 => 9 | 3 => 3 | 4 => 4 | 0 => 0 | n => n, fun | n => n⟩
theorem Tryd.lays194 : Go.Proofs.Lays.n194 Tryd.prog Tryd.lays194_ren := {
  mixed := by kernel_rfl
  f194 := Tryd.func39.trans (congrArg some (by kernel_rfl))
  t0 := Tryd.underlying0
  a0 := Tryd.isAgg0
  z0 := Tryd.sizeOf0
  v0 := Tryd.zeroValue0
  t3 := Tryd.underlying3
  a3 := Tryd.isAgg3
  z3 := Tryd.sizeOf3
  v3 := Tryd.zeroValue3
  t4 := Tryd.underlying4
  a4 := Tryd.isAgg4
  z4 := Tryd.sizeOf4
  v4 := Tryd.zeroValue4
  t9 := Tryd.underlying9
  a9 := Tryd.isAgg9
  z9 := Tryd.sizeOf9
  v9 := Tryd.zeroValue9
  t31 := Tryd.underlying56
  a31 := Tryd.isAgg56
  z31 := Tryd.sizeOf56
  v31 := Tryd.zeroValue56 }
open Go.RowKit Go.Lib Go.Sort in
theorem Tryd.slices_Compact_string (blk off cap : Nat) (zs : List (List UInt8)) (w : World) (hH : Holds encStr w blk off zs.toArray) (hsz : zs.length ≤ 9223372036854775807) (hcap : zs.length ≤ cap) :
    Calls Tryd.prog 39 #[.slice (some ⟨blk, off, none⟩) zs.length cap] w fun e w' => e = .returned (.slice (some ⟨blk, off, none⟩) (Lib.compact zs).length cap) ∧ ∃ q, w' = putRow encStr (Sort.ahead w q) blk off (Lib.compact zs ++ List.replicate (zs.length - (Lib.compact zs).length) []).toArray := Any.slices_Compact_string Tryd.lays194 blk off cap zs w hH hsz hcap
def Tryd.lays207_ren : Go.Shelf.Ren := ⟨fun | 207 => 136 | n => n, fun | 9 => 9 | 4 => 4 | 3 => 3 | n => n, fun | n => n⟩
theorem Tryd.lays207 : Go.Proofs.Lays.n207 Tryd.prog Tryd.lays207_ren := {
  mixed := by kernel_rfl
  f207 := Tryd.func136.trans (congrArg some (by kernel_rfl))
  t3 := Tryd.underlying3
  a3 := Tryd.isAgg3
  z3 := Tryd.sizeOf3
  v3 := Tryd.zeroValue3
  t4 := Tryd.underlying4
  a4 := Tryd.isAgg4
  z4 := Tryd.sizeOf4
  v4 := Tryd.zeroValue4
  t9 := Tryd.underlying9
  a9 := Tryd.isAgg9
  z9 := Tryd.sizeOf9
  v9 := Tryd.zeroValue9 }
open Go.RowKit Go.Lib in
theorem Tryd.stringslite_HasSuffix (s p : ByteArray) (w : World) (hs : s.size ≤ 9223372036854775807) :
    Calls Tryd.prog 136 #[.string s, .string p] w fun e w' => e = .returned (.bool (Lib.hasSuffix s.data.toList p.data.toList)) ∧ w' = w := Any.stringslite_HasSuffix Tryd.lays207 s p w hs
end Go.Proofs
namespace Go.Proofs.YthjaepmfkgejkaaDoor

/-- Byte k of a string as a number, 0 behind its end. -/
def B (s : ByteArray) (k : Nat) : Nat := (s.get! k).toNat
theorem getB (s : ByteArray) : ∀ (n : Nat) (h : n < s.size), ((s[n]'h).toNat : Int) = (B s n : Int) := by
  intro n h
  unfold B
  have := get_at s n h
  simp at this
  rw [this]
theorem B_lt (s : ByteArray) (k : Nat) : B s k < 256 := by unfold B; exact (s.get! k).toNat_lt

/-- Is there a rune at this place, rightly written? -/
def okAt (s : ByteArray) (pos : Nat) : Bool := !((Utf8.decode s pos) == (0xFFFD, 1))

def cont (s : ByteArray) (k : Nat) : Bool := decide (k < s.size) && (B s k / 64 == 2)

theorem dec_eq (s : ByteArray) (i : Nat) : Utf8.decode s i =
    if B s i < 0x80 then (B s i, 1)
    else if (B s i / 32 == 6 && cont s (i + 1)) = true then
      (if (B s i % 32) * 64 + B s (i + 1) % 64 ≥ 0x80 then ((B s i % 32) * 64 + B s (i + 1) % 64, 2) else (0xFFFD, 1))
    else if (B s i / 16 == 14 && cont s (i + 1) && cont s (i + 2)) = true then
      (if ((B s i % 16) * 4096 + (B s (i + 1) % 64) * 64 + B s (i + 2) % 64 ≥ 0x800 && Utf8.valid ((B s i % 16) * 4096 + (B s (i + 1) % 64) * 64 + B s (i + 2) % 64 : Nat)) = true
        then ((B s i % 16) * 4096 + (B s (i + 1) % 64) * 64 + B s (i + 2) % 64, 3) else (0xFFFD, 1))
    else if (B s i / 8 == 30 && cont s (i + 1) && cont s (i + 2) && cont s (i + 3)) = true then
      (if ((B s i % 8) * 262144 + (B s (i + 1) % 64) * 4096 + (B s (i + 2) % 64) * 64 + B s (i + 3) % 64 ≥ 0x10000 && Utf8.valid ((B s i % 8) * 262144 + (B s (i + 1) % 64) * 4096 + (B s (i + 2) % 64) * 64 + B s (i + 3) % 64 : Nat)) = true
        then ((B s i % 8) * 262144 + (B s (i + 1) % 64) * 4096 + (B s (i + 2) % 64) * 64 + B s (i + 3) % 64, 4) else (0xFFFD, 1))
    else (0xFFFD, 1) := by
  rfl

/-- May a rune be? -/
def mayB (r : Int) : Bool := decide (0 ≤ r) && decide (r ≤ 1114111) && (decide (r < 55296) || decide (57343 < r))
theorem valid_may (r : Int) : Utf8.valid r = mayB r := by
  unfold Utf8.valid mayB
  rw [Bool.eq_iff_iff]
  simp only [Bool.or_eq_true, Bool.and_eq_true, decide_eq_true_eq]
  omega

def v2 (s : ByteArray) (i : Nat) : Nat := (B s i % 32) * 64 + B s (i + 1) % 64
def v3 (s : ByteArray) (i : Nat) : Nat := (B s i % 16) * 4096 + (B s (i + 1) % 64) * 64 + B s (i + 2) % 64
def v4 (s : ByteArray) (i : Nat) : Nat := (B s i % 8) * 262144 + (B s (i + 1) % 64) * 4096 + (B s (i + 2) % 64) * 64 + B s (i + 3) % 64

theorem ok_of {s : ByteArray} {i r n : Nat} (e : Utf8.decode s i = (r, n)) (h : ¬ (r = 0xFFFD ∧ n = 1)) : okAt s i = true := by
  simp [okAt, e]; omega
theorem bad_of {s : ByteArray} {i : Nat} (e : Utf8.decode s i = (0xFFFD, 1)) : okAt s i = false := by
  simp [okAt, e]

theorem cont_of {s : ByteArray} {k : Nat} (h : k < s.size) (b : B s k / 64 = 2) : cont s k = true := by simp [cont, h, b]
theorem not_cont {s : ByteArray} {k : Nat} (h : s.size ≤ k ∨ B s k / 64 ≠ 2) : cont s k = false := by
  simp [cont]; omega

theorem dec1 {s : ByteArray} {i : Nat} (h : B s i < 128) : Utf8.decode s i = (B s i, 1) ∧ okAt s i = true := by
  have e : Utf8.decode s i = (B s i, 1) := by rw [dec_eq, if_pos h]
  exact ⟨e, ok_of e (by omega)⟩
theorem dec_lone {s : ByteArray} {i : Nat} (h : 128 ≤ B s i ∧ B s i < 192 ∨ 248 ≤ B s i) : okAt s i = false := by
  have := B_lt s i
  refine bad_of ?_
  rw [dec_eq, if_neg (by omega), if_neg (by simp; omega), if_neg (by simp; omega), if_neg (by simp; omega)]
theorem dec2_no {s : ByteArray} {i : Nat} (h : 192 ≤ B s i ∧ B s i < 224) (g : cont s (i + 1) = false) : okAt s i = false := by
  refine bad_of ?_
  rw [dec_eq, if_neg (by omega), if_neg (by simp [g]), if_neg (by simp; omega), if_neg (by simp; omega)]
theorem dec2 {s : ByteArray} {i : Nat} (h : 192 ≤ B s i ∧ B s i < 224) (g : cont s (i + 1) = true) :
    (128 ≤ v2 s i ∧ Utf8.decode s i = (v2 s i, 2) ∧ okAt s i = true) ∨ (v2 s i < 128 ∧ okAt s i = false) := by
  by_cases v : 128 ≤ v2 s i
  · have e : Utf8.decode s i = (v2 s i, 2) := by
      rw [dec_eq, if_neg (by omega), if_pos (by simp [g]; omega), if_pos (by unfold v2 at v; omega)]; rfl
    exact .inl ⟨v, e, ok_of e (by omega)⟩
  · refine .inr ⟨by omega, bad_of ?_⟩
    rw [dec_eq, if_neg (by omega), if_pos (by simp [g]; omega), if_neg (by unfold v2 at v; omega)]
theorem dec3_no {s : ByteArray} {i : Nat} (h : 224 ≤ B s i ∧ B s i < 240) (g : cont s (i + 1) = false ∨ cont s (i + 2) = false) : okAt s i = false := by
  refine bad_of ?_
  rw [dec_eq, if_neg (by omega), if_neg (by simp; omega), if_neg (by rcases g with g | g <;> simp [g]), if_neg (by simp; omega)]
theorem dec3 {s : ByteArray} {i : Nat} (h : 224 ≤ B s i ∧ B s i < 240) (g : cont s (i + 1) = true) (g2 : cont s (i + 2) = true) :
    (2048 ≤ v3 s i ∧ mayB (v3 s i) = true ∧ Utf8.decode s i = (v3 s i, 3) ∧ okAt s i = true) ∨ ((v3 s i < 2048 ∨ mayB (v3 s i) = false) ∧ okAt s i = false) := by
  by_cases v : 2048 ≤ v3 s i ∧ mayB (v3 s i) = true
  · have e : Utf8.decode s i = (v3 s i, 3) := by
      rw [dec_eq, if_neg (by omega), if_neg (by simp; omega), if_pos (by simp [g, g2]; omega), if_pos]
      · rfl
      · rw [valid_may]
        show (decide (v3 s i ≥ 2048) && mayB (v3 s i)) = true
        simp [v]
    exact .inl ⟨v.1, v.2, e, ok_of e (by omega)⟩
  · refine .inr ⟨?_, bad_of ?_⟩
    · rcases Nat.lt_or_ge (v3 s i) 2048 with a | a
      · exact .inl a
      · right; simpa [a] using v
    · rw [dec_eq, if_neg (by omega), if_neg (by simp; omega), if_pos (by simp [g, g2]; omega), if_neg]
      rw [valid_may]
      show ¬ (decide (v3 s i ≥ 2048) && mayB (v3 s i)) = true
      simpa using v
theorem dec4_no {s : ByteArray} {i : Nat} (h : 240 ≤ B s i ∧ B s i < 248) (g : cont s (i + 1) = false ∨ cont s (i + 2) = false ∨ cont s (i + 3) = false) : okAt s i = false := by
  refine bad_of ?_
  rw [dec_eq, if_neg (by omega), if_neg (by simp; omega), if_neg (by simp; omega), if_neg (by rcases g with g | g | g <;> simp [g])]
theorem dec4 {s : ByteArray} {i : Nat} (h : 240 ≤ B s i ∧ B s i < 248) (g : cont s (i + 1) = true) (g2 : cont s (i + 2) = true) (g3 : cont s (i + 3) = true) :
    (65536 ≤ v4 s i ∧ mayB (v4 s i) = true ∧ Utf8.decode s i = (v4 s i, 4) ∧ okAt s i = true) ∨ ((v4 s i < 65536 ∨ mayB (v4 s i) = false) ∧ okAt s i = false) := by
  by_cases v : 65536 ≤ v4 s i ∧ mayB (v4 s i) = true
  · have e : Utf8.decode s i = (v4 s i, 4) := by
      rw [dec_eq, if_neg (by omega), if_neg (by simp; omega), if_neg (by simp; omega), if_pos (by simp [g, g2, g3]; omega), if_pos]
      · rfl
      · rw [valid_may]
        show (decide (v4 s i ≥ 65536) && mayB (v4 s i)) = true
        simp [v]
    exact .inl ⟨v.1, v.2, e, ok_of e (by omega)⟩
  · refine .inr ⟨?_, bad_of ?_⟩
    · rcases Nat.lt_or_ge (v4 s i) 65536 with a | a
      · exact .inl a
      · right; simpa [a] using v
    · rw [dec_eq, if_neg (by omega), if_neg (by simp; omega), if_neg (by simp; omega), if_pos (by simp [g, g2, g3]; omega), if_neg]
      rw [valid_may]
      show ¬ (decide (v4 s i ≥ 65536) && mayB (v4 s i)) = true
      simpa using v

/-- A rune that is rightly written lies within the text, and may be. -/
theorem dec_in {s : ByteArray} {i : Nat} (hi : i < s.size) : i + (Utf8.decode s i).2 ≤ s.size ∧ 1 ≤ (Utf8.decode s i).2 ∧ (Utf8.decode s i).2 ≤ 4 := by
  have hb : ∀ {r n : Nat}, Utf8.decode s i = (r, n) → i + n ≤ s.size → 1 ≤ n → n ≤ 4 → i + (Utf8.decode s i).2 ≤ s.size ∧ 1 ≤ (Utf8.decode s i).2 ∧ (Utf8.decode s i).2 ≤ 4 := by
    intro r n e h1 h2 h3; rw [e]; exact ⟨h1, h2, h3⟩
  have hbad : okAt s i = false → Utf8.decode s i = (0xFFFD, 1) := by intro h; simpa [okAt] using h
  have lt := B_lt s i
  have hc : ∀ {k}, cont s k = true → k < s.size := by intro k h; simp [cont] at h; exact h.1
  rcases (by omega : B s i < 128 ∨ (128 ≤ B s i ∧ B s i < 192 ∨ 248 ≤ B s i) ∨ (192 ≤ B s i ∧ B s i < 224) ∨ (224 ≤ B s i ∧ B s i < 240) ∨ (240 ≤ B s i ∧ B s i < 248)) with h | h | h | h | h
  · exact hb (dec1 h).1 (by omega) (by omega) (by omega)
  · exact hb (hbad (dec_lone h)) (by omega) (by omega) (by omega)
  · cases g : cont s (i + 1)
    · exact hb (hbad (dec2_no h g)) (by omega) (by omega) (by omega)
    · have := hc g
      rcases dec2 h g with ⟨_, e, _⟩ | ⟨_, e⟩
      · exact hb e (by omega) (by omega) (by omega)
      · exact hb (hbad e) (by omega) (by omega) (by omega)
  · cases g : cont s (i + 1)
    · exact hb (hbad (dec3_no h (.inl g))) (by omega) (by omega) (by omega)
    · cases g2 : cont s (i + 2)
      · exact hb (hbad (dec3_no h (.inr g2))) (by omega) (by omega) (by omega)
      · have := hc g2
        rcases dec3 h g g2 with ⟨_, _, e, _⟩ | ⟨_, e⟩
        · exact hb e (by omega) (by omega) (by omega)
        · exact hb (hbad e) (by omega) (by omega) (by omega)
  · cases g : cont s (i + 1)
    · exact hb (hbad (dec4_no h (.inl g))) (by omega) (by omega) (by omega)
    · cases g2 : cont s (i + 2)
      · exact hb (hbad (dec4_no h (.inr (.inl g2)))) (by omega) (by omega) (by omega)
      · cases g3 : cont s (i + 3)
        · exact hb (hbad (dec4_no h (.inr (.inr g3)))) (by omega) (by omega) (by omega)
        · have := hc g3
          rcases dec4 h g g2 g3 with ⟨_, _, e, _⟩ | ⟨_, e⟩
          · exact hb e (by omega) (by omega) (by omega)
          · exact hb (hbad e) (by omega) (by omega) (by omega)

/-- The runes from a place on, by at most so many; none: a place that is wrong. -/
def runesGo (s : ByteArray) : Nat → Nat → Option (List Nat)
  | 0, _ => some []
  | f + 1, pos => if pos < s.size then (if okAt s pos then (runesGo s f (pos + (Utf8.decode s pos).2)).map ((Utf8.decode s pos).1 :: ·) else none) else some []
/-- A text's runes; none: it is no text. -/
def runesOf (s : ByteArray) : Option (List Nat) := runesGo s s.size 0
def isText (s : ByteArray) : Bool := (runesOf s).isSome

/-- More steps than there are bytes left change nothing. -/
theorem runesGo_more (s : ByteArray) : ∀ (f g pos : Nat), s.size ≤ pos + f → f ≤ g → runesGo s g pos = runesGo s f pos
  | 0, 0, _, _, _ => rfl
  | 0, g + 1, pos, h, _ => by simp [runesGo]; omega
  | f + 1, 0, _, _, h => by omega
  | f + 1, g + 1, pos, h, hg => by
    unfold runesGo
    by_cases hp : pos < s.size
    · rw [if_pos hp, if_pos hp]
      by_cases ho : okAt s pos = true
      · rw [if_pos ho, if_pos ho, runesGo_more s f g _ (by have := (dec_in hp).2.1; omega) (by omega)]
      · rw [if_neg ho, if_neg ho]
    · rw [if_neg hp, if_neg hp]
/-- The runes from a place on. -/
def runesAt (s : ByteArray) (pos : Nat) : Option (List Nat) := runesGo s (s.size - pos) pos
theorem runesOf_eq (s : ByteArray) : runesOf s = runesAt s 0 := rfl
theorem runesAt_end {s : ByteArray} {pos : Nat} (h : s.size ≤ pos) : runesAt s pos = some [] := by
  unfold runesAt; rw [show s.size - pos = 0 by omega]; rfl
theorem runesAt_bad {s : ByteArray} {pos : Nat} (h : pos < s.size) (k : okAt s pos = false) : runesAt s pos = none := by
  unfold runesAt
  obtain ⟨f, hf⟩ : ∃ f, s.size - pos = f + 1 := ⟨s.size - pos - 1, by omega⟩
  rw [hf, runesGo, if_pos h, k]; rfl
theorem runesAt_ok {s : ByteArray} {pos : Nat} (h : pos < s.size) (k : okAt s pos = true) :
    runesAt s pos = (runesAt s (pos + (Utf8.decode s pos).2)).map ((Utf8.decode s pos).1 :: ·) := by
  unfold runesAt
  obtain ⟨f, hf⟩ : ∃ f, s.size - pos = f + 1 := ⟨s.size - pos - 1, by omega⟩
  rw [hf, runesGo, if_pos h, k, if_pos rfl, runesGo_more s (s.size - (pos + (Utf8.decode s pos).2)) f _ (by omega) (by have := (dec_in h).2.1; omega)]
end Go.Proofs.YthjaepmfkgejkaaDoor
namespace Go.Proofs.YthjaepmfkgejkaaDoor
open Go.RowKit
set_option linter.unusedVariables false

theorem may_any (r : Int) (w : World) (h0 : 0 ≤ r) (h1 : r ≤ 2147483647) : Calls Tryd.prog 122 #[.int .i32 r] w fun e w' =>
    w = w' ∧ e = .returned (.bool (mayB r))  := by
  by_cases a1 : r ≤ 1114111
  · by_cases a2 : r < 55296
    · rw [show mayB r = true by simp [mayB, h0, a1, a2]]
      go_enter Tryd.func122, Tryd.ntmps122
      go_wp2
      go_ret
      exact ⟨rfl, rfl⟩
    · rw [show mayB r = decide (57343 < r) by simp [mayB, h0, a1]; omega]
      have : 55296 ≤ r := by omega
      go_enter Tryd.func122, Tryd.ntmps122
      go_wp2
      go_ret
      exact ⟨rfl, rfl⟩
  · rw [show mayB r = false by simp [mayB]; omega]
    go_enter Tryd.func122, Tryd.ntmps122
    go_wp2
    go_ret
    exact ⟨rfl, rfl⟩

def lead (c : Nat) : Int × Nat × Nat :=
  if c < 128 then (0, c, 0) else if c < 192 then (-1, 0, 0) else if c < 224 then (1, c % 32, 128) else if c < 240 then (2, c % 16, 2048)
  else if c < 248 then (3, c % 8, 65536) else (-1, 0, 0)
theorem lead1 {c : Nat} (h : c < 128) : lead c = (0, c, 0) := by simp [lead, h]
theorem leadX {c : Nat} (h : 128 ≤ c ∧ c < 192 ∨ 248 ≤ c) : lead c = (-1, 0, 0) := by
  unfold lead; rw [if_neg (by omega)]; by_cases b : c < 192
  · rw [if_pos b]
  · rw [if_neg b, if_neg (by omega), if_neg (by omega), if_neg (by omega)]
theorem lead2 {c : Nat} (h : 192 ≤ c ∧ c < 224) : lead c = (1, c % 32, 128) := by
  unfold lead; rw [if_neg (by omega), if_neg (by omega), if_pos (by omega)]
theorem lead3 {c : Nat} (h : 224 ≤ c ∧ c < 240) : lead c = (2, c % 16, 2048) := by
  unfold lead; rw [if_neg (by omega), if_neg (by omega), if_neg (by omega), if_pos (by omega)]
theorem lead4 {c : Nat} (h : 240 ≤ c ∧ c < 248) : lead c = (3, c % 8, 65536) := by
  unfold lead; rw [if_neg (by omega), if_neg (by omega), if_neg (by omega), if_neg (by omega), if_pos (by omega)]

set_option maxRecDepth 100000 in
theorem lead_any (c : Nat) (w : World) (hc : c < 256) : Calls Tryd.prog 121 #[.int .u8 c] w fun e w' =>
    w = w' ∧ e = .returned (.tuple #[.int .i64 (lead c).1, .int .i32 (lead c).2.1, .int .i32 (lead c).2.2])  := by
  rcases (by omega : c < 128 ∨ (128 ≤ c ∧ c < 192) ∨ (192 ≤ c ∧ c < 224) ∨ (224 ≤ c ∧ c < 240) ∨ (240 ≤ c ∧ c < 248) ∨ 248 ≤ c) with a | a | a | a | a | a
  · rw [lead1 a]
    go_enter Tryd.func121, Tryd.ntmps121
    go_wp2
    go_ret3
    exact ⟨rfl, rfl⟩
  · rw [leadX (.inl a)]
    go_enter Tryd.func121, Tryd.ntmps121
    go_wp2
    go_ret3
    exact ⟨rfl, rfl⟩
  · rw [lead2 a]
    go_enter Tryd.func121, Tryd.ntmps121
    go_wp2
    go_ret3
    exact ⟨rfl, rfl⟩
  · rw [lead3 a]
    go_enter Tryd.func121, Tryd.ntmps121
    go_wp2
    go_ret3
    exact ⟨rfl, rfl⟩
  · rw [lead4 a]
    go_enter Tryd.func121, Tryd.ntmps121
    go_wp2
    go_ret3
    exact ⟨rfl, rfl⟩
  · rw [leadX (.inr a)]
    go_enter Tryd.func121, Tryd.ntmps121
    go_wp2
    go_ret3
    exact ⟨rfl, rfl⟩

theorem high2 : ∀ c : Fin 256, (bits BinOp.and IntKind.u8 ((c.val : Nat) : Int) 192 == 128) = (c.val / 64 == 2) := by
  decide +kernel
theorem high_yes {c : Nat} (h : c < 256) (g : c / 64 = 2) : (bits BinOp.and IntKind.u8 (c : Int) 192 == 128) = true ∧ (bits BinOp.and IntKind.u8 (c : Int) 192 != 128) = false := by
  have := high2 ⟨c, h⟩
  simp only [g] at this
  exact ⟨this, by simp [bne, this]⟩
theorem high_no {c : Nat} (h : c < 256) (g : ¬ c / 64 = 2) : (bits BinOp.and IntKind.u8 (c : Int) 192 == 128) = false ∧ (bits BinOp.and IntKind.u8 (c : Int) 192 != 128) = true := by
  have := high2 ⟨c, h⟩
  simp only [beq_eq_false_iff_ne.2 g] at this
  exact ⟨this, by simp [bne, this]⟩

/-- What decode gives at a place: the rune and where its bytes end; or 'false'. -/
def DecGives (s : ByteArray) (i : Nat) (w : World) (e : Ending) (w' : World) : Prop :=
  w = w' ∧ (okAt s i = true ∧ e = .returned (.tuple #[.int .i32 (Utf8.decode s i).1, .int .i64 ((i + (Utf8.decode s i).2 : Nat) : Int), .bool true]) ∨
    okAt s i = false ∧ ∃ r n : Int, e = .returned (.tuple #[.int .i32 r, .int .i64 n, .bool false]))
theorem DecGives.yes {s : ByteArray} {i r n : Nat} {w : World} {e : Ending} (k : okAt s i = true) (d : Utf8.decode s i = (r, n)) (h : e = .returned (.tuple #[.int .i32 r, .int .i64 ((i + n : Nat) : Int), .bool true])) : DecGives s i w e w :=
  ⟨rfl, .inl ⟨k, by rw [d]; exact h⟩⟩
theorem DecGives.no {s : ByteArray} {i : Nat} {r n : Int} {w : World} {e : Ending} (k : okAt s i = false) (h : e = .returned (.tuple #[.int .i32 r, .int .i64 n, .bool false])) : DecGives s i w e w :=
  ⟨rfl, .inr ⟨k, _, _, h⟩⟩
theorem ret_tup3 {a b a' b' : Int} {x y : Bool} (h1 : a = a') (h2 : b = b') (h3 : x = y) : Ending.returned (.tuple #[.int .i32 a, .int .i64 b, .bool x]) = .returned (.tuple #[.int .i32 a', .int .i64 b', .bool y]) := by rw [h1, h2, h3]

set_option maxRecDepth 100000 in
theorem decode1 (s : ByteArray) (i : Nat) (w : World) (h0 : i < s.size) (hs : s.size ≤ maxLen) (h : B s i < 128) :
    Calls Tryd.prog 95 #[.string s, .int .i64 i] w (DecGives s i w) := by
  unfold maxLen at hs
  have hb := getB s
  have hB := B_lt s i
  have hsz : (i : Int) < (s.size : Int) := by omega
  go_enter Tryd.func95, Tryd.ntmps95
  go_wp2_with fail
  refine (lead_any _ _ hB).mono ?_
  rw [lead1 h]
  rintro e w' ⟨rfl, rfl⟩
  go_wp2_with fail
  refine wp_loop_rounds 1 ?_
  rw [rounds_succ]
  go_wp2_with (go_at_call 122; refine (may_any _ _ (by omega) (by omega)).mono ?_; rintro e w' ⟨rfl, rfl⟩)
  go_ret3
  have d := dec1 h
  exact .yes d.2 d.1 (ret_tup3 rfl (by omega) (by simp [mayB]; omega))

set_option maxRecDepth 100000 in
theorem decodeX (s : ByteArray) (i : Nat) (w : World) (h0 : i < s.size) (hs : s.size ≤ maxLen) (h : 128 ≤ B s i ∧ B s i < 192 ∨ 248 ≤ B s i) :
    Calls Tryd.prog 95 #[.string s, .int .i64 i] w (DecGives s i w) := by
  unfold maxLen at hs
  have hb := getB s
  have hB := B_lt s i
  have hsz : (i : Int) < (s.size : Int) := by omega
  go_enter Tryd.func95, Tryd.ntmps95
  go_wp2_with fail
  refine (lead_any _ _ hB).mono ?_
  rw [leadX h]
  rintro e w' ⟨rfl, rfl⟩
  go_wp2_with fail
  go_ret3
  exact .no (dec_lone h) rfl

set_option maxHeartbeats 2000000 in
set_option maxRecDepth 1000000 in
theorem decode2 (s : ByteArray) (i : Nat) (w : World) (h0 : i < s.size) (hs : s.size ≤ maxLen) (h : 192 ≤ B s i ∧ B s i < 224) :
    Calls Tryd.prog 95 #[.string s, .int .i64 i] w (DecGives s i w) := by
  unfold maxLen at hs
  have hb := getB s
  have hB := B_lt s i
  have hB1 := B_lt s (i + 1)
  have hsz : (i : Int) < (s.size : Int) := by omega
  by_cases hl : s.size ≤ i + 1
  · go_enter Tryd.func95, Tryd.ntmps95
    go_wp2_with fail
    refine (lead_any _ _ hB).mono ?_
    rw [lead2 h]
    rintro e w' ⟨rfl, rfl⟩
    go_wp2_with fail
    go_ret3
    exact .no (dec2_no h (not_cont (.inl (by omega)))) rfl
  by_cases c1 : ¬ B s (i + 1) / 64 = 2
  · have ⟨q1, p1⟩ := high_no hB1 c1
    go_enter Tryd.func95, Tryd.ntmps95
    go_wp2_with fail
    refine (lead_any _ _ hB).mono ?_
    rw [lead2 h]
    rintro e w' ⟨rfl, rfl⟩
    go_wp2_with fail
    refine wp_loop_rounds 1 ?_
    rw [rounds_succ]
    go_wp2_with fail
    go_ret3
    exact .no (dec2_no h (not_cont (.inr c1))) rfl
  have c1' : B s (i + 1) / 64 = 2 := by omega
  have ⟨q1, p1⟩ := high_yes hB1 c1'
  have G1 := Lib.hid (cont_of (s := s) (k := i + 1) (by omega) c1')
  clear c1 c1'
  have hv : (((B s i : Nat) : Int) % 32) * 64 + ((B s (i + 1) : Nat) : Int) % 64 = ((v2 s i : Nat) : Int) := by unfold v2; omega
  have HV := Lib.hid hv; clear hv
  by_cases v : 128 ≤ v2 s i
  · have v' : (128 : Int) ≤ (((B s i : Nat) : Int) % 32) * 64 + ((B s (i + 1) : Nat) : Int) % 64 := by rw [HV.out]; omega
    go_enter Tryd.func95, Tryd.ntmps95
    go_wp2_with fail
    refine (lead_any _ _ hB).mono ?_
    rw [lead2 h]
    rintro e w' ⟨rfl, rfl⟩
    go_wp2_with fail
    refine wp_loop_rounds 2 ?_
    rw [rounds_succ]
    go_wp2_with fail
    rw [rounds_succ]
    go_wp2_with (go_at_call 122; refine (may_any _ _ (by omega) (by omega)).mono ?_; rintro e w' ⟨rfl, rfl⟩)
    go_ret3
    rcases dec2 h G1.out with ⟨_, d, k⟩ | ⟨d, k⟩
    · exact .yes k d (ret_tup3 HV.out (by omega) (by simp [mayB]; omega))
    · omega
  · have v' : ¬ (128 : Int) ≤ (((B s i : Nat) : Int) % 32) * 64 + ((B s (i + 1) : Nat) : Int) % 64 := by rw [HV.out]; omega
    go_enter Tryd.func95, Tryd.ntmps95
    go_wp2_with fail
    refine (lead_any _ _ hB).mono ?_
    rw [lead2 h]
    rintro e w' ⟨rfl, rfl⟩
    go_wp2_with fail
    refine wp_loop_rounds 2 ?_
    rw [rounds_succ]
    go_wp2_with fail
    rw [rounds_succ]
    go_wp2_with fail
    go_ret3
    rcases dec2 h G1.out with ⟨d, _⟩ | ⟨_, k⟩
    · omega
    · exact .no k rfl

set_option maxHeartbeats 2000000 in
set_option maxRecDepth 1000000 in
theorem decode3 (s : ByteArray) (i : Nat) (w : World) (h0 : i < s.size) (hs : s.size ≤ maxLen) (h : 224 ≤ B s i ∧ B s i < 240) :
    Calls Tryd.prog 95 #[.string s, .int .i64 i] w (DecGives s i w) := by
  unfold maxLen at hs
  have hb := getB s
  have hB := B_lt s i
  have hB1 := B_lt s (i + 1)
  have hB2 := B_lt s (i + 1 + 1)
  have hsz : (i : Int) < (s.size : Int) := by omega
  by_cases hl : s.size ≤ i + 2
  · go_enter Tryd.func95, Tryd.ntmps95
    go_wp2_with fail
    refine (lead_any _ _ hB).mono ?_
    rw [lead3 h]
    rintro e w' ⟨rfl, rfl⟩
    go_wp2_with fail
    go_ret3
    exact .no (dec3_no h (.inr (not_cont (.inl (by omega))))) rfl
  by_cases c1 : ¬ B s (i + 1) / 64 = 2
  · have ⟨q1, p1⟩ := high_no hB1 c1
    go_enter Tryd.func95, Tryd.ntmps95
    go_wp2_with fail
    refine (lead_any _ _ hB).mono ?_
    rw [lead3 h]
    rintro e w' ⟨rfl, rfl⟩
    go_wp2_with fail
    refine wp_loop_rounds 1 ?_
    rw [rounds_succ]
    go_wp2_with fail
    go_ret3
    exact .no (dec3_no h (.inl (not_cont (.inr c1)))) rfl
  have c1' : B s (i + 1) / 64 = 2 := by omega
  have ⟨q1, p1⟩ := high_yes hB1 c1'
  have G1 := Lib.hid (cont_of (s := s) (k := i + 1) (by omega) c1')
  clear c1 c1'
  by_cases c2 : ¬ B s (i + 1 + 1) / 64 = 2
  · have ⟨q2, p2⟩ := high_no hB2 c2
    go_enter Tryd.func95, Tryd.ntmps95
    go_wp2_with fail
    refine (lead_any _ _ hB).mono ?_
    rw [lead3 h]
    rintro e w' ⟨rfl, rfl⟩
    go_wp2_with fail
    refine wp_loop_rounds 2 ?_
    rw [rounds_succ]
    go_wp2_with fail
    rw [rounds_succ]
    go_wp2_with fail
    go_ret3
    exact .no (dec3_no h (.inr (not_cont (.inr c2)))) rfl
  have c2' : B s (i + 1 + 1) / 64 = 2 := by omega
  have ⟨q2, p2⟩ := high_yes hB2 c2'
  have G2 := Lib.hid (cont_of (s := s) (k := i + 1 + 1) (by omega) c2')
  clear c2 c2'
  have hv : ((((B s i : Nat) : Int) % 16) * 64 + ((B s (i + 1) : Nat) : Int) % 64) * 64 + ((B s (i + 1 + 1) : Nat) : Int) % 64 = ((v3 s i : Nat) : Int) := by unfold v3; rw [show i + 2 = i + 1 + 1 from rfl]; omega
  have HV := Lib.hid hv; clear hv
  by_cases v : 2048 ≤ v3 s i
  · have v' : (2048 : Int) ≤ ((((B s i : Nat) : Int) % 16) * 64 + ((B s (i + 1) : Nat) : Int) % 64) * 64 + ((B s (i + 1 + 1) : Nat) : Int) % 64 := by rw [HV.out]; omega
    go_enter Tryd.func95, Tryd.ntmps95
    go_wp2_with fail
    refine (lead_any _ _ hB).mono ?_
    rw [lead3 h]
    rintro e w' ⟨rfl, rfl⟩
    go_wp2_with fail
    refine wp_loop_rounds 3 ?_
    rw [rounds_succ]
    go_wp2_with fail
    rw [rounds_succ]
    go_wp2_with fail
    rw [rounds_succ]
    go_wp2_with (go_at_call 122; refine (may_any _ _ (by omega) (by omega)).mono ?_; rintro e w' ⟨rfl, rfl⟩)
    go_ret3
    rcases dec3 h G1.out G2.out with ⟨_, hm, d, k⟩ | ⟨d, k⟩
    · exact .yes k d (ret_tup3 HV.out (by omega) (by rw [HV.out]; exact hm))
    · have hm : mayB (v3 s i) = false := d.resolve_left (by omega)
      exact .no k (ret_tup3 rfl rfl (by rw [HV.out]; exact hm))
  · have v' : ¬ (2048 : Int) ≤ ((((B s i : Nat) : Int) % 16) * 64 + ((B s (i + 1) : Nat) : Int) % 64) * 64 + ((B s (i + 1 + 1) : Nat) : Int) % 64 := by rw [HV.out]; omega
    go_enter Tryd.func95, Tryd.ntmps95
    go_wp2_with fail
    refine (lead_any _ _ hB).mono ?_
    rw [lead3 h]
    rintro e w' ⟨rfl, rfl⟩
    go_wp2_with fail
    refine wp_loop_rounds 3 ?_
    rw [rounds_succ]
    go_wp2_with fail
    rw [rounds_succ]
    go_wp2_with fail
    rw [rounds_succ]
    go_wp2_with fail
    go_ret3
    rcases dec3 h G1.out G2.out with ⟨d, _⟩ | ⟨_, k⟩
    · omega
    · exact .no k rfl

set_option maxHeartbeats 2000000 in
set_option maxRecDepth 1000000 in
theorem decode4 (s : ByteArray) (i : Nat) (w : World) (h0 : i < s.size) (hs : s.size ≤ maxLen) (h : 240 ≤ B s i ∧ B s i < 248) :
    Calls Tryd.prog 95 #[.string s, .int .i64 i] w (DecGives s i w) := by
  unfold maxLen at hs
  have hb := getB s
  have hB := B_lt s i
  have hB1 := B_lt s (i + 1)
  have hB2 := B_lt s (i + 1 + 1)
  have hB3 := B_lt s (i + 1 + 2)
  have hsz : (i : Int) < (s.size : Int) := by omega
  by_cases hl : s.size ≤ i + 3
  · go_enter Tryd.func95, Tryd.ntmps95
    go_wp2_with fail
    refine (lead_any _ _ hB).mono ?_
    rw [lead4 h]
    rintro e w' ⟨rfl, rfl⟩
    go_wp2_with fail
    go_ret3
    exact .no (dec4_no h (.inr (.inr (not_cont (.inl (by omega)))))) rfl
  by_cases c1 : ¬ B s (i + 1) / 64 = 2
  · have ⟨q1, p1⟩ := high_no hB1 c1
    go_enter Tryd.func95, Tryd.ntmps95
    go_wp2_with fail
    refine (lead_any _ _ hB).mono ?_
    rw [lead4 h]
    rintro e w' ⟨rfl, rfl⟩
    go_wp2_with fail
    refine wp_loop_rounds 1 ?_
    rw [rounds_succ]
    go_wp2_with fail
    go_ret3
    exact .no (dec4_no h (.inl (not_cont (.inr c1)))) rfl
  have c1' : B s (i + 1) / 64 = 2 := by omega
  have ⟨q1, p1⟩ := high_yes hB1 c1'
  have G1 := Lib.hid (cont_of (s := s) (k := i + 1) (by omega) c1')
  clear c1 c1'
  by_cases c2 : ¬ B s (i + 1 + 1) / 64 = 2
  · have ⟨q2, p2⟩ := high_no hB2 c2
    go_enter Tryd.func95, Tryd.ntmps95
    go_wp2_with fail
    refine (lead_any _ _ hB).mono ?_
    rw [lead4 h]
    rintro e w' ⟨rfl, rfl⟩
    go_wp2_with fail
    refine wp_loop_rounds 2 ?_
    rw [rounds_succ]
    go_wp2_with fail
    rw [rounds_succ]
    go_wp2_with fail
    go_ret3
    exact .no (dec4_no h (.inr (.inl (not_cont (.inr c2))))) rfl
  have c2' : B s (i + 1 + 1) / 64 = 2 := by omega
  have ⟨q2, p2⟩ := high_yes hB2 c2'
  have G2 := Lib.hid (cont_of (s := s) (k := i + 1 + 1) (by omega) c2')
  clear c2 c2'
  by_cases c3 : ¬ B s (i + 1 + 2) / 64 = 2
  · have ⟨q3, p3⟩ := high_no hB3 c3
    go_enter Tryd.func95, Tryd.ntmps95
    go_wp2_with fail
    refine (lead_any _ _ hB).mono ?_
    rw [lead4 h]
    rintro e w' ⟨rfl, rfl⟩
    go_wp2_with fail
    refine wp_loop_rounds 3 ?_
    rw [rounds_succ]
    go_wp2_with fail
    rw [rounds_succ]
    go_wp2_with fail
    rw [rounds_succ]
    go_wp2_with fail
    go_ret3
    exact .no (dec4_no h (.inr (.inr (not_cont (.inr c3))))) rfl
  have c3' : B s (i + 1 + 2) / 64 = 2 := by omega
  have ⟨q3, p3⟩ := high_yes hB3 c3'
  have G3 := Lib.hid (cont_of (s := s) (k := i + 1 + 2) (by omega) c3')
  clear c3 c3'
  have hv : (((((B s i : Nat) : Int) % 8) * 64 + ((B s (i + 1) : Nat) : Int) % 64) * 64 + ((B s (i + 1 + 1) : Nat) : Int) % 64) * 64 + ((B s (i + 1 + 2) : Nat) : Int) % 64 = ((v4 s i : Nat) : Int) := by unfold v4; rw [show i + 2 = i + 1 + 1 from rfl, show i + 3 = i + 1 + 2 from rfl]; omega
  have HV := Lib.hid hv; clear hv
  by_cases v : 65536 ≤ v4 s i
  · have v' : (65536 : Int) ≤ (((((B s i : Nat) : Int) % 8) * 64 + ((B s (i + 1) : Nat) : Int) % 64) * 64 + ((B s (i + 1 + 1) : Nat) : Int) % 64) * 64 + ((B s (i + 1 + 2) : Nat) : Int) % 64 := by rw [HV.out]; omega
    go_enter Tryd.func95, Tryd.ntmps95
    go_wp2_with fail
    refine (lead_any _ _ hB).mono ?_
    rw [lead4 h]
    rintro e w' ⟨rfl, rfl⟩
    go_wp2_with fail
    refine wp_loop_rounds 4 ?_
    rw [rounds_succ]
    go_wp2_with fail
    rw [rounds_succ]
    go_wp2_with fail
    rw [rounds_succ]
    go_wp2_with fail
    rw [rounds_succ]
    go_wp2_with (go_at_call 122; refine (may_any _ _ (by omega) (by omega)).mono ?_; rintro e w' ⟨rfl, rfl⟩)
    go_ret3
    rcases dec4 h G1.out G2.out G3.out with ⟨_, hm, d, k⟩ | ⟨d, k⟩
    · exact .yes k d (ret_tup3 HV.out (by omega) (by rw [HV.out]; exact hm))
    · have hm : mayB (v4 s i) = false := d.resolve_left (by omega)
      exact .no k (ret_tup3 rfl rfl (by rw [HV.out]; exact hm))
  · have v' : ¬ (65536 : Int) ≤ (((((B s i : Nat) : Int) % 8) * 64 + ((B s (i + 1) : Nat) : Int) % 64) * 64 + ((B s (i + 1 + 1) : Nat) : Int) % 64) * 64 + ((B s (i + 1 + 2) : Nat) : Int) % 64 := by rw [HV.out]; omega
    go_enter Tryd.func95, Tryd.ntmps95
    go_wp2_with fail
    refine (lead_any _ _ hB).mono ?_
    rw [lead4 h]
    rintro e w' ⟨rfl, rfl⟩
    go_wp2_with fail
    refine wp_loop_rounds 4 ?_
    rw [rounds_succ]
    go_wp2_with fail
    rw [rounds_succ]
    go_wp2_with fail
    rw [rounds_succ]
    go_wp2_with fail
    rw [rounds_succ]
    go_wp2_with fail
    go_ret3
    rcases dec4 h G1.out G2.out G3.out with ⟨d, _⟩ | ⟨_, k⟩
    · omega
    · exact .no k rfl


theorem decode_any (s : ByteArray) (i : Nat) (w : World) (h0 : i < s.size) (hs : s.size ≤ maxLen) :
    Calls Tryd.prog 95 #[.string s, .int .i64 i] w (DecGives s i w) := by
  have := B_lt s i
  rcases (by omega : B s i < 128 ∨ (128 ≤ B s i ∧ B s i < 192 ∨ 248 ≤ B s i) ∨ (192 ≤ B s i ∧ B s i < 224) ∨ (224 ≤ B s i ∧ B s i < 240) ∨ (240 ≤ B s i ∧ B s i < 248)) with h | h | h | h | h
  · exact decode1 s i w h0 hs h
  · exact decodeX s i w h0 hs h
  · exact decode2 s i w h0 hs h
  · exact decode3 s i w h0 hs h
  · exact decode4 s i w h0 hs h
end Go.Proofs.YthjaepmfkgejkaaDoor
namespace Go.Proofs.YthjaepmfkgejkaaDoor

/-- A rune's bytes, as numbers. -/
def encB (r : Int) : List Int :=
  if r < 128 then [r] else if r < 2048 then [192 + r / 64, 128 + r % 64] else if r < 65536 then [224 + r / 4096, 128 + r / 64 % 64, 128 + r % 64]
  else [240 + r / 262144, 128 + r / 4096 % 64, 128 + r / 64 % 64, 128 + r % 64]
theorem encB1 {r : Int} (h : r < 128) : encB r = [r] := by unfold encB; rw [if_pos h]
theorem encB2 {r : Int} (h : 128 ≤ r) (h' : r < 2048) : encB r = [192 + r / 64, 128 + r % 64] := by
  unfold encB; rw [if_neg (by omega), if_pos h']
theorem encB3 {r : Int} (h : 2048 ≤ r) (h' : r < 65536) : encB r = [224 + r / 4096, 128 + r / 64 % 64, 128 + r % 64] := by
  unfold encB; rw [if_neg (by omega), if_neg (by omega), if_pos h']
theorem encB4 {r : Int} (h : 65536 ≤ r) : encB r = [240 + r / 262144, 128 + r / 4096 % 64, 128 + r / 64 % 64, 128 + r % 64] := by
  unfold encB; rw [if_neg (by omega), if_neg (by omega), if_neg (by omega)]

/-- What the reference reckons of k bytes. -/
def vOf (s : ByteArray) (i k : Nat) : Int :=
  if k = 1 then B s i else if k = 2 then ((B s i : Int) - 192) * 64 + B s (i + 1) - 128
  else if k = 3 then ((B s i : Int) - 224) * 4096 + ((B s (i + 1) : Int) - 128) * 64 + B s (i + 2) - 128
  else ((B s i : Int) - 240) * 262144 + ((B s (i + 1) : Int) - 128) * 4096 + ((B s (i + 2) : Int) - 128) * 64 + B s (i + 3) - 128

/-- k bytes from a place on, as numbers. -/
def bytesAt (s : ByteArray) (i k : Nat) : List Int :=
  if k = 1 then [(B s i : Int)] else if k = 2 then [(B s i : Int), B s (i + 1)] else if k = 3 then [(B s i : Int), B s (i + 1), B s (i + 2)]
  else [(B s i : Int), B s (i + 1), B s (i + 2), B s (i + 3)]

def hit (s : ByteArray) (i k : Nat) : Prop := okAt s i = true ∧ (Utf8.decode s i).2 = k

theorem cont_in {s : ByteArray} {k : Nat} (h : cont s k = true) : k < s.size ∧ B s k / 64 = 2 := by simpa [cont] using h

theorem vOf_hit {s : ByteArray} {i k : Nat} (h : hit s i k) : vOf s i k = (Utf8.decode s i).1 ∧ mayB (Utf8.decode s i).1 = true ∧ encB (Utf8.decode s i).1 = bytesAt s i k ∧ 1 ≤ k ∧ k ≤ 4 := by
  obtain ⟨ho, hw⟩ := h
  have lt := B_lt s i
  have lt1 := B_lt s (i + 1)
  have lt2 := B_lt s (i + 2)
  have lt3 := B_lt s (i + 3)
  rcases (by omega : B s i < 128 ∨ (128 ≤ B s i ∧ B s i < 192 ∨ 248 ≤ B s i) ∨ (192 ≤ B s i ∧ B s i < 224) ∨ (224 ≤ B s i ∧ B s i < 240) ∨ (240 ≤ B s i ∧ B s i < 248)) with h | h | h | h | h
  · obtain ⟨e, _⟩ := dec1 h
    rw [e] at hw ⊢
    subst hw
    refine ⟨rfl, by simp [mayB]; omega, ?_, by omega, by omega⟩
    rw [encB1 (by simp; omega)]; rfl
  · rw [dec_lone h] at ho; cases ho
  · cases g : cont s (i + 1)
    · rw [dec2_no h g] at ho; cases ho
    · have := cont_in g
      rcases dec2 h g with ⟨hv, e, _⟩ | ⟨_, e⟩
      · rw [e] at hw ⊢
        subst hw
        have ev : (v2 s i : Int) = ((B s i : Int) - 192) * 64 + B s (i + 1) - 128 := by unfold v2; omega
        refine ⟨ev.symm, by simp [mayB]; omega, ?_, by omega, by omega⟩
        rw [encB2 (by omega) (by simp only [ev]; omega)]
        simp only [ev, bytesAt]
        simp; omega
      · rw [e] at ho; cases ho
  · cases g : cont s (i + 1)
    · rw [dec3_no h (.inl g)] at ho; cases ho
    · cases g2 : cont s (i + 2)
      · rw [dec3_no h (.inr g2)] at ho; cases ho
      · have := cont_in g
        have := cont_in g2
        rcases dec3 h g g2 with ⟨hv, hm, e, _⟩ | ⟨_, e⟩
        · rw [e] at hw ⊢
          subst hw
          have ev : (v3 s i : Int) = ((B s i : Int) - 224) * 4096 + ((B s (i + 1) : Int) - 128) * 64 + B s (i + 2) - 128 := by unfold v3; omega
          refine ⟨ev.symm, hm, ?_, by omega, by omega⟩
          rw [encB3 (by omega) (by simp only [ev]; omega)]
          simp only [ev, bytesAt]
          simp; omega
        · rw [e] at ho; cases ho
  · cases g : cont s (i + 1)
    · rw [dec4_no h (.inl g)] at ho; cases ho
    · cases g2 : cont s (i + 2)
      · rw [dec4_no h (.inr (.inl g2))] at ho; cases ho
      · cases g3 : cont s (i + 3)
        · rw [dec4_no h (.inr (.inr g3))] at ho; cases ho
        · have := cont_in g
          have := cont_in g2
          have := cont_in g3
          rcases dec4 h g g2 g3 with ⟨hv, hm, e, _⟩ | ⟨_, e⟩
          · rw [e] at hw ⊢
            subst hw
            have ev : (v4 s i : Int) = ((B s i : Int) - 240) * 262144 + ((B s (i + 1) : Int) - 128) * 4096 + ((B s (i + 2) : Int) - 128) * 64 + B s (i + 3) - 128 := by unfold v4; omega
            refine ⟨ev.symm, hm, ?_, by omega, by omega⟩
            rw [encB4 (by omega)]
            simp only [ev, bytesAt]
            simp; omega
          · rw [e] at ho; cases ho

theorem may_range {r : Int} (h : mayB r = true) : 0 ≤ r ∧ r ≤ 1114111 ∧ (r < 55296 ∨ 57343 < r) := by
  simp [mayB] at h; omega

theorem vOf_miss {s : ByteArray} {i k : Nat} (h1 : 1 ≤ k) (h4 : k ≤ 4) (hin : i + k ≤ s.size) (hm : mayB (vOf s i k) = true) (he : encB (vOf s i k) = bytesAt s i k) : hit s i k := by
  have hr := may_range hm
  have lt := B_lt s i
  have lt1 := B_lt s (i + 1)
  have lt2 := B_lt s (i + 2)
  have lt3 := B_lt s (i + 3)
  have fin : ∀ {r n : Nat}, Utf8.decode s i = (r, n) → okAt s i = true → n = k → hit s i k := by
    intro r n e ho hn; exact ⟨ho, by rw [e]; exact hn⟩
  rcases (by omega : k = 1 ∨ k = 2 ∨ k = 3 ∨ k = 4) with rfl | rfl | rfl | rfl
  · rw [show vOf s i 1 = (B s i : Int) from rfl] at he hr
    rcases (by omega : (B s i : Int) < 128 ∨ 128 ≤ (B s i : Int)) with a | a
    · obtain ⟨e, ho⟩ := dec1 (s := s) (i := i) (by omega)
      exact fin e ho rfl
    · rw [encB2 a (by omega)] at he
      simp [bytesAt] at he
  · rw [show vOf s i 2 = ((B s i : Int) - 192) * 64 + B s (i + 1) - 128 from rfl] at he hr
    generalize hv : ((B s i : Int) - 192) * 64 + B s (i + 1) - 128 = v at he hr
    rcases (by omega : v < 128 ∨ (128 ≤ v ∧ v < 2048) ∨ (2048 ≤ v ∧ v < 65536) ∨ 65536 ≤ v) with a | ⟨a, b⟩ | ⟨a, b⟩ | a
    · rw [encB1 a] at he; simp [bytesAt] at he
    · rw [encB2 a b] at he
      simp [bytesAt] at he
      obtain ⟨e1, e2⟩ := he
      have h : 192 ≤ B s i ∧ B s i < 224 := by omega
      have g : cont s (i + 1) = true := cont_of (by omega) (by omega)
      rcases dec2 h g with ⟨_, e, ho⟩ | ⟨c, _⟩
      · exact fin e ho rfl
      · unfold v2 at c; omega
    · rw [encB3 a b] at he; simp [bytesAt] at he
    · rw [encB4 a] at he; simp [bytesAt] at he
  · rw [show vOf s i 3 = ((B s i : Int) - 224) * 4096 + ((B s (i + 1) : Int) - 128) * 64 + B s (i + 2) - 128 from rfl] at he hr hm
    generalize hv : ((B s i : Int) - 224) * 4096 + ((B s (i + 1) : Int) - 128) * 64 + B s (i + 2) - 128 = v at he hr hm
    rcases (by omega : v < 128 ∨ (128 ≤ v ∧ v < 2048) ∨ (2048 ≤ v ∧ v < 65536) ∨ 65536 ≤ v) with a | ⟨a, b⟩ | ⟨a, b⟩ | a
    · rw [encB1 a] at he; simp [bytesAt] at he
    · rw [encB2 a b] at he; simp [bytesAt] at he
    · rw [encB3 a b] at he
      simp [bytesAt] at he
      obtain ⟨e1, e2, e3⟩ := he
      have h : 224 ≤ B s i ∧ B s i < 240 := by omega
      have g : cont s (i + 1) = true := cont_of (by omega) (by omega)
      have g2 : cont s (i + 2) = true := cont_of (by omega) (by omega)
      have ev : (v3 s i : Int) = v := by unfold v3; omega
      rcases dec3 h g g2 with ⟨_, _, e, ho⟩ | ⟨c, _⟩
      · exact fin e ho rfl
      · rcases c with c | c
        · omega
        · rw [ev, hm] at c; cases c
    · rw [encB4 a] at he; simp [bytesAt] at he
  · rw [show vOf s i 4 = ((B s i : Int) - 240) * 262144 + ((B s (i + 1) : Int) - 128) * 4096 + ((B s (i + 2) : Int) - 128) * 64 + B s (i + 3) - 128 from rfl] at he hr hm
    generalize hv : ((B s i : Int) - 240) * 262144 + ((B s (i + 1) : Int) - 128) * 4096 + ((B s (i + 2) : Int) - 128) * 64 + B s (i + 3) - 128 = v at he hr hm
    rcases (by omega : v < 128 ∨ (128 ≤ v ∧ v < 2048) ∨ (2048 ≤ v ∧ v < 65536) ∨ 65536 ≤ v) with a | ⟨a, b⟩ | ⟨a, b⟩ | a
    · rw [encB1 a] at he; simp [bytesAt] at he
    · rw [encB2 a b] at he; simp [bytesAt] at he
    · rw [encB3 a b] at he; simp [bytesAt] at he
    · rw [encB4 a] at he
      simp [bytesAt] at he
      obtain ⟨e1, e2, e3, e4⟩ := he
      have h : 240 ≤ B s i ∧ B s i < 248 := by omega
      have g : cont s (i + 1) = true := cont_of (by omega) (by omega)
      have g2 : cont s (i + 2) = true := cont_of (by omega) (by omega)
      have g3 : cont s (i + 3) = true := cont_of (by omega) (by omega)
      have ev : (v4 s i : Int) = v := by unfold v4; omega
      rcases dec4 h g g2 g3 with ⟨_, _, e, ho⟩ | ⟨c, _⟩
      · exact fin e ho rfl
      · rcases c with c | c
        · omega
        · rw [ev, hm] at c; cases c

theorem vOf_range (s : ByteArray) (i k : Nat) : -100000000 ≤ vOf s i k ∧ vOf s i k ≤ 100000000 := by
  have lt := B_lt s i
  have lt1 := B_lt s (i + 1)
  have lt2 := B_lt s (i + 2)
  have lt3 := B_lt s (i + 3)
  unfold vOf
  split
  · omega
  · split
    · omega
    · split <;> omega
end Go.Proofs.YthjaepmfkgejkaaDoor
namespace Go.Proofs.YthjaepmfkgejkaaDoor

/-- A string's bytes. -/
abbrev L (s : ByteArray) : List UInt8 := s.data.toList
theorem L_length (s : ByteArray) : (L s).length = s.size := by simp [L]
theorem toList_L (s : ByteArray) : s.toList = L s := by
  have h := Lib.extract_toList s 0 s.size
  have h2 := Lib.extract_data s 0 s.size
  have e : s.extract 0 s.size = s := by
    apply ByteArray.ext
    apply Array.toList_inj.1
    rw [h2, List.drop_zero, List.take_of_length_le (by rw [← L_length]; exact Nat.le_refl _)]
  rw [e] at h
  rw [h, List.drop_zero, List.take_of_length_le (by rw [← L_length]; exact Nat.le_refl _)]
theorem L_inj {a b : ByteArray} (h : L a = L b) : a = b := by
  apply ByteArray.ext
  exact Array.toList_inj.1 h
theorem str_beq (a b : ByteArray) : (a.toList == b.toList) = decide (L a = L b) := by
  rw [toList_L, toList_L, Bool.eq_iff_iff]
  simp
theorem B_L (s : ByteArray) (k : Nat) (h : k < s.size) : (L s)[k]? = some (s[k]'h) := Go.Proofs.byte_at s k h
theorem B_of (s : ByteArray) (k : Nat) (h : k < s.size) : B s k = (s[k]'h).toNat := by
  have := getB s k h
  omega

def num (l : List UInt8) : List Int := l.map fun c => (c.toNat : Int)
theorem num_inj {a b : List UInt8} (h : num a = num b) : a = b := by
  induction a generalizing b with
  | nil => cases b with
    | nil => rfl
    | cons _ _ => simp [num] at h
  | cons x a ih => cases b with
    | nil => simp [num] at h
    | cons y b =>
      simp only [num, List.map_cons, List.cons.injEq] at h
      have := ih h.2
      subst this
      have hx : x = y := UInt8.toNat_inj.1 (by omega)
      rw [hx]

theorem num_strOf {xs : List Int} (h : ∀ x ∈ xs, 0 ≤ x ∧ x < 256) : num (L (strOfNums xs)) = xs := by
  rw [L, strOfNums_data, num, List.map_map]
  conv => rhs; rw [← List.map_id xs]
  apply List.map_congr_left
  intro x hx
  have := h x hx
  simp
  omega

theorem encB_range {r : Int} (h0 : 0 ≤ r) (h1 : r ≤ 1114111) : ∀ x ∈ encB r, 0 ≤ x ∧ x < 256 := by
  rcases (by omega : r < 128 ∨ (128 ≤ r ∧ r < 2048) ∨ (2048 ≤ r ∧ r < 65536) ∨ 65536 ≤ r) with a | ⟨a, b⟩ | ⟨a, b⟩ | a
  · rw [encB1 a]; simp; omega
  · rw [encB2 a b]; simp; omega
  · rw [encB3 a b]; simp; omega
  · rw [encB4 a]; simp; omega

theorem num_take_succ (s : ByteArray) (i : Nat) (h : i < s.size) (k : Nat) : num (((L s).drop i).take (k + 1)) = (B s i : Int) :: num (((L s).drop (i + 1)).take k) := by
  have hl : i < (L s).length := by rw [L_length]; exact h
  rw [List.drop_eq_getElem_cons hl, List.take_succ_cons]
  have e : (L s)[i] = s[i]'h := Go.Proofs.byte_at' s i h hl
  rw [e, B_of s i h]
  rfl

theorem num_extract {s : ByteArray} {i k : Nat} (h1 : 1 ≤ k) (h4 : k ≤ 4) (hin : i + k ≤ s.size) : num (L (s.extract i (i + k))) = bytesAt s i k := by
  rw [L, Lib.extract_data, show i + k - i = k by omega]
  rcases (by omega : k = 1 ∨ k = 2 ∨ k = 3 ∨ k = 4) with rfl | rfl | rfl | rfl
  · rw [num_take_succ s i (by omega)]; rfl
  · rw [num_take_succ s i (by omega), num_take_succ s (i + 1) (by omega)]; rfl
  · rw [num_take_succ s i (by omega), num_take_succ s (i + 1) (by omega), num_take_succ s (i + 1 + 1) (by omega)]; rfl
  · rw [num_take_succ s i (by omega), num_take_succ s (i + 1) (by omega), num_take_succ s (i + 1 + 1) (by omega), num_take_succ s (i + 1 + 1 + 1) (by omega)]; rfl

theorem enc_beq {s : ByteArray} {i k : Nat} {v : Int} (h1 : 1 ≤ k) (h4 : k ≤ 4) (hin : i + k ≤ s.size) (h0 : 0 ≤ v) (hv : v ≤ 1114111) :
    ((strOfNums (encB v)).toList == (s.extract i (i + k)).toList) = decide (encB v = bytesAt s i k) := by
  rw [str_beq, Bool.eq_iff_iff, decide_eq_true_eq, decide_eq_true_eq, ← num_extract h1 h4 hin]
  constructor
  · intro h
    rw [← h, num_strOf (encB_range h0 hv)]
  · intro h
    apply num_inj
    rw [num_strOf (encB_range h0 hv), h]
end Go.Proofs.YthjaepmfkgejkaaDoor
namespace Go.Proofs.YthjaepmfkgejkaaDoor
open Go.RowKit
set_option linter.unusedVariables false

/-- What Check says: 0, OK; or a place, ErrText. -/
def ChkGives (s : ByteArray) (w : World) (e : Ending) (w' : World) : Prop :=
  w = w' ∧ (isText s = true ∧ e = .returned (.tuple #[.int .i64 0, .int .i64 0]) ∨ isText s = false ∧ ∃ n : Int, e = .returned (.tuple #[.int .i64 n, .int .i64 5]))

set_option maxRecDepth 100000 in
theorem check_any (s : ByteArray) (w : World) (hs : s.size ≤ maxLen) :
    Calls Tryd.prog 64 #[.string s] w (ChkGives s w) := by
  have hs' := hs
  unfold maxLen at hs
  go_enter Tryd.func64, Tryd.ntmps64
  go_wp2
  go_loop [2] (fun t => ∃ k : Nat, k ≤ s.size ∧ t = .int .i64 k ∧ Hid (isText s = (runesAt s k).isSome)) (fun t => s.size - (intOf t).toNat)
  case atStart => exact ⟨0, Nat.zero_le _, rfl, Lib.hid rfl⟩
  case round =>
    obtain ⟨k, hk, rfl, hR⟩ := hrel
    by_cases hlt : k < s.size
    · have hin := dec_in hlt
      go_wp2_with fail
      refine (decode_any s k _ hlt hs').mono ?_
      rintro e w' ⟨rfl, ⟨ho, rfl⟩ | ⟨ho, r, n, rfl⟩⟩
      · have HO := Lib.hid ho; clear ho
        go_wp2_with fail
        go_round
        case rel => exact ⟨k + (Utf8.decode s k).2, by omega, rfl, Lib.hid (by rw [hR.out, runesAt_ok hlt HO.out]; simp)⟩
        case measure => simp [intOf]; omega
      · have HO := Lib.hid ho; clear ho
        go_wp2_with fail
        go_ret2
        exact ⟨rfl, .inr ⟨by rw [hR.out, runesAt_bad hlt HO.out]; rfl, _, rfl⟩⟩
    · go_wp2_with fail
      go_ret2
      exact ⟨rfl, .inl ⟨by rw [hR.out, runesAt_end (by omega)]; rfl, rfl⟩⟩

theorem refMay_any (r : Int) (w : World) (h0 : 0 ≤ r) (h1 : r ≤ 2147483647) : Calls Tryd.prog 148 #[.int .i32 r] w fun e w' =>
    w = w' ∧ e = .returned (.bool (mayB r))  := by
  by_cases a2 : r < 55296
  · rw [show mayB r = true by simp [mayB]; omega]
    go_enter Tryd.func148, Tryd.ntmps148
    go_wp2
    go_ret
    exact ⟨rfl, rfl⟩
  · have : 55296 ≤ r := by omega
    by_cases a3 : 57343 < r
    · rw [show mayB r = decide (r ≤ 1114111) by unfold mayB; rw [Bool.eq_iff_iff]; simp; omega]
      go_enter Tryd.func148, Tryd.ntmps148
      go_wp2
      go_ret
      exact ⟨rfl, rfl⟩
    · rw [show mayB r = false by unfold mayB; rw [Bool.eq_false_iff]; simp; omega]
      go_enter Tryd.func148, Tryd.ntmps148
      go_wp2
      go_ret
      exact ⟨rfl, rfl⟩

set_option maxRecDepth 100000 in
theorem refBytes_any (r : Int) (w : World) (h0 : 0 ≤ r) (h1 : r ≤ 1114111) : Calls Tryd.prog 149 #[.int .i32 r] w fun e w' =>
    w.alloc (.cells ((encB r).map (Value.int .u8)).toArray 5) = w' ∧ e = .returned (.slice (some ⟨w.heap.size, 0, none⟩) (encB r).length (encB r).length) := by
  rcases (by omega : r < 128 ∨ (128 ≤ r ∧ r < 2048) ∨ (2048 ≤ r ∧ r < 65536) ∨ 65536 ≤ r) with a | ⟨a, b⟩ | ⟨a, b⟩ | a
  · rw [encB1 a]
    go_enter Tryd.func149, Tryd.ntmps149
    go_wp2
    go_ret
    exact ⟨rfl, rfl⟩
  · rw [encB2 a b]
    go_enter Tryd.func149, Tryd.ntmps149
    go_wp2
    go_ret
    exact ⟨rfl, rfl⟩
  · rw [encB3 a b]
    go_enter Tryd.func149, Tryd.ntmps149
    go_wp2
    go_ret
    exact ⟨rfl, rfl⟩
  · rw [encB4 a]
    go_enter Tryd.func149, Tryd.ntmps149
    go_wp2
    go_ret
    exact ⟨rfl, rfl⟩

/-- What One gives: the rune and how many bytes; or 0, 0. -/
def OneGives (s : ByteArray) (i : Nat) (w : World) (e : Ending) (w' : World) : Prop :=
  Below w.heap.size w w' ∧ (okAt s i = true ∧ e = .returned (.tuple #[.int .i32 (Utf8.decode s i).1, .int .i64 ((Utf8.decode s i).2 : Int)]) ∨
    okAt s i = false ∧ e = .returned (.tuple #[.int .i32 0, .int .i64 0]))

theorem not_hit_more {s : ByteArray} {i k : Nat} (h : okAt s i = true → k ≤ (Utf8.decode s i).2) (n : ¬ hit s i k) : okAt s i = true → k + 1 ≤ (Utf8.decode s i).2 := by
  intro ho
  have := h ho
  rcases Nat.lt_or_ge k (Utf8.decode s i).2 with a | a
  · exact a
  · exact absurd ⟨ho, by omega⟩ n

set_option maxHeartbeats 1000000 in
set_option maxRecDepth 100000 in
theorem one_any (s : ByteArray) (i : Nat) (w : World) (hi : i < s.size) (hs : s.size ≤ maxLen) : Calls Tryd.prog 137 #[.string s, .int .i64 i] w (OneGives s i w) := by
  unfold maxLen at hs
  have hb := getB s
  have hB := B_lt s i
  have hB1 := B_lt s (i + 1)
  have hB2 := B_lt s (i + 2)
  have hB3 := B_lt s (i + 3)
  have hsz : (i : Int) < (s.size : Int) := by omega
  go_enter Tryd.func137, Tryd.ntmps137
  go_wp2
  go_loopw [6] (fun n wr => ∃ k : Nat, 1 ≤ k ∧ n = .int .i64 k ∧ Below w.heap.size w wr ∧ Hid (okAt s i = true → k ≤ (Utf8.decode s i).2)) (fun n _ => 5 - (intOf n).toNat)
  case atStart => exact ⟨1, by omega, rfl, Below.refl _ _, Lib.hid fun _ => (dec_in hi).2.1⟩
  case round =>
    obtain ⟨k, hk, rfl, hbw, hR⟩ := hrel
    by_cases hin : k ≤ 4 ∧ i + k ≤ s.size
    · obtain ⟨hk4, hik⟩ := hin
      have hvr := vOf_range s i k
      go_upto_block 2 with (fail)
      go_cut [7] (fun s7 wx => s7 = .int .i64 (vOf s i k) ∧ Below w.heap.size w wx)
      case first =>
        rcases (by omega : k = 1 ∨ k = 2 ∨ k = 3 ∨ k = 4) with rfl | rfl | rfl | rfl
        · go_wp2_with fail
          go_meet
          exact ⟨rfl, hbw⟩
        · have h1 : (i : Int) + 1 < s.size := by omega
          go_wp2_with fail
          go_quiet (fail)
          go_wp2_with fail
          go_meet
          exact ⟨rfl, below_drewN hbw _⟩
        · have h1 : (i : Int) + 1 < s.size := by omega
          have h2 : (i : Int) + 2 < s.size := by omega
          go_wp2_with fail
          go_quiet (fail)
          go_wp2_with fail
          go_meet
          exact ⟨rfl, below_drewN hbw _⟩
        · have h1 : (i : Int) + 1 < s.size := by omega
          have h2 : (i : Int) + 2 < s.size := by omega
          have h3 : (i : Int) + 3 < s.size := by omega
          go_wp2_with fail
          go_quiet (fail)
          go_wp2_with fail
          go_meet
          exact ⟨rfl, below_drewN hbw _⟩
      case rest =>
        obtain ⟨rfl, hbx⟩ := hcut
        by_cases hm : mayB (vOf s i k) = true
        · have hmr := may_range hm
          have HM := Lib.hid hm; clear hm
          generalize hv : vOf s i k = v at *
          have HV := Lib.hid hv; clear hv
          have hw1 : IntKind.i32.wrap v = v := IntWalk.i32_in _ (by omega)
          go_wp2_with (go_at_call 148; refine (refMay_any _ _ (by omega) (by omega)).mono ?_; rw [HM.out]; rintro e w' ⟨rfl, rfl⟩)
          have hconv : ∀ wx : World, (convert 30 9 (.slice (some ⟨wx.heap.size, 0, none⟩) (encB v).length (encB v).length)).run Tryd.prog (wx.alloc (.cells ((encB v).map (Value.int .u8)).toArray 5)).drew = .ok (.string (strOfNums (encB v))) (wx.alloc (.cells ((encB v).map (Value.int .u8)).toArray 5)).drew := by
            intro wx
            refine run_convert_bytes_arg _ 30 5 Tryd.underlying30 Tryd.underlying5 _ 0 _ _ _ rfl ?_ 9 Tryd.underlying9
            intro j hj
            rw [Nat.zero_add]
            show (wx.alloc _).cell? _ = _
            rw [World.cell?_alloc_new]
            simp [List.getD, hj]
          have hw2 : IntKind.i64.wrap ((i : Int) + (k : Int)) = (i : Int) + k := IntWalk.i64_in _ (by omega)
          have hsl : ∀ wx : World, (Instr.slice 9 (.string s) (some (.int .i64 (i : Int))) (some (.int .i64 ((i : Int) + (k : Int)))) none).run Tryd.prog wx = .ok (.string (s.extract i (i + k))) wx := by
            intro wx
            have := run_slice_string (P := Tryd.prog) (w := wx) 9 s .i64 .i64 (i : Int) ((i : Int) + k) Tryd.underlying9 (by omega) (by omega) (by omega)
            rw [this]
            congr 2
          have heq := enc_beq (v := v) hk hk4 hik (by omega) (by omega)
          by_cases hh : encB v = bytesAt s i k
          · rw [decide_eq_true hh] at heq
            have HH := Lib.hid hh; clear hh
            go_region_with (go_at_call 149; refine (refBytes_any _ _ (by omega) (by omega)).mono ?_; rintro e w' ⟨rfl, rfl⟩)
            go_wp2_with fail
            go_ret2
            have ht : hit s i k := vOf_miss hk hk4 hik (by rw [HV.out]; exact HM.out) (by rw [HV.out]; exact HH.out)
            obtain ⟨e1, _⟩ := vOf_hit ht
            refine ⟨(hbx.alloc hbx.size _).drew, .inl ⟨ht.1, ?_⟩⟩
            rw [← e1, ht.2, HV.out]
            rfl
          · rw [decide_eq_false hh] at heq
            have HH := Lib.hid hh; clear hh
            go_region_with (go_at_call 149; refine (refBytes_any _ _ (by omega) (by omega)).mono ?_; rintro e w' ⟨rfl, rfl⟩)
            go_wp2_with fail
            go_roundw
            case rel =>
              refine ⟨k + 1, by omega, by go_num, (hbx.alloc hbx.size _).drew, Lib.hid (not_hit_more hR.out ?_)⟩
              intro ht
              obtain ⟨e1, _, e3, _⟩ := vOf_hit ht
              rw [← e1, HV.out] at e3
              exact HH.out e3
            case measure => simp [intOf]; omega
        · have hno : ¬ hit s i k := by
            intro ht
            obtain ⟨e1, e2, _⟩ := vOf_hit ht
            rw [← e1] at e2
            exact hm e2
          have HN := Lib.hid hno; clear hno
          have hmf : mayB (vOf s i k) = false := by simpa using hm
          clear hm
          have HM := Lib.hid hmf; clear hmf
          generalize hv : vOf s i k = v at *
          clear hv
          by_cases hr : 0 ≤ v ∧ v ≤ 1114111
          · have hw1 : IntKind.i32.wrap v = v := IntWalk.i32_in _ (by omega)
            go_wp2_with (go_at_call 148; refine (refMay_any _ _ (by omega) (by omega)).mono ?_; rw [HM.out]; rintro e w' ⟨rfl, rfl⟩)
            go_roundw
            case rel => exact ⟨k + 1, by omega, by go_num, hbx, Lib.hid (not_hit_more hR.out HN.out)⟩
            case measure => simp [intOf]; omega
          · by_cases hr0 : v < 0
            · go_wp2_with fail
              go_roundw
              case rel => exact ⟨k + 1, by omega, by go_num, hbx, Lib.hid (not_hit_more hR.out HN.out)⟩
              case measure => simp [intOf]; omega
            · have hr1 : 1114111 < v := by omega
              go_wp2_with fail
              go_roundw
              case rel => exact ⟨k + 1, by omega, by go_num, hbx, Lib.hid (not_hit_more hR.out HN.out)⟩
              case measure => simp [intOf]; omega
    · have hend : OneGives s i w (.returned (.tuple #[.int .i32 0, .int .i64 0])) wr := by
        refine ⟨hbw, .inr ⟨?_, rfl⟩⟩
        cases ho : okAt s i
        · rfl
        · have := hR.out ho
          have := dec_in hi
          omega
      by_cases hk4 : k ≤ 4
      · go_wp2_with fail
        go_ret2
        exact hend
      · go_wp2_with fail
        go_ret2
        exact hend
end Go.Proofs.YthjaepmfkgejkaaDoor
namespace Go.Proofs.YthjaepmfkgejkaaDoor

def signB (c : Nat) : Bool := (decide (97 ≤ c) && decide (c ≤ 122)) || (decide (65 ≤ c) && decide (c ≤ 90)) || (decide (48 ≤ c) && decide (c ≤ 57)) || c == 45 || c == 95 || c == 46
def shownB (r : Nat) : Bool := decide (32 ≤ r) && !(r == 127)
def plainB (s : ByteArray) (p : Nat → Bool) : Bool := match runesOf s with
  | some l => l.all p
  | none => false
def authorB (s : ByteArray) : Bool := decide (1 ≤ s.size) && decide (s.size ≤ 32) && plainB s shownB
def noteB (s : ByteArray) : Bool := decide (s.size ≤ 256) && isText s
def HEAD : ByteArray := ⟨#[72, 69, 65, 68]⟩
def nameB (s : ByteArray) : Bool := decide (1 ≤ s.size) && decide (s.size ≤ 32) && !(B s 0 == 46) && !(B s 0 == 45) && !decide (s = HEAD) && (List.range s.size).all fun i => signB (B s i)

/-- What stands between the slashes. -/
def pieces : List UInt8 → List (List UInt8)
  | [] => [[]]
  | c :: l => if c = 47 then [] :: pieces l else match pieces l with
    | p :: ps => (c :: p) :: ps
    | [] => [[c]]
def pieceB (p : List UInt8) : Bool := !decide (p = []) && !decide (p = [46]) && !decide (p = [46, 46])
def pathB (s : ByteArray) : Bool := decide (1 ≤ s.size) && decide (s.size ≤ 64) && plainB s shownB && (pieces (L s)).all pieceB

/-- Can two paths not stand beside one another? -/
def underB (a b : List UInt8) : Bool := (a ++ [47]).isPrefixOf b
def clashB (a b : List UInt8) : Bool := decide (a = b) || underB a b || underB b a

theorem pieces_ne : ∀ l, pieces l ≠ []
  | [] => by simp [pieces]
  | c :: l => by
    unfold pieces
    split
    · simp
    · split <;> simp
/-- A text without a slash is one piece. -/
theorem pieces_lone {l : List UInt8} (h : (47 : UInt8) ∉ l) : pieces l = [l] := by
  induction l with
  | nil => rfl
  | cons c l ih =>
    simp only [List.mem_cons, not_or] at h
    rw [pieces, if_neg (fun e => h.1 e.symm), ih h.2]
/-- The first slash ends the first piece. -/
theorem pieces_cut {a b : List UInt8} (h : (47 : UInt8) ∉ a) : pieces (a ++ 47 :: b) = a :: pieces b := by
  induction a with
  | nil => simp [pieces]
  | cons c a ih =>
    simp only [List.mem_cons, not_or] at h
    rw [List.cons_append, pieces, if_neg (fun e => h.1 e.symm), ih h.2]

theorem index_slash {a b : List UInt8} (h : (47 : UInt8) ∉ a) : Lib.index (a ++ 47 :: b) [47] = a.length := by
  induction a with
  | nil => simp [Lib.index]
  | cons c a ih =>
    simp only [List.mem_cons, not_or] at h
    have h1 : ¬ ((47 : UInt8) == c) = true := by simpa using h.1
    rw [List.cons_append, Lib.index, ih h.2]
    simp only [List.isPrefixOf, h1, Bool.false_and]
    simp
/-- A text is cut at its first slash, or has none. -/
theorem slash_cases (l : List UInt8) : (47 : UInt8) ∉ l ∨ ∃ a b, l = a ++ 47 :: b ∧ (47 : UInt8) ∉ a := by
  induction l with
  | nil => exact .inl (by simp)
  | cons c l ih =>
    by_cases hc : c = 47
    · exact .inr ⟨[], l, by simp [hc], by simp⟩
    · rcases ih with ih | ⟨a, b, rfl, ha⟩
      · exact .inl (by simp [ih]; exact fun e => hc e.symm)
      · exact .inr ⟨c :: a, b, rfl, by simp [ha]; exact fun e => hc e.symm⟩
/-- strings.Split at a slash. -/
theorem split_pieces : ∀ (n : Nat) (l : List UInt8), l.length ≤ n → Lib.splitK [47] 0 (l.count 47) l = pieces l := by
  intro n
  induction n with
  | zero =>
    intro l hl
    have : l = [] := List.length_eq_zero_iff.1 (by omega)
    subst this
    rfl
  | succ n ih =>
    intro l hl
    rcases slash_cases l with h | ⟨a, b, rfl, ha⟩
    · rw [pieces_lone h, List.count_eq_zero.2 h]; rfl
    · rw [pieces_cut ha, List.count_append, List.count_eq_zero.2 ha, List.count_cons_self, Nat.zero_add, Lib.splitK, index_slash ha]
      have hlen : (a ++ 47 :: b).length = a.length + b.length + 1 := by simp; omega
      have e1 : ((a.length : Int)).toNat = a.length := by omega
      rw [if_neg (by simp), e1, Nat.add_zero, List.take_left, show ([47] : List UInt8).length = 1 from rfl]
      have e2 : (a ++ 47 :: b).drop (a.length + 1) = b := by rw [List.drop_append]; simp
      rw [e2, ih b (by omega)]

def slashS : ByteArray := ⟨#[47]⟩
theorem splitB_pieces (s : ByteArray) : (Lib.splitB slashS 0 (Lib.countB s slashS) s).map L = pieces (L s) := by
  have h := Lib.splitB_data slashS 0 (Lib.countB s slashS) s
  have hc : Lib.countB s slashS = (L s).count 47 := Lib.count_one 47 (L s)
  have e : (Lib.splitB slashS 0 (Lib.countB s slashS) s).map L = (Lib.splitB slashS 0 (Lib.countB s slashS) s).map (·.data.toList) := rfl
  rw [e, h, hc]
  exact split_pieces _ (L s) (Nat.le_refl _)

theorem plainB_text {s : ByteArray} {p : Nat → Bool} (h : isText s = false) : plainB s p = false := by
  unfold plainB
  unfold isText at h
  cases hr : runesOf s
  · rfl
  · rw [hr] at h; cases h
theorem plainB_true {s : ByteArray} : plainB s (fun _ => true) = isText s := by
  unfold plainB isText
  cases runesOf s <;> simp

theorem drop_split {s : ByteArray} {f k : Nat} (hfk : f ≤ k) : (L s).drop f = L (s.extract f k) ++ (L s).drop k := by
  rw [show L (s.extract f k) = ((L s).drop f).take (k - f) from Lib.extract_data s f k]
  have : ((L s).drop f).drop (k - f) = (L s).drop k := by rw [List.drop_drop]; congr 1; omega
  rw [← this, List.take_append_drop]
theorem no_slash {s : ByteArray} {f k : Nat} (hk : k ≤ s.size) (h : ∀ j, f ≤ j → j < k → B s j ≠ 47) : (47 : UInt8) ∉ L (s.extract f k) := by
  intro hm
  obtain ⟨j, hj⟩ := List.getElem?_of_mem hm
  rw [L, Lib.extract_data, List.getElem?_take] at hj
  split at hj
  · rename_i hlt
    rw [List.getElem?_drop] at hj
    have hb := B_L s (f + j) (by omega)
    rw [L] at hb
    rw [hb] at hj
    have := B_of s (f + j) (by omega)
    have e : s[f + j]'(by omega) = 47 := Option.some.inj hj
    rw [e] at this
    exact h (f + j) (by omega) (by omega) this
  · cases hj
theorem drop_cons {s : ByteArray} {k : Nat} (hk : k < s.size) (h : B s k = 47) : (L s).drop k = 47 :: (L s).drop (k + 1) := by
  have hl : k < (L s).length := by rw [L_length]; exact hk
  rw [List.drop_eq_getElem_cons hl]
  have e : (L s)[k] = s[k]'hk := Go.Proofs.byte_at' s k hk hl
  have := B_of s k hk
  rw [e, show s[k]'hk = 47 from UInt8.toNat_inj.1 (by rw [← this, h]; rfl)]
theorem pieces_at {s : ByteArray} {f k : Nat} (hfk : f ≤ k) (hk : k < s.size) (h47 : B s k = 47) (h : ∀ j, f ≤ j → j < k → B s j ≠ 47) :
    pieces ((L s).drop f) = L (s.extract f k) :: pieces ((L s).drop (k + 1)) := by
  rw [drop_split hfk, drop_cons hk h47, pieces_cut (no_slash (by omega) h)]
theorem pieces_end {s : ByteArray} {f : Nat} (hf : f ≤ s.size) (h : ∀ j, f ≤ j → j < s.size → B s j ≠ 47) : pieces ((L s).drop f) = [L (s.extract f s.size)] := by
  rw [drop_split hf, List.drop_eq_nil_of_le (by rw [L_length]; exact Nat.le_refl _), List.append_nil, pieces_lone (no_slash (Nat.le_refl _) h)]

/-- A text put ahead of the first piece. -/
def glue (p : List UInt8) : List (List UInt8) → List (List UInt8)
  | x :: xs => (p ++ x) :: xs
  | [] => [p]
theorem glue_nil {ps : List (List UInt8)} (h : ps ≠ []) : glue [] ps = ps := by
  cases ps with
  | nil => exact absurd rfl h
  | cons x xs => rfl
theorem glue_glue (p q : List UInt8) (ps : List (List UInt8)) : glue p (glue q ps) = glue (p ++ q) ps := by
  cases ps <;> simp [glue]
theorem pieces_glue {a b : List UInt8} (h : (47 : UInt8) ∉ a) : pieces (a ++ b) = glue a (pieces b) := by
  induction a with
  | nil => rw [List.nil_append, glue_nil (pieces_ne b)]
  | cons c a ih =>
    simp only [List.mem_cons, not_or] at h
    rw [List.cons_append, pieces, if_neg (fun e => h.1 e.symm), ih h.2]
    cases hb : pieces b with
    | nil => exact absurd hb (pieces_ne b)
    | cons x xs => rfl

set_option maxRecDepth 1000000 in
theorem enc_L {r : Nat} (h : mayB (r : Int) = true) : num (L (Utf8.encode (r : Int))) = encB (r : Int) := by
  have hr := may_range h
  unfold Utf8.encode
  rw [valid_may, h]
  simp only [if_true, Int.toNat_natCast]
  rcases (by omega : r < 128 ∨ (128 ≤ r ∧ r < 2048) ∨ (2048 ≤ r ∧ r < 65536) ∨ 65536 ≤ r) with a | ⟨a, b⟩ | ⟨a, b⟩ | a
  · rw [if_pos a, encB1 (by omega)]
    simp [num, L]; omega
  · rw [if_neg (by omega), if_pos (by omega), encB2 (by omega) (by omega)]
    simp [num, L]; omega
  · rw [if_neg (by omega), if_neg (by omega), if_pos (by omega), encB3 (by omega) (by omega)]
    simp [num, L]; omega
  · rw [if_neg (by omega), if_neg (by omega), if_neg (by omega), encB4 (by omega)]
    simp [num, L]; omega
/-- A rune written anew is just the bytes that it was read from. -/
theorem enc_dec {s : ByteArray} {k : Nat} (hk : k < s.size) (ho : okAt s k = true) : L (Utf8.encode ((Utf8.decode s k).1 : Int)) = L (s.extract k (k + (Utf8.decode s k).2)) := by
  obtain ⟨_, h2, h3, h4, h5⟩ := vOf_hit (s := s) (i := k) ⟨ho, rfl⟩
  apply num_inj
  rw [enc_L h2, h3, num_extract h4 h5 (dec_in hk).1]
theorem dec_slash {s : ByteArray} {k : Nat} (hk : k < s.size) (ho : okAt s k = true) (h : (Utf8.decode s k).1 ≠ 47) : (47 : UInt8) ∉ L (s.extract k (k + (Utf8.decode s k).2)) := by
  rw [← enc_dec hk ho]
  obtain ⟨_, h2, _⟩ := vOf_hit (s := s) (i := k) ⟨ho, rfl⟩
  intro hm
  have h3 : (47 : Int) ∈ num (L (Utf8.encode ((Utf8.decode s k).1 : Int))) := List.mem_map.2 ⟨47, hm, rfl⟩
  rw [enc_L h2] at h3
  have hr := may_range h2
  rcases (by omega : ((Utf8.decode s k).1 : Int) < 128 ∨ (128 ≤ ((Utf8.decode s k).1 : Int) ∧ ((Utf8.decode s k).1 : Int) < 2048) ∨ (2048 ≤ ((Utf8.decode s k).1 : Int) ∧ ((Utf8.decode s k).1 : Int) < 65536) ∨ 65536 ≤ ((Utf8.decode s k).1 : Int)) with a | ⟨a, b⟩ | ⟨a, b⟩ | a
  · rw [encB1 a] at h3; simp at h3; omega
  · rw [encB2 a b] at h3; simp at h3; omega
  · rw [encB3 a b] at h3; simp at h3; omega
  · rw [encB4 a] at h3; simp at h3; omega
theorem dec_is_slash {s : ByteArray} {k : Nat} (_hk : k < s.size) (ho : okAt s k = true) (h : (Utf8.decode s k).1 = 47) : B s k = 47 ∧ (Utf8.decode s k).2 = 1 := by
  obtain ⟨_, _, h3, h4, h5⟩ := vOf_hit (s := s) (i := k) ⟨ho, rfl⟩
  rw [h, encB1 (by decide)] at h3
  have hl := congrArg List.length h3
  generalize (Utf8.decode s k).2 = n at *
  rcases (by omega : n = 1 ∨ n = 2 ∨ n = 3 ∨ n = 4) with rfl | rfl | rfl | rfl
  · simp [bytesAt] at h3; exact ⟨by omega, rfl⟩
  · simp [bytesAt] at hl
  · simp [bytesAt] at hl
  · simp [bytesAt] at hl
end Go.Proofs.YthjaepmfkgejkaaDoor
namespace Go.Proofs.YthjaepmfkgejkaaDoor
open Go.RowKit
set_option linter.unusedVariables false

theorem ret_bool {a b : Bool} (h : a = b) : Ending.returned (.bool a) = .returned (.bool b) := by rw [h]

theorem shown_any (r : Nat) (w : World) (hr : r ≤ 2147483647) : Calls Tryd.prog 87 #[.int .i32 r] w fun e w' => w = w' ∧ e = .returned (.bool (shownB r)) := by
  have hy : 32 ≤ r ∧ r ≠ 127 → shownB r = true := by intro h; simp [shownB, h]
  have hn : ¬ (32 ≤ r ∧ r ≠ 127) → shownB r = false := by intro h; rw [Bool.eq_false_iff]; simp [shownB]; omega
  rcases (by omega : r < 32 ∨ r = 127 ∨ (32 ≤ r ∧ r < 127) ∨ 127 < r) with h | h | h | h
  all_goals
    first
    | rw [hy (by omega)]
    | rw [hn (by omega)]
    clear hy hn
    first
    | (subst h; go_enter Tryd.func87, Tryd.ntmps87; go_wp2; go_ret; refine ⟨rfl, ret_bool ?_⟩; simp; done)
    | (go_enter Tryd.func87, Tryd.ntmps87; go_wp2; go_ret; refine ⟨rfl, ret_bool ?_⟩; simp; omega)
    | (go_enter Tryd.func87, Tryd.ntmps87; go_wp2; go_ret; refine ⟨rfl, ret_bool ?_⟩; simp; done)
    | (go_enter Tryd.func87, Tryd.ntmps87; go_wp2; go_ret; refine ⟨rfl, ret_bool ?_⟩; simp; omega)

theorem yes_any (r : Nat) (w : World) : Calls Tryd.prog 93 #[.int .i32 r] w fun e w' => w = w' ∧ e = .returned (.bool true) := by
  go_enter Tryd.func93, Tryd.ntmps93
  go_wp2
  go_ret
  exact ⟨rfl, rfl⟩

theorem all_head {p : Nat → Bool} {s : ByteArray} {k : Nat} (h : k < s.size) (ho : okAt s k = true) :
    ((runesAt s k).map (·.all p)) = (((runesAt s (k + (Utf8.decode s k).2)).map (·.all p)).map (p (Utf8.decode s k).1 && ·)) := by
  rw [runesAt_ok h ho]
  cases runesAt s (k + (Utf8.decode s k).2) <;> simp

/-- A text that is one: each place that is come to is right. -/
def okFrom (s : ByteArray) (k : Nat) : Prop := (runesAt s k).isSome = true
theorem okFrom.at_ {s : ByteArray} {k : Nat} (h : okFrom s k) (hk : k < s.size) : okAt s k = true ∧ okFrom s (k + (Utf8.decode s k).2) := by
  cases ho : okAt s k
  · unfold okFrom at h; rw [runesAt_bad hk ho] at h; cases h
  · refine ⟨rfl, ?_⟩
    unfold okFrom at h ⊢
    rw [runesAt_ok hk ho] at h
    simpa using h

set_option maxHeartbeats 1000000 in
set_option maxRecDepth 100000 in
theorem plain_shown (s : ByteArray) (w : World) (hs : s.size ≤ maxLen) :
    Calls Tryd.prog 86 #[.string s, .func (.func 87) #[] #[]] w fun e w' => Below w.heap.size w w' ∧ e = .returned (.bool (plainB s shownB)) := by
  go_enter Tryd.func86, Tryd.ntmps86
  go_wp2_with fail
  refine (check_any s _ hs).mono ?_
  rintro e w1 ⟨rfl, ⟨ht, rfl⟩ | ⟨ht, n, rfl⟩⟩
  · have hpl : plainB s shownB = ((runesAt s 0).map (·.all shownB)).getD false := by
      unfold plainB; rw [runesOf_eq]
      cases runesAt s 0 <;> rfl
    have HP := Lib.hid hpl; clear hpl
    have hok : okFrom s 0 := ht
    have HK := Lib.hid hok; clear hok
    clear ht
    unfold maxLen at hs
    go_wp2_with fail
    go_loopw [] (fun wr => ∃ k : Nat, k ≤ s.size ∧ wr = w.iter s k ∧ Hid (okFrom s k) ∧ Hid (plainB s shownB = ((runesAt s k).map (·.all shownB)).getD false)) (fun wr => s.size - wr.iterPos w.heap.size)
    case atStart => exact ⟨0, by omega, rfl, HK, HP⟩
    case round =>
      obtain ⟨k, hk, rfl, hK, hR⟩ := hrel
      by_cases hp : k < s.size
      · have hnx : ∀ ty, (Instr.next (.pointer (some ⟨w.heap.size, 0, none⟩)) true ty).run Tryd.prog (w.iter s k) = _ := fun ty => run_next_any w s k ty hp
        have hin := dec_in hp
        have hrl := decode_le s k
        obtain ⟨ho, hk2⟩ := hK.out.at_ hp
        have HO := Lib.hid ho; clear ho
        have HK2 := Lib.hid hk2; clear hk2
        cases hpr : shownB (Utf8.decode s k).1
        · have HPR := Lib.hid hpr; clear hpr
          go_wp2_with fail
          refine (shown_any _ _ hrl).mono ?_
          rintro e w2 ⟨rfl, rfl⟩
          rw [HPR.out]
          go_wp2_with fail
          go_ret
          refine ⟨(Below.refl _ w).alloc (Nat.le_refl _) _, ?_⟩
          rw [hR.out, all_head hp HO.out, HPR.out]
          cases runesAt s (k + (Utf8.decode s k).2) <;> rfl
        · have HPR := Lib.hid hpr; clear hpr
          go_wp2_with fail
          refine (shown_any _ _ hrl).mono ?_
          rintro e w2 ⟨rfl, rfl⟩
          rw [HPR.out]
          go_wp2_with fail
          go_roundw
          case rel =>
            refine ⟨k + (Utf8.decode s k).2, by omega, rfl, HK2, Lib.hid ?_⟩
            rw [hR.out, all_head hp HO.out, HPR.out]
            cases runesAt s (k + (Utf8.decode s k).2) <;> simp
          case measure => simp; omega
      · have hnx : ∀ ty, (Instr.next (.pointer (some ⟨w.heap.size, 0, none⟩)) true ty).run Tryd.prog (w.iter s k) = _ := fun ty => run_next_end w s k ty hp
        go_wp2_with fail
        go_ret
        refine ⟨(Below.refl _ w).alloc (Nat.le_refl _) _, ?_⟩
        rw [hR.out, runesAt_end (by omega)]; rfl
  · have HT := Lib.hid ht; clear ht
    go_wp2_with fail
    go_ret
    exact ⟨Below.refl _ _, by rw [plainB_text HT.out]; rfl⟩

/-- A text's runes, whatever they are. -/
def anyB (_ : Nat) : Bool := true
theorem anyB_text (s : ByteArray) : plainB s anyB = isText s := plainB_true
theorem yes_any' (r : Nat) (w : World) : Calls Tryd.prog 93 #[.int .i32 r] w fun e w' => w = w' ∧ e = .returned (.bool (anyB r)) := yes_any r w
set_option maxHeartbeats 1000000 in
set_option maxRecDepth 100000 in
theorem plain_yes (s : ByteArray) (w : World) (hs : s.size ≤ maxLen) :
    Calls Tryd.prog 86 #[.string s, .func (.func 93) #[] #[]] w fun e w' => Below w.heap.size w w' ∧ e = .returned (.bool (plainB s anyB)) := by
  go_enter Tryd.func86, Tryd.ntmps86
  go_wp2_with fail
  refine (check_any s _ hs).mono ?_
  rintro e w1 ⟨rfl, ⟨ht, rfl⟩ | ⟨ht, n, rfl⟩⟩
  · have hpl : plainB s anyB = ((runesAt s 0).map (·.all anyB)).getD false := by
      unfold plainB; rw [runesOf_eq]
      cases runesAt s 0 <;> rfl
    have HP := Lib.hid hpl; clear hpl
    have hok : okFrom s 0 := ht
    have HK := Lib.hid hok; clear hok
    clear ht
    unfold maxLen at hs
    go_wp2_with fail
    go_loopw [] (fun wr => ∃ k : Nat, k ≤ s.size ∧ wr = w.iter s k ∧ Hid (okFrom s k) ∧ Hid (plainB s anyB = ((runesAt s k).map (·.all anyB)).getD false)) (fun wr => s.size - wr.iterPos w.heap.size)
    case atStart => exact ⟨0, by omega, rfl, HK, HP⟩
    case round =>
      obtain ⟨k, hk, rfl, hK, hR⟩ := hrel
      by_cases hp : k < s.size
      · have hnx : ∀ ty, (Instr.next (.pointer (some ⟨w.heap.size, 0, none⟩)) true ty).run Tryd.prog (w.iter s k) = _ := fun ty => run_next_any w s k ty hp
        have hin := dec_in hp
        have hrl := decode_le s k
        obtain ⟨ho, hk2⟩ := hK.out.at_ hp
        have HO := Lib.hid ho; clear ho
        have HK2 := Lib.hid hk2; clear hk2
        cases hpr : anyB (Utf8.decode s k).1
        · have HPR := Lib.hid hpr; clear hpr
          go_wp2_with fail
          refine (yes_any' _ _).mono ?_
          rintro e w2 ⟨rfl, rfl⟩
          rw [HPR.out]
          go_wp2_with fail
          go_ret
          refine ⟨(Below.refl _ w).alloc (Nat.le_refl _) _, ?_⟩
          rw [hR.out, all_head hp HO.out, HPR.out]
          cases runesAt s (k + (Utf8.decode s k).2) <;> rfl
        · have HPR := Lib.hid hpr; clear hpr
          go_wp2_with fail
          refine (yes_any' _ _).mono ?_
          rintro e w2 ⟨rfl, rfl⟩
          rw [HPR.out]
          go_wp2_with fail
          go_roundw
          case rel =>
            refine ⟨k + (Utf8.decode s k).2, by omega, rfl, HK2, Lib.hid ?_⟩
            rw [hR.out, all_head hp HO.out, HPR.out]
            cases runesAt s (k + (Utf8.decode s k).2) <;> simp
          case measure => simp; omega
      · have hnx : ∀ ty, (Instr.next (.pointer (some ⟨w.heap.size, 0, none⟩)) true ty).run Tryd.prog (w.iter s k) = _ := fun ty => run_next_end w s k ty hp
        go_wp2_with fail
        go_ret
        refine ⟨(Below.refl _ w).alloc (Nat.le_refl _) _, ?_⟩
        rw [hR.out, runesAt_end (by omega)]; rfl
  · have HT := Lib.hid ht; clear ht
    go_wp2_with fail
    go_ret
    exact ⟨Below.refl _ _, by rw [plainB_text HT.out]; rfl⟩
end Go.Proofs.YthjaepmfkgejkaaDoor
namespace Go.Proofs.YthjaepmfkgejkaaDoor
open Go.RowKit
set_option linter.unusedVariables false

theorem ba (a b c : Bool) (h : a = true) (h' : b = true) : (a && b && c) = c := by rw [h, h']; simp

theorem author_any (s : ByteArray) (w : World) (hs : s.size ≤ maxLen) : Calls Tryd.prog 60 #[.string s] w fun e w' => Below w.heap.size w w' ∧ e = .returned (.bool (authorB s)) := by
  have hs' := hs
  unfold maxLen at hs
  by_cases h1 : 1 ≤ s.size
  · by_cases h2 : s.size ≤ 32
    · rw [show authorB s = plainB s shownB by simp [authorB, h1, h2]]
      go_enter Tryd.func60, Tryd.ntmps60
      go_wp2_with (go_at_call 86; refine (plain_shown s _ hs').mono ?_; rintro e w1 ⟨hb1, rfl⟩)
      go_ret
      exact ⟨hb1, rfl⟩
    · rw [show authorB s = false by simp [authorB, h2]]
      go_enter Tryd.func60, Tryd.ntmps60
      go_wp2_with fail
      go_ret
      exact ⟨Below.refl _ _, rfl⟩
  · rw [show authorB s = false by simp [authorB, h1]]
    go_enter Tryd.func60, Tryd.ntmps60
    go_wp2_with fail
    go_ret
    exact ⟨Below.refl _ _, rfl⟩

theorem note_any (s : ByteArray) (w : World) (hs : s.size ≤ maxLen) : Calls Tryd.prog 62 #[.string s] w fun e w' => Below w.heap.size w w' ∧ e = .returned (.bool (noteB s)) := by
  have hs' := hs
  unfold maxLen at hs
  by_cases h2 : s.size ≤ 256
  · rw [show noteB s = plainB s anyB by simp [noteB, h2, anyB_text]]
    go_enter Tryd.func62, Tryd.ntmps62
    go_wp2_with (go_at_call 86; refine (plain_yes s _ hs').mono ?_; rintro e w1 ⟨hb1, rfl⟩)
    go_ret
    exact ⟨hb1, rfl⟩
  · rw [show noteB s = false by simp [noteB, h2]]
    go_enter Tryd.func62, Tryd.ntmps62
    go_wp2_with fail
    go_ret
    exact ⟨Below.refl _ _, rfl⟩

def headB (s : ByteArray) : Bool := decide (1 ≤ s.size) && decide (s.size ≤ 32) && !(B s 0 == 46) && !(B s 0 == 45) && !decide (s = HEAD)
theorem nameB_eq (s : ByteArray) : nameB s = (headB s && (List.range s.size).all fun i => signB (B s i)) := rfl
theorem HEAD_eq (s : ByteArray) : (s.toList == [72, 69, 65, 68]) = decide (s = HEAD) := by
  rw [toList_L, Bool.eq_iff_iff]
  simp only [beq_iff_eq, decide_eq_true_eq]
  constructor
  · intro h; exact L_inj h
  · intro h; subst h; rfl

theorem all_range_stop {p : Nat → Bool} {n k : Nat} (h : k < n) (hk : p k = false) : (List.range n).all p = false := by
  rw [List.all_eq_false]
  exact ⟨k, by simpa using h, by simp [hk]⟩
theorem all_range_done {p : Nat → Bool} {n : Nat} (h : ∀ j, j < n → p j = true) : (List.range n).all p = true := by
  rw [List.all_eq_true]
  intro x hx
  exact h x (by simpa using hx)

/-- The library's variable MaxLen holds a number. -/
def Glob (w : World) : Prop := ∃ m : Int, w.cell? ⟨0, 0, none⟩ = some (.int .i64 m)
theorem Glob.keep {w w' : World} {B : Nat} (h : Glob w) (hb : Below B w w') (hB : 0 < B) : Glob w' := by
  obtain ⟨m, hm⟩ := h
  exact ⟨m, (hb.cell (p := ⟨0, 0, none⟩) hB).trans hm⟩
theorem Glob.lt {w : World} (h : Glob w) : 0 < w.heap.size := by
  obtain ⟨m, hm⟩ := h
  rcases Nat.lt_or_ge 0 w.heap.size with a | a
  · exact a
  · unfold World.cell? at hm
    rw [Array.getElem?_eq_none a] at hm
    cases hm
theorem Glob.next {w w' : World} (h : Glob w) (hb : Below w.heap.size w w') : Glob w' := h.keep hb h.lt

theorem piece_eq (p : ByteArray) : pieceB (L p) = (!p.toList.isEmpty && !(p.toList == [46]) && !(p.toList == [46, 46])) := by
  rw [toList_L, Bool.eq_iff_iff]
  simp [pieceB]

set_option maxRecDepth 100000 in
theorem path_any (s : ByteArray) (w : World) (hs : s.size ≤ maxLen) (hg : Glob w) : Calls Tryd.prog 90 #[.string s] w fun e w' => Below w.heap.size w w' ∧ e = .returned (.bool (pathB s)) := by
  have hs' := hs
  unfold maxLen at hs
  by_cases h1 : s.size < 1
  · rw [show pathB s = false by simp [pathB]; omega]
    go_enter Tryd.func90, Tryd.ntmps90
    go_wp2_with fail
    go_ret
    exact ⟨Below.refl _ _, rfl⟩
  by_cases h2 : 64 < s.size
  · rw [show pathB s = false by simp [pathB]; omega]
    go_enter Tryd.func90, Tryd.ntmps90
    go_wp2_with fail
    go_ret
    exact ⟨Below.refl _ _, rfl⟩
  cases hp : plainB s shownB
  · have HP := Lib.hid hp; clear hp
    rw [show pathB s = false by simp [pathB, HP.out]]
    go_enter Tryd.func90, Tryd.ntmps90
    go_wp2_with (go_at_call 86; refine (plain_shown s _ hs').mono ?_; rw [HP.out]; rintro e w1 ⟨hb1, rfl⟩)
    go_ret
    exact ⟨hb1, rfl⟩
  · have HP := Lib.hid hp; clear hp
    have HN : Hid (pathB s = ((Lib.splitB slashS 0 (Lib.countB s slashS) s).map L).all pieceB) := Lib.hid (by rw [splitB_pieces]; simp [pathB, HP.out]; omega)
    have hlen := Lib.splitB_all slashS (by decide) 0 (Lib.countB s slashS) s rfl
    have hle := Lib.countB_le slashS (by decide) _ s (Nat.le_refl _)
    generalize hq : Lib.splitB slashS 0 (Lib.countB s slashS) s = q at *
    have HQ := Lib.hid hq; clear hq
    have hql : q.length ≤ 65 := by omega
    have HL := Lib.hid hlen; clear hlen hle
    go_enter Tryd.func90, Tryd.ntmps90
    go_wp2_with (go_at_call 86; refine (plain_shown s _ hs').mono ?_; rw [HP.out]; rintro e w1 ⟨hb1, rfl⟩)
    obtain ⟨m, hm⟩ := hg.next hb1
    refine (Tryd.strings_Split s slashS m w1 (by omega) hm (by decide)).mono ?_
    rw [HQ.out, ← HL.out]
    rintro e w2 ⟨rfl, hw2⟩
    have hbw : Below w.heap.size w w2 := by rw [hw2]; exact hb1.alloc hb1.size _
    have hcell : ∀ j, (h : j < q.length) → w2.cell? ⟨w1.heap.size, j, none⟩ = some (.string q[j]) := by
      intro j h
      rw [hw2, World.cell?_alloc_new]
      simp [h]
    have HC := Lib.hid hcell; clear hcell hw2
    go_wp2_with fail
    go_loop [21] (fun t => ∃ k : Nat, k ≤ q.length ∧ t = .int .i64 k ∧ Hid (∀ j (h : j < q.length), j < k → pieceB (L q[j]) = true)) (fun t => q.length - (intOf t).toNat)
    case atStart => exact ⟨0, by omega, rfl, Lib.hid fun j _ hj => absurd hj (by omega)⟩
    case round =>
      obtain ⟨k, hk, rfl, hR⟩ := hrel
      by_cases hlt : k < q.length
      · have hc := HC.out k hlt
        have hpe := piece_eq q[k]
        have hstop : pieceB (L q[k]) = false → pathB s = false := by
          intro h
          rw [HN.out, List.all_eq_false]
          exact ⟨L q[k], List.mem_map_of_mem (List.getElem_mem hlt), by simp [h]⟩
        have hgo : pieceB (L q[k]) = true → ∀ j (h : j < q.length), j < k + 1 → pieceB (L q[j]) = true := by
          intro h j hj hjk
          rcases (by omega : j < k ∨ j = k) with h' | h'
          · exact hR.out j hj h'
          · subst h'; exact h
        generalize hqk : q[k] = p at *
        clear hqk
        have HPE := Lib.hid hpe; clear hpe
        have HST := Lib.hid hstop; clear hstop
        have HGO := Lib.hid hgo; clear hgo
        cases e1 : p.toList.isEmpty
        · cases e2 : (p.toList == [46])
          · cases e3 : (p.toList == [46, 46])
            · have hy : Hid (pieceB (L p) = true) := Lib.hid (by rw [HPE.out, e1, e2, e3]; rfl)
              go_wp2_with fail
              go_round
              case rel => exact ⟨k + 1, by omega, by go_num, Lib.hid (HGO.out hy.out)⟩
              case measure => simp [intOf]; omega
            · have hy : Hid (pathB s = false) := Lib.hid (HST.out (by rw [HPE.out, e1, e2, e3]; rfl))
              go_wp2_with fail
              go_ret
              exact ⟨hbw, by rw [hy.out]; rfl⟩
          · have hy : Hid (pathB s = false) := Lib.hid (HST.out (by rw [HPE.out, e1, e2]; rfl))
            go_wp2_with fail
            go_ret
            exact ⟨hbw, by rw [hy.out]; rfl⟩
        · have hy : Hid (pathB s = false) := Lib.hid (HST.out (by rw [HPE.out, e1]; rfl))
          go_wp2_with fail
          go_ret
          exact ⟨hbw, by rw [hy.out]; rfl⟩
      · go_wp2_with fail
        go_ret
        refine ⟨hbw, ?_⟩
        have : pathB s = true := by
          rw [HN.out, List.all_eq_true]
          intro x hx
          obtain ⟨y, hy, rfl⟩ := List.mem_map.1 hx
          obtain ⟨j, hj, rfl⟩ := List.getElem_of_mem hy
          exact hR.out j hj (by omega)
        rw [this]; rfl
end Go.Proofs.YthjaepmfkgejkaaDoor
namespace Go.Proofs.YthjaepmfkgejkaaDoor

def valOf (l : List UInt8) : Nat := l.foldl (fun a c => 10 * a + (c.toNat - 48)) 0
theorem valOf_snoc (l : List UInt8) (c : UInt8) : valOf (l ++ [c]) = 10 * valOf l + (c.toNat - 48) := by simp [valOf]
theorem digit_toNat {d : Nat} (h : d < 10) : (UInt8.ofNat (48 + d)).toNat = 48 + d := by
  simp; omega
theorem decDigits_step {u : Nat} (h : ¬ u < 10) : Lib.decDigits u = Lib.decDigits (u / 10) ++ [UInt8.ofNat (48 + u % 10)] := by
  rw [Lib.decDigits, dif_neg h]
theorem valOf_digits : ∀ (n u : Nat), u ≤ n → valOf (Lib.decDigits u) = u := by
  intro n
  induction n with
  | zero => intro u hu; rw [show u = 0 by omega, Lib.decDigits_one (by omega)]; decide
  | succ n ih =>
    intro u hu
    by_cases h : u < 10
    · rw [Lib.decDigits_one h]
      have := valOf_snoc [] (UInt8.ofNat (48 + u))
      rw [List.nil_append] at this
      rw [this, digit_toNat h]
      simp [valOf]
    · rw [decDigits_step h, valOf_snoc, ih (u / 10) (by omega), digit_toNat (by omega)]
      omega
theorem decDigits_inj {a b : Nat} (h : Lib.decDigits a = Lib.decDigits b) : a = b := by
  have h1 := valOf_digits a a (Nat.le_refl _)
  have h2 := valOf_digits b b (Nat.le_refl _)
  rw [h] at h1; omega
theorem decDigits_mem : ∀ (n u : Nat), u ≤ n → ∀ c ∈ Lib.decDigits u, 48 ≤ c.toNat ∧ c.toNat ≤ 57 := by
  intro n
  induction n with
  | zero => intro u hu; rw [show u = 0 by omega, Lib.decDigits_one (by omega)]; decide
  | succ n ih =>
    intro u hu c hc
    by_cases h : u < 10
    · rw [Lib.decDigits_one h] at hc
      simp only [List.mem_singleton] at hc
      subst hc
      rw [digit_toNat h]; omega
    · rw [decDigits_step h] at hc
      rcases List.mem_append.1 hc with hc | hc
      · exact ih (u / 10) (by omega) c hc
      · simp only [List.mem_singleton] at hc
        subst hc
        rw [digit_toNat (by omega)]; omega

/-- What stands ahead of the first slash. -/
def firstc (l : List UInt8) : List UInt8 := l.takeWhile (· != 47)
def restc (l : List UInt8) : List UInt8 := l.dropWhile (· != 47)
theorem first_rest (l : List UInt8) : firstc l ++ restc l = l := List.takeWhile_append_dropWhile
theorem firstc_no (l : List UInt8) : (47 : UInt8) ∉ firstc l := by
  induction l with
  | nil => simp [firstc]
  | cons c l ih =>
    unfold firstc at ih ⊢
    rw [List.takeWhile_cons]
    split
    · rename_i hc
      simp only [List.mem_cons, not_or]
      exact ⟨fun e => by rw [← e] at hc; simp at hc, ih⟩
    · simp
theorem firstc_app {a : List UInt8} (ha : (47 : UInt8) ∉ a) (b : List UInt8) : firstc (a ++ 47 :: b) = a := by
  unfold firstc
  rw [List.takeWhile_append_of_pos]
  · simp
  · intro x hx
    simp only [bne_iff_ne]
    intro e; exact ha (e ▸ hx)
theorem firstc_lone {a : List UInt8} (ha : (47 : UInt8) ∉ a) : firstc a = a := by
  have := List.takeWhile_append_of_pos (p := (· != (47 : UInt8))) (l₁ := a) (l₂ := []) (by
    intro x hx
    simp only [bne_iff_ne]
    intro e; exact ha (e ▸ hx))
  simpa [firstc] using this
theorem restc_form (l : List UInt8) : restc l = [] ∨ ∃ b, restc l = 47 :: b := by
  rcases slash_cases l with h | ⟨a, b, rfl, ha⟩
  · left
    have := first_rest l
    rw [firstc_lone h] at this
    have := congrArg List.length this
    simp at this
    exact this
  · right
    have := first_rest (a ++ 47 :: b)
    rw [firstc_app ha] at this
    exact ⟨b, List.append_cancel_left this⟩

theorem under_first {a b : List UInt8} (h : underB a b = true) : firstc a = firstc b := by
  unfold underB at h
  rw [List.isPrefixOf_iff_prefix] at h
  obtain ⟨t, rfl⟩ := h
  rw [List.append_assoc]
  rcases slash_cases a with ha | ⟨x, y, rfl, hx⟩
  · rw [firstc_lone ha]; exact (firstc_app ha _).symm
  · rw [firstc_app hx, List.append_assoc]; exact (firstc_app hx _).symm
theorem clash_first {a b : List UInt8} (h : clashB a b = true) : firstc a = firstc b := by
  unfold clashB at h
  simp only [Bool.or_eq_true, decide_eq_true_eq] at h
  rcases h with (h | h) | h
  · rw [h]
  · exact under_first h
  · exact (under_first h).symm

/-- The candidate of a number. -/
def candS (l : List UInt8) (n : Nat) : List UInt8 := firstc l ++ [126] ++ Lib.decDigits n ++ restc l
theorem cand_first (l : List UInt8) (n : Nat) : firstc (candS l n) = firstc l ++ [126] ++ Lib.decDigits n := by
  have hno : (47 : UInt8) ∉ firstc l ++ [126] ++ Lib.decDigits n := by
    intro h
    rcases List.mem_append.1 h with h | h
    · rcases List.mem_append.1 h with h | h
      · exact firstc_no l h
      · simp at h
    · have := decDigits_mem n n (Nat.le_refl _) _ h
      simp at this
  unfold candS
  rcases restc_form l with h | ⟨b, h⟩
  · rw [h, List.append_nil, firstc_lone hno]
  · rw [h, firstc_app hno]
theorem cand_inj {l : List UInt8} {a b : Nat} (h : firstc (candS l a) = firstc (candS l b)) : a = b := by
  rw [cand_first, cand_first] at h
  exact decDigits_inj (List.append_cancel_left h)

def clashesB (t : List UInt8) (taken : List (List UInt8)) : Bool := taken.any (clashB t)

theorem pigeon {α : Type} [DecidableEq α] (f : Nat → α) (hf : ∀ a b, f a = f b → a = b) : ∀ (T : List α) (J : List Nat), J.Nodup → (∀ j ∈ J, f j ∈ T) → J.length ≤ T.length := by
  intro T
  induction T with
  | nil =>
    intro J _ h
    cases J with
    | nil => simp
    | cons j J => exact absurd (h j (by simp)) (by simp)
  | cons t T ih =>
    intro J hJ h
    by_cases he : ∃ j ∈ J, f j = t
    · obtain ⟨j0, hj0, hf0⟩ := he
      have h1 := ih (J.erase j0) (hJ.erase j0) (by
        intro j hj
        have hm := (List.Nodup.mem_erase_iff hJ).1 hj
        rcases List.mem_cons.1 (h j hm.2) with e | e
        · exact absurd (hf _ _ (e.trans hf0.symm)) hm.1
        · exact e)
      rw [List.length_erase_of_mem hj0] at h1
      simp only [List.length_cons]; omega
    · have h1 := ih J hJ (by
        intro j hj
        rcases List.mem_cons.1 (h j hj) with e | e
        · exact absurd ⟨j, hj, e⟩ he
        · exact e)
      simp only [List.length_cons]; omega

/-- Candidates that clash are no more than the taken ones. -/
theorem cand_few {l : List UInt8} {taken : List (List UInt8)} {m : Nat} (h : ∀ j, 1 ≤ j → j ≤ m → clashesB (candS l j) taken = true) : m ≤ taken.length := by
  have := pigeon (fun j => firstc (candS l (j + 1))) (fun a b e => by have := cand_inj e; omega) (taken.map firstc) (List.range m) List.nodup_range (by
    intro j hj
    have hj' : j < m := by simpa using hj
    have hc := h (j + 1) (by omega) (by omega)
    unfold clashesB at hc
    rw [List.any_eq_true] at hc
    obtain ⟨o, ho, hco⟩ := hc
    rw [show firstc (candS l (j + 1)) = firstc o from clash_first hco]
    exact List.mem_map_of_mem ho)
  simpa using this

/-- Tries on, at number n. -/
def freshGo (l : List UInt8) (taken : List (List UInt8)) : Nat → Nat → List UInt8 → List UInt8
  | 0, _, t => t
  | f + 1, n, t => if clashesB t taken then freshGo l taken f (n + 1) (candS l n) else t
/-- A path that clashes with none. -/
def freshS (l : List UInt8) (taken : List (List UInt8)) : List UInt8 := freshGo l taken (taken.length + 2) 1 l

theorem freshGo_clear {l : List UInt8} {taken : List (List UInt8)} : ∀ (f n : Nat), n + f = taken.length + 3 → 2 ≤ n → (∀ j, 1 ≤ j → j + 1 < n → clashesB (candS l j) taken = true) →
    clashesB (freshGo l taken f n (candS l (n - 1))) taken = false := by
  intro f
  induction f with
  | zero =>
    intro n hn h2 hc
    cases hcl : clashesB (candS l (n - 1)) taken
    · simpa [freshGo] using hcl
    · have := cand_few (l := l) (taken := taken) (m := n - 1) (by
        intro j h1 hj
        rcases (by omega : j + 1 < n ∨ j = n - 1) with a | a
        · exact hc j h1 a
        · rw [a]; exact hcl)
      omega
  | succ f ih =>
    intro n hn h2 hc
    unfold freshGo
    split
    · rename_i hcl
      have := ih (n + 1) (by omega) (by omega) (by
        intro j h1 hj
        rcases (by omega : j + 1 < n ∨ j = n - 1) with a | a
        · exact hc j h1 a
        · rw [a]; exact hcl)
      rwa [Nat.add_sub_cancel] at this
    · rename_i hcl
      simpa using hcl
/-- What is fresh clashes with none. -/
theorem fresh_clear (l : List UInt8) (taken : List (List UInt8)) : clashesB (freshS l taken) taken = false := by
  unfold freshS
  rw [freshGo]
  split
  · have := freshGo_clear (l := l) (taken := taken) (taken.length + 1) 2 (by omega) (by omega) (by intro j h1 h2; omega)
    simpa using this
  · rename_i h
    simpa using h
end Go.Proofs.YthjaepmfkgejkaaDoor
