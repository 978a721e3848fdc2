/-
  What every card's proof of this seat shares: the world's shape gives the library's variable MaxLen a number. No conditions.
  A slice of texts, a slice of files that came in: its cells as a list of paths and bytes, each within the form's reach. No conditions.
  Lists of data as a slice's cells, each element some cells wide; such a slice read from what came in. Over any program; conditions as each says.
  Worlds that only drew and grew. No conditions; no program.
  Words for memory, second part: append beside an iterator over a string. No conditions; no program.
  Where an appended row lies: where it lay, or in a new block. Over any program; conditions as each says.
  A map that the call made, as a plain function from keys to values: looked up, stored into. Over any program; conditions as each says.
  Worlds alike but for some blocks. Over any program; conditions as each says.
  Objects as they lie in memory: an operation's cells, an object's; '==' on refs and operations. Conditions: the values are well formed, as each says.
  What the program's leb gives: numbers, texts and ids written behind nothing, and read from a place that there is. Conditions: as each says.
  What leb.Put and leb.PutText give behind nothing. Conditions: a number below 2^63; a text of at most 2^40 bytes.
  Steps of a region that draws its order, taken by hand: a call, a new variable, a look into a map, an append of a slice, a store into one cell. Over any program; conditions as each says.
  A region that draws its order and ends in operations that write: a condition on the worlds that has to hold only behind the first n operations; an operation for which all others wait (be it by others) yields its value in every such world, or an operation that looks at no world: either may be taken first. Over any program; conditions as each says.
  Structs put together from parts of several cells; a slice of one such element. Over any program; conditions as each says.
  A slice of one element of one cell, built at a step taken by hand. Over any program; conditions as it says.
  The writer's memory: bytes put one behind the other. Conditions: as each says.
  What the writer's number and text write. Conditions: a number below 2^63; a text of at most 2^40 bytes.
  What the program's order gives of ids: Compare, IsSet, place, Find. Conditions: ids of 32 bytes; as each says.
  What IsSet, place and Find give. Conditions: ids of 32 bytes; lists of at most 2^40 ids.
  What place and Find give. Conditions: ids of 32 bytes; lists of at most 2^40 ids.
  What the writer's ids writes. Conditions: ids of 32 bytes; few.
  What object.ids gives. Conditions: ids of 32 bytes; at most 2^40 ids.
  A region that draws its order: ahead operations that only read, but for calls that stay in a class of worlds; behind them a row of operations, each waiting for the one ahead of it. One walk in the text's order serves every order. Over any program; conditions as each says.
  A slice of a slice as one step of a walk, its value named. Over any program; conditions as each says.
  A region that draws its order, in the worlds that only drew and grew. Conditions: as the law says.
  What the checker's small functions give: foreign, doc, elements. Conditions: ids of 32 bytes; lists of at most 2^40.
  What the writer's ref writes. Conditions: ids of 32 bytes; few; the ref is of a change hung on.
  Where a walk stands: at an operation of a kind. Each law gives back its goal; taken 'with_reducible' it serves as a test ahead of a law that is dear where it does not fit. Over any program.
  Stores into a part of a block, the block named by its cells; a new variable's block; results that lie in blocks. Over any program; conditions as each says.
-/
import Derived.Test.YthjaepmfkgejkaaDoorCards
import Derived.Test.YthjaepmfkgejkaaDoorTie
import Derived.WalkKit
import Derived.ProofKit
import Derived.OpenShut
import Derived.ShutString
import Derived.SliceStrings
import Derived.Carry
import Derived.Deep.DeepHandedRow
import Derived.Lay
import Derived.MakeChecks
import Derived.Shelf.Vars
import Derived.SevenTiedAt
import Derived.Test.YthjaepmfkgejkaaDoorMerged1
import Derived.Deep.SlicePairs
import Derived.Sort.Grow
import Derived.Deep.Draws
import Derived.Below
import Derived.Lib.OthersKept
import Derived.BigFrame
import Derived.Maps.Own
import Derived.Maps.OwnOps
import Derived.Maps.OwnSet
import Derived.Maps.Views
import Derived.Test.YthjaepmfkgejkaaDoorProg
import Derived.Test.YthjaepmfkgejkaaDoorLebSpec
import Derived.Laws.OwnMore
import Derived.Deep.AppendSrc
import Derived.Laws.Bits64b
import Derived.Lib.SlBytesRow
import Derived.Deep.LoopGhost
import Derived.WalkMore
import Derived.Handy
import Derived.PlainAid
import Derived.Laws.AppendOwnNone
import Derived.Lib.AppendStr
import Derived.Deep.MidRow
import Derived.Deep.RegionHeld
import Derived.OrdersHeld
import Derived.Laws.AppendOwn
import Derived.StillTail
import Derived.Maps.RangeWalk
import Derived.Great.FillDense
import Derived.Laws.Tables
import Derived.Lib.BytesEntry
import Derived.Lib.Hide
import Derived.Deep.QuietTactic
import Derived.BigQuiet
import Derived.StillTailTactics
import Derived.Deep.CutRange
import Derived.Laws.Slices
namespace Go.Proofs.YthjaepmfkgejkaaDoor
open Go.RowKit

theorem own : ownKnob Tryd.prog.godebug = none := by kernel_rfl
theorem laidOut : laidOutB Tryd.prog = true := by kernel_rfl
theorem glob0 {W : World} (h : W.ShapedOpen Tryd.prog) : ∃ m : Int, W.cell? ⟨0, 0, none⟩ = some (.int .i64 m) :=
  cell_of_shapedOpen_int (zero := #[.int .i64 0]) (t := 3) h (of_decide_eq_true (by kernel_rfl)) (by kernel_rfl) rfl (by kernel_rfl) (by kernel_rfl) Tryd.underlying3

/-- A witness at a world of one's own. -/
theorem witness_laid {H : Type} {enc : TypeId × Value → H} {C : Checked} {os : Os} {f : FuncId} {fn : Func} {s : OpenSpec} {conds : List PathCond} {apart : Bool} {laid : List (String × DataW Unit)} (w0 : World) (args : Array Value) (hos : w0.os = os)
    (hsh : (w0.forCall (fun _ _ => 0) ⟨#[], args, []⟩).Shaped C.prog)
    (hok : Input.okWideB C.prog (w0.forCall (fun _ _ => 0) ⟨#[], args, []⟩) f ⟨#[], args, []⟩ = true)
    (hrow : s.preRow enc C.prog fn conds apart laid (w0.forCall (fun _ _ => 0) ⟨#[], args, []⟩).memory args) :
    ∃ (w : World) (tape : Tape) (i : Input), w.os = os ∧ (w.forCall tape i).Shaped C.prog ∧ i.vars = [] ∧ Input.okWide C.prog (w.forCall tape i) .any w.heap.size f i ∧
      s.preRow enc C.prog fn conds apart laid (w.forCall tape i).memory i.args ∧ ({} : Assume).holds C.prog (lone (Frame.enter C.prog f i.args .normal) [] (w.forCall tape i)) :=
  ⟨w0, fun _ _ => 0, ⟨#[], args, []⟩, hos, hsh, (Input.okWide_of_okWideB (base := 0) hok).1, (Input.okWide_of_okWideB hok).2, hrow, by
    simp only [Assume.holds]
    exact ⟨by simp, by simp, fun _ => Modest.zero, by simp, by simp⟩⟩
end Go.Proofs.YthjaepmfkgejkaaDoor
namespace Go.Proofs.YthjaepmfkgejkaaDoor
open Go.ChangeShapes Go.WideShapes Go.ChangeAt Go.RowKit
set_option linter.unusedVariables false

theorem addr_add (b off k : Nat) : (⟨b, off, none⟩ : Addr).add k = ⟨b, off + k, none⟩ := by unfold Addr.add; split <;> simp_all

end Go.Proofs.YthjaepmfkgejkaaDoor
namespace Go.Proofs.YthjaepmfkgejkaaDoor
open Go.RowKit Go.ChangeShapes Go.WideShapes Go.ChangeAt
set_option linter.unusedVariables false

section
variable {α : Type} {enc : α → List Value} {sz : Nat}
def rowsV (enc : α → List Value) (l : List α) : List Value := l.flatMap enc
theorem rowsV_length : ∀ {l : List α}, (∀ x ∈ l, (enc x).length = sz) → (rowsV enc l).length = l.length * sz
  | [], _ => by simp [rowsV]
  | a :: l, h => by
    have h1 := h a (by simp)
    have h2 := rowsV_length (l := l) fun x hx => h x (by simp [hx])
    simp only [rowsV, List.flatMap_cons, List.length_append, List.length_cons] at h2 ⊢
    rw [h1, h2, Nat.add_mul]; omega
theorem rowsV_app (a b : List α) : rowsV enc (a ++ b) = rowsV enc a ++ rowsV enc b := by simp [rowsV]
theorem rowsV_get : ∀ {l : List α}, (∀ x ∈ l, (enc x).length = sz) → ∀ (i : Nat) (h : i < l.length) (j : Nat) (u : Value), (enc l[i])[j]? = some u → (rowsV enc l)[i * sz + j]? = some u
  | [], _, _, h, _, _, _ => by cases h
  | a :: l, ho, 0, _, j, u, hj => by
    have h1 : (enc a).length = sz := ho a (by simp)
    have hlt := (List.getElem?_eq_some_iff.1 hj).1
    simp only [rowsV, List.flatMap_cons, Nat.zero_mul, Nat.zero_add]
    rw [List.getElem?_append_left (by simpa using hlt)]
    exact hj
  | a :: l, ho, i + 1, h, j, u, hj => by
    have h1 : (enc a).length = sz := ho a (by simp)
    have := rowsV_get (l := l) (fun x hx => ho x (by simp [hx])) i (by simpa using h) j u (by simpa using hj)
    simp only [rowsV, List.flatMap_cons] at this ⊢
    rw [List.getElem?_append_right (by rw [h1, Nat.add_mul]; omega), h1, show (i + 1) * sz + j - sz = i * sz + j by rw [Nat.add_mul]; omega]
    exact this
theorem Sl.row {w : World} {b off : Nat} {l : List α} (ho : ∀ x ∈ l, (enc x).length = sz) (h : ∀ j u, (rowsV enc l)[j]? = some u → w.cell? ⟨b, off + j, none⟩ = some u) {i : Nat} (hi : i < l.length) : ∀ j u, (enc l[i])[j]? = some u → w.cell? ⟨b, off + i * sz + j, none⟩ = some u := by
  intro j u hj
  rw [Nat.add_assoc]
  exact h _ _ (rowsV_get ho i hi j u hj)
end

/-- Cells read together stand one by one. -/
theorem open_rows {H : Type} {encH : TypeId × Value → H} {P : Program} {W : World} {t e : TypeId} {α : Type} [Inhabited α] {enc : α → List Value} {ok : α → Prop} {sz : Nat} (ht : P.underlying t = some (.slice e)) (hce : P.cellsOf e = sz) (hsz : 0 < sz) (hlen : ∀ x, ok x → (enc x).length = sz)
    (dec : ∀ n cs x, DataW.trod encH P W 0 (fun _ => true) true n e cs = some x → ∃ c : α, ok c ∧ cs = enc c)
    {a : Option Addr} {len cap : Nat} {d : DataW H} {ps : List MemPlace} (h : DataW.Trod encH P W 0 (fun _ => true) true t (.slice a len cap) d ps) :
    ∃ l : List α, l.length = len ∧ len ≤ maxLen ∧ len ≤ cap ∧ (∀ c ∈ l, ok c) ∧ Sl W W.heap.size a l.length sz (rowsV enc l) := by
  obtain ⟨fuel, hf⟩ := h
  rcases Go.Deep.open_slice ht hf with ⟨hcs, _⟩ | ⟨x, ln, c, m, n, D, Pl, hcs, _, hl, hm, hmm, hdx, hx⟩
  · simp [Value.cells] at hcs
    obtain ⟨rfl, rfl, rfl⟩ := hcs
    exact ⟨[], rfl, by unfold maxLen; omega, by omega, fun t ht => absurd ht (by simp), Sl.nil⟩
  · simp [Value.cells] at hcs
    obtain ⟨rfl, rfl, rfl⟩ := hcs
    have hmc : m = cap := by simpa using hmm
    subst hmc
    have each : ∀ i, i < len → ∃ q : α, ok q ∧ W.cells? 0 (x.add (i * sz)) sz = some (enc q) := by
      intro i hi
      obtain ⟨cs', h1, h2⟩ := hx i (by omega)
      obtain ⟨q, hq, rfl⟩ := dec _ _ _ h2
      rw [hce] at h1
      exact ⟨q, hq, h1⟩
    obtain ⟨F, hF⟩ := Go.Deep.choose_lt each
    have hok : ∀ c ∈ (List.range len).map F, ok c := by
      intro c hc
      obtain ⟨i, hi, rfl⟩ := List.mem_map.1 hc
      exact (hF i (by simpa using hi)).1
    have hlens : ∀ c ∈ (List.range len).map F, (enc c).length = sz := fun c hc => hlen c (hok c hc)
    refine ⟨(List.range len).map F, by simp, by omega, hl, hok, rowsV_length hlens, fun h0 => ?_⟩
    have hln : ((List.range len).map F).length = len := by simp
    rw [hln] at h0
    obtain ⟨b, off, spot⟩ := x
    have hcell : ∀ i, i < len → ∀ k, k < sz → W.cell? ((⟨b, off, spot⟩ : Addr).add (i * sz + k)) = (enc (F i))[k]? := by
      intro i hi k hk
      obtain ⟨_, hlen', hc⟩ := World.cells?_some (hF i hi).2
      have := hc k hk
      rw [Go.Deep.add_add] at this
      exact this
    have hc0 := hcell 0 h0 0 hsz
    have hv0 : ∃ v, (enc (F 0))[0]? = some v := ⟨_, List.getElem?_eq_getElem (by rw [hlen _ (hF 0 h0).1]; exact hsz)⟩
    obtain ⟨v0, hv0⟩ := hv0
    rw [hv0] at hc0
    obtain rfl : spot = none := by simpa [Addr.add] using World.cell?_spot hc0
    have hblk : b < W.heap.size := by
      have hc1 : W.cell? ⟨b, off, none⟩ = some v0 := by simpa [Addr.add] using hc0
      rcases Nat.lt_or_ge b W.heap.size with q | q
      · exact q
      · unfold World.cell? at hc1
        rw [Array.getElem?_eq_none q] at hc1
        cases hc1
    refine ⟨b, off, rfl, hblk, fun j u hu => ?_⟩
    have hj := (List.getElem?_eq_some_iff.1 hu).1
    rw [rowsV_length hlens, hln] at hj
    have hi : j / sz < len := (Nat.div_lt_iff_lt_mul hsz).2 hj
    have hk : j % sz < sz := Nat.mod_lt _ hsz
    have hjs : j / sz * sz + j % sz = j := by rw [Nat.mul_comm]; exact Nat.div_add_mod j sz
    have hc := hcell (j / sz) hi (j % sz) hk
    rw [hjs, addr_add] at hc
    obtain ⟨v, hv⟩ : ∃ v, (enc (F (j / sz)))[j % sz]? = some v := ⟨_, List.getElem?_eq_getElem (by rw [hlen _ (hF _ hi).1]; exact hk)⟩
    have hg := rowsV_get hlens (j / sz) (by rw [hln]; exact hi) (j % sz) v (by simpa using hv)
    rw [hjs, hu] at hg
    rw [hc, hv, Option.some.inj hg]
end Go.Proofs.YthjaepmfkgejkaaDoor
namespace Go.Proofs.YthjaepmfkgejkaaDoor
open Go.RowKit Go.Sort
set_option linter.unusedVariables false

/-- The world has drawn, and new blocks lie behind; nothing else. -/
def Gr (w w' : World) : Prop := ∃ q os, w' = grow (w.drewN q) os
theorem Gr.refl (w : World) : Gr w w := ⟨0, #[], by rw [grow_empty]; rfl⟩
theorem Gr.trans {a b c : World} (h : Gr a b) (k : Gr b c) : Gr a c := by
  obtain ⟨q, os, rfl⟩ := h
  obtain ⟨q', os', rfl⟩ := k
  refine ⟨q + q', os ++ os', ?_⟩
  rw [show (grow (a.drewN q) os).drewN q' = grow ((a.drewN q).drewN q') os from rfl, grow_grow, World.drewN_drewN]
theorem Gr.alloc {a b : World} (h : Gr a b) (o : Obj) : Gr a (b.alloc o) := h.trans ⟨0, #[o], by rw [alloc_eq_grow]; rfl⟩
theorem Gr.drewN {a b : World} (h : Gr a b) (q : Nat) : Gr a (b.drewN q) := h.trans ⟨q, #[], by rw [grow_empty]⟩
theorem Gr.drew {a b : World} (h : Gr a b) : Gr a b.drew := h.drewN 1
theorem Gr.below {a b : World} (h : Gr a b) : Below a.heap.size a b := by
  obtain ⟨q, os, rfl⟩ := h
  refine ⟨rfl, rfl, rfl, by simp [grow, World.drewN], fun k hk => ?_⟩
  show (a.heap ++ os)[k]? = _
  rw [Array.getElem?_append_left hk]
end Go.Proofs.YthjaepmfkgejkaaDoor
namespace Go.Proofs.YthjaepmfkgejkaaDoor
open Go.RowKit
set_option linter.unusedVariables false

theorem own_iter_ne {w : World} {base : Nat} {e : TypeId} {sz : Nat} {v : Value} {n : Nat} {xs : List Value} (h : w.ownsRow base e sz v n xs) {k : Nat} {s : ByteArray} {p : Nat} (hk : w.heap[k]? = some (.stringIter s p)) : v.ownBlock ≠ some k := by
  intro hv
  rcases h.2 with ⟨hn, _⟩ | ⟨g, cap, cur, hvv, _, hg, _⟩
  · rw [hn] at hv; simp [Value.ownBlock] at hv
  · rw [hvv] at hv
    have : g = k := by simpa [Value.ownBlock] using hv
    subst this
    rw [hg] at hk; cases hk
theorem own_iterAt {w : World} {base : Nat} {e : TypeId} {sz : Nat} {v : Value} {n : Nat} {xs : List Value} (h : w.ownsRow base e sz v n xs) {k : Nat} {s : ByteArray} {p : Nat} (hk : w.heap[k]? = some (.stringIter s p)) (p' : Nat) : (w.iterAt k s p').ownsRow base e sz v n xs := by
  have hne := own_iter_ne h hk
  refine h.kept (row := some k) ⟨rfl, rfl, rfl, by rw [Lib.iterAt_size]; exact Nat.le_refl _, fun j hj hjk => Lib.iterAt_other w k j s p' (fun e => hjk (by rw [e]))⟩ (.inr hne)
end Go.Proofs.YthjaepmfkgejkaaDoor
namespace Go.Proofs.YthjaepmfkgejkaaDoor
open Go.RowKit
set_option linter.unusedVariables false

/-- The row lies where it lay, or in a block from z on. -/
def Where (z : Nat) (v v' : Value) : Prop := v'.ownBlock = v.ownBlock ∨ ∃ g, v'.ownBlock = some g ∧ z ≤ g
section
variable {P : Program} {w w' : World}
theorem run_append_where (base : Nat) (t ty e : TypeId) (i : TypeInfo) (z : Value) (size bytes : Nat) (ht : P.underlying t = some (.slice e)) (hi : P.info? e = some i) (hz : i.zero = some z)
    (hsize : i.size = size) (hby : i.bytes = bytes) (hzs : z.cells.size = size) (hsz : 0 < size)
    (v : Value) (n : Nat) (xs : List Value) (hown : w.ownsRow base e size v n xs)
    (a : Addr) (m c : Nat) (news : List Value) (hl : news.length = m * size) (hnews : ∀ j u, news[j]? = some u → w.cell? (a.add j) = some u) (h1 : ∀ u ∈ news, u.oneCell' = true)
    (h63 : n + m ≤ maxLen) (hbytes : (n + m) * bytes ≤ 140737488355328) {v' : Value} (hr : (Builtin.append_ #[t, t] ty #[v, .slice (some a) m c]).run P w = .ok v' w') : Where w.heap.size v v' := by
  subst hsize
  subst hby
  have hsmall : n + m ≤ 9223372036854775807 := by simp only [maxLen] at h63; omega
  rcases hown.2 with ⟨rfl, rfl⟩ | ⟨g, cap, cur, rfl, hbg, hg, hnc, hcm, hcs, htake⟩
  · by_cases hm : m = 0
    · subst hm
      have hn : news = [] := List.eq_nil_of_length_eq_zero (by simpa using hl)
      subst hn
      have h2 : (Builtin.append_ #[t, t] ty #[.slice none 0 0, .slice (some a) 0 c]).run P w = .ok (.slice none 0 0) w := by
        simp [Builtin.append_, run_underlying ht, sizeOf, typeInfo, hi, Builtin.lenOf, Builtin.firstCells, loadCells, loadCellsFrom]
      rw [h2] at hr
      injection hr with hr _
      rw [← hr]
      exact .inl rfl
    · have h2 := run_append_nil (P := P) w t ty e i z ht hi hz a m c news hl hnews (by omega) (by omega) (by have hb := hbytes; simp only [Nat.zero_add] at hb; omega)
      rw [h2] at hr
      injection hr with hr _
      rw [← hr]
      exact .inr ⟨_, rfl, Nat.le_refl _⟩
  · by_cases hroom : n + m ≤ cap
    · have hfit : n * i.size + news.length ≤ cur.size := by rw [hl, hcs, ← Nat.add_mul]; exact Nat.mul_le_mul_right _ hroom
      have h2 := run_append_room (P := P) w t ty e i ht hi g n cap cur hg a m c news hl hnews h1 hroom hfit
      rw [h2] at hr
      injection hr with hr _
      rw [← hr]
      exact .inl rfl
    · have holds : ∀ j u, xs[j]? = some u → w.cell? ((⟨g, 0, none⟩ : Addr).add j) = some u := hown.cells (g := g) rfl
      have h2 := run_append_grow (P := P) w t ty e i z ht hi hz ⟨g, 0, none⟩ n cap xs hown.1 holds a m c news hl hnews (by omega) (by omega) (growslice_fits (by omega) hbytes)
      rw [h2] at hr
      injection hr with hr _
      rw [← hr]
      exact .inr ⟨_, rfl, Nat.le_refl _⟩
end
end Go.Proofs.YthjaepmfkgejkaaDoor
namespace Go.Proofs.YthjaepmfkgejkaaDoor
open Go.RowKit Go.Maps
set_option linter.unusedVariables false

/-- Keys of a plain type, as a map's keys. -/
structure KeyEnc (P : Program) (K : TypeId) {κ : Type} (ok : κ → Prop) (val : κ → Value) (kl : κ → Lit) : Prop where
  keyed : Keyed P K
  of : ∀ k, ok k → keyOf P K (val k) = some (kl k)
  inj : ∀ a b, val a = val b → a = b

def Rv (v : Value) : Option (DataW Value × List MemPlace) := some (.held v, [])

/-- A map, and all its keys are such as are meant. -/
def MapK {κ : Type} (ok : κ → Prop) (kl : κ → Lit) (D : DataW Value) : Prop := IsMap D ∧ ∀ l, has D l = true → ∃ k, ok k ∧ l = kl k
/-- Block b is a map of at most n entries that holds just what m says. -/
def MapV (w : World) (P : Program) (K : TypeId) {κ : Type} (ok : κ → Prop) (kl : κ → Lit) (b n : Nat) (m : κ → Option Value) : Prop :=
  ∃ D : DataW Value, w.ownsMap P K Rv b n D ∧ MapK ok kl D ∧ (∀ k, ok k → has D (kl k) = (m k).isSome) ∧ ∀ k v, ok k → m k = some v → ∀ z, D.atKey (kl k) z = .held v

section
variable {P : Program} {K : TypeId} {κ : Type} {ok : κ → Prop} {val : κ → Value} {kl : κ → Lit} {w : World} {b n : Nat} {m : κ → Option Value}

theorem KeyEnc.klInj (E : KeyEnc P K ok val kl) {x y : κ} (hx : ok x) (hy : ok y) (h : kl x = kl y) : x = y :=
  E.inj _ _ (E.keyed.inj (E.of x hx) (by rw [h]; exact E.of y hy))

theorem MapV.made (w : World) (P : Program) (K : TypeId) (ok : κ → Prop) (kl : κ → Lit) : MapV (w.alloc (.map #[] 0)) P K ok kl w.heap.size 0 (fun _ => none) :=
  ⟨.map [], World.ownsMap_made w P K Rv, ⟨isMap_empty, fun l h => by cases h⟩, fun _ _ => rfl, fun _ _ _ h => by cases h⟩
theorem MapV.lt (h : MapV w P K ok kl b n m) : b < w.heap.size := by
  obtain ⟨D, h1, _⟩ := h
  exact h1.lt
theorem MapV.below {w' : World} (h : MapV w P K ok kl b n m) (hb : Below w.heap.size w w') : MapV w' P K ok kl b n m := by
  have hlt := h.lt
  obtain ⟨D, h1, h2⟩ := h
  obtain ⟨es, clock, hbk, F, hs, hD⟩ := h1
  exact ⟨D, ⟨es, clock, (hb.block b hlt).trans hbk, F, hs, hD⟩, h2⟩
theorem MapV.kept {w' : World} {row : Option Nat} (h : MapV w P K ok kl b n m) (hg : w.grownBy w' row) (hne : some b ≠ row) : MapV w' P K ok kl b n m := by
  obtain ⟨D, h1, h2⟩ := h
  exact ⟨D, h1.kept hg hne, h2⟩
theorem MapV.alloc (h : MapV w P K ok kl b n m) (o : Obj) : MapV (w.alloc o) P K ok kl b n m := by
  obtain ⟨D, h1, h2⟩ := h
  exact ⟨D, h1.alloc o, h2⟩
theorem MapV.drew (h : MapV w P K ok kl b n m) : MapV w.drew P K ok kl b n m := by
  obtain ⟨D, h1, h2⟩ := h
  exact ⟨D, h1.drew, h2⟩

theorem put_view {D : DataW Value} (E : KeyEnc P K ok val kl) (hm0 : MapK ok kl D) (h1 : ∀ k, ok k → has D (kl k) = (m k).isSome) (h2 : ∀ k v, ok k → m k = some v → ∀ z, D.atKey (kl k) z = .held v) [DecidableEq κ] {k0 : κ} (hk : ok k0) (v0 : Value) :
    MapK ok kl (D.put (kl k0) (.held v0)) ∧ (∀ k, ok k → has (D.put (kl k0) (.held v0)) (kl k) = (if k = k0 then some v0 else m k).isSome) ∧ ∀ k v, ok k → (if k = k0 then some v0 else m k) = some v → ∀ z, (D.put (kl k0) (.held v0)).atKey (kl k) z = .held v := by
  have hlit := E.keyed.key (E.of k0 hk)
  have hm := hm0.1
  refine ⟨⟨hm.put _ _, fun l hl => ?_⟩, fun k ho => ?_, fun k v ho h z => ?_⟩
  · by_cases e : l = kl k0
    · exact ⟨k0, hk, e⟩
    · rw [has_put_other e] at hl
      exact hm0.2 l hl
  · by_cases e : k = k0
    · subst e
      rw [if_pos rfl, has_put_same hm hlit]; rfl
    · rw [if_neg e, has_put_other (fun he => e (E.klInj ho hk he)), h1 k ho]
  · by_cases e : k = k0
    · subst e
      rw [if_pos rfl] at h
      cases h
      exact atKey_put_same hm hlit _ _
    · rw [if_neg e] at h
      rw [atKey_put_other (fun he => e (E.klInj ho hk he))]
      exact h2 k v ho h z

/-- 'm[k]'. -/
theorem wp_mapGet1 {ops : Array Oper} {rest : List Oper} {o : Oper} {a : Act} {Q : Exit → Act → World → Prop} (hg : o.guard = none) (mo x : Operand) (t : TypeId) (hop : o.op = Op.lookup t mo x false)
    (e : TypeId) (E : KeyEnc P K ok val kl) (ht : P.underlying t = some (.map K e)) (z : Value) (hz : (zeroValue e).run P w = .ok z w) (hm : a.eval mo = .map (some b)) (hown : MapV w P K ok kl b n m) (k0 : κ) (hk : ok k0) (hx : a.eval x = val k0)
    (h : wpList P ops Q rest (a.put o.dst ((m k0).getD z)) w) :
    wpList P ops Q (o :: rest) a w := by
  obtain ⟨D, h1, h2, h3, h4⟩ := hown
  refine wpList_plain hg fun K' hK' => ?_
  obtain ⟨v, ps, hrun, hv⟩ := h1.lookup E.keyed ht hz (zd := .held z) (zp := []) rfl (E.of k0 hk)
  have hv' : v = (m k0).getD z := by
    have e1 : (DataW.held v : DataW Value) = D.atKey (kl k0) (.held z) := congrArg Prod.fst (Option.some.inj hv)
    rcases hmk : m k0 with _ | u
    · have hh : has D (kl k0) = false := by rw [h3 k0 hk, hmk]; rfl
      rw [atKey_of_not_has hh] at e1
      injection e1
    · rw [h4 k0 u hk hmk] at e1
      injection e1
  subst hv'
  unfold Oper.wp
  simp [execOp, hop, hm, hx, hrun, Result.andThen]
  exact hK' _ _ h
end
end Go.Proofs.YthjaepmfkgejkaaDoor
namespace Go.Proofs.YthjaepmfkgejkaaDoor
open Go.RowKit
set_option linter.unusedVariables false

/-- The blocks that were there, but for those of X, stand as they stood. -/
structure But (X : Nat → Prop) (w w' : World) : Prop where
  os : w'.os = w.os
  tape : w'.tape = w.tape
  output : w'.output = w.output
  size : w.heap.size ≤ w'.heap.size
  block : ∀ k, k < w.heap.size → ¬ X k → w'.heap[k]? = w.heap[k]?
def NoB (_ : Nat) : Prop := False
section
variable {X Y : Nat → Prop} {a b c w w' : World}
theorem But.refl (X : Nat → Prop) (w : World) : But X w w := ⟨rfl, rfl, rfl, Nat.le_refl _, fun _ _ _ => rfl⟩
theorem But.trans (h : But X a b) (k : But Y b c) (hxy : ∀ i, i < a.heap.size → Y i → X i) : But X a c :=
  ⟨k.os.trans h.os, k.tape.trans h.tape, k.output.trans h.output, Nat.le_trans h.size k.size, fun i hi hx => (k.block i (Nat.lt_of_lt_of_le hi h.size) (fun hy => hx (hxy i hi hy))).trans (h.block i hi hx)⟩
theorem But.weak (h : But X a b) (hxy : ∀ i, i < a.heap.size → X i → Y i) : But Y a b := ⟨h.os, h.tape, h.output, h.size, fun i hi hy => h.block i hi fun hx => hy (hxy i hi hx)⟩
theorem But.of_below (h : Below a.heap.size a b) : But X a b := ⟨h.os, h.tape, h.output, h.size, fun k hk _ => h.block k hk⟩
theorem But.below {B : Nat} (h : But X a b) (hB : B ≤ a.heap.size) (hx : ∀ k, k < B → ¬ X k) : Below B a b := ⟨h.os, h.tape, h.output, h.size, fun k hk => h.block k (by omega) (hx k hk)⟩
theorem But.andBelow (h : But X a b) (k : Below b.heap.size b c) : But X a c := h.trans (Y := NoB) ⟨k.os, k.tape, k.output, k.size, fun i hi _ => k.block i hi⟩ fun _ _ q => q.elim
theorem But.drew (h : But X a b) : But X a b.drew := ⟨h.os, h.tape, h.output, h.size, h.block⟩
theorem But.alloc (h : But X a b) (o : Obj) : But X a (b.alloc o) := h.andBelow ((Below.refl _ _).alloc (Nat.le_refl _) o)
theorem But.setCell (h : But X a b) {p : Addr} (hp : p.block < a.heap.size → X p.block) (u : Value) : But X a (b.setCell p u) :=
  ⟨h.os, h.tape, h.output, by simpa [World.setCell] using h.size, fun k hk hx => (Below.heap_setCell _ _ _ _ (by rintro rfl; exact hx (hp hk))).trans (h.block k hk hx)⟩
theorem But.grown {row : Option Nat} (h : But X a b) (hg : b.grownBy c row) (hr : ∀ k, row = some k → k < a.heap.size → X k) : But X a c :=
  h.trans (Y := fun k => row = some k) ⟨hg.os, hg.tape, hg.output, hg.size, fun k hk hx => hg.block k hk (fun e => hx e.symm)⟩ fun k hk hx => hr k hx hk
theorem But.cell (h : But X a b) {g j : Nat} (hg : g < a.heap.size) (hx : ¬ X g) : b.cell? ⟨g, j, none⟩ = a.cell? ⟨g, j, none⟩ := by
  unfold World.cell?
  rw [h.block g hg hx]
theorem But.own {base n size : Nat} {e : TypeId} {v : Value} {xs : List Value} (h : But X a b) (ho : a.ownsRow base e size v n xs) (hx : ∀ g, v.ownBlock = some g → ¬ X g) : b.ownsRow base e size v n xs := by
  refine ⟨ho.1, ?_⟩
  rcases ho.2 with h0 | ⟨g, cap, cur, rfl, hg, hh, r⟩
  · exact .inl h0
  · exact .inr ⟨g, cap, cur, rfl, hg, (h.block g (Array.getElem?_eq_some_iff.1 hh).1 (hx g rfl)).trans hh, r⟩
theorem But.sl {B n sz : Nat} {A : Option Addr} {xs : List Value} (h : But X a b) (ho : Sl a B A n sz xs) (hB : B ≤ a.heap.size) (hx : ∀ k, k < B → ¬ X k) : Sl b B A n sz xs := ho.keep (h.below hB hx)
theorem But.map {P : Program} {K : TypeId} {κ : Type} {ok : κ → Prop} {kl : κ → Lit} {g n : Nat} {m : κ → Option Value} (h : But X a b) (hm : MapV a P K ok kl g n m) (hx : ¬ X g) : MapV b P K ok kl g n m := by
  have hlt := hm.lt
  obtain ⟨D, h1, h2⟩ := hm
  obtain ⟨es, clock, hbk, F, hs, hD⟩ := h1
  exact ⟨D, ⟨es, clock, (h.block g hlt hx).trans hbk, F, hs, hD⟩, h2⟩
end
theorem cells_at0 {w : World} {g : Nat} {cs : List Value} {t : TypeId} {fr : Nat × Nat} (h : w.heap[g]? = some (.cells cs.toArray t fr)) (j : Nat) : w.cell? ⟨g, j, none⟩ = cs[j]? := by
  rw [cell_of_row w g j _ t fr h]
  simp
/-- 'append(s, l..)' at a row of the call's own, as a step of a walk: what stands as it stood, and where the row lies. -/
theorem wp_appS_w {P : Program} {ops : Array Oper} {rest : List Oper} {o : Oper} {a : Act} {Q : Exit → Act → World → Prop} {w : World} (hw : Region.wanted o (yielded ops a.tmps) = true) (s x : Operand) (t : TypeId)
    (ho : o.op = .call { callee := .builtin .append, args := #[s, x], argTypes := #[t, t] })
    (base : Nat) (e : TypeId) (z : Value) (size bytes : Nat) (ht : P.underlying t = some (.slice e)) (hinf : (P.info? e).map (fun i => (i.zero, i.size, i.bytes)) = some (some z, size, bytes))
    (hz1 : z.cells.size = size) (hsz : 0 < size) (v : Value) (n : Nat) (xs : List Value) (hs : a.eval s = v) (hown : w.ownsRow base e size v n xs)
    (A : Addr) (m c : Nat) (news : List Value) (hx : a.eval x = .slice (some A) m c) (hl : news.length = m * size) (hnews : ∀ j u, news[j]? = some u → w.cell? (A.add j) = some u) (h1 : ∀ u ∈ news, u.oneCell' = true)
    (hn : n + m ≤ maxLen) (hb : (n + m) * bytes ≤ 140737488355328) (hbase : base ≤ w.heap.size)
    (h : ∀ v' w', w'.ownsRow base e size v' (n + m) (xs ++ news) → w.grownBy w' v.ownBlock → Where w.heap.size v v' → wpList P ops Q rest (a.put o.dst v') w') :
    wpList P ops Q (o :: rest) a w := by
  obtain ⟨i0, hi, hz0, hz2, hz3⟩ := info_parts hinf
  obtain ⟨v', w', hr, hown', hgrow, _⟩ := run_append_own (P := P) w base t o.type e i0 z size bytes ht hi hz0 hz2 hz3 hz1 hsz v n xs hown A m c news hl hnews h1 hn hb hbase
  have hwh := run_append_where (P := P) (w := w) base t o.type e i0 z size bytes ht hi hz0 hz2 hz3 hz1 hsz v n xs hown A m c news hl hnews h1 hn hb hr
  refine BigFrame.wpList_want hw fun K hK => ?_
  unfold Oper.wp execOp
  simp only [ho, resolve, invoke, builtin, Sem.run_bind, Sem.run_pure, Result.andThen_ok, List.map_toArray, List.map_cons, List.map_nil, hs, hx, hr]
  exact hK _ _ (h v' w' hown' hgrow hwh)
end Go.Proofs.YthjaepmfkgejkaaDoor
namespace Go.Proofs.YthjaepmfkgejkaaDoor
open Go.RowKit
set_option linter.unusedVariables false

/-- An operation's cells. -/
def opV (x : OpD) : List Value := .int .u8 (x.1.toNat : Int) :: (refV x.2.1 ++ (refV x.2.2.1 ++ [.string x.2.2.2.1, .int .i64 x.2.2.2.2.1, .string x.2.2.2.2.2]))
/-- An operation that may lie in memory: ids of 32 bytes, numbers and sizes that are such. -/
def OpIn (x : OpD) : Prop := OpOk x ∧ x.2.2.2.1.size ≤ maxLen ∧ x.2.2.2.2.2.size ≤ maxLen
theorem opV_length {x : OpD} (h : OpIn x) : (opV x).length = 70 := by
  have h1 := refV_length h.1.1
  have h2 := refV_length h.1.2.1
  simp [opV, h1, h2]
theorem opV_one (x : OpD) : ∀ u ∈ opV x, u.oneCell' = true := by
  intro u hu
  unfold opV at hu
  rcases List.mem_cons.1 hu with rfl | hu
  · rfl
  · rcases List.mem_append.1 hu with hu | hu
    · exact refV_one _ u hu
    · rcases List.mem_append.1 hu with hu | hu
      · exact refV_one _ u hu
      · simp at hu; rcases hu with rfl | rfl | rfl <;> rfl
/-- The cells of an operation, one by one. -/
theorem op_cells {x : OpD} (h : OpIn x) : (opV x)[0]? = some (.int .u8 (x.1.toNat : Int)) ∧ (∀ (j : Nat) (u : Value), (refV x.2.1)[j]? = some u → (opV x)[1 + j]? = some u) ∧ (∀ (j : Nat) (u : Value), (refV x.2.2.1)[j]? = some u → (opV x)[34 + j]? = some u) ∧
    (opV x)[67]? = some (.string x.2.2.2.1) ∧ (opV x)[68]? = some (.int .i64 x.2.2.2.2.1) ∧ (opV x)[69]? = some (.string x.2.2.2.2.2) := by
  have h1 := refV_length h.1.1
  have h2 := refV_length h.1.2.1
  have e : opV x = [.int .u8 (x.1.toNat : Int)] ++ refV x.2.1 ++ refV x.2.2.1 ++ [.string x.2.2.2.1, .int .i64 x.2.2.2.2.1, .string x.2.2.2.2.2] := by simp [opV]
  have l1 : ([.int .u8 (x.1.toNat : Int)] ++ refV x.2.1 : List Value).length = 34 := by simp [h1]
  have l2 : ([.int .u8 (x.1.toNat : Int)] ++ refV x.2.1 ++ refV x.2.2.1 : List Value).length = 67 := by simp [h1, h2]
  refine ⟨rfl, fun j u hj => ?_, fun j u hj => ?_, ?_, ?_, ?_⟩
  · have hlt := (List.getElem?_eq_some_iff.1 hj).1
    rw [e, List.append_assoc, List.append_assoc, List.getElem?_append_right (by simp), List.getElem?_append_left (by simp <;> omega)]
    simpa using hj
  · have hlt := (List.getElem?_eq_some_iff.1 hj).1
    rw [e, List.append_assoc, List.getElem?_append_right (by omega), l1, List.getElem?_append_left (by omega), Nat.add_sub_cancel_left]
    exact hj
  · rw [e, List.getElem?_append_right (by omega), l2]; rfl
  · rw [e, List.getElem?_append_right (by omega), l2]; rfl
  · rw [e, List.getElem?_append_right (by omega), l2]; rfl
theorem ref_cells {r : RefD} (h : RefOk r) : (∀ (j : Nat) (u : Value), (idV r.1)[j]? = some u → (refV r)[j]? = some u) ∧ (refV r)[32]? = some (.int .i64 r.2) := by
  have h1 : (idV r.1).length = 32 := by rw [idV_length]; exact h.1
  refine ⟨fun j u hj => ?_, ?_⟩
  · unfold refV
    rw [List.getElem?_append_left (List.getElem?_eq_some_iff.1 hj).1]
    exact hj
  · unfold refV
    rw [List.getElem?_append_right (by omega), h1]; rfl

theorem cellsRef : Tryd.prog.cellsOf 47 = 33 := by kernel_rfl
set_option maxRecDepth 100000 in
theorem eqRef : EqT Tryd.prog 47 3 := ⟨by kernel_rfl, of_decide_eq_true (by kernel_rfl), of_decide_eq_true (by kernel_rfl), by kernel_rfl, by kernel_rfl, of_decide_eq_true (by kernel_rfl), by kernel_rfl⟩
theorem kbRef {r : RefD} (hr : RefOk r) : Kb Tryd.prog 3 47 (refV r) := by
  have hln := refV_length hr
  have hid : (idV r.1).length = 32 := by rw [idV_length]; exact hr.1
  refine kb_struct Tryd.underlying47 (by rw [hln, cellsRef]) (by kernel_rfl) fun f hf => ?_
  simp only [List.mem_cons, List.not_mem_nil, or_false] at hf
  rcases hf with rfl | rfl
  · simp only [cellsId, List.drop_zero]
    rw [show (refV r).take 32 = idV r.1 by unfold refV; rw [← hid, List.take_left]]
    exact kbId hr.1
  · simp only [cellsInt]
    rw [show ((refV r).drop 32).take 1 = [.int .i64 r.2] from cut_end hid rfl]
    exact fun d hd => kb_int Tryd.underlying3 hr.2 d (by omega)
theorem run_eqRef {a b : RefD} (ha : RefOk a) (hb : RefOk b) (w : World) : (Op.equalIn 10000 47 (.agg (refV a).toArray) (.agg (refV b).toArray)).run Tryd.prog w = .ok (decide (a = b)) w :=
  eqRef.run refV (fun _ _ => refV_inj) (by rw [refV_length ha, cellsRef]) (by rw [refV_length hb, cellsRef]) (kbRef ha) (kbRef hb) w
theorem zeroRef_ok : RefOk zeroRef := ⟨zero32_ok, by decide⟩

/-- An object's own cells: what it is made of, and where its lists lie. -/
structure ObjIn (w : World) (B : Nat) (v : Value) (o : ObjD) : Prop where
  ok : ObjOk o
  ops : ∀ x ∈ o.2.1.2.2.2, OpIn x
  author : o.2.1.2.2.1.size ≤ maxLen
  author2 : o.2.2.2.2.1.size ≤ maxLen
  note : o.2.2.2.2.2.1.size ≤ maxLen
  cells : ∃ Ad cd Ao co Ap cp Ac cc, v = .agg #[.int .u8 (o.1.toNat : Int), .int .i64 o.2.1.1, .slice Ad o.2.1.2.1.length cd, .string o.2.1.2.2.1, .slice Ao o.2.1.2.2.2.length co, .slice Ap o.2.2.1.length cp, .slice Ac o.2.2.2.1.length cc, .string o.2.2.2.2.1, .string o.2.2.2.2.2.1, .int .i64 o.2.2.2.2.2.2] ∧
    Sl w B Ad o.2.1.2.1.length 32 (idsV o.2.1.2.1) ∧ Sl w B Ao o.2.1.2.2.2.length 70 (rowsV opV o.2.1.2.2.2) ∧ Sl w B Ap o.2.2.1.length 32 (idsV o.2.2.1) ∧ Sl w B Ac o.2.2.2.1.length 32 (idsV o.2.2.2.1)
/-- A change's own cells. -/
structure ChIn (w : World) (B : Nat) (v : Value) (c : ChangeD) : Prop where
  ok : ChangeOk c
  ops : ∀ x ∈ c.2.2.2, OpIn x
  author : c.2.2.1.size ≤ maxLen
  cells : ∃ Ad cd Ao co, v = .agg #[.int .i64 c.1, .slice Ad c.2.1.length cd, .string c.2.2.1, .slice Ao c.2.2.2.length co] ∧ Sl w B Ad c.2.1.length 32 (idsV c.2.1) ∧ Sl w B Ao c.2.2.2.length 70 (rowsV opV c.2.2.2)
structure CmIn (w : World) (B : Nat) (v : Value) (c : CommitD) : Prop where
  ok : CommitOk c
  author : c.2.2.1.size ≤ maxLen
  note : c.2.2.2.1.size ≤ maxLen
  cells : ∃ Ap cp Ac cc, v = .agg #[.slice Ap c.1.length cp, .slice Ac c.2.1.length cc, .string c.2.2.1, .string c.2.2.2.1, .int .i64 c.2.2.2.2] ∧ Sl w B Ap c.1.length 32 (idsV c.1) ∧ Sl w B Ac c.2.1.length 32 (idsV c.2.1)
section
variable {w w' : World} {B B' : Nat} {v : Value}
theorem ObjIn.keep {o : ObjD} (h : ObjIn w B v o) (hb : Below B w w') : ObjIn w' B v o := by
  obtain ⟨h1, h2, h3, h4, h5, Ad, cd, Ao, co, Ap, cp, Ac, cc, hv, s1, s2, s3, s4⟩ := h
  exact ⟨h1, h2, h3, h4, h5, Ad, cd, Ao, co, Ap, cp, Ac, cc, hv, s1.keep hb, s2.keep hb, s3.keep hb, s4.keep hb⟩
theorem ObjIn.more {o : ObjD} (h : ObjIn w B v o) (hB : B ≤ B') : ObjIn w B' v o := by
  obtain ⟨h1, h2, h3, h4, h5, Ad, cd, Ao, co, Ap, cp, Ac, cc, hv, s1, s2, s3, s4⟩ := h
  exact ⟨h1, h2, h3, h4, h5, Ad, cd, Ao, co, Ap, cp, Ac, cc, hv, s1.more hB, s2.more hB, s3.more hB, s4.more hB⟩
theorem ChIn.keep {o : ChangeD} (h : ChIn w B v o) (hb : Below B w w') : ChIn w' B v o := by
  obtain ⟨h1, h2, h3, Ad, cd, Ao, co, hv, s1, s2⟩ := h
  exact ⟨h1, h2, h3, Ad, cd, Ao, co, hv, s1.keep hb, s2.keep hb⟩
theorem ChIn.more {o : ChangeD} (h : ChIn w B v o) (hB : B ≤ B') : ChIn w B' v o := by
  obtain ⟨h1, h2, h3, Ad, cd, Ao, co, hv, s1, s2⟩ := h
  exact ⟨h1, h2, h3, Ad, cd, Ao, co, hv, s1.more hB, s2.more hB⟩
theorem CmIn.keep {o : CommitD} (h : CmIn w B v o) (hb : Below B w w') : CmIn w' B v o := by
  obtain ⟨h1, h2, h3, Ad, cd, Ao, co, hv, s1, s2⟩ := h
  exact ⟨h1, h2, h3, Ad, cd, Ao, co, hv, s1.keep hb, s2.keep hb⟩
theorem CmIn.more {o : CommitD} (h : CmIn w B v o) (hB : B ≤ B') : CmIn w B' v o := by
  obtain ⟨h1, h2, h3, Ad, cd, Ao, co, hv, s1, s2⟩ := h
  exact ⟨h1, h2, h3, Ad, cd, Ao, co, hv, s1.more hB, s2.more hB⟩
end
end Go.Proofs.YthjaepmfkgejkaaDoor
namespace Go.Proofs.YthjaepmfkgejkaaDoor
open Go.RowKit
set_option linter.unusedVariables false

theorem info_u8 : (Tryd.prog.info? 5).map (fun i => (i.zero, i.size, i.bytes)) = some (some (.int .u8 0), 1, 1) := by kernel_rfl

theorem andNot128 : ∀ x : Fin 256, bits BinOp.andNot IntKind.u8 ((x.val : Nat) : Int) 128 = ((x.val % 128 : Nat) : Int) := by decide +kernel
theorem pow128 (i : Nat) : 128 ^ i = 2 ^ (7 * i) := by rw [Nat.pow_mul]
theorem or_at {out c i : Nat} (ho : out < 128 ^ i) (hc : c < 128) (hi : i ≤ 8) : bits BinOp.or IntKind.u64 (out : Int) (IntKind.u64.wrap ((c : Int) * 2 ^ (7 * i))) = ((out + 128 ^ i * c : Nat) : Int) := by
  rw [pow128] at ho ⊢
  have h8 : 2 ^ (7 * i) ≤ 2 ^ 56 := Nat.pow_le_pow_right (by omega) (by omega)
  have e56 : 2 ^ 56 = 72057594037927936 := by decide
  have hm : 2 ^ (7 * i) * c ≤ 72057594037927936 * 127 := Nat.mul_le_mul (by omega) (by omega)
  have e1 : ((c : Int) * 2 ^ (7 * i)) = ((2 ^ (7 * i) * c : Nat) : Int) := by
    rw [Nat.mul_comm (2 ^ (7 * i)) c, Int.natCast_mul, Int.natCast_pow]; rfl
  rw [e1, IntWalk.u64_in _ ⟨by omega, by omega⟩, bits_or_u64_nat _ _ (by omega) (by omega)]
  congr 1
  rw [Nat.or_comm, ← Nat.two_pow_add_eq_or_of_lt ho]
  omega
theorem or_go {out x i : Nat} (ho : out < 128 ^ i) (hx : x < 256) (h128 : 128 ≤ x) (hi : i ≤ 8) :
    bits BinOp.or IntKind.u64 (out : Int) (IntKind.u64.wrap (IntKind.u64.wrap (bits BinOp.andNot IntKind.u8 (x : Int) 128) * 2 ^ (7 * i))) = ((out + 128 ^ i * (x - 128) : Nat) : Int) := by
  have e : bits BinOp.andNot IntKind.u8 (x : Int) 128 = ((x % 128 : Nat) : Int) := andNot128 ⟨x, hx⟩
  rw [e, IntWalk.u64_in ((x % 128 : Nat) : Int) ⟨by omega, by omega⟩, or_at ho (by omega) hi, show x % 128 = x - 128 by omega]
def GetGives (l : List UInt8) (at' : Nat) (w : World) (e : Ending) (w' : World) : Prop := w = w' ∧ e = (match getS (l.drop at') with
  | some (n, k) => .returned (.tuple #[.int .i64 n, .int .i64 ((at' + k : Nat) : Int), .int .i64 0])
  | none => .returned (.tuple #[.int .i64 0, .int .i64 0, .int .i64 6]))
theorem GetGives.no {l : List UInt8} {at' : Nat} {w : World} {e : Ending} (h : getS (l.drop at') = none) (he : e = .returned (.tuple #[.int .i64 0, .int .i64 0, .int .i64 6])) : GetGives l at' w e w := by
  unfold GetGives; rw [h]; exact ⟨rfl, he⟩
theorem GetGives.yes {l : List UInt8} {at' n k : Nat} {w : World} {e : Ending} (h : getS (l.drop at') = some (n, k)) (he : e = .returned (.tuple #[.int .i64 n, .int .i64 ((at' + k : Nat) : Int), .int .i64 0])) : GetGives l at' w e w := by
  unfold GetGives; rw [h]; exact ⟨rfl, he⟩
theorem ret_get {a b a' b' : Int} (h1 : a = a') (h2 : b = b') : Ending.returned (.tuple #[.int .i64 a, .int .i64 b, .int .i64 0]) = .returned (.tuple #[.int .i64 a', .int .i64 b', .int .i64 0]) := by rw [h1, h2]

/-- Read up to i: what is left decides. -/
def Getting (l : List UInt8) (at' i out : Nat) : Prop := getS (l.drop at') = match getGo i (l.drop (at' + i)) with | some (n, k) => some (out + 128 ^ i * n, i + k) | none => none
theorem Getting.start (l : List UInt8) (at' : Nat) : Getting l at' 0 0 := by
  unfold Getting getS
  rw [Nat.add_zero]
  cases getGo 0 (l.drop at') <;> simp
theorem Getting.next {l : List UInt8} {at' i out : Nat} {x : UInt8} (h : Getting l at' i out) (hd : l.drop (at' + i) = x :: l.drop (at' + i + 1)) (h128 : 128 ≤ x.toNat) (hi : i < 8) : Getting l at' (i + 1) (out + 128 ^ i * (x.toNat - 128)) := by
  unfold Getting at h ⊢
  rw [h, hd, getGo, if_pos h128, if_neg (by omega), ← Nat.add_assoc]
  rcases getGo (i + 1) (l.drop (at' + i + 1)) with _ | ⟨n, k⟩
  · rfl
  · simp only [Option.some.injEq, Prod.mk.injEq]
    refine ⟨?_, by omega⟩
    rw [Nat.mul_add, Nat.pow_succ, Nat.mul_assoc]
    omega
theorem Getting.over {l : List UInt8} {at' i out : Nat} {x : UInt8} (h : Getting l at' i out) (hd : l.drop (at' + i) = x :: l.drop (at' + i + 1)) (h128 : 128 ≤ x.toNat) (hi : 8 ≤ i) : getS (l.drop at') = none := by
  unfold Getting at h
  rw [h, hd, getGo, if_pos h128, if_pos hi]
theorem Getting.zero {l : List UInt8} {at' i out : Nat} {x : UInt8} (h : Getting l at' i out) (hd : l.drop (at' + i) = x :: l.drop (at' + i + 1)) (h0 : x.toNat = 0) (hi : 0 < i) : getS (l.drop at') = none := by
  unfold Getting at h
  rw [h, hd, getGo, if_neg (by omega), if_pos ⟨h0, hi⟩]
theorem Getting.last {l : List UInt8} {at' i out : Nat} {x : UInt8} (h : Getting l at' i out) (hd : l.drop (at' + i) = x :: l.drop (at' + i + 1)) (h128 : ¬ 128 ≤ x.toNat) (h0 : ¬ (x.toNat = 0 ∧ 0 < i)) : getS (l.drop at') = some (out + 128 ^ i * x.toNat, i + 1) := by
  unfold Getting at h
  rw [h, hd, getGo, if_neg h128, if_neg h0]
theorem Getting.end {l : List UInt8} {at' i out : Nat} (h : Getting l at' i out) (hi : l.length ≤ at' + i) : getS (l.drop at') = none := by
  unfold Getting at h
  rw [h, List.drop_eq_nil_of_le hi]; rfl

set_option maxHeartbeats 2000000 in
set_option maxRecDepth 100000 in
theorem get_any (l : List UInt8) (b off : Nat) (c : Nat) (at' : Nat) (w : World) (hl : l.length ≤ maxLen) (hcap : l.length ≤ c) (hat : at' ≤ l.length) (hc : ∀ j (h : j < l.length), w.cell? ⟨b, off + j, none⟩ = some (.int .u8 ((l[j]).toNat : Int))) :
    Calls Tryd.prog 81 #[.slice (some ⟨b, off, none⟩) l.length c, .int .i64 at'] w (GetGives l at' w) := by
  have HC := Lib.hid hc; clear hc
  unfold maxLen at hl
  by_cases hend : at' = l.length
  · have hg : getS (l.drop at') = none := by rw [List.drop_eq_nil_of_le (by omega)]; rfl
    have HG := Lib.hid hg; clear hg
    subst hend
    rcases (by omega : l.length = c ∨ l.length < c) with hq | hq
    · subst hq
      go_enter Tryd.func81, Tryd.ntmps81
      go_wp2
      go_step3
      go_wp2
      go_step3
      go_wp2
      go_loopg [7, 8, 23] 0 (fun g s7 s8 s23 wr => s7 = .int .u64 0 ∧ s8 = .int .i64 0 ∧ s23 = .int .i64 0 ∧ wr = w)
      case atStart => exact ⟨rfl, rfl, rfl, rfl⟩
      case round =>
        obtain ⟨rfl, rfl, rfl, hwr⟩ := hrel
        subst hwr
        go_wp2
        rw [Exit.noGoto_ret]
        go_ret3
        exact GetGives.no HG.out rfl
    · go_enter Tryd.func81, Tryd.ntmps81
      go_wp2
      go_step3
      go_wp2
      go_step3
      go_wp2
      go_loopg [7, 8, 23] 0 (fun g s7 s8 s23 wr => s7 = .int .u64 0 ∧ s8 = .int .i64 0 ∧ s23 = .int .i64 0 ∧ wr = w)
      case atStart => exact ⟨rfl, rfl, rfl, rfl⟩
      case round =>
        obtain ⟨rfl, rfl, rfl, hwr⟩ := hrel
        subst hwr
        go_wp2
        rw [Exit.noGoto_ret]
        go_ret3
        exact GetGives.no HG.out rfl
  · have hlt : at' < l.length := by omega
    have hac : at' < c := by omega
    clear hend
    have d1 : decide (l.length < at') = false := by simp; omega
    have d2 : decide ((at' : Int) < 0) = false := by simp
    go_enter Tryd.func81, Tryd.ntmps81
    go_wp2
    go_step3
    go_wp2
    go_step3
    go_wp2
    go_loopg [7, 8, 23] (l.length - at') (fun g s7 s8 s23 wr => ∃ i out : Nat, Hid (i + g = l.length - at') ∧ i ≤ l.length - at' ∧ i ≤ 8 ∧ s23 = .int .i64 i ∧ s8 = .int .i64 (7 * (i : Int)) ∧ s7 = .int .u64 out ∧ Hid (out < 128 ^ i) ∧ wr = w ∧ Hid (Getting l at' i out))
    case atStart => exact ⟨0, 0, Lib.hid (by omega), by omega, by omega, rfl, rfl, rfl, Lib.hid (by simp), rfl, Lib.hid (Getting.start l at')⟩
    case round =>
      obtain ⟨i, out, hi, him', hi8, rfl, rfl, rfl, hout, hwr, hG⟩ := hrel
      subst hwr
      by_cases him : i < l.length - at'
      · have hcell := HC.out (at' + i) (by omega)
        rw [← Nat.add_assoc] at hcell
        have hdrop : l.drop (at' + i) = l[at' + i]'(by omega) :: l.drop (at' + i + 1) := List.drop_eq_getElem_cons (by omega)
        have HD := Lib.hid hdrop; clear hdrop
        generalize hx : (l[at' + i]'(by omega)) = x at *
        have hx256 : x.toNat < 256 := x.toNat_lt
        have HX := Lib.hid hx; clear hx
        generalize hxn : x.toNat = xn at *
        have HXN := Lib.hid hxn; clear hxn
        have i0 : (0 : Int) ≤ (i : Int) := by omega
        have i1 : (i : Int) < ((l.length - at' : Nat) : Int) := by omega
        by_cases h128 : 128 ≤ xn
        · by_cases he : 8 ≤ i
          · have hno : getS (l.drop at') = none := hG.out.over HD.out (by rw [HXN.out]; exact h128) he
            have HNO := Lib.hid hno; clear hno
            go_wp2
            rw [Exit.noGoto_ret]
            go_ret3
            exact GetGives.no HNO.out rfl
          · have hnx := hG.out.next HD.out (by rw [HXN.out]; exact h128) (by omega)
            have HNX := Lib.hid hnx; clear hnx
            go_wp2
            go_roundg (l.length - at' - (i + 1))
            case measure => have := hi.out; omega
            case rel =>
              have hv := or_go hout.out hx256 h128 hi8
              have ho2 : out + 128 ^ i * (xn - 128) < 128 ^ (i + 1) := by
                have h1 := hout.out
                have h2 : 128 ^ i * (xn - 128) ≤ 128 ^ i * 127 := Nat.mul_le_mul_left _ (by omega)
                rw [Nat.pow_succ]; omega
              exact ⟨i + 1, out + 128 ^ i * (xn - 128), Lib.hid (by omega), by omega, by omega, by go_num, by congr 1, by rw [hv], Lib.hid ho2, rfl, Lib.hid (by have := HNX.out; rw [HXN.out] at this; exact this)⟩
        · by_cases h00 : xn = 0 ∧ 0 < i
          · obtain ⟨hx0, hi0⟩ := h00
            have hno : getS (l.drop at') = none := hG.out.zero HD.out (by rw [HXN.out]; exact hx0) hi0
            have HNO := Lib.hid hno; clear hno
            have hx0' : ((xn : Int) == 0) = true := by simp [hx0]
            have hi0' : (0 : Int) < (i : Int) := by omega
            clear hx0
            rcases (by omega : i ≤ 7 ∨ 8 ≤ i) with h7 | h7
            all_goals
              go_wp2
              all_goals
                (try rw [Exit.noGoto_ret])
                go_ret3
                exact GetGives.no HNO.out rfl
          · have hyes := hG.out.last HD.out (by rw [HXN.out]; exact h128) (by rw [HXN.out]; exact h00)
            rw [HXN.out] at hyes
            have hbd := getS_bound hyes
            have HYES := Lib.hid hyes; clear hyes
            have hor := or_at hout.out (show xn < 128 by omega) hi8
            have HOR := Lib.hid hor; clear hor
            rcases (by omega : (xn = 0 ∧ i = 0) ∨ 0 < xn) with ⟨hx0, hi0⟩ | hx0
            · have hx0' : ((xn : Int) == 0) = true := by simp [hx0]
              have hi0' : ¬ (0 : Int) < (i : Int) := by omega
              have HX0 := Lib.hid hx0; clear hx0
              have HI0 := Lib.hid hi0; clear hi0
              rcases (by omega : i ≤ 7 ∨ 8 ≤ i) with h7 | h7
              all_goals
                go_wp2
                all_goals
                  (try rw [Exit.noGoto_ret])
                  go_ret3
                  refine GetGives.yes HYES.out (ret_get ?_ (by push_cast; omega))
                  rw [HOR.out, IntWalk.wrap64_in _ ⟨by omega, by omega⟩]
            · have hx0' : ((xn : Int) == 0) = false := by simp; omega
              rcases (by omega : i ≤ 7 ∨ 8 ≤ i) with h7 | h7
              all_goals
                go_wp2
                all_goals
                  (try rw [Exit.noGoto_ret])
                  go_ret3
                  refine GetGives.yes HYES.out (ret_get ?_ (by push_cast; omega))
                  rw [HOR.out, IntWalk.wrap64_in _ ⟨by omega, by omega⟩]
      · have hno : getS (l.drop at') = none := hG.out.end (by omega)
        have HNO := Lib.hid hno; clear hno
        go_wp2
        rw [Exit.noGoto_ret]
        go_ret3
        exact GetGives.no HNO.out rfl

def GetTextGives (l : List UInt8) (at' most : Nat) (w : World) (e : Ending) (w' : World) : Prop := w = w' ∧ (match getTextS (l.drop at') most with
  | some (t, k) => e = .returned (.tuple #[.string ⟨t.toArray⟩, .int .i64 ((at' + k : Nat) : Int), .int .i64 0])
  | none => ∃ q : Int, q ≠ 0 ∧ e = .returned (.tuple #[.string ⟨#[]⟩, .int .i64 0, .int .i64 q]))
theorem GetTextGives.no {l : List UInt8} {at' most : Nat} {w : World} {e : Ending} {q : Int} (h : getTextS (l.drop at') most = none) (hq : q ≠ 0) (he : e = .returned (.tuple #[.string ⟨#[]⟩, .int .i64 0, .int .i64 q])) : GetTextGives l at' most w e w := by
  unfold GetTextGives; rw [h]; exact ⟨rfl, q, hq, he⟩
theorem GetTextGives.yes {l : List UInt8} {at' most k : Nat} {t : List UInt8} {w : World} {e : Ending} (h : getTextS (l.drop at') most = some (t, k)) (he : e = .returned (.tuple #[.string ⟨t.toArray⟩, .int .i64 ((at' + k : Nat) : Int), .int .i64 0])) : GetTextGives l at' most w e w := by
  unfold GetTextGives; rw [h]; exact ⟨rfl, he⟩

theorem bytes_at {w : World} {b off : Nat} {l : List UInt8} (hc : ∀ j (h : j < l.length), w.cell? ⟨b, off + j, none⟩ = some (.int .u8 ((l[j]).toNat : Int))) : Lib.Bytes w b off ⟨l.toArray⟩ := by
  intro i hi
  have hi' : i < l.length := by simpa [ByteArray.size] using hi
  rw [hc i hi']
  have e : (⟨l.toArray⟩ : ByteArray)[i] = l[i] := by
    show (l.toArray)[i] = l[i]
    simp
  rw [e]
theorem size_mk (l : List UInt8) : (⟨l.toArray⟩ : ByteArray).size = l.length := by simp [ByteArray.size]
theorem L_mk (l : List UInt8) : L ⟨l.toArray⟩ = l := by simp [L]
theorem extract_mk (l : List UInt8) (a n : Nat) : (⟨l.toArray⟩ : ByteArray).extract a (a + n) = ⟨((l.drop a).take n).toArray⟩ := by
  have h : L ((⟨l.toArray⟩ : ByteArray).extract a (a + n)) = (l.drop a).take n := by
    have h1 : L ((⟨l.toArray⟩ : ByteArray).extract a (a + n)) = ((L ⟨l.toArray⟩).drop a).take (a + n - a) := Lib.extract_data _ _ _
    rw [h1, L_mk, Nat.add_sub_cancel_left]
  exact L_inj (h.trans (L_mk _).symm)

set_option maxHeartbeats 2000000 in
set_option maxRecDepth 100000 in
theorem getText_any (l : List UInt8) (b off : Nat) (c : Nat) (at' most : Nat) (w : World) (hl : l.length ≤ 1099511627776) (hcap : l.length ≤ c) (hat : at' ≤ l.length) (hc : ∀ j (h : j < l.length), w.cell? ⟨b, off + j, none⟩ = some (.int .u8 ((l[j]).toNat : Int))) :
    Calls Tryd.prog 84 #[.slice (some ⟨b, off, none⟩) l.length c, .int .i64 at', .int .i64 most] w (GetTextGives l at' most w) := by
  have HC := Lib.hid hc
  have hgt : getTextS (l.drop at') most = _ := rfl
  unfold getTextS at hgt
  have hget := get_any l b off c at' w (by unfold maxLen; omega) hcap hat hc
  clear hc
  rcases hg : getS (l.drop at') with _ | ⟨n, k⟩
  · rw [hg] at hgt
    simp only at hgt
    have HGT := Lib.hid hgt; clear hgt
    have HG := Lib.hid hg; clear hg
    have HGET := Lib.hid hget; clear hget
    go_enter Tryd.func84, Tryd.ntmps84
    go_wp2_with fail
    refine HGET.out.mono ?_
    unfold GetGives
    rw [HG.out]
    rintro e w1 ⟨rfl, rfl⟩
    go_wp2_with fail
    go_ret3
    exact GetTextGives.no (by unfold getTextS; rw [HG.out]) (by omega) rfl
  · have hk := getS_k hg
    rw [List.length_drop] at hk
    have hb := getS_bound hg
    rw [hg] at hgt
    simp only [List.length_drop] at hgt
    have HGT := Lib.hid hgt; clear hgt
    have HG := Lib.hid hg; clear hg
    have HGET := Lib.hid hget; clear hget
    have fin : ∀ r, (if most < n then none else if l.length - at' - k < n then none else some (List.take n (List.drop k (List.drop at' l)), k + n)) = r → getTextS (l.drop at') most = r := by
      intro r h
      unfold getTextS
      rw [HG.out]
      simp only [List.length_drop]
      exact h
    have FIN := Lib.hid fin; clear fin
    by_cases h1 : most < n
    · go_enter Tryd.func84, Tryd.ntmps84
      go_wp2_with fail
      refine HGET.out.mono ?_
      unfold GetGives
      rw [HG.out]
      rintro e w1 ⟨rfl, rfl⟩
      go_wp2_with fail
      go_ret3
      exact GetTextGives.no (FIN.out none (by rw [if_pos h1])) (by omega) rfl
    · by_cases h2 : l.length - at' - k < n
      · have h2' : (l.length : Int) - ((at' + k : Nat) : Int) < (n : Int) := by omega
        go_enter Tryd.func84, Tryd.ntmps84
        go_wp2_with fail
        refine HGET.out.mono ?_
        unfold GetGives
        rw [HG.out]
        rintro e w1 ⟨rfl, rfl⟩
        go_wp2_with fail
        go_ret3
        exact GetTextGives.no (FIN.out none (by rw [if_neg h1, if_pos h2])) (by omega) rfl
      · have h2' : ¬ (l.length : Int) - ((at' + k : Nat) : Int) < (n : Int) := by omega
        have hs := extract_mk l (at' + k) n
        by_cases hcc : c = at' + k
        · obtain rfl : n = 0 := by omega
          have hconv := Lib.run_convert_window (P := Tryd.prog) w 30 5 9 Tryd.underlying30 Tryd.underlying5 Tryd.underlying9 b off ⟨l.toArray⟩ (bytes_at HC.out) 0 0 0 (by omega)
          have he : (⟨l.toArray⟩ : ByteArray).extract 0 (0 + 0) = ⟨#[]⟩ := by
            apply L_inj
            rw [extract_mk, L_mk]; simp
          rw [he, Nat.add_zero] at hconv
          clear he hs
          subst hcc
          go_enter Tryd.func84, Tryd.ntmps84
          go_wp2_with fail
          refine HGET.out.mono ?_
          unfold GetGives
          rw [HG.out]
          rintro e w1 ⟨rfl, rfl⟩
          go_wp2_with fail
          go_ret3
          refine GetTextGives.yes (FIN.out _ (by rw [if_neg h1, if_neg h2])) ?_
          rw [List.take_zero]
          congr 3
        · have hconv := Lib.run_convert_window (P := Tryd.prog) w 30 5 9 Tryd.underlying30 Tryd.underlying5 Tryd.underlying9 b off ⟨l.toArray⟩ (bytes_at HC.out) (at' + k) n (c - (at' + k)) (by rw [size_mk]; omega)
          rw [hs] at hconv
          clear hs
          generalize hTX : (⟨((l.drop (at' + k)).take n).toArray⟩ : ByteArray) = TX at *
          have HTX := Lib.hid hTX; clear hTX
          go_enter Tryd.func84, Tryd.ntmps84
          go_wp2_with fail
          refine HGET.out.mono ?_
          unfold GetGives
          rw [HG.out]
          rintro e w1 ⟨rfl, rfl⟩
          go_wp2_with fail
          go_ret3
          refine GetTextGives.yes (FIN.out _ (by rw [if_neg h1, if_neg h2])) ?_
          rw [← HTX.out, List.drop_drop, show ((at' + (k + n) : Nat) : Int) = (at' : Int) + k + n by omega]
          rfl
end Go.Proofs.YthjaepmfkgejkaaDoor
namespace Go.Proofs.YthjaepmfkgejkaaDoor
open Go.RowKit
set_option linter.unusedVariables false

theorem or128 : ∀ x : Fin 256, bits BinOp.or IntKind.u8 ((x.val : Nat) : Int) 128 = ((x.val % 128 + 128 : Nat) : Int) := by decide +kernel
theorem or128' (m : Nat) : bits BinOp.or IntKind.u8 (IntKind.u8.wrap (m : Int)) 128 = ((m % 128 + 128 : Nat) : Int) := by
  have e1 : IntKind.u8.wrap (m : Int) = ((m % 256 : Nat) : Int) := by
    show (m : Int) % 256 = _
    omega
  have h := or128 ⟨m % 256, by omega⟩
  simp only at h
  rw [e1, h, show m % 256 % 128 = m % 128 by omega]
theorem idV_app (a b : List UInt8) : idV (a ++ b) = idV a ++ idV b := by simp [idV]
theorem own_form' {w : World} {base : Nat} {e : TypeId} {sz : Nat} {v : Value} {n : Nat} {xs : List Value} (h : w.ownsRow base e sz v n xs) : ∃ A c, v = .slice A n c := by
  rcases h.2 with ⟨hv, hn⟩ | ⟨g, cap, cur, hv, _⟩
  · exact ⟨none, 0, by rw [hv, hn]⟩
  · exact ⟨_, _, hv⟩
theorem numB_len10 {n : Nat} (h : n < 18446744073709551616) : (numB n).length ≤ 10 :=
  numB_len 10 n (by omega) (by have e : 128 ^ 10 = 1180591620717411303424 := by decide
                               omega)

set_option maxHeartbeats 1000000 in
set_option maxRecDepth 100000 in
theorem number_any (n : Nat) (hn : n < 18446744073709551616) (v : Value) (k : Nat) (xs : List Value) (base : Nat) (w : World) (hown : w.ownsRow base 5 1 v k xs) (hbase : base ≤ w.heap.size) (hk : k ≤ 1099511627776) :
    Calls Tryd.prog 117 #[v, .int .u64 n] w fun e w' => ∃ v', e = .returned v' ∧ w'.ownsRow base 5 1 v' (k + (numB n).length) (xs ++ idV (numB n)) ∧ Below base w w' := by
  have h10 := numB_len10 hn
  have H10 := Lib.hid h10; clear h10
  go_enter Tryd.func117, Tryd.ntmps117
  go_wp2_with fail
  go_loopw [0, 1] (fun t0 t1 wr => ∃ (m : Nat) (pre : List UInt8), t1 = .int .u64 m ∧ m < 18446744073709551616 ∧ pre.length ≤ 10 ∧ Hid (numB n = pre ++ numB m) ∧ wr.ownsRow base 5 1 t0 (k + pre.length) (xs ++ idV pre) ∧ Below base w wr) (fun _ t1 _ => (intOf t1).toNat)
  case atStart => exact ⟨n, [], rfl, hn, by simp, Lib.hid rfl, by simpa [idV] using hown, Below.refl _ _⟩
  case round =>
    obtain ⟨m, pre, rfl, hm, hpl, hP, hownr, hbr⟩ := hrel
    have hbs := hbr.size
    have hpl2 : pre.length + (numB m).length ≤ 10 := by
      have := H10.out
      rw [hP.out, List.length_append] at this
      exact this
    have hpos := numB_pos m
    obtain ⟨A0, c0, hv0⟩ := own_form' hownr
    subst hv0
    by_cases h128 : m < 128
    · have hsm := numB_small h128
      have HSM := Lib.hid hsm; clear hsm
      go_wp2_with (at_builtin; refine wp_app1 rfl _ _ 30 rfl base 5 (.int .u8 0) 1 Tryd.underlying30 info_u8 rfl _ _ _ rfl hownr _ _ rfl rfl ?c1 ?c2 ?c3 ?_)
      case c1 => unfold maxLen; omega
      case c2 => omega
      case c3 => omega
      intro v' w3 hown3 hbel
      have hb3 := hbel base w (Nat.le_refl _) hbr
      clear hbel
      go_wp2_with fail
      go_ret
      refine ⟨_, rfl, ?_, hb3⟩
      rw [hP.out, HSM.out, List.length_append, List.length_singleton, ← Nat.add_assoc]
      have e : idV (pre ++ [UInt8.ofNat m]) = idV pre ++ [.int .u8 (m : Int)] := by
        simp only [idV, List.map_append, List.map_cons, List.map_nil]
        rw [u8_of (by omega)]
      rw [e]
      exact hown3
    · go_wp2_with (at_builtin; refine wp_app1 rfl _ _ 30 rfl base 5 (.int .u8 0) 1 Tryd.underlying30 info_u8 rfl _ _ _ rfl hownr _ _ rfl rfl ?c1 ?c2 ?c3 ?_)
      case c1 => unfold maxLen; omega
      case c2 => omega
      case c3 => omega
      intro v' w3 hown3 hbel
      have hb3 := hbel base w (Nat.le_refl _) hbr
      clear hbel
      go_wp2_with fail
      go_roundw
      case rel =>
        refine ⟨m / 128, pre ++ [UInt8.ofNat (m % 128 + 128)], congrArg (Value.int .u64) (by omega), by omega, by rw [List.length_append, List.length_singleton]; omega, Lib.hid ?_, ?_, hb3⟩
        · rw [hP.out, numB_big h128]
          simp
        · rw [List.length_append, List.length_singleton, ← Nat.add_assoc]
          have e : idV (pre ++ [UInt8.ofNat (m % 128 + 128)]) = idV pre ++ [.int .u8 (bits BinOp.or IntKind.u8 (IntKind.u8.wrap (m : Int)) 128)] := by
            simp only [idV, List.map_append, List.map_cons, List.map_nil]
            rw [u8_of (by omega)]
            rw [or128' m]
          rw [e]
          exact hown3
      case measure => simp [intOf]; omega

set_option maxHeartbeats 1000000 in
set_option maxRecDepth 100000 in
theorem own_nil (w : World) : Calls Tryd.prog 118 #[.slice none 0 0] w fun e w' => ∃ v, e = .returned v ∧ w'.ownsRow w.heap.size 5 1 v 0 [] ∧ Below w.heap.size w w' := by
  obtain ⟨i0, hi, hz0, hz1, hz2⟩ := info_parts info_u8
  have hmk : ∀ w, (Instr.makeSlice 30 (.int .i64 0) (.int .i64 16)).run Tryd.prog w = .ok (.slice (some ⟨w.heap.size, 0, none⟩) 0 16) (w.alloc (.cells (List.replicate 16 (Value.int .u8 0)).toArray 5)) := fun _ => by kernel_rfl
  go_enter Tryd.func118, Tryd.ntmps118
  go_wp2_with fail
  go_ret
  refine ⟨_, rfl, ?_, (Below.refl _ _).alloc (Nat.le_refl _) _⟩
  exact World.ownsRow_made w (List.replicate 16 (Value.int .u8 0)).toArray 16 (Nat.le_refl _) (by unfold maxLen; omega) rfl

def PutGives (n : Nat) (w : World) (e : Ending) (w' : World) : Prop := ∃ v, e = .returned (.tuple #[v, .int .i64 0]) ∧ w'.ownsRow w.heap.size 5 1 v (numB n).length (idV (numB n)) ∧ Below w.heap.size w w'
set_option maxHeartbeats 1000000 in
set_option maxRecDepth 100000 in
theorem put_nil (n : Nat) (hn : n < 9223372036854775808) (w : World) : Calls Tryd.prog 79 #[.slice none 0 0, .int .i64 n] w (PutGives n w) := by
  have hn2 : (n : Int) ≤ 9223372036854775807 := by omega
  go_enter Tryd.func79, Tryd.ntmps79
  go_wp2_with fail
  refine (own_nil _).mono ?_
  rintro e w1 ⟨v, rfl, hown, hb1⟩
  go_wp2_with fail
  refine (number_any n (by omega) v 0 [] w.heap.size _ hown hb1.size (by omega)).mono ?_
  rintro e w2 ⟨v', rfl, hown2, hb2⟩
  go_wp2_with fail
  go_ret2
  rw [Nat.zero_add, List.nil_append] at hown2
  exact ⟨v', rfl, hown2, hb1.trans hb2⟩

def PutTextGives (s : ByteArray) (w : World) (e : Ending) (w' : World) : Prop := ∃ v, e = .returned v ∧ w'.ownsRow w.heap.size 5 1 v (textB (L s)).length (idV (textB (L s))) ∧ Below w.heap.size w w'
set_option maxHeartbeats 1000000 in
set_option maxRecDepth 100000 in
theorem putText_nil (s : ByteArray) (hs : s.size ≤ 1099511627776) (w : World) : Calls Tryd.prog 80 #[.slice none 0 0, .string s] w (PutTextGives s w) := by
  have hn2 : (s.size : Int) ≤ 9223372036854775807 := by omega
  go_enter Tryd.func80, Tryd.ntmps80
  go_wp2_with fail
  refine (own_nil _).mono ?_
  rintro e w1 ⟨v, rfl, hown, hb1⟩
  go_wp2_with fail
  refine (number_any s.size (by omega) v 0 [] w.heap.size _ hown hb1.size (by omega)).mono ?_
  rintro e w2 ⟨v', rfl, hown2, hb2⟩
  rw [Nat.zero_add, List.nil_append] at hown2
  have h10 := numB_len10 (n := s.size) (by omega)
  obtain ⟨i0, hi, hz0, hz1, hz2⟩ := info_parts info_u8
  go_wp2_with (at_builtin; refine Lib.wpList_append_own_string _ rfl _ _ 30 9 rfl w.heap.size 5 i0 Tryd.underlying30 Tryd.underlying9 hi hz0 hz1 hz2 _ _ _ rfl hown2 s rfl ?c1 ?c2 ?c3 ?_)
  case c1 => unfold maxLen; omega
  case c2 => omega
  case c3 => have := hb1.size; have := hb2.size; omega
  intro v3 w3 hown3 hgr3 _
  have hb12 := hb1.trans hb2
  have hb3 := hb12.grown hgr3 hb12.size (fun k hk => (hown2.lt k hk).1)
  go_wp2_with fail
  go_ret
  refine ⟨v3, rfl, ?_, hb3⟩
  unfold textB
  rw [List.length_append, L_length, idV_app]
  exact hown3
end Go.Proofs.YthjaepmfkgejkaaDoor
namespace Go.Proofs.YthjaepmfkgejkaaDoor
open Go.RowKit Go.Maps
set_option linter.unusedVariables false


/-- An operation by its number; it unfolds to the operation itself. -/
def opAt : List Oper → Nat → Option Oper
  | [], _ => none
  | o :: _, 0 => some o
  | _ :: l, n + 1 => opAt l n
theorem opAt_list : ∀ (l : List Oper) (i : Nat), opAt l i = l[i]?
  | [], i => by simp [opAt]
  | o :: l, 0 => by simp [opAt]
  | o :: l, i + 1 => by simp [opAt, opAt_list l i]
theorem opAt_spec {ops : Array Oper} {i : Nat} {o : Oper} (h : opAt ops.toList i = some o) : ops[i]? = some o := by
  rw [opAt_list, Array.getElem?_toList] at h
  exact h
theorem oper_wp_val {P : Program} {o : Oper} {a : Act} {w w' : World} {v : Value} {K : Act → World → Prop} {Q : Exit → Act → World → Prop} (h : (execOp a.eval o).run P w = .ok (.value v) w') (hk : K (a.put o.dst v) w') : o.wp P a w K Q := by
  unfold Oper.wp
  rw [h]
  exact hk
theorem oper_wp_skip {P : Program} {o : Oper} {a : Act} {w w' : World} {K : Act → World → Prop} {Q : Exit → Act → World → Prop} (h : (execOp a.eval o).run P w = .ok .skip w') (hk : K (a.put o.dst undef) w') : o.wp P a w K Q := by
  unfold Oper.wp
  rw [h]
  exact hk
theorem wpOp_val {P : Program} {ops : Array Oper} {Q : Exit → Act → World → Prop} {i : Nat} {K : Act → World → Prop} {a : Act} {w w' : World} {v : Value} (o : Oper) (hi : opAt ops.toList i = some o) (hw : Region.wanted o (yielded ops a.tmps) = true)
    (h : (execOp a.eval o).run P w = .ok (.value v) w') (hk : K (a.put o.dst v) w') : wpOp P ops Q i K a w := by
  unfold wpOp
  simp only [opAt_spec hi, if_pos hw]
  exact .inl (oper_wp_val h hk)
theorem wpOp_skip {P : Program} {ops : Array Oper} {Q : Exit → Act → World → Prop} {i : Nat} {K : Act → World → Prop} {a : Act} {w w' : World} (o : Oper) (hi : opAt ops.toList i = some o) (hw : Region.wanted o (yielded ops a.tmps) = true)
    (h : (execOp a.eval o).run P w = .ok .skip w') (hk : K (a.put o.dst undef) w') : wpOp P ops Q i K a w := by
  unfold wpOp
  simp only [opAt_spec hi, if_pos hw]
  exact .inl (oper_wp_skip h hk)
theorem wpOp_call {P : Program} {ops : Array Oper} {Q : Exit → Act → World → Prop} {i : Nat} {K : Act → World → Prop} {a : Act} {w : World} {f : FuncId} {args : Array Value} (o : Oper) (hi : opAt ops.toList i = some o) (hw : Region.wanted o (yielded ops a.tmps) = true)
    (h : (execOp a.eval o).run P w = .ok (.enter f args) w) (hc : Calls P f args w fun e w' => ∃ v, e = .returned v ∧ K (a.put o.dst v) w') : wpOp P ops Q i K a w := by
  unfold wpOp
  simp only [opAt_spec hi, if_pos hw]
  refine .inl ?_
  unfold Oper.wp
  rw [h]
  exact hc.mono fun e w' ⟨v, he, hk⟩ => by subst he; exact hk
section
variable {P : Program} {ρ : Operand → Value} {o : Oper} {w : World}
theorem ex_callFn {f : FuncId} {xs : Array Operand} {ts : Array TypeId} {args : Array Value} (ho : o.op = .call { callee := .value (.func f), args := xs, argTypes := ts }) (hf : ρ (.func f) = .func (.func f) #[] #[]) (hE : ∀ args w, (callFunc f args).run P w = .ok (.enter f args) w) (ha : xs.map ρ = args) :
    (execOp ρ o).run P w = .ok (.enter f args) w := by
  unfold execOp
  simp only [ho, resolve, hf, Deferred.ofValue, ha, Array.empty_append, Sem.run_bind, Sem.run_pure, Result.andThen_ok, invoke, Array.append_empty, hE]
theorem ex_alloc {t : TypeId} {cs : Array Value} (ho : o.op = .alloc t) (hz : (zeroValue t).run P w = .ok (.agg cs) w) : (execOp ρ o).run P w = .ok (.value (.pointer (some ⟨w.heap.size, 0, none⟩))) (w.alloc (.cells cs t)) := by
  unfold execOp
  simp [ho, Instr.alloc, newVar, newRow, hz, Result.andThen, Sem.run_bind, Value.cells]
theorem ex_lookup2 (t : TypeId) (x ix : Operand) (ho : o.op = .lookup t x ix true) {vm vk v : Value} {w' : World} (hx : ρ x = vm) (hk : ρ ix = vk) (h : (Instr.lookup t vm vk true).run P w = .ok v w') : (execOp ρ o).run P w = .ok (.value v) w' := by
  unfold execOp
  simp only [ho, hx, hk, Sem.run_bind, h, Result.andThen_ok, Sem.run_pure]
end
/-- 'v, ok := m[k]', as the run has it. -/
theorem MapV.look2 {P : Program} {K t e : TypeId} {κ : Type} {ok : κ → Prop} {val : κ → Value} {kl : κ → Lit} {w : World} {b n : Nat} {m : κ → Option Value} (E : KeyEnc P K ok val kl) (ht : P.underlying t = some (.map K e)) {z : Value} (hz : ∀ u : World, (zeroValue e).run P u = .ok z u) (h : MapV w P K ok kl b n m) {k0 : κ} (hk : ok k0) :
    (Instr.lookup t (.map (some b)) (val k0) true).run P w = .ok (.tuple #[(m k0).getD z, .bool (m k0).isSome]) w := by
  obtain ⟨D, h1, hm, h3, h4⟩ := h
  obtain ⟨v, ps, hrun, hv⟩ := h1.look_ok E.keyed ht (hz w) (zd := .held z) (zp := []) rfl (E.of k0 hk)
  have hv' : v = (m k0).getD z := by
    have e1 : (DataW.held v : DataW Value) = D.atKey (kl k0) (.held z) := congrArg Prod.fst (Option.some.inj hv)
    rcases hmk : m k0 with _ | u
    · have hh : has D (kl k0) = false := by rw [h3 k0 hk, hmk]; rfl
      rw [atKey_of_not_has hh] at e1
      injection e1
    · rw [h4 k0 u hk hmk] at e1
      injection e1
  rw [hrun, hv', h3 k0 hk]


theorem wpOp_wp {P : Program} {ops : Array Oper} {Q : Exit → Act → World → Prop} {i : Nat} {K : Act → World → Prop} {a : Act} {w : World} (o : Oper) (hi : opAt ops.toList i = some o) (hw : Region.wanted o (yielded ops a.tmps) = true)
    (h : o.wp P a w K Q) : wpOp P ops Q i K a w := by
  unfold wpOp
  simp only [opAt_spec hi, if_pos hw]
  exact .inl h
section
variable {P : Program} {w : World}
theorem wp_append_sl {o : Oper} {a : Act} {K : Act → World → Prop} {Q : Exit → Act → World → Prop} (s x : Operand) (t : TypeId)
    (ho : o.op = .call { callee := .builtin .append, args := #[s, x], argTypes := #[t, t] })
    (base : Nat) (e : TypeId) (i : TypeInfo) (z : Value) (size bytes : Nat) (ht : P.underlying t = some (.slice e)) (hi : P.info? e = some i) (hz : i.zero = some z)
    (hsize : i.size = size) (hby : i.bytes = bytes) (hzs : z.cells.size = size) (hsz : 0 < size)
    (v : Value) (n : Nat) (xs : List Value) (hs : a.eval s = v) (hown : w.ownsRow base e size v n xs)
    (A : Option Addr) (m c B : Nat) (news : List Value) (hx : a.eval x = .slice A m c) (hsl : Sl w B A m size news) (h1 : ∀ u ∈ news, u.oneCell' = true)
    (h63 : n + m ≤ maxLen) (hbytes : (n + m) * bytes ≤ 140737488355328) (hbase : base ≤ w.heap.size)
    (h : ∀ v' w', w'.ownsRow base e size v' (n + m) (xs ++ news) → w.grownBy w' v.ownBlock → K (a.put o.dst v') w') : o.wp P a w K Q := by
  have hnil : m = 0 → news = [] := fun h0 => List.eq_nil_of_length_eq_zero (by rw [hsl.1, h0, Nat.zero_mul])
  rcases A with _ | ad
  · have hm : m = 0 := by
      rcases Nat.eq_zero_or_pos m with h0 | hp
      · exact h0
      · obtain ⟨b, off, e1, _⟩ := hsl.2 hp; cases e1
    subst hm
    obtain rfl := hnil rfl
    have hgr : w.grownBy w v.ownBlock := ⟨rfl, rfl, rfl, Nat.le_refl _, fun _ _ _ => rfl⟩
    have hle : ∃ A0 c0, v = .slice A0 n c0 ∧ n ≤ c0 := by
      rcases hown.2 with ⟨rfl, rfl⟩ | ⟨g, cap, cur, rfl, _, _, hnc, _⟩
      · exact ⟨_, _, rfl, Nat.le_refl _⟩
      · exact ⟨_, _, rfl, hnc⟩
    obtain ⟨A0, c0, rfl, hnc⟩ := hle
    have hr : (Builtin.append_ #[t, t] o.type #[.slice A0 n c0, .slice none 0 c]).run P w = .ok (.slice A0 n c0) w := by
      rcases A0 with _ | a0
      · simp [Builtin.append_, run_underlying ht, sizeOf, typeInfo, hi, Builtin.lenOf, Builtin.firstCells, hnc]
      · simp [Builtin.append_, run_underlying ht, sizeOf, typeInfo, hi, Builtin.lenOf, Builtin.firstCells, hnc, storeCells]
    unfold Oper.wp execOp
    simp only [ho, resolve, invoke, builtin, Sem.run_bind, Sem.run_pure, Result.andThen_ok, List.map_toArray, List.map_cons, List.map_nil, hs, hx, hr]
    exact h _ w (by simpa using hown) hgr
  · refine wp_append_own w s x t ho base e i z size bytes ht hi hz hsize hby hzs hsz v n xs hs hown ad m c news hx hsl.1 ?_ h1 h63 hbytes hbase fun v' w' h2 h3 _ => h v' w' h2 h3
    intro j u hj
    rcases Nat.eq_zero_or_pos m with h0 | hp
    · rw [hnil h0] at hj; cases hj
    · obtain ⟨b, off, e1, _, hc⟩ := hsl.2 hp
      obtain rfl := Option.some.inj e1
      rw [Addr.add_mid]
      exact hc j u hj
end


theorem ex_store1 {P : Program} {o : Oper} {w : World} {ρ : Operand → Value} (ty : TypeId) (x y : Operand) (ho : o.op = .store ty x y) (g j : Nat) (v : Value) (hx : ρ x = .pointer (some ⟨g, j, none⟩)) (hy : ρ y = v) (h1 : v.oneCell' = true) (hv : v.cells = #[v])
    (hi : (P.info? ty).map (·.size) = some 1) {u : Value} (hc : w.cell? ⟨g, j, none⟩ = some u) (hf : w.frozen? ⟨g, j, none⟩ = false) : (execOp ρ o).run P w = .ok .skip (w.setCell ⟨g, j, none⟩ v) := by
  have h := run_storeCells_cells (P := P) g j [v] 0 w (fun i hi => by
      have : i = 0 := by simpa using hi
      subst this; simp [hc]) (fun i hi => by
      have : i = 0 := by simpa using hi
      subst this; simpa using hf) (fun q hq => by rw [List.mem_singleton.1 hq]; exact h1)
  have hset : w.setCells g (j + 0) [v] = w.setCell ⟨g, j, none⟩ v := rfl
  rw [hset] at h
  unfold execOp
  cases hq : P.info? ty with
  | none => simp [hq] at hi
  | some i =>
    have hs : i.size = 1 := by simpa [hq] using hi
    simp only [ho, hx, hy, Instr.storeAt, Instr.sureAddr, Sem.run_bind, Sem.run_pure, Result.andThen_ok]
    simp [storeVar, sizeOf, typeInfo, hq, hv, hs, h]
end Go.Proofs.YthjaepmfkgejkaaDoor
namespace Go.Proofs.YthjaepmfkgejkaaDoor
open Go.RowKit Go.Maps
set_option linter.unusedVariables false

/-- Operation j waits for i, by itself or by others. -/
def behindB (md : Region.Mode) (ops : Array Oper) : Nat → Nat → Nat → Bool
  | 0, _, _ => false
  | f + 1, j, i => match ops[j]? with
    | some o => o.after.any fun e => Region.binds md e && (decide (e.on = i) || behindB md ops f e.on i)
    | none => false
/-- Each operation from number n on waits for i. -/
def lateB (md : Region.Mode) (ops : Array Oper) (n i : Nat) : Bool := (List.range ops.size).all fun j => decide (j < n) || behindB md ops 6 j i
/-- What has come up has all that it waits for behind it. -/
def Shut (md : Region.Mode) (ops : Array Oper) (listed : Array Bool) : Prop := ∀ j o, ops[j]? = some o → listed.getD j false = true → ∀ e ∈ o.after, Region.binds md e = true → listed.getD e.on false = true
def shutB (md : Region.Mode) (ops : Array Oper) (listed : Array Bool) : Bool := (List.range ops.size).all fun j => !listed.getD j false || (match ops[j]? with
  | some o => o.after.all fun e => !Region.binds md e || listed.getD e.on false
  | none => true)
theorem shutB_spec {md : Region.Mode} {ops : Array Oper} {listed : Array Bool} (h : shutB md ops listed = true) : Shut md ops listed := by
  intro j o ho hl e he hb
  have h1 := List.all_eq_true.1 h j (List.mem_range.2 (Array.getElem?_eq_some_iff.1 ho).1)
  rw [ho, hl] at h1
  have h2 : (o.after.all fun e => !Region.binds md e || listed.getD e.on false) = true := by simpa only [Bool.not_true, Bool.false_or] using h1
  have h3 := Array.all_eq_true'.1 h2 e he
  rw [hb] at h3
  simpa only [Bool.not_true, Bool.false_or] using h3
theorem behindB_spec {md : Region.Mode} {ops : Array Oper} {listed : Array Bool} (hs : Shut md ops listed) : ∀ (f j i : Nat), behindB md ops f j i = true → (∀ o, ops[j]? = some o → ∀ e ∈ o.after, Region.binds md e = true → listed.getD e.on false = true) → listed.getD i false = true
  | 0, _, _, h, _ => by cases h
  | f + 1, j, i, h, hr => by
    unfold behindB at h
    split at h
    · rename_i o ho
      obtain ⟨e, he, h2⟩ := Array.any_eq_true'.1 h
      rw [Bool.and_eq_true, Bool.or_eq_true, decide_eq_true_eq] at h2
      have hl := hr o ho e he h2.1
      rcases h2.2 with q | q
      · rw [← q]; exact hl
      · exact behindB_spec hs f e.on i q fun o' ho' e' he' hb' => hs e.on o' ho' hl e' he' hb'
    · cases h
theorem Shut.set {md : Region.Mode} {ops : Array Oper} {listed : Array Bool} (h : Shut md ops listed) {j : Nat} (hj : j ∈ Region.ready md ops listed) : Shut md ops (listed.setIfInBounds j true) := by
  intro k o ho hl e he hb
  by_cases hjk : j = k
  · subst hjk
    obtain ⟨_, o', ho', hall⟩ := mem_ready.1 hj
    rw [ho] at ho'
    obtain rfl := Option.some.inj ho'
    exact getD_set_true (hall e he hb)
  · rw [getD_set_ne false hjk] at hl
    exact getD_set_true (h k o ho hl e he hb)
/-- Whatever order is picked from here on; F holds behind each of the first n. -/
def wpAnyN (P : Program) (md : Region.Mode) (ops : Array Oper) (Q : Exit → Act → World → Prop) (n : Nat) (F : World → Prop) : Nat → Array Bool → Act → World → Prop
  | 0, listed, a, w => Region.ready md ops listed = [] ∧ Q .normal a w
  | fuel + 1, listed, a, w =>
    (Region.ready md ops listed = [] → Q .normal a w) ∧
    ∀ i ∈ Region.ready md ops listed, wpOp P ops Q i (fun a' w' => (i < n → F w → F w') ∧ wpAnyN P md ops Q n F fuel (listed.setIfInBounds i true) a' w') a w
section
variable {P : Program} {md : Region.Mode} {ops : Array Oper} {Q : Exit → Act → World → Prop} {n : Nat} {F : World → Prop}
theorem wpAny_of_N : ∀ (fuel : Nat) (listed : Array Bool) (a : Act) (w : World), wpAnyN P md ops Q n F fuel listed a w → wpAny P md ops Q fuel listed a w
  | 0, _, _, _, h => h
  | fuel + 1, _, _, _, h => ⟨h.1, fun i hi => wpOp_mono (fun a' w' h' => wpAny_of_N fuel _ a' w' h'.2) (h.2 i hi)⟩
theorem wpAnyN_first {G : World → Prop} {i : Nat} {oi : Oper} {v : Value} (hi : ops[i]? = some oi) (hsel : ∀ (j : Nat) (o : Oper) cs b, ops[j]? = some o → o.op ≠ .select cs b)
    (hQ : ∀ c a w, Q (.panic c) (a.put oi.dst v) w → Q (.panic c) a w)
    (hG : ∀ (listed : Array Bool) j, Shut md ops listed → j ∈ Region.ready md ops listed → listed.getD i true = false → ∀ w w', G w → (j < n → F w → F w') → G w') :
    ∀ (fuel : Nat) (listed : Array Bool) (a : Act) (w : World), Shut md ops listed →
      (∀ j oj, ops[j]? = some oj → j ≠ i → listed.getD j true = false → (∀ e ∈ oj.after, Region.binds md e = true → e.on ≠ i) → oi.apart ops oj = true) →
      i ∈ Region.ready md ops listed → YieldsIf P ops G oi v a → G w →
      wpAnyN P md ops Q n F fuel (listed.setIfInBounds i true) (a.put oi.dst v) w → wpAnyN P md ops Q n F (fuel + 1) listed a w := by
  intro fuel
  induction fuel with
  | zero =>
    intro listed a w _ _ hr hy hg H
    refine ⟨fun h => (by rw [h] at hr; cases hr), fun j hj => ?_⟩
    by_cases hji : j = i
    · subst hji; exact hy.wpOp hi hg ⟨fun _ h => h, H⟩
    · have := ready_mono hj hji
      rw [H.1] at this
      cases this
  | succ fuel ih =>
    intro listed a w hsh hfree hr hy hg H
    refine ⟨fun h => (by rw [h] at hr; cases hr), fun j hj => ?_⟩
    by_cases hji : j = i
    · subst hji; exact hy.wpOp hi hg ⟨fun _ h => h, H⟩
    · have h1 := H.2 j (ready_mono hj hji)
      obtain ⟨hjun, oj, hoj, hall⟩ := mem_ready.1 hj
      have hiun := (mem_ready.1 hr).1
      have hnot : ∀ e ∈ oj.after, Region.binds md e = true → e.on ≠ i := fun e he hb heq => by
        have h2 := hall e he hb
        rw [heq, getD_both hiun] at h2
        cases h2
      have h2 := wpOp_putIf hoj (hfree j oj hoj hji hjun hnot) (fun cs b => hsel i oi cs b hi) (fun cs b => hsel j oj cs b hoj) hQ hy h1
      have hfree' : ∀ k ok, ops[k]? = some ok → k ≠ i → (listed.setIfInBounds j true).getD k true = false →
          (∀ e ∈ ok.after, Region.binds md e = true → e.on ≠ i) → oi.apart ops ok = true := fun k ok hk hki hun hno => by
        refine hfree k ok hk hki ?_ hno
        by_cases hjk : j = k
        · subst hjk; exact hjun
        · rw [getD_set_ne true hjk] at hun; exact hun
      refine wpOp_mono (fun a' w' h3 => ⟨h3.2.1, ih (listed.setIfInBounds j true) a' w' (hsh.set hj) hfree' (ready_mono hr (Ne.symm hji)) h3.1 (hG listed j hsh hj hiun w w' hg h3.2.1) ?_⟩) h2
      rw [Array.setIfInBounds_comm _ _ hji]
      exact h3.2.2
theorem wpAnyN_take {i : Nat} {oi : Oper} {v : Value} {fuel : Nat} {listed : Array Bool} {a : Act} {w : World} (hL : lateB md ops n i = true) (hsh : shutB md ops listed = true) (hi : ops[i]? = some oi)
    (hs : Region.noSelect ops = true) (hf : Region.free md ops listed i = true) (hr : (Region.ready md ops listed).contains i = true)
    (hQ : ∀ c a w, Q (.panic c) (a.put oi.dst v) w → Q (.panic c) a w) (hy : YieldsIf P ops F oi v a) (hF : F w)
    (h : wpAnyN P md ops Q n F fuel (listed.setIfInBounds i true) (a.put oi.dst v) w) : wpAnyN P md ops Q n F (fuel + 1) listed a w :=
  wpAnyN_first (G := F) hi (Region.noSelect_spec hs) hQ (fun listed' j hs' hj hiun w w' hw hww => by
    obtain ⟨_, oj, hoj, hall⟩ := mem_ready.1 hj
    have hjn : j < n := by
      have h1 := List.all_eq_true.1 hL j (List.mem_range.2 (Array.getElem?_eq_some_iff.1 hoj).1)
      rw [Bool.or_eq_true, decide_eq_true_eq] at h1
      rcases h1 with h1 | h1
      · exact h1
      · have h2 := behindB_spec hs' 6 j i h1 (fun o ho e he hb => by
          rw [hoj] at ho
          obtain rfl := Option.some.inj ho
          exact hall e he hb)
        rw [getD_both hiun] at h2
        cases h2
    exact hww hjn hw) fuel listed a w (shutB_spec hsh) (Region.free_spec hi hf) (by simpa using hr) hy hF h
/-- An operation that looks at no world. -/
theorem wpAnyN_takeW {i : Nat} {oi : Oper} {v : Value} {fuel : Nat} {listed : Array Bool} {a : Act} {w : World} (hsh : shutB md ops listed = true) (hi : ops[i]? = some oi)
    (hs : Region.noSelect ops = true) (hf : Region.free md ops listed i = true) (hr : (Region.ready md ops listed).contains i = true)
    (hQ : ∀ c a w, Q (.panic c) (a.put oi.dst v) w → Q (.panic c) a w) (hy : YieldsIf P ops (fun _ => True) oi v a)
    (h : wpAnyN P md ops Q n F fuel (listed.setIfInBounds i true) (a.put oi.dst v) w) : wpAnyN P md ops Q n F (fuel + 1) listed a w :=
  wpAnyN_first (G := fun _ => True) hi (Region.noSelect_spec hs) hQ (fun _ _ _ _ _ _ _ _ _ => trivial) fuel listed a w (shutB_spec hsh) (Region.free_spec hi hf) (by simpa using hr) hy trivial h
/-- May operation i be taken now? -/
def tkB (md : Region.Mode) (ops : Array Oper) (listed : Array Bool) (i : Nat) : Bool := shutB md ops listed && Region.noSelect ops && Region.free md ops listed i && (Region.ready md ops listed).contains i
/-- As wpAnyN_takeW: an operation that looks at no world. -/
theorem tkW (i : Nat) (v : Value) {oi : Oper} {fuel : Nat} {listed : Array Bool} {a : Act} {w : World} (hB : tkB md ops listed i = true) (hi : opAt ops.toList i = some oi)
    (hQ : ∀ c a w, Q (.panic c) (a.put oi.dst v) w → Q (.panic c) a w) (hw : Region.wanted oi (yielded ops a.tmps) = true) (hv : ∀ w' : World, True → (execOp a.eval oi).run P w' = .ok (.value v) w')
    (h : wpAnyN P md ops Q n F fuel (listed.setIfInBounds i true) (a.put oi.dst v) w) : wpAnyN P md ops Q n F (fuel + 1) listed a w := by
  simp only [tkB, Bool.and_eq_true] at hB
  exact wpAnyN_takeW hB.1.1.1 (opAt_spec hi) hB.1.1.2 hB.1.2 hB.2 hQ (.inl ⟨hw, hv⟩) h
/-- One that is not wanted. -/
theorem tkN (i : Nat) {oi : Oper} {fuel : Nat} {listed : Array Bool} {a : Act} {w : World} (hB : tkB md ops listed i = true) (hi : opAt ops.toList i = some oi)
    (hQ : ∀ c a w, Q (.panic c) (a.put oi.dst undef) w → Q (.panic c) a w) (hw : Region.wanted oi (yielded ops a.tmps) = false)
    (h : wpAnyN P md ops Q n F fuel (listed.setIfInBounds i true) (a.put oi.dst undef) w) : wpAnyN P md ops Q n F (fuel + 1) listed a w := by
  simp only [tkB, Bool.and_eq_true] at hB
  exact wpAnyN_takeW hB.1.1.1 (opAt_spec hi) hB.1.1.2 hB.1.2 hB.2 hQ (.inr ⟨hw, rfl⟩) h
/-- As wpAnyN_take: an operation that looks at a world. -/
theorem tkF (i : Nat) (v : Value) {oi : Oper} {fuel : Nat} {listed : Array Bool} {a : Act} {w : World} (hB : (lateB md ops n i && tkB md ops listed i) = true) (hi : opAt ops.toList i = some oi)
    (hQ : ∀ c a w, Q (.panic c) (a.put oi.dst v) w → Q (.panic c) a w) (hw : Region.wanted oi (yielded ops a.tmps) = true) (hF : F w) (hv : ∀ w' : World, F w' → (execOp a.eval oi).run P w' = .ok (.value v) w')
    (h : wpAnyN P md ops Q n F fuel (listed.setIfInBounds i true) (a.put oi.dst v) w) : wpAnyN P md ops Q n F (fuel + 1) listed a w := by
  simp only [tkB, Bool.and_eq_true] at hB
  exact wpAnyN_take hB.1 hB.2.1.1.1 (opAt_spec hi) hB.2.1.1.2 hB.2.1.2 hB.2.2 hQ (.inl ⟨hw, hv⟩) hF h
theorem wpAnyN_all {rs : List Nat} {fuel : Nat} {listed : Array Bool} {a : Act} {w : World} (hr : Region.ready md ops listed = rs) (hne : rs ≠ [])
    (h : ∀ i ∈ rs, wpOp P ops Q i (fun a' w' => (i < n → F w → F w') ∧ wpAnyN P md ops Q n F fuel (listed.setIfInBounds i true) a' w') a w) : wpAnyN P md ops Q n F (fuel + 1) listed a w :=
  ⟨fun h0 => absurd (hr ▸ h0) hne, hr ▸ h⟩
/-- The one operation that is ready. -/
theorem tkA (i : Nat) {fuel : Nat} {listed : Array Bool} {a : Act} {w : World} (hr : Region.ready md ops listed = [i])
    (h : wpOp P ops Q i (fun a' w' => (i < n → F w → F w') ∧ wpAnyN P md ops Q n F fuel (listed.setIfInBounds i true) a' w') a w) : wpAnyN P md ops Q n F (fuel + 1) listed a w :=
  wpAnyN_all hr (by simp) fun q hq => by
    obtain rfl : q = i := by simpa using hq
    exact h
theorem wpAnyN_done {listed : Array Bool} {a : Act} {w : World} (hr : Region.ready md ops listed = []) (h : Q .normal a w) : ∀ fuel, wpAnyN P md ops Q n F fuel listed a w
  | 0 => ⟨hr, h⟩
  | _ + 1 => ⟨fun _ => h, by rw [hr]; simp⟩
/-- The same, what is closed found by itself. -/
theorem tw (i : Nat) (v : Value) {oi : Oper} {fuel : Nat} {listed : Array Bool} {a : Act} {w : World} (h : wpAnyN P md ops Q n F fuel (listed.setIfInBounds i true) (a.put oi.dst v) w) (hB : tkB md ops listed i = true := by kernel_rfl) (hi : opAt ops.toList i = some oi := by rfl)
    (hQ : ∀ c a w, Q (.panic c) (a.put oi.dst v) w → Q (.panic c) a w := by exact fun _ _ _ h => h) (hw : Region.wanted oi (yielded ops a.tmps) = true := by rfl) (hv : ∀ w' : World, True → (execOp a.eval oi).run P w' = .ok (.value v) w' := by exact fun _ _ => rfl) : wpAnyN P md ops Q n F (fuel + 1) listed a w := tkW i v hB hi hQ hw hv h
theorem tn (i : Nat) {oi : Oper} {fuel : Nat} {listed : Array Bool} {a : Act} {w : World} (h : wpAnyN P md ops Q n F fuel (listed.setIfInBounds i true) (a.put oi.dst undef) w) (hi : opAt ops.toList i = some oi := by rfl) (hB : tkB md ops listed i = true := by kernel_rfl)
    (hQ : ∀ c a w, Q (.panic c) (a.put oi.dst undef) w → Q (.panic c) a w := by exact fun _ _ _ h => h) (hw : Region.wanted oi (yielded ops a.tmps) = false := by rfl) : wpAnyN P md ops Q n F (fuel + 1) listed a w := tkN i hB hi hQ hw h
theorem ta (i : Nat) {fuel : Nat} {listed : Array Bool} {a : Act} {w : World} (h : wpOp P ops Q i (fun a' w' => (i < n → F w → F w') ∧ wpAnyN P md ops Q n F fuel (listed.setIfInBounds i true) a' w') a w) (hr : Region.ready md ops listed = [i] := by kernel_rfl) : wpAnyN P md ops Q n F (fuel + 1) listed a w := tkA i hr h
/-- The beginning. -/
theorem wp_region_N {id : Nat} {a : Act} {w : World} (n : Nat) (F : World → Prop) (hm : P.follows .mixedOrders = true)
    (h : wpAnyN P .any ops Q n F ops.size (Array.replicate ops.size false) a w.drew) : (Code.region id ops true).wp P Q a w :=
  wp_region_any hm (wpAny_of_N _ _ _ _ h)
end

section
variable {P : Program} {ρ : Operand → Value} {o : Oper} {w : World}
/-- A load of one cell. -/
theorem ex_load1 (ty : TypeId) (x : Operand) (ho : o.op = .load ty x) {p : Addr} (hx : ρ x = .pointer (some p)) {d : TypeDesc} (hu : P.underlying ty = some d) (hd : (match d with | .struct _ | .array _ _ => true | _ => false) = false) {v : Value} (hc : w.cell? p = some v) :
    (execOp ρ o).run P w = .ok (.value v) w := by
  refine ex_load ty x ho hx ?_
  unfold loadVar isAgg
  simp only [Sem.run_bind, run_underlying hu, Result.andThen_ok]
  cases d <;> first | (cases hd; done) | simp [Result.andThen, hc]
/-- A slice's length. -/
theorem ex_len (t : TypeId) (x : Operand) (ho : o.op = .call { callee := .builtin .len, args := #[x], argTypes := #[t] }) {A : Option Addr} {n c : Nat} (hx : ρ x = .slice A n c) {e : TypeId} (ht : P.underlying t = some (.slice e)) : (execOp ρ o).run P w = .ok (.value (.int .i64 (n : Int))) w := by
  unfold execOp
  simp [ho, resolve, invoke, builtin, Builtin.len_, run_underlying ht, Result.andThen, hx]
  rfl
end
end Go.Proofs.YthjaepmfkgejkaaDoor
namespace Go.Proofs.YthjaepmfkgejkaaDoor
open Go.RowKit
set_option linter.unusedVariables false

theorem splice_is {A M B C : List Value} (hB : B.length = M.length) (v : Value) (hv : v.cells.toList = B) :
    v.cells.zipIdx.foldl (fun cs (x : Value × Nat) => cs.setIfInBounds (A.length + x.2) x.1) (A ++ (M ++ C)).toArray = (A ++ (B ++ C)).toArray := by
  obtain ⟨g1, g2⟩ := Go.Great.foldl_set A.length v.cells.toList 0 (A ++ (M ++ C)).toArray
  rw [← Array.foldl_toList, Array.toList_zipIdx]
  apply Array.ext_getElem?
  intro k
  rw [g2 k, hv]
  simp only [Nat.add_zero, List.size_toArray, List.length_append, List.getElem?_toArray]
  by_cases h1 : k < A.length
  · rw [if_neg (by omega), List.getElem?_append_left h1, List.getElem?_append_left h1]
  · by_cases h2 : k < A.length + B.length
    · rw [if_pos (by omega), List.getElem?_append_right (by omega), List.getElem?_append_left (by omega)]
    · rw [if_neg (by omega), List.getElem?_append_right (by omega), List.getElem?_append_right (by omega), List.getElem?_append_right (by omega), List.getElem?_append_right (by omega), hB]

theorem fill_chunks (place : Nat → Option (Nat × Nat)) : ∀ (parts : List (Nat × Value)) (ch : List (List Value)), (∀ i (h : i < ch.length), place i = some ((ch.take i).flatten.length, ch[i].length)) →
    (∀ p ∈ parts, ∃ h : p.1 < ch.length, p.2.cells.size = ch[p.1].length) → Instr.fill place ch.flatten.toArray parts = some ((parts.foldl (fun c p => c.set p.1 p.2.cells.toList) ch).flatten.toArray)
  | [], ch, _, _ => rfl
  | (i, v) :: rest, ch, hp, hs => by
    obtain ⟨hi, hsz⟩ := hs (i, v) (by simp)
    have hi' : i < ch.length := hi
    have hsz' : v.cells.size = ch[i].length := hsz
    have hsplit : ch = ch.take i ++ (ch[i] :: ch.drop (i + 1)) := by
      rw [← List.drop_eq_getElem_cons hi', List.take_append_drop]
    have hfl : ch.flatten = (ch.take i).flatten ++ (ch[i] ++ (ch.drop (i + 1)).flatten) := by
      have h := congrArg List.flatten hsplit
      rw [List.flatten_append, List.flatten_cons] at h
      exact h
    have hset : (ch.set i v.cells.toList).flatten = (ch.take i).flatten ++ (v.cells.toList ++ (ch.drop (i + 1)).flatten) := by
      rw [List.set_eq_take_append_cons_drop, if_pos hi']
      simp
    unfold Instr.fill
    simp only [hp i hi']
    rw [if_neg (by
      simp only [hsz', ne_eq, not_true_eq_false, decide_false, Bool.false_or, decide_eq_true_eq, List.size_toArray, Nat.not_lt]
      rw [hfl]; simp)]
    rw [show (v.cells.zipIdx.foldl (fun cs (x : Value × Nat) => cs.setIfInBounds ((ch.take i).flatten.length + x.2) x.1) ch.flatten.toArray) = (ch.set i v.cells.toList).flatten.toArray by
      rw [hset, hfl]
      exact splice_is (by simpa using hsz') v rfl]
    have hlen : ∀ k (h : k < (ch.set i v.cells.toList).length), (ch.set i v.cells.toList)[k].length = (ch[k]'(by simpa using h)).length := by
      intro k h
      rw [List.getElem_set]
      split
      · rename_i e; subst e; simpa using hsz'
      · rfl
    refine (fill_chunks place rest (ch.set i v.cells.toList) ?_ ?_).trans rfl
    · intro k hk
      have hk' : k < ch.length := by simpa using hk
      rw [hp k hk', hlen k hk]
      congr 2
      have : ∀ n, n ≤ ch.length → (((ch.set i v.cells.toList).take n).flatten).length = ((ch.take n).flatten).length := by
        intro n
        induction n with
        | zero => intro _; rfl
        | succ n ih =>
          intro hn
          rw [List.take_succ_eq_append_getElem (by simp; omega), List.take_succ_eq_append_getElem (by omega)]
          simp only [List.flatten_append, List.length_append, ih (by omega), List.flatten_cons, List.flatten_nil, List.append_nil]
          rw [hlen n (by simp; omega)]
      exact (this k (by omega)).symm
    · intro p hpm
      obtain ⟨h1, h2⟩ := hs p (by simp [hpm])
      refine ⟨by simpa using h1, ?_⟩
      rw [h2, hlen]

/-- A struct from parts. -/
theorem built_struct {P : Program} {t : TypeId} {i : TypeInfo} {fs : Array Field} (hi : P.info? t = some i) (hu : P.underlying t = some (.struct fs)) {z : Value} (hz : i.zero = some z) (ch : List (List Value)) (hc : z.cells.toList = ch.flatten)
    {places : List (Nat × Nat)} (hpl : fs.toList.mapM (fun f => (P.info? f.type).map fun i => (f.offset, i.size)) = some places) (hp : places = (List.range ch.length).map fun k => (((ch.take k).flatten.length), (ch.getD k []).length))
    (parts : List (Nat × Value)) (hs : ∀ p ∈ parts, ∃ h : p.1 < ch.length, p.2.cells.size = ch[p.1].length) : P.built t parts = some ((parts.foldl (fun c p => c.set p.1 p.2.cells.toList) ch).flatten.toArray) := by
  unfold Program.built
  simp only [hi, hu, hz, hpl]
  rw [show z.cells = ch.flatten.toArray by rw [← hc]]
  refine fill_chunks _ parts ch (fun k hk => ?_) hs
  rw [hp]
  simp [hk, List.getD_eq_getElem?_getD]

/-- A slice literal of elements of several cells. -/
theorem run_buildSliceN {P : Program} (w : World) (t e : TypeId) (ht : P.underlying t = some (.slice e)) (z : Value) (size bytes : Nat) (hinf : (P.info? e).map (fun i => (i.zero, i.size, i.bytes)) = some (some z, size, bytes)) (hz1 : z.cells.size = size) (hsz : 0 < size)
    (vs : List Value) (hv : ∀ v ∈ vs, v.cells.size = size) (hn0 : 0 < vs.length) (hmax : vs.length * size ≤ 16777216) :
    (Instr.buildSlice t vs.length ((vs.zipIdx 0).map fun x => (x.2, x.1)).toArray).run P w = .ok (.slice (some ⟨w.heap.size, 0, none⟩) vs.length vs.length) (w.alloc (.cells (vs.flatMap fun v => v.cells.toList).toArray e)) := by
  obtain ⟨i, hi, hi0, hi1, hi2⟩ : ∃ i, P.info? e = some i ∧ i.zero = some z ∧ i.size = size ∧ i.bytes = bytes := by
    cases hq : P.info? e with
    | none => simp [hq] at hinf
    | some i => simp [hq] at hinf; exact ⟨i, rfl, hinf.1, hinf.2.1, hinf.2.2⟩
  have hpos : vs.length * size ≠ 0 := Nat.mul_ne_zero (by omega) (by omega)
  have hne : ¬ (vs.length * size > 2 ^ 24) := by omega
  have hfill : Instr.fill (fun k => some (k * size, size)) ((Array.range (vs.length * size)).map (z.cells[· % z.cells.size]!)) ((vs.zipIdx 0).map fun x => (x.2, x.1)) = some (vs.flatMap fun v => v.cells.toList).toArray :=
    Go.Great.fill_whole hsz vs _ hv (by simp)
  unfold Instr.buildSlice
  have hsize : (sizeOf e).run P w = .ok size w := by simp [sizeOf, typeInfo, hi, hi1]
  have hzero : (zeroValue e).run P w = .ok z w := by simp [zeroValue, typeInfo, hi, hi0]
  simp only [Sem.run_bind, run_underlying ht, Result.andThen_ok, hsize, if_neg hne, if_neg hpos, hzero, Sem.run_pure, hfill]
  rfl
/-- '[]T{x}' with x of several cells. -/
theorem wp_buildSlice1 {P : Program} {ops : Array Oper} {rest : List Oper} {o : Oper} {a : Act} {w : World} {Q : Exit → Act → World → Prop} (hw : Region.wanted o (yielded ops a.tmps) = true) (t : TypeId) (x : Operand) (ho : o.op = .buildSlice t 1 #[(0, x)])
    (e : TypeId) (ht : P.underlying t = some (.slice e)) (z : Value) (size bytes : Nat) (hinf : (P.info? e).map (fun i => (i.zero, i.size, i.bytes)) = some (some z, size, bytes)) (hz1 : z.cells.size = size) (hsz : 0 < size) (hmax : size ≤ 16777216)
    (us : List Value) (hl : us.length = size) (hx : a.eval x = .agg us.toArray)
    (h : wpList P ops Q rest (a.put o.dst (.slice (some ⟨w.heap.size, 0, none⟩) 1 1)) (w.alloc (.cells us.toArray e))) : wpList P ops Q (o :: rest) a w := by
  have hrun := run_buildSliceN w t e ht z size bytes hinf hz1 hsz [.agg us.toArray] (fun v hv => by rw [List.mem_singleton.1 hv]; exact hl) (by simp) (by simpa using hmax)
  simp only [List.flatMap_cons, List.flatMap_nil, List.append_nil] at hrun
  refine BigFrame.wpList_want hw fun K hK => ?_
  have := hK _ _ h
  unfold Oper.wp execOp
  simp only [ho, List.map_toArray, List.map_cons, List.map_nil, hx, Sem.run_bind]
  have h2 : (Instr.buildSlice t 1 #[(0, .agg us.toArray)]).run P w = .ok (.slice (some ⟨w.heap.size, 0, none⟩) 1 1) (w.alloc (.cells us.toArray e)) := hrun
  rw [h2]
  exact this
end Go.Proofs.YthjaepmfkgejkaaDoor
namespace Go.Proofs.YthjaepmfkgejkaaDoor
open Go.RowKit Go.Maps
set_option linter.unusedVariables false

theorem ex_build1c {P : Program} {ρ : Operand → Value} {o : Oper} {w : World} (t : TypeId) (x : Operand) (ho : o.op = .buildSlice t 1 #[(0, x)]) (e : TypeId) (ht : P.underlying t = some (.slice e)) (z : Value) (bytes : Nat) (hinf : (P.info? e).map (fun i => (i.zero, i.size, i.bytes)) = some (some z, 1, bytes)) (hz1 : z.cells.size = 1)
    (v : Value) (hx : ρ x = v) (hv : v.cells = #[v]) : (execOp ρ o).run P w = .ok (.value (.slice (some ⟨w.heap.size, 0, none⟩) 1 1)) (w.alloc (.cells #[v] e)) := by
  have hrun := run_buildSliceN w t e ht z 1 bytes hinf hz1 (by decide) [v] (fun u hu => by rw [List.mem_singleton.1 hu, hv]; rfl) (by simp) (by simp)
  simp only [List.flatMap_cons, List.flatMap_nil, List.append_nil, hv] at hrun
  unfold execOp
  have h2 : (Instr.buildSlice t 1 #[(0, v)]).run P w = .ok (.slice (some ⟨w.heap.size, 0, none⟩) 1 1) (w.alloc (.cells #[v] e)) := hrun
  simp only [ho, List.map_toArray, List.map_cons, List.map_nil, hx, Sem.run_bind, h2, Result.andThen_ok, Sem.run_pure]
end Go.Proofs.YthjaepmfkgejkaaDoor
namespace Go.Proofs.YthjaepmfkgejkaaDoor
open Go.RowKit Go.Maps
set_option linter.unusedVariables false

/-- 'append(s, l..)' at a row of the call's own, at a step taken by hand. -/
theorem op_appW {P : Program} {o : Oper} {a : Act} {K : Act → World → Prop} {Q : Exit → Act → World → Prop} {w : World} (s x : Operand) (t : TypeId)
    (ho : o.op = .call { callee := .builtin .append, args := #[s, x], argTypes := #[t, t] })
    (base : Nat) (e : TypeId) (z : Value) (size bytes : Nat) (ht : P.underlying t = some (.slice e)) (hinf : (P.info? e).map (fun i => (i.zero, i.size, i.bytes)) = some (some z, size, bytes))
    (hz1 : z.cells.size = size) (hsz : 0 < size) (v : Value) (n : Nat) (xs : List Value) (hs : a.eval s = v) (hown : w.ownsRow base e size v n xs)
    (A : Addr) (m c : Nat) (news : List Value) (hx : a.eval x = .slice (some A) m c) (hl : news.length = m * size) (hnews : ∀ j u, news[j]? = some u → w.cell? (A.add j) = some u) (h1 : ∀ u ∈ news, u.oneCell' = true)
    (hn : n + m ≤ maxLen) (hb : (n + m) * bytes ≤ 140737488355328) (hbase : base ≤ w.heap.size)
    (h : ∀ v' w', w'.ownsRow base e size v' (n + m) (xs ++ news) → w.grownBy w' v.ownBlock → Where w.heap.size v v' → K (a.put o.dst v') w') : o.wp P a w K Q := by
  obtain ⟨i0, hi, hz0, hz2, hz3⟩ := info_parts hinf
  obtain ⟨v', w', hr, hown', hgrow, _⟩ := run_append_own (P := P) w base t o.type e i0 z size bytes ht hi hz0 hz2 hz3 hz1 hsz v n xs hown A m c news hl hnews h1 hn hb hbase
  have hwh := run_append_where (P := P) (w := w) base t o.type e i0 z size bytes ht hi hz0 hz2 hz3 hz1 hsz v n xs hown A m c news hl hnews h1 hn hb hr
  unfold Oper.wp execOp
  simp only [ho, resolve, invoke, builtin, Sem.run_bind, Sem.run_pure, Result.andThen_ok, List.map_toArray, List.map_cons, List.map_nil, hs, hx, hr]
  exact h v' w' hown' hgrow hwh

/-- What the writer has written. -/
def WrAt (w : World) (g : Nat) (xs : List UInt8) : Prop := ∃ v, w.heap[g]? = some (.cells #[v] 65 (0, 0)) ∧ w.ownsRow (g + 1) 5 1 v xs.length (idV xs)
/-- The blocks that it may write into. -/
def WrX (w : World) (g k : Nat) : Prop := k = g ∨ ∃ v T z, w.heap[g]? = some (.cells #[v] T z) ∧ v.ownBlock = some k
/-- From world to world by writing. -/
def WrGo (g : Nat) (w w' : World) : Prop := But (WrX w g) w w' ∧ ∀ i, i < w.heap.size → WrX w' g i → WrX w g i
section
variable {g : Nat} {xs ys : List UInt8} {w w' w1 w2 : World}
theorem WrAt.lt (h : WrAt w g xs) : g < w.heap.size := by
  obtain ⟨v, h1, _⟩ := h
  exact (Array.getElem?_eq_some_iff.1 h1).1
theorem WrX.at_ {v : Value} {T : TypeId} {z : Nat × Nat} (h : w.heap[g]? = some (.cells #[v] T z)) {k : Nat} (hx : WrX w g k) : k = g ∨ v.ownBlock = some k := by
  rcases hx with q | ⟨v', T', z', h', q⟩
  · exact .inl q
  · rw [h] at h'
    injection h' with h'
    injection h' with h' _ _
    injection h' with h'
    injection h' with h' _
    subst h'
    exact .inr q
theorem WrAt.low (h : WrAt w g xs) {k : Nat} (hk : k < g) : ¬ WrX w g k := by
  obtain ⟨v, h1, h2⟩ := h
  intro hx
  rcases hx.at_ h1 with q | q
  · omega
  · have := (h2.lt k q).1; omega
theorem WrAt.fresh (h : WrAt w g xs) {k : Nat} (hk : w.heap.size ≤ k) : ¬ WrX w g k := by
  have hlt := h.lt
  obtain ⟨v, h1, h2⟩ := h
  intro hx
  rcases hx.at_ h1 with q | q
  · omega
  · have := (h2.lt k q).2; omega
theorem WrGo.refl (g : Nat) (w : World) : WrGo g w w := ⟨But.refl _ _, fun _ _ h => h⟩
theorem WrGo.trans (h : WrGo g w w1) (k : WrGo g w1 w2) : WrGo g w w2 :=
  ⟨h.1.trans k.1 fun i hi hx => h.2 i hi hx, fun i hi hx => h.2 i hi (k.2 i (Nat.lt_of_lt_of_le hi h.1.size) hx)⟩
theorem WrGo.below (hg : g < w.heap.size) (h : Below w.heap.size w w') : WrGo g w w' :=
  ⟨But.of_below h, fun i hi hx => by
    rcases hx with q | ⟨v, T, z, h1, q⟩
    · exact .inl q
    · exact .inr ⟨v, T, z, (h.block g hg).symm.trans h1, q⟩⟩
theorem WrAt.keep (h : WrAt w g xs) (hb : Below w.heap.size w w') : WrAt w' g xs := by
  have hlt := h.lt
  obtain ⟨v, h1, h2⟩ := h
  exact ⟨v, (hb.block g hlt).trans h1, (But.of_below (X := NoB) hb).own h2 fun _ _ q => q⟩
theorem WrAt.newNot (h : WrAt w g xs) (hb : Below w.heap.size w w') {k : Nat} (hk : w.heap.size ≤ k) : ¬ WrX w' g k := by
  intro hx
  refine h.fresh hk ?_
  rcases hx with q | ⟨v, T, z, h1, q⟩
  · exact .inl q
  · exact .inr ⟨v, T, z, (hb.block g h.lt).symm.trans h1, q⟩
theorem WrAt.keepNot (h : WrAt w g xs) (hb : Below w.heap.size w w') {k : Nat} (hk : ¬ WrX w g k) : ¬ WrX w' g k := by
  intro hx
  refine hk ?_
  rcases hx with q | ⟨v, T, z, h1, q⟩
  · exact .inl q
  · exact .inr ⟨v, T, z, (hb.block g h.lt).symm.trans h1, q⟩
/-- What stands elsewhere stands. -/
theorem WrGo.apart (h : WrGo g w w') {k : Nat} (hk : k < w.heap.size) (hx : ¬ WrX w g k) : w'.heap[k]? = w.heap[k]? ∧ ¬ WrX w' g k := ⟨h.1.block k hk hx, fun q => hx (h.2 k hk q)⟩
theorem WrGo.cell (h : WrGo g w w') {k j : Nat} (hk : k < w.heap.size) (hx : ¬ WrX w g k) : w'.cell? ⟨k, j, none⟩ = w.cell? ⟨k, j, none⟩ := h.1.cell hk hx
theorem WrGo.belowG (h : WrGo g w w') (hw : WrAt w g xs) : Below g w w' := h.1.below (Nat.le_of_lt hw.lt) fun k hk => hw.low hk
/-- Bytes more: the world that only grew, the append, the store. -/
theorem WrAt.put {v v' : Value} (h1 : w.heap[g]? = some (.cells #[v] 65 (0, 0))) (h2 : w.ownsRow (g + 1) 5 1 v xs.length (idV xs)) (hb : Below w.heap.size w w1) (ho : w2.ownsRow (g + 1) 5 1 v' (xs.length + ys.length) (idV xs ++ idV ys))
    (hg : w1.grownBy w2 v.ownBlock) (hw : Where w1.heap.size v v') : w2.cell? ⟨g, 0, none⟩ = some v ∧ w2.frozen? ⟨g, 0, none⟩ = false ∧ WrAt (w2.setCell ⟨g, 0, none⟩ v') g (xs ++ ys) ∧ WrGo g w (w2.setCell ⟨g, 0, none⟩ v') := by
  have hlt := (Array.getElem?_eq_some_iff.1 h1).1
  have hlt1 := Nat.lt_of_lt_of_le hlt hb.size
  have hne : v.ownBlock ≠ some g := fun e => by have := (h2.lt g e).1; omega
  have hne' : v'.ownBlock ≠ some g := fun e => by have := (ho.lt g e).1; omega
  have hg2 : w2.heap[g]? = some (.cells #[v] 65 (0, 0)) := ((hg.block g hlt1 (fun e => hne e.symm)).trans (hb.block g hlt)).trans h1
  have hset : (w2.setCell ⟨g, 0, none⟩ v').heap[g]? = some (.cells #[v'] 65 (0, 0)) := by
    obtain ⟨hl2, he2⟩ := Array.getElem?_eq_some_iff.1 hg2
    simp [World.setCell, Array.getElem?_modify, hg2]
  refine ⟨?_, ?_, ⟨v', hset, ?_⟩, ?_, ?_⟩
  · simp [World.cell?, hg2]
  · simp [World.frozen?, hg2]
  · have hbut : But (fun k => k = g) w2 (w2.setCell ⟨g, 0, none⟩ v') := But.setCell (X := fun k => k = g) (But.refl _ _) (p := ⟨g, 0, none⟩) (fun _ => rfl) v'
    have := hbut.own ho fun k hk e => hne' (by rw [hk, e])
    rw [List.length_append, idV_app]
    exact this
  · refine But.setCell (But.grown (But.of_below hb) hg fun k hk _ => .inr ⟨v, _, _, h1, hk⟩) (fun _ => .inl rfl) v'
  · intro i hi hx
    rcases hx.at_ hset with q | q
    · exact .inl q
    · rcases hw with e | ⟨k, e, hk⟩
      · exact .inr ⟨v, _, _, h1, by rw [← e]; exact q⟩
      · rw [e] at q
        injection q with q
        have := hb.size
        omega
end
theorem own_addr {w : World} {base : Nat} {e : TypeId} {sz : Nat} {v : Value} {n : Nat} {xs : List Value} (h : w.ownsRow base e sz v n xs) (hn : 0 < n) : ∃ k c, v = .slice (some ⟨k, 0, none⟩) n c ∧ ∀ j u, xs[j]? = some u → w.cell? ((⟨k, 0, none⟩ : Addr).add j) = some u := by
  rcases h.2 with ⟨_, h0⟩ | ⟨k, cap, cur, rfl, r⟩
  · omega
  · exact ⟨k, cap, rfl, h.cells rfl⟩
end Go.Proofs.YthjaepmfkgejkaaDoor
namespace Go.Proofs.YthjaepmfkgejkaaDoor
open Go.RowKit Go.Maps
set_option linter.unusedVariables false
set_option linter.unusedSimpArgs false

set_option maxHeartbeats 4000000 in
set_option maxRecDepth 100000 in
theorem wnum_any (g n : Nat) (xs : List UInt8) (w : World) (hw : WrAt w g xs) (hn : n < 9223372036854775808) (hx : xs.length ≤ 1099511627776) :
    Calls Tryd.prog 46 #[.pointer (some ⟨g, 0, none⟩), .int .i64 (n : Int)] w fun e w' => e = .returned (.tuple #[]) ∧ WrAt w' g (xs ++ numB n) ∧ WrGo g w w' := by
  have HLT := Lib.hid hw.lt
  obtain ⟨v, hhg, how⟩ := hw
  have HHG := Lib.hid hhg; have HOW := Lib.hid how
  have HCV := Lib.hid (show w.cell? ⟨g, 0, none⟩ = some v from cells_at0 hhg 0)
  clear hhg how
  have hlen := numB_len10 (n := n) (by omega)
  have hpos := numB_pos n
  have HWF : IntKind.u64.wrap (n : Int) = (n : Int) := IntWalk.u64_in _ ⟨by omega, by omega⟩
  clear HWF
  go_enter Tryd.func46, Tryd.ntmps46
  go_wp2_with (first
    | (go_at_call 79; refine (put_nil n hn w).mono ?_; rintro e w1 ⟨v1, rfl, ho1, hb1⟩
       obtain ⟨k1, c1, rfl, hcs1⟩ := own_addr ho1 hpos
       have HC1 := Lib.hid hcs1
       have HB1 := Lib.hid hb1
       have hc1 : w1.cell? ⟨g, 0, none⟩ = some v := (hb1.cell (p := ⟨g, 0, none⟩) HLT.out).trans HCV.out
       have HOW1 := Lib.hid ((But.of_below (X := NoB) hb1).own HOW.out fun _ _ q => q)
       have HSZ1 := Lib.hid hb1.size
       clear hcs1 ho1 hb1)
    | (refine wp_appS_w (by rfl) _ _ 30 rfl (g + 1) 5 (.int .u8 0) 1 1 Tryd.underlying30 info_u8 rfl (by decide) v xs.length (idV xs) rfl HOW1.out ⟨k1, 0, none⟩ (numB n).length c1 (idV (numB n)) rfl (by rw [idV_length, Nat.mul_one]) HC1.out (idV_one _) (by unfold maxLen; omega) (by omega) (Nat.le_trans HLT.out HSZ1.out) ?_
       intro v9 w9 ho9 hg9 hw9
       obtain ⟨A9, c9, rfl⟩ := own_form' ho9
       obtain ⟨cg, cf, hat, hgo⟩ := WrAt.put HHG.out HOW.out HB1.out ho9 hg9 hw9
       have HAT := Lib.hid hat; have HGO := Lib.hid hgo
       clear ho9 hg9 hw9 hat hgo))
  go_end0
  exact ⟨rfl, HAT.out, HGO.out⟩
set_option maxHeartbeats 4000000 in
set_option maxRecDepth 100000 in
theorem wtext_any (g : Nat) (s : ByteArray) (xs : List UInt8) (w : World) (hw : WrAt w g xs) (hs : s.size ≤ 1099511627776) (hx : xs.length ≤ 1099511627776) :
    Calls Tryd.prog 48 #[.pointer (some ⟨g, 0, none⟩), .string s] w fun e w' => e = .returned (.tuple #[]) ∧ WrAt w' g (xs ++ textB (L s)) ∧ WrGo g w w' := by
  have HLT := Lib.hid hw.lt
  obtain ⟨v, hhg, how⟩ := hw
  have HHG := Lib.hid hhg; have HOW := Lib.hid how
  have HCV := Lib.hid (show w.cell? ⟨g, 0, none⟩ = some v from cells_at0 hhg 0)
  clear hhg how
  have hlen : (textB (L s)).length ≤ 10 + s.size := by
    have := numB_len10 (n := (L s).length) (by rw [L_length]; omega)
    unfold textB
    rw [List.length_append, L_length]
    rw [L_length] at this
    omega
  have hpos : 0 < (textB (L s)).length := by
    have := numB_pos (L s).length
    unfold textB
    rw [List.length_append]
    omega
  have hE1 : ∀ (u : World) (args : Array Value), (callFunc 80 args).run Tryd.prog u = .ok (.enter 80 args) u := fun u args => enters_of Tryd.func80 (by kernel_rfl) rfl args u
  go_enter Tryd.func48, Tryd.ntmps48
  go_upto_region 0 with fail
  refine wp_region_N 10 (fun u => u.cell? ⟨g, 0, none⟩ = some v) (by kernel_rfl) ?_
  have hF0 : (fun u => u.cell? ⟨g, 0, none⟩ = some v) w.drew := HCV.out
  refine tw 0 (.pointer (some ⟨g, 0, none⟩)) ?_
  go_frame
  refine tw 1 (.pointer (some ⟨g, 0, none⟩)) ?_
  go_frame
  refine tw 2 (.pointer (some ⟨g, 0, none⟩)) ?_
  go_frame
  refine tw 3 (.pointer (some ⟨g, 0, none⟩)) ?_
  go_frame
  refine tkF 4 (v) (by kernel_rfl) rfl (fun _ _ _ h => h) (by rfl) hF0 (fun w' hw' => ex_load1 30 _ rfl (p := ⟨g, 0, none⟩) rfl Tryd.underlying30 rfl hw') ?_
  go_frame
  refine tw 5 (.string s) ?_
  go_frame
  refine ta 6 ?_
  refine wpOp_call _ rfl (by kernel_rfl) (ex_callFn (f := 80) (args := #[.slice none 0 0, .string s]) rfl rfl (fun args w => hE1 w args) (by simp only [List.map_toArray, List.map_cons, List.map_nil]; rfl)) ?_
  refine (putText_nil s hs w.drew).mono ?_
  rintro e w1 ⟨v1, rfl, ho1, hb1⟩
  replace hb1 : Below w.heap.size w w1 := ((Below.refl _ _).drew).trans hb1
  obtain ⟨k1, c1, rfl, hcs1⟩ := own_addr ho1 hpos
  have HC1 := Lib.hid hcs1
  have HB1 := Lib.hid hb1
  have hc1 : w1.cell? ⟨g, 0, none⟩ = some v := (hb1.cell (p := ⟨g, 0, none⟩) HLT.out).trans HCV.out
  have HOW1 := Lib.hid ((But.of_below (X := NoB) hb1).own HOW.out fun _ _ q => q)
  have HSZ1 := Lib.hid hb1.size
  clear hcs1 ho1 hb1
  refine ⟨_, rfl, fun _ _ => hc1, ?_⟩
  go_frame
  refine ta 7 ?_
  refine wpOp_wp _ rfl (by kernel_rfl) ?_
  refine op_appW _ _ 30 rfl (g + 1) 5 (.int .u8 0) 1 1 Tryd.underlying30 info_u8 rfl (by decide) v xs.length (idV xs) rfl HOW1.out ⟨k1, 0, none⟩ (textB (L s)).length c1 (idV (textB (L s))) rfl (by rw [idV_length, Nat.mul_one]) HC1.out (idV_one _) (by unfold maxLen; omega) (by omega) (Nat.le_trans HLT.out HSZ1.out) ?_
  intro v9 w9 ho9 hg9 hw9
  obtain ⟨A9, c9, rfl⟩ := own_form' ho9
  obtain ⟨cg, cf, hat, hgo⟩ := WrAt.put HHG.out HOW.out HB1.out ho9 hg9 hw9
  have HAT := Lib.hid hat; have HGO := Lib.hid hgo
  clear ho9 hg9 hw9 hat hgo
  refine ⟨fun _ _ => cg, ?_⟩
  go_frame
  refine tw 8 (.pointer (some ⟨g, 0, none⟩)) ?_
  go_frame
  refine tw 9 (.pointer (some ⟨g, 0, none⟩)) ?_
  go_frame
  refine ta 10 ?_
  refine wpOp_skip _ rfl (by kernel_rfl) (ex_store1 30 _ _ rfl g 0 (.slice A9 (xs.length + (textB (L s)).length) c9) rfl rfl rfl rfl (by kernel_rfl) cg cf) ?_
  refine ⟨fun h => absurd h (by decide), ?_⟩
  go_frame
  refine wpAnyN_done (by kernel_rfl) ?_ _
  go_wp2_with fail
  go_end0
  exact ⟨rfl, HAT.out, HGO.out⟩
end Go.Proofs.YthjaepmfkgejkaaDoor
namespace Go.Proofs.YthjaepmfkgejkaaDoor
open Go.RowKit
set_option linter.unusedVariables false

theorem run_bytesOf {P : Program} {w : World} {b off : Nat} {l : List UInt8} (cap : Nat) (hc : Lib.Bytes w b off ⟨l.toArray⟩) : (Extern.Bytes.bytesOf (.slice (some ⟨b, off, none⟩) l.length cap)).run P w = .ok ⟨l.toArray⟩ w := by
  have h := Lib.run_loadBytesX (P := P) (w := w) (l.map fun c => (c.toNat : Int)) ⟨b, off, none⟩ .empty (fun j x hj => by
    rw [List.getElem?_map] at hj
    rcases hl : l[j]? with _ | c
    · rw [hl] at hj; cases hj
    · rw [hl] at hj
      obtain ⟨hlt, hcj⟩ := List.getElem?_eq_some_iff.1 hl
      have e1 : (⟨b, off, none⟩ : Addr).add j = ⟨b, off + j, none⟩ := by unfold Addr.add; split <;> simp_all
      have hs : j < (⟨l.toArray⟩ : ByteArray).size := by simpa [ByteArray.size] using hlt
      have e2 : (⟨l.toArray⟩ : ByteArray)[j] = l[j] := by
        show (l.toArray)[j] = l[j]
        simp
      simp only [Option.map_some, Option.some.injEq] at hj
      rw [e1, hc j hs, e2, hcj, hj])
  rw [List.length_map] at h
  show (Extern.Bytes.loadBytes ⟨b, off, none⟩ l.length .empty).run P w = _
  rw [h]
  congr 2
  have e3 : Lib.bytesOf (l.map fun c => (c.toNat : Int)) = l := by
    unfold Lib.bytesOf
    rw [List.map_map]
    conv => rhs; rw [← List.map_id l]
    apply List.map_congr_left
    intro c _
    simp
  rw [e3]
  simp [ByteArray.empty, ByteArray.emptyWithCapacity]
  rfl
set_option maxRecDepth 100000 in
theorem bytesCompare_any (a b : List UInt8) (ga oa ca gb ob cb : Nat) (w : World) (ha : Lib.Bytes w ga oa ⟨a.toArray⟩) (hb : Lib.Bytes w gb ob ⟨b.toArray⟩) :
    Calls Tryd.prog 65 #[.slice (some ⟨ga, oa, none⟩) a.length ca, .slice (some ⟨gb, ob, none⟩) b.length cb] w fun e w' => e = .returned (.int .i64 (cmpB a b)) ∧ w' = w := by
  have hcmp : (Extern.BytealgCompare.compare #[.slice (some ⟨ga, oa, none⟩) a.length ca, .slice (some ⟨gb, ob, none⟩) b.length cb]).run Tryd.prog w = .ok (.int .i64 (cmpB a b)) w := by
    change Sem.run Tryd.prog (do pure (goInt (Extern.BytealgCompare.cmp (← Extern.Bytes.bytesOf (.slice (some ⟨ga, oa, none⟩) a.length ca)) (← Extern.Bytes.bytesOf (.slice (some ⟨gb, ob, none⟩) b.length cb))))) w = _
    simp only [Sem.run_bind, Sem.run_pure, run_bytesOf ca ha, run_bytesOf cb hb, Result.andThen]
    rw [Lib.cmp_eq]
    rfl
  go_enter Tryd.func65, Tryd.ntmps65
  go_wp2
  rw [run_callFunc_extern Tryd.func96 (by kernel_rfl) (by kernel_rfl) (by kernel_rfl) (e := Extern.BytealgCompare.compare) (by kernel_rfl), hcmp]
  simp only [Result.andThen]
  rw [Oper.upon_value]
  go_wp2
  go_ret
  exact ⟨rfl, rfl⟩

theorem bytes_box {w : World} {g : Nat} {l : List UInt8} {t : TypeId} {fr : Nat × Nat} (h : w.heap[g]? = some (.cells (idV l).toArray t fr)) : Lib.Bytes w g 0 ⟨l.toArray⟩ := by
  intro i hi
  have hi' : i < l.length := by simpa [ByteArray.size] using hi
  rw [Nat.zero_add, cell_of_row w g i _ t fr h]
  have e2 : (⟨l.toArray⟩ : ByteArray)[i] = l[i] := by
    show (l.toArray)[i] = l[i]
    simp
  rw [e2]
  simp [idV, hi']

set_option maxHeartbeats 1000000 in
set_option maxRecDepth 100000 in
theorem compare_gr (a b : List UInt8) (w : World) (ha : IdOk a) (hb : IdOk b) :
    Calls Tryd.prog 35 #[.agg (idV a).toArray, .agg (idV b).toArray] w fun e w' => Gr w w' ∧ e = .returned (.int .i64 (cmpB a b)) := by
  have h1 : (w.alloc (.cells (idV a).toArray 45)).heap[w.heap.size]? = some (.cells (idV a).toArray 45 (0, 0)) := heap_alloc_new _ _
  go_enter Tryd.func35, Tryd.ntmps35
  go_upto_region 1 with fail
  obtain ⟨W, hW⟩ : ∃ W, (w.alloc (.cells (idV a).toArray 45)).alloc (.cells (idV b).toArray 45) = W := ⟨_, rfl⟩
  have hba : Lib.Bytes W w.heap.size 0 ⟨a.toArray⟩ := by
    rw [← hW]
    exact bytes_box (t := 45) (fr := (0, 0)) ((heap_alloc_old (w.alloc (.cells (idV a).toArray 45)) _ (by simp)).trans h1)
  have hbb : Lib.Bytes W (w.heap.size + 1) 0 ⟨b.toArray⟩ := by
    rw [← hW]
    have := heap_alloc_new (w.alloc (.cells (idV a).toArray 45)) (.cells (idV b).toArray 45)
    rw [World.size_alloc] at this
    exact bytes_box (t := 45) (fr := (0, 0)) this
  have hbW : Gr w W := by rw [← hW]; exact ((Gr.refl _).alloc _).alloc _
  rw [hW]
  clear hW h1
  have HA := Lib.hid hba; clear hba
  have HB := Lib.hid hbb; clear hbb
  have hcall := fun q => bytesCompare_any a b w.heap.size 0 32 (w.heap.size + 1) 0 32 (W.drewN q) (HA.out.drewN q) (HB.out.drewN q)
  rw [show a.length = 32 from ha, show b.length = 32 from hb] at hcall
  have HCALL := Lib.hid hcall; clear hcall
  go_quiet ((go_at_call 65; exact Calls.quiet_of_same (HCALL.out _)))
  go_wp2_with fail
  go_ret
  exact ⟨hbW.drewN _, rfl⟩
theorem compare_any (a b : List UInt8) (w : World) (ha : IdOk a) (hb : IdOk b) :
    Calls Tryd.prog 35 #[.agg (idV a).toArray, .agg (idV b).toArray] w fun e w' => Below w.heap.size w w' ∧ e = .returned (.int .i64 (cmpB a b)) :=
  (compare_gr a b w ha hb).mono fun _ _ ⟨h, e⟩ => ⟨h.below, e⟩
end Go.Proofs.YthjaepmfkgejkaaDoor
namespace Go.Proofs.YthjaepmfkgejkaaDoor
open Go.RowKit
set_option linter.unusedVariables false

theorem sizeId2 : (Tryd.prog.info? 45).map (·.size) = some 32 := by kernel_rfl

set_option maxHeartbeats 1000000 in
set_option maxRecDepth 100000 in
theorem isSet_any (l : List (List UInt8)) (A : Option Addr) (c : Nat) (w : World) (hn : l.length ≤ 1099511627776) (ho : IdsOk l) (hsl : Sl w w.heap.size A l.length 32 (idsV l)) :
    Calls Tryd.prog 16 #[.slice A l.length c] w fun e w' => Below w.heap.size w w' ∧ e = .returned (.bool (isSetB l)) := by
  have HSL := Lib.hid hsl; clear hsl
  have HO := Lib.hid ho; clear ho
  go_enter Tryd.func16, Tryd.ntmps16
  go_wp2_with fail
  go_loopw [6] (fun t wr => ∃ i : Nat, i ≤ l.length ∧ t = .int .i64 i ∧ Below w.heap.size w wr ∧ Hid (∀ j (h : j + 1 < l.length), j + 1 < i → cmpB (l[j]'(by omega)) l[j + 1] < 0)) (fun t _ => l.length - (intOf t).toNat)
  case atStart => exact ⟨0, by omega, rfl, Below.refl _ _, Lib.hid fun j _ hj => absurd hj (by omega)⟩
  case round =>
    obtain ⟨i, hi, rfl, hbr, hI⟩ := hrel
    by_cases hlt : i < l.length
    · by_cases h0 : i = 0
      · have hg : decide ((0 : Int) < (i : Int)) = false := by simp; omega
        have hg2 : decide (0 < i) = false := by simp; omega
        have hg3 : (i : Int) ≤ 0 := by omega
        have H0 := Lib.hid h0; clear h0
        go_wp2_with fail
        go_quiet (fail)
        go_wp2_with fail
        go_roundw
        case rel => exact ⟨i + 1, by omega, by go_num, below_drewN hbr _, Lib.hid fun j _ hj => absurd hj (by have := H0.out; omega)⟩
        case measure => simp [intOf]; omega
      · have hg : decide ((0 : Int) < (i : Int)) = true := by simp; omega
        have hg2 : decide (0 < i) = true := by simp; omega
        have i1 : (0 : Int) ≤ (i : Int) - 1 := by omega
        have i2 : (1 : Int) ≤ (i : Int) := by omega
        have i3 : (i : Int) < (l.length : Int) := by omega
        have i4 : ((i : Int) - 1) < (l.length : Int) := by omega
        obtain ⟨b, off, rfl, hbl, hcl⟩ := (HSL.out.keep hbr).2 (by omega)
        have c1 := Sl.id (B := 0) HO.out hcl (i := i - 1) (by omega)
        have c2 := Sl.id (B := 0) HO.out hcl (i := i) hlt
        have e1 : IntKind.i64.wrap ((i : Int) - 1) = ((i - 1 : Nat) : Int) := by rw [IntWalk.i64_in _ ⟨by omega, by omega⟩]; omega
        have e2 : ((i - 1 : Nat) : Int) < (l.length : Int) := by omega
        have C1 := Lib.hid c1; clear c1
        have C2 := Lib.hid c2; clear c2
        clear hcl
        go_wp2_with fail
        refine wp_region_still_tail 12 (by kernel_rfl) (by kernel_rfl) ?_
        simp only [List.take_succ_cons, List.take_zero, List.drop_succ_cons, List.drop_zero]
        repeat still_step
        refine wpStill_loadN (by rfl) 45 _ rfl b _ rfl (idV (l[i - 1]'(by omega))) _ C1.out Tryd.underlying45 rfl (by rw [idV_length, HO.out _ (List.getElem_mem _)]; exact sizeId2) ?_
        repeat still_step
        refine wpStill_loadN (by rfl) 45 _ rfl b _ rfl (idV l[i]) _ C2.out Tryd.underlying45 rfl (by rw [idV_length, HO.out _ (List.getElem_mem _)]; exact sizeId2) ?_
        refine wpStill_nil ?_
        change wpList _ _ _ _ _ wr.drew
        generalize hwd : wr.drew = w2
        have hbr2 : Below w.heap.size w w2 := by rw [← hwd]; exact hbr.drew
        clear hwd
        clear e1
        go_wp2_with fail
        refine (compare_any (l[i - 1]'(by omega)) l[i] _ (HO.out _ (List.getElem_mem _)) (HO.out _ (List.getElem_mem _))).mono ?_
        have hstop : 0 ≤ cmpB (l[i - 1]'(by omega)) l[i] → isSetB l = false := by
          intro h
          rw [Bool.eq_false_iff]
          intro h2
          have := isSetB_iff.1 h2 (i - 1) (by omega)
          simp only [show i - 1 + 1 = i by omega] at this
          omega
        have hgo : cmpB (l[i - 1]'(by omega)) l[i] < 0 → ∀ j (h : j + 1 < l.length), j + 1 < i + 1 → cmpB (l[j]'(by omega)) l[j + 1] < 0 := by
          intro h j hj hji
          rcases (by omega : j + 1 < i ∨ j + 1 = i) with q | q
          · exact hI.out j hj q
          · have e1 : j = i - 1 := by omega
            subst e1
            simp only [show i - 1 + 1 = i by omega]
            exact h
        have HST := Lib.hid hstop; clear hstop
        have HGO := Lib.hid hgo; clear hgo
        generalize cmpB (l[i - 1]'(by omega)) l[i] = q at *
        rintro e w3 ⟨hb3, rfl⟩
        have hbr3 := hbr2.trans (hb3.mono hbr2.size)
        by_cases hq : 0 ≤ q
        · have hno := HST.out hq
          have HNO := Lib.hid hno; clear hno
          go_wp2_with fail
          go_ret
          exact ⟨hbr3, by rw [HNO.out]; rfl⟩
        · have hq2 : q < 0 := by omega
          go_wp2_with fail
          go_roundw
          case rel => exact ⟨i + 1, by omega, by go_num, hbr3, Lib.hid (HGO.out hq2)⟩
          case measure => simp [intOf]; omega
    · go_wp2_with fail
      go_ret
      refine ⟨hbr, ?_⟩
      have : isSetB l = true := isSetB_iff.2 fun j hj => hI.out j hj (by omega)
      rw [this]; rfl
end Go.Proofs.YthjaepmfkgejkaaDoor
namespace Go.Proofs.YthjaepmfkgejkaaDoor
open Go.RowKit
set_option linter.unusedVariables false

/-- An id's place in a set, and whether it is there. -/
def FindGives (l : List (List UInt8)) (x : List UInt8) (w : World) (e : Ending) (w' : World) : Prop :=
  Below w.heap.size w w' ∧ ∃ n : Nat, e = .returned (.tuple #[.int .i64 n, .bool (isSetB l && decide (x ∈ l))]) ∧ n ≤ l.length ∧ ((isSetB l && decide (x ∈ l)) = true → l[n]? = some x)
theorem FindGives.yes {l : List (List UInt8)} {x : List UInt8} {w w' : World} {e : Ending} {n : Nat} (hs : isSetB l = true) (h : l[n]? = some x) (hb : Below w.heap.size w w') (he : e = .returned (.tuple #[.int .i64 n, .bool true])) : FindGives l x w e w' := by
  have hm : (isSetB l && decide (x ∈ l)) = true := by rw [hs]; simpa using List.mem_of_getElem? h
  refine ⟨hb, n, by rw [hm]; exact he, ?_, fun _ => h⟩
  have := (List.getElem?_eq_some_iff.1 h).1
  omega
theorem FindGives.no {l : List (List UInt8)} {x : List UInt8} {w w' : World} {e : Ending} {n : Nat} (hm : (isSetB l && decide (x ∈ l)) = false) (hn : n ≤ l.length) (hb : Below w.heap.size w w') (he : e = .returned (.tuple #[.int .i64 n, .bool false])) : FindGives l x w e w' :=
  ⟨hb, n, by rw [hm]; exact he, hn, fun h => by rw [hm] at h; cases h⟩

/-- The halving's state. -/
def Halving (l : List (List UInt8)) (x : List UInt8) (lo hi : Nat) : Prop :=
  (∀ j (h : j < l.length), j < lo → cmpB l[j] x < 0) ∧ (∀ j (h : j < l.length), hi ≤ j → 0 < cmpB l[j] x)
theorem Halving.start (l : List (List UInt8)) (x : List UInt8) : Halving l x 0 l.length := ⟨fun j _ h => absurd h (by omega), fun j h h' => absurd h (by omega)⟩
theorem Halving.up {l : List (List UInt8)} {x : List UInt8} {lo hi m : Nat} (h : Halving l x lo hi) (hs : isSetB l = true) (hm : m < l.length) (hc : cmpB l[m] x < 0) : Halving l x (m + 1) hi := by
  refine ⟨fun j hj hjm => ?_, h.2⟩
  rcases (by omega : j < m ∨ j = m) with q | q
  · exact cmpB_trans ((List.pairwise_iff_getElem.1 (isSetB_pair hs)) j m hj hm q) hc
  · subst q; exact hc
theorem Halving.down {l : List (List UInt8)} {x : List UInt8} {lo hi m : Nat} (h : Halving l x lo hi) (hs : isSetB l = true) (hm : m < l.length) (hc : 0 < cmpB l[m] x) : Halving l x lo m := by
  refine ⟨h.1, fun j hj hjm => ?_⟩
  rcases (by omega : m < j ∨ j = m) with q | q
  · have h1 := (List.pairwise_iff_getElem.1 (isSetB_pair hs)) m j hm hj q
    have h2 : cmpB x l[m] < 0 := by rw [cmpB_swap]; omega
    have := cmpB_trans h2 h1
    rw [cmpB_swap] at this
    omega
  · subst q; exact hc
theorem Halving.end {l : List (List UInt8)} {x : List UInt8} {lo hi : Nat} (h : Halving l x lo hi) (he : hi ≤ lo) : x ∉ l := by
  intro hx
  obtain ⟨j, hj, rfl⟩ := List.getElem_of_mem hx
  rcases (by omega : j < lo ∨ hi ≤ j) with q | q
  · have := h.1 j hj q
    rw [cmpB_self] at this; omega
  · have := h.2 j hj q
    rw [cmpB_self] at this; omega

set_option maxHeartbeats 2000000 in
set_option maxRecDepth 100000 in
theorem place_any (l : List (List UInt8)) (x : List UInt8) (A : Option Addr) (c : Nat) (w : World) (hn : l.length ≤ 1099511627776) (ho : IdsOk l) (hx : IdOk x) (hs : isSetB l = true) (hsl : Sl w w.heap.size A l.length 32 (idsV l)) :
    Calls Tryd.prog 34 #[.slice A l.length c, .agg (idV x).toArray] w (FindGives l x w) := by
  have HSL := Lib.hid hsl; clear hsl
  have HO := Lib.hid ho; clear ho
  have HS := Lib.hid hs; clear hs
  have hxl : (idV x).length = 32 := by rw [idV_length]; exact hx
  go_enter Tryd.func34, Tryd.ntmps34
  go_upto_region 1 with fail
  obtain ⟨W0, hW0⟩ : ∃ W0, w.alloc (.cells (idV x).toArray 45) = W0 := ⟨_, rfl⟩
  have hb0 : Below w.heap.size w W0 := by rw [← hW0]; exact (Below.refl _ _).alloc (Nat.le_refl _) _
  have hg0 : W0.heap[w.heap.size]? = some (.cells (idV x).toArray 45 (0, 0)) := by rw [← hW0]; exact heap_alloc_new _ _
  have hz0 : w.heap.size < W0.heap.size := by rw [← hW0]; simp
  rw [hW0]
  have HX : Hid (∀ j u, (idV x)[j]? = some u → W0.cell? ⟨w.heap.size, 0 + j, none⟩ = some u) := Lib.hid (fun j u hj => by
    rw [Nat.zero_add, cell_of_row W0 w.heap.size j _ _ _ hg0]; simpa using hj)
  clear hW0 hg0
  go_wp2_with fail
  go_loopw [6, 7] (fun t6 t7 wr => ∃ lo hi : Nat, lo ≤ hi ∧ hi ≤ l.length ∧ t6 = .int .i64 lo ∧ t7 = .int .i64 hi ∧ Below W0.heap.size W0 wr ∧ Hid (Halving l x lo hi)) (fun t6 t7 _ => (intOf t7).toNat - (intOf t6).toNat)
  case atStart => exact ⟨0, l.length, by omega, by omega, rfl, rfl, Below.refl _ _, Lib.hid (Halving.start l x)⟩
  case round =>
    obtain ⟨lo, hi, hlh, hhl, rfl, rfl, hbr, hH⟩ := hrel
    have hbw := hb0.trans (hbr.mono (by omega))
    by_cases hlt : lo < hi
    · obtain ⟨m, hm⟩ : ∃ m, m = lo + (hi - lo) / 2 := ⟨_, rfl⟩
      have hm1 : lo ≤ m := by omega
      have hm2 : m < hi := by omega
      have em : (lo : Int) + ((hi : Int) - (lo : Int)) / 2 = (m : Int) := by omega
      clear hm
      have i0 : (0 : Int) ≤ (m : Int) := by omega
      have i1 : (m : Int) < (l.length : Int) := by omega
      obtain ⟨b, off, rfl, hbl, hcl⟩ := (HSL.out.keep hbw).2 (by omega)
      have C1 : Hid _ := Lib.hid (Sl.id (B := 0) HO.out hcl (i := m) (by omega))
      have C2 : Hid (∀ j u, (idV x)[j]? = some u → wr.cell? ⟨w.heap.size, 0 + j, none⟩ = some u) := Lib.hid (fun j u hj => (hbr.cell (p := ⟨w.heap.size, 0 + j, none⟩) hz0).trans (HX.out j u hj))
      clear hcl
      go_upto_region 4 with fail
      clear em
      refine wp_region_still_tail 5 (by kernel_rfl) (by kernel_rfl) ?_
      simp only [List.take_succ_cons, List.take_zero, List.drop_succ_cons, List.drop_zero]
      repeat still_step
      refine wpStill_loadN (by rfl) 45 _ rfl b _ rfl (idV (l[m]'(by omega))) _ C1.out Tryd.underlying45 rfl (by rw [idV_length, HO.out _ (List.getElem_mem _)]; exact sizeId2) ?_
      refine wpStill_loadN (by rfl) 45 _ rfl w.heap.size 0 rfl (idV x) _ C2.out Tryd.underlying45 rfl (by rw [hxl]; exact sizeId2) ?_
      refine wpStill_nil ?_
      change wpList _ _ _ _ _ wr.drew
      generalize hwd : wr.drew = w2
      have hbr2 : Below W0.heap.size W0 w2 := by rw [← hwd]; exact hbr.drew
      clear hwd
      go_wp2_with fail
      refine (compare_any (l[m]'(by omega)) x _ (HO.out _ (List.getElem_mem _)) hx).mono ?_
      have hup := hH.out.up HS.out (m := m) (by omega)
      have hdn := hH.out.down HS.out (m := m) (by omega)
      have heq : cmpB (l[m]'(by omega)) x = 0 → l[m]? = some x := fun h => by rw [List.getElem?_eq_getElem (by omega), cmpB_zero.1 h]
      have HUP := Lib.hid hup; clear hup
      have HDN := Lib.hid hdn; clear hdn
      have HEQ := Lib.hid heq; clear heq
      generalize cmpB (l[m]'(by omega)) x = q at *
      rintro e w3 ⟨hb3, rfl⟩
      have hbr3 := hbr2.trans (hb3.mono hbr2.size)
      have hbw3 := hb0.trans (hbr3.mono (by omega))
      rcases (by omega : q = 0 ∨ q < 0 ∨ 0 < q) with hq | hq | hq
      · have hf := HEQ.out hq
        have HF := Lib.hid hf; clear hf
        have hq2 : (q == 0) = true := by simp [hq]
        clear hq
        go_wp2_with fail
        go_ret2
        exact FindGives.yes HS.out HF.out hbw3 rfl
      · have hu := HUP.out hq
        have HU := Lib.hid hu; clear hu
        have hq2 : (q == 0) = false := by simp; omega
        go_wp2_with fail
        go_roundw
        case rel => exact ⟨m + 1, hi, by omega, by omega, by go_num, rfl, hbr3, HU⟩
        case measure => simp [intOf]; omega
      · have hu := HDN.out hq
        have HU := Lib.hid hu; clear hu
        have hq2 : (q == 0) = false := by simp; omega
        go_wp2_with fail
        go_roundw
        case rel => exact ⟨lo, m, by omega, by omega, rfl, by go_num, hbr3, HU⟩
        case measure => simp [intOf]; omega
    · have hno := hH.out.end (by omega)
      have HNO := Lib.hid hno; clear hno
      go_wp2_with fail
      go_ret2
      exact FindGives.no (by simp [HNO.out]) (by omega) hbw rfl

set_option maxHeartbeats 1000000 in
set_option maxRecDepth 100000 in
theorem find_any (l : List (List UInt8)) (x : List UInt8) (A : Option Addr) (c : Nat) (w : World) (hn : l.length ≤ 1099511627776) (ho : IdsOk l) (hx : IdOk x) (hsl : Sl w w.heap.size A l.length 32 (idsV l)) :
    Calls Tryd.prog 15 #[.slice A l.length c, .agg (idV x).toArray] w (FindGives l x w) := by
  have HSL := Lib.hid hsl; clear hsl
  have HO := Lib.hid ho; clear ho
  have hxl : (idV x).length = 32 := by rw [idV_length]; exact hx
  go_enter Tryd.func15, Tryd.ntmps15
  go_upto_region 1 with fail
  obtain ⟨W0, hW0⟩ : ∃ W0, w.alloc (.cells (idV x).toArray 45) = W0 := ⟨_, rfl⟩
  have hb0 : Below w.heap.size w W0 := by rw [← hW0]; exact (Below.refl _ _).alloc (Nat.le_refl _) _
  have hg0 : W0.heap[w.heap.size]? = some (.cells (idV x).toArray 45 (0, 0)) := by rw [← hW0]; exact heap_alloc_new _ _
  have hz0 : w.heap.size < W0.heap.size := by rw [← hW0]; simp
  rw [hW0]
  have HX : Hid (∀ j u, (idV x)[j]? = some u → W0.cell? ⟨w.heap.size, 0 + j, none⟩ = some u) := Lib.hid (fun j u hj => by
    rw [Nat.zero_add, cell_of_row W0 w.heap.size j _ _ _ hg0]; simpa using hj)
  clear hW0 hg0
  have HSL0 := Lib.hid ((HSL.out.keep hb0).more hb0.size)
  go_wp2_with fail
  refine (isSet_any l A c _ hn HO.out HSL0.out).mono ?_
  cases hs : isSetB l
  · have HS := Lib.hid hs; clear hs
    rintro e w1 ⟨hb1, rfl⟩
    go_wp2_with fail
    go_ret2
    exact FindGives.no (by rw [HS.out]; rfl) (Nat.zero_le _) (hb0.trans (hb1.mono hb0.size)) rfl
  · have HS := Lib.hid hs; clear hs
    rintro e w1 ⟨hb1, rfl⟩
    have hb01 := hb0.trans (hb1.mono hb0.size)
    have HSL1 := Lib.hid ((HSL.out.keep hb01).more hb01.size)
    have C2 : Hid (∀ j u, (idV x)[j]? = some u → w1.cell? ⟨w.heap.size, 0 + j, none⟩ = some u) := Lib.hid (fun j u hj => (hb1.cell (p := ⟨w.heap.size, 0 + j, none⟩) hz0).trans (HX.out j u hj))
    go_wp2_with (refine wp_loadN rfl 45 _ rfl w.heap.size 0 rfl (idV x) _ C2.out Tryd.underlying45 rfl (by rw [hxl]; exact sizeId2) ?_)
    refine (place_any l x A c _ hn HO.out hx HS.out HSL1.out).mono ?_
    rintro e w2 ⟨hb2, n, rfl, hn2, hf⟩
    have HF := Lib.hid hf; clear hf
    go_wp2_with fail
    go_ret2
    exact ⟨hb01.trans (hb2.mono hb01.size), n, rfl, hn2, HF.out⟩
end Go.Proofs.YthjaepmfkgejkaaDoor
namespace Go.Proofs.YthjaepmfkgejkaaDoor
open Go.RowKit Go.Maps
set_option linter.unusedVariables false
set_option linter.unusedSimpArgs false

set_option maxHeartbeats 4000000 in
set_option maxRecDepth 100000 in
theorem wids_any (g : Nat) (l : List (List UInt8)) (xs : List UInt8) (A : Option Addr) (c : Nat) (w : World) (hw : WrAt w g xs) (ho : IdsOk l) (hx : xs.length + 32 * l.length + 10 ≤ 1099511627776) (hsl : Sl w g A l.length 32 (idsV l)) :
    Calls Tryd.prog 47 #[.pointer (some ⟨g, 0, none⟩), .slice A l.length c] w fun e w' => e = .returned (.tuple #[]) ∧ WrAt w' g (xs ++ idsE l) ∧ WrGo g w w' := by
  have HWA := Lib.hid hw; have HO := Lib.hid ho; have HSL := Lib.hid hsl
  have hlen := numB_len10 (n := l.length) (by omega)
  have hflat : ∀ i, ((l.take i).flatten).length ≤ 32 * l.length := fun i => by
    have h1 : ∀ m : List (List UInt8), IdsOk m → m.flatten.length = 32 * m.length := fun m => by
      induction m with
      | nil => intro _; rfl
      | cons a m ih =>
        intro hm
        have := hm a (by simp)
        rw [List.flatten_cons, List.length_append, ih (fun b hb => hm b (by simp [hb])), List.length_cons, show a.length = 32 from this]; omega
    rw [h1 _ (fun a ha => ho a (List.mem_of_mem_take ha)), List.length_take]; omega
  have HFL := Lib.hid hflat
  clear hw ho hsl hflat
  go_enter Tryd.func47, Tryd.ntmps47
  go_wp2_with (go_at_call 46; refine (wnum_any g l.length xs w HWA.out (by omega) (by omega)).mono ?_; rintro e w1 ⟨rfl, hat1, hgo1⟩; have HAT1 := Lib.hid hat1; have HGO1 := Lib.hid hgo1; clear hat1 hgo1)
  go_loopw [12] (fun t wr => ∃ i ys, i ≤ l.length ∧ t = .int .i64 ((i : Nat) : Int) ∧ Hid (ys = xs ++ numB l.length ++ (l.take i).flatten) ∧ Hid (WrAt wr g ys) ∧ Hid (WrGo g w wr)) (fun t _ => l.length - (intOf t).toNat)
  case atStart => exact ⟨0, _, Nat.zero_le _, rfl, Lib.hid rfl, by simpa using HAT1, HGO1⟩
  case round =>
    obtain ⟨i, ys, hi, rfl, HY, HAT, HGO⟩ := hrel
    by_cases hlt : i < l.length
    · have i0 : (0 : Int) ≤ (i : Int) := by omega
      have i1 : (i : Int) < (l.length : Int) := by omega
      obtain ⟨b, off, rfl, hbl, hcl⟩ := (HSL.out.keep (HGO.out.belowG HWA.out)).2 (by omega)
      have HROW := Lib.hid (Sl.id (B := 0) HO.out hcl (i := i) hlt)
      have HX := Lib.hid (show (l[i]).length = 32 from HO.out _ (List.getElem_mem hlt))
      have HTK := Lib.hid (show (l.take (i + 1)).flatten = (l.take i).flatten ++ l[i] by rw [List.take_succ_eq_append_getElem hlt, List.flatten_append, List.flatten_singleton])
      have hyl : ys.length ≤ xs.length + 10 + 32 * l.length := by
        have h1 := HFL.out i
        rw [HY.out, List.length_append, List.length_append]
        omega
      clear hcl
      generalize l[i] = x at *
      go_upto_region 4 with (first
        | (refine wp_loadN rfl 45 _ rfl b _ rfl (idV x) _ HROW.out Tryd.underlying45 rfl (by rw [idV_length, show x.length = 32 from HX.out]; exact sizeId2) ?_)
        | (refine wp_storeN (B := wr.heap.size) (w0 := wr) rfl 45 _ _ rfl wr.heap.size (idV x).toArray rfl rfl 45 _ (heap_alloc_new _ _) (by rw [List.size_toArray]; exact (by rw [idV_length, show x.length = 32 from HX.out]; exact sizeId2)) (by rw [show (idV x).toArray.size = 32 by rw [List.size_toArray, idV_length, show x.length = 32 from HX.out]]; rfl) (by simpa using idV_one x) ((Below.refl _ _).alloc (Nat.le_refl _) _) (Nat.le_refl _) ?_; intro W2 hbW2 hW2 _))
      obtain ⟨z, hz⟩ : ∃ z, wr.heap.size = z := ⟨_, rfl⟩
      rw [hz] at hW2 ⊢
      have HNW := Lib.hid (show ∀ j u, (idV x)[j]? = some u → W2.drew.cell? ((⟨z, 0, none⟩ : Addr).add j) = some u from fun j u hj => by
        have e1 : (⟨z, 0, none⟩ : Addr).add j = ⟨z, j, none⟩ := by unfold Addr.add; split <;> simp_all
        rw [e1]
        exact (cells_at0 hW2 j).trans hj)
      have hat2 := HAT.out.keep hbW2
      have HLT2 := Lib.hid hat2.lt
      obtain ⟨v, hhg, how⟩ := hat2
      have HHG2 := Lib.hid hhg
      have HOW2 := Lib.hid ((But.of_below (X := NoB) ((Below.refl W2.heap.size W2).drew)).own how fun _ _ q => q)
      have HCV := Lib.hid (show W2.cell? ⟨g, 0, none⟩ = some v from cells_at0 hhg 0)
      have HGO2 := Lib.hid (HGO.out.trans (WrGo.below HAT.out.lt hbW2))
      clear hhg how hbW2 hW2 hz
      refine wp_region_N 9 (fun u => u.cell? ⟨g, 0, none⟩ = some v) (by kernel_rfl) ?_
      have hF0 : (fun u => u.cell? ⟨g, 0, none⟩ = some v) W2.drew := HCV.out
      refine tw 0 (.pointer (some ⟨g, 0, none⟩)) ?_
      go_frame
      refine tw 1 (.pointer (some ⟨g, 0, none⟩)) ?_
      go_frame
      refine tw 2 (.pointer (some ⟨g, 0, none⟩)) ?_
      go_frame
      refine tw 3 (.pointer (some ⟨g, 0, none⟩)) ?_
      go_frame
      refine tkF 4 (v) (by kernel_rfl) rfl (fun _ _ _ h => h) (by rfl) hF0 (fun w' hw' => ex_load1 30 _ rfl (p := ⟨g, 0, none⟩) rfl Tryd.underlying30 rfl hw') ?_
      go_frame
      refine tw 5 (.slice (some ⟨z, 0, none⟩) 32 32) ?_
      go_frame
      refine ta 6 ?_
      refine wpOp_wp _ rfl (by kernel_rfl) ?_
      refine op_appW _ _ 30 rfl (g + 1) 5 (.int .u8 0) 1 1 Tryd.underlying30 info_u8 rfl (by decide) v ys.length (idV ys) rfl HOW2.out ⟨z, 0, none⟩ 32 32 (idV x) rfl (by rw [idV_length, Nat.mul_one]; exact HX.out) HNW.out (idV_one _) (by unfold maxLen; omega) (by omega) (by have := HLT2.out; exact this) ?_
      intro v9 w9 ho9 hg9 hw9
      obtain ⟨A9, c9, rfl⟩ := own_form' ho9
      have ho8 : w9.ownsRow (g + 1) 5 1 (.slice A9 (ys.length + 32) c9) (ys.length + x.length) (idV ys ++ idV x) := by rw [show x.length = 32 from HX.out]; exact ho9
      obtain ⟨cg, cf, hat, hgo⟩ := WrAt.put HHG2.out HOW2.out (Below.refl _ _).drew ho8 hg9 hw9
      have HAT := Lib.hid hat; have HGO9 := Lib.hid hgo
      clear ho8
      clear ho9 hg9 hw9 hat hgo
      refine ⟨fun _ _ => cg, ?_⟩
      go_frame
      refine tw 7 (.pointer (some ⟨g, 0, none⟩)) ?_
      go_frame
      refine tw 8 (.pointer (some ⟨g, 0, none⟩)) ?_
      go_frame
      refine ta 9 ?_
      refine wpOp_skip _ rfl (by kernel_rfl) (ex_store1 30 _ _ rfl g 0 (.slice A9 (ys.length + 32) c9) rfl rfl rfl rfl (by kernel_rfl) cg cf) ?_
      refine ⟨fun h => absurd h (by decide), ?_⟩
      go_frame
      refine wpAnyN_done (by kernel_rfl) ?_ _
      have HGON := Lib.hid (HGO2.out.trans HGO9.out)
      go_wp2_with fail
      go_roundw
      case rel => exact ⟨i + 1, ys ++ x, by omega, by go_num, Lib.hid (by rw [HY.out, HTK.out]; simp), HAT, HGON⟩
      case measure => (simp [intOf]) <;> omega
    · have i1 : ¬ (i : Int) < (l.length : Int) := by omega
      have hie : i = l.length := by omega
      have HF : Hid (ys = xs ++ idsE l) := Lib.hid (by rw [HY.out, hie, List.take_length]; unfold idsE; rw [numE_nat, List.append_assoc])
      clear hie
      go_wp2_with fail
      go_end0
      exact ⟨rfl, by rw [← HF.out]; exact HAT.out, HGO.out⟩
end Go.Proofs.YthjaepmfkgejkaaDoor
namespace Go.Proofs.YthjaepmfkgejkaaDoor
open Go.RowKit
set_option linter.unusedVariables false
set_option linter.unusedSimpArgs false

set_option maxRecDepth 100000 in
theorem zeroId_built (w : World) : (Instr.build 45 #[]).run Tryd.prog w = .ok (.agg (idV zero32).toArray) w := by kernel_rfl
set_option maxRecDepth 100000 in
theorem zeroRef_built (w : World) : (Instr.build 47 #[]).run Tryd.prog w = .ok (.agg (refV zeroRef).toArray) w := by kernel_rfl
theorem sizeRef33 : (Tryd.prog.info? 47).map (·.size) = some 33 := by kernel_rfl
set_option maxHeartbeats 2000000 in
set_option maxRecDepth 100000 in
theorem ids_any (l : List (List UInt8)) (A : Option Addr) (c most : Nat) (w : World) (hn : l.length ≤ 1099511627776) (hm : most ≤ 1099511627776) (ho : IdsOk l) (hsl : Sl w w.heap.size A l.length 32 (idsV l)) :
    Calls Tryd.prog 59 #[.slice A l.length c, .int .i64 most] w fun e w' => Below w.heap.size w w' ∧ e = .returned (.bool (idsB l most)) := by
  have HSL := Lib.hid hsl; clear hsl
  have HO := Lib.hid ho; clear ho
  by_cases h1 : l.length ≤ most
  · have hd1 : decide (((l.length : Nat) : Int) ≤ (most : Int)) = true := by simpa using h1
    cases hs : isSetB l
    · have HE : Hid (idsB l most = false) := Lib.hid (by unfold idsB; rw [hs]; simp)
      have HS := Lib.hid hs; clear hs
      go_enter Tryd.func59, Tryd.ntmps59
      go_wp2_with (go_at_call 16; refine (isSet_any l A c _ hn HO.out HSL.out).mono ?_; rw [HS.out]; rintro e w1 ⟨hb1, rfl⟩)
      go_ret
      exact ⟨hb1, by rw [HE.out]; rfl⟩
    · rcases Nat.eq_zero_or_pos l.length with h0 | hpos
      · obtain rfl := List.eq_nil_of_length_eq_zero h0
        have HE : Hid (idsB [] most = true) := Lib.hid (by unfold idsB; rw [hs]; simp)
        have HS := Lib.hid hs; clear hs
        go_enter Tryd.func59, Tryd.ntmps59
        go_wp2_with (go_at_call 16; refine (isSet_any [] A c _ hn HO.out HSL.out).mono ?_; rw [HS.out]; rintro e w1 ⟨hb1, rfl⟩)
        go_ret
        exact ⟨hb1, by rw [HE.out]; rfl⟩
      · have hne : l ≠ [] := List.ne_nil_of_length_pos hpos
        have hhd : l.headD [] = l[0] := by cases l with
          | nil => cases hpos
          | cons a t => rfl
        have HE : Hid (idsB l most = !decide (l[0] = zero32)) := Lib.hid (by unfold idsB; rw [hs, hhd]; simp [h1, hne])
        have hx := HO.out _ (List.getElem_mem hpos)
        have HS := Lib.hid hs; clear hs
        have hd2 : (((l.length : Nat) : Int) == 0) = false := by simp; omega
        have i0 : (0 : Int) < (l.length : Int) := by omega
        have EQ := Lib.hid (fun (u : World) => run_eqId hx zero32_ok u)
        have ZB := Lib.hid zeroId_built
        have hxl : (Tryd.prog.info? 45).map (·.size) = some (idV l[0]).length := by rw [idV_length, show l[0].length = 32 from hx]; exact sizeId2
        have HXL := Lib.hid hxl
        have HRD : Hid (∀ u : World, Below w.heap.size w u → ∃ b off, A = some ⟨b, off, none⟩ ∧ u.rangeAt b off (idV l[0])) := Lib.hid (fun u hu => by
          obtain ⟨b, off, hA, hbl, hcl⟩ := (HSL.out.keep hu).2 hpos
          refine ⟨b, off, hA, ?_⟩
          have h2 := Sl.id (B := 0) HO.out hcl (i := 0) hpos
          exact fun j v hj => by simpa using h2 j v hj)
        clear hhd hx hxl hne
        go_enter Tryd.func59, Tryd.ntmps59
        generalize l[0] = x at *
        go_wp2_with (first
          | (go_at_call 16; refine (isSet_any l A c _ hn HO.out HSL.out).mono ?_; rw [HS.out]; rintro e w1 ⟨hb1, rfl⟩
             obtain ⟨b, off, rfl, hcl⟩ := HRD.out w1 hb1
             have C1 := Lib.hid hcl
             clear hcl)
          | (refine wp_val (by rfl) (ex_load 45 _ rfl (p := ⟨b, off, none⟩) rfl (run_loadVar_mid _ _ _ _ _ _ C1.out Tryd.underlying45 rfl HXL.out)) ?_)
          | (refine wp_val (by rfl) (ex_build 45 #[] rfl (ZB.out _)) ?_)
          | (refine wp_val (by rfl) (ex_neq 45 _ _ _ rfl (xs := (idV x).toArray) (ys := (idV zero32).toArray) rfl rfl (r := decide (x = zero32)) eqId.noGuard (EQ.out _)) ?_))
        go_ret
        exact ⟨hb1, by rw [HE.out]; rfl⟩
  · have hd1 : decide (((l.length : Nat) : Int) ≤ (most : Int)) = false := by simp; omega
    have HE : Hid (idsB l most = false) := Lib.hid (by unfold idsB; simp [h1])
    go_enter Tryd.func59, Tryd.ntmps59
    go_wp2_with fail
    go_ret
    exact ⟨Below.refl _ _, by rw [HE.out]; rfl⟩
end Go.Proofs.YthjaepmfkgejkaaDoor
namespace Go.Proofs.YthjaepmfkgejkaaDoor
open Go.RowKit
set_option linter.unusedVariables false

section
variable {P : Program} {md : Region.Mode} {H ops : Array Oper} {C : World → Prop}
/-- The two lists of what is done agree on what stands ahead. -/
structure Agree (H ops : Array Oper) (done listed : Array Bool) : Prop where
  size : done.size = H.size
  same : ∀ j b, j < H.size → done.getD j b = listed.getD j b

theorem Agree.set {done listed : Array Bool} (h : Agree H ops done listed) {i : Nat} (hl : H.size ≤ listed.size) : Agree H ops (done.setIfInBounds i true) (listed.setIfInBounds i true) := by
  refine ⟨by simpa using h.size, fun j b hj => ?_⟩
  by_cases e : i = j
  · subst e
    have h1 : i < done.size := by rw [h.size]; exact hj
    have h2 : i < listed.size := by omega
    simp [h1, h2]
  · rw [getD_set_ne b e, getD_set_ne b e]
    exact h.same j b hj
end

/-! ### The worlds that only drew and grew -/

def Wg (w : World) : Type := { w' : World // Gr w w' }
instance (w : World) : Nonempty (Wg w) := ⟨⟨w, Gr.refl _⟩⟩
theorem Wg.cell {w : World} {b o : Nat} {v : Value} (hc : w.cell? ⟨b, o, none⟩ = some v) (hb : b < w.heap.size) : ∀ n : Wg w, n.val.cell? ⟨b, o, none⟩ = some v := fun n => (n.2.below.cell (p := ⟨b, o, none⟩) hb).trans hc
theorem Wg.row {w : World} {b o : Nat} {cs : List Value} (hc : ∀ j u, cs[j]? = some u → w.cell? ⟨b, o + j, none⟩ = some u) (hb : b < w.heap.size) : ∀ w', (∃ n : Wg w, w' = n.val) → ∀ j u, cs[j]? = some u → w'.cell? ⟨b, o + j, none⟩ = some u := by
  rintro w' ⟨n, rfl⟩ j u hu
  exact Wg.cell (hc j u hu) hb n
theorem Wg.call {w : World} {P : Program} {f : FuncId} {args : Array Value} {v : Value} (h : ∀ w', Calls P f args w' fun e w'' => Gr w' w'' ∧ e = .returned v) (n : Wg w) :
    Calls P f args n.val fun e w'' => e = .returned v ∧ ∃ m : Wg w, w'' = m.val :=
  (h n.val).mono fun e w'' ⟨hb, he⟩ => ⟨he, ⟨w'', n.2.trans hb⟩, rfl⟩
end Go.Proofs.YthjaepmfkgejkaaDoor
namespace Go.Proofs.YthjaepmfkgejkaaDoor
open Go.RowKit
set_option linter.unusedVariables false

section
variable {P : Program} {ρ : Operand → Value} {o : Oper} {w : World}
theorem sizeOf_run {e : TypeId} {size : Nat} (hs : (P.info? e).map (·.size) = some size) (w : World) : (sizeOf e).run P w = .ok size w := by
  cases hq : P.info? e with
  | none => simp [hq] at hs
  | some i =>
    have : i.size = size := by simpa [hq] using hs
    simp [sizeOf, typeInfo, hq, this]
/-- 'x[l:h]'. -/
theorem ex_slice_lh (t : TypeId) (x lo hi : Operand) (ho : o.op = .slice t x (some lo) (some hi) none) {A : Option Addr} {n c l h : Nat} {kl kh : IntKind} (hx : ρ x = .slice A n c) (hl : ρ lo = .int kl (l : Int)) (hh : ρ hi = .int kh (h : Int))
    (ht : P.underlying t = some (.slice (P.elem t))) {size : Nat} (hs : (P.info? (P.elem t)).map (·.size) = some size) (h1 : l ≤ h) (h2 : h ≤ c) {V : Value} (hV : sliced A l h c size = V) :
    (execOp ρ o).run P w = .ok (.value V) w := by
  subst hV
  have hr := run_slice_lh w t A n c ht kl kh (l : Int) (h : Int) (by omega) (by omega) (by omega)
  rw [sizeOf_run hs] at hr
  simp only [Result.andThen, Int.toNat_natCast] at hr
  have ha := run_sliceAt_slice w t (.slice A n c) (some (.int kl (l : Int))) (some (.int kh (h : Int))) none ht
  rw [hr] at ha
  unfold execOp
  simp only [ho, hx, hl, hh, Option.map_some, Option.map_none, Sem.run_bind, ha, Result.andThen_ok, Sem.run_pure]
/-- 'x[l:]'. -/
theorem ex_slice_l (t : TypeId) (x lo : Operand) (ho : o.op = .slice t x (some lo) none none) {A : Option Addr} {n c l : Nat} {kl : IntKind} (hx : ρ x = .slice A n c) (hl : ρ lo = .int kl (l : Int))
    (ht : P.underlying t = some (.slice (P.elem t))) {size : Nat} (hs : (P.info? (P.elem t)).map (·.size) = some size) (h1 : l ≤ n) {V : Value} (hV : sliced A l n c size = V) :
    (execOp ρ o).run P w = .ok (.value V) w := by
  subst hV
  have hr := run_slice_l w t A n c ht kl (l : Int) (by omega) (by omega)
  rw [sizeOf_run hs] at hr
  simp only [Result.andThen, Int.toNat_natCast] at hr
  have ha := run_sliceAt_slice w t (.slice A n c) (some (.int kl (l : Int))) none none ht
  rw [hr] at ha
  unfold execOp
  simp only [ho, hx, hl, Option.map_some, Option.map_none, Sem.run_bind, ha, Result.andThen_ok, Sem.run_pure]
end
end Go.Proofs.YthjaepmfkgejkaaDoor
namespace Go.Proofs.YthjaepmfkgejkaaDoor
open Go.RowKit
set_option linter.unusedVariables false

theorem wp_region_wr {P : Program} {id : Nat} {Q : Exit → Act → World → Prop} {a : Act} {w : World} {l : List Oper} (hm : P.follows .mixedOrders = true) (hB : Region.lexB .any l.toArray = true)
    (h : wpQuiet P l.toArray (fun w' => ∃ n : Wg w, w' = n.val) (fun a' => ∀ w', (∃ n : Wg w, w' = n.val) → Q .normal a' w') l a) : (Code.region id l.toArray true).wp P Q a w :=
  wp_region_quiet (C := fun w' => ∃ n : Wg w, w' = n.val) hm hB ⟨⟨_, (Gr.refl w).drew⟩, rfl⟩ (by simpa using h)
end Go.Proofs.YthjaepmfkgejkaaDoor
namespace Go.Proofs.YthjaepmfkgejkaaDoor
open Go.RowKit Go.Maps
set_option linter.unusedVariables false
set_option linter.unusedSimpArgs false

def madeV (m : MadeD) : List Value := .bool m.1 :: refV m.2
def MadeOk (m : MadeD) : Prop := RefOk m.2
theorem madeV_length {m : MadeD} (h : MadeOk m) : (madeV m).length = 34 := by
  have := refV_length h
  simp [madeV, this]
theorem madeV_one (m : MadeD) : ∀ u ∈ madeV m, u.oneCell' = true := by
  intro u hu
  rcases List.mem_cons.1 hu with rfl | hu
  · rfl
  · exact refV_one _ u hu
/-- The checker: the changes hung on, what was made. -/
def CkAt (w : World) (g : Nat) (deps : List (List UInt8)) (mk : List MadeD) : Prop := ∃ Ad cd vm, w.heap[g]? = some (.cells #[.slice Ad deps.length cd, vm] 124 (0, 0)) ∧ Sl w g Ad deps.length 32 (idsV deps) ∧ w.ownsRow (g + 1) 160 34 vm mk.length (rowsV madeV mk)
theorem CkAt.lt {w : World} {g : Nat} {deps : List (List UInt8)} {mk : List MadeD} (h : CkAt w g deps mk) : g < w.heap.size := by
  obtain ⟨_, _, _, h1, _⟩ := h
  exact (Array.getElem?_eq_some_iff.1 h1).1
theorem CkAt.keep {w w' : World} {g : Nat} {deps : List (List UInt8)} {mk : List MadeD} (h : CkAt w g deps mk) (hb : Below w.heap.size w w') : CkAt w' g deps mk := by
  have hlt := h.lt
  obtain ⟨Ad, cd, vm, h1, h2, h3⟩ := h
  exact ⟨Ad, cd, vm, (hb.block g hlt).trans h1, h2.keep (hb.mono (Nat.le_of_lt hlt)), (But.of_below (X := NoB) hb).own h3 fun _ _ q => q⟩
/-- A block of cells just laid. -/
theorem laid_cells (w : World) (cs : List Value) (T : TypeId) : ∀ j u, cs[j]? = some u → (w.alloc (.cells cs.toArray T)).cell? ⟨w.heap.size, j, none⟩ = some u := by
  intro j u hj
  rw [cells_at0 (heap_alloc_new w _) j]
  exact hj
set_option maxHeartbeats 4000000 in
set_option maxRecDepth 100000 in
theorem foreign_any (g : Nat) (deps : List (List UInt8)) (mk : List MadeD) (r : RefD) (w : World) (hk : CkAt w g deps mk) (ho : IdsOk deps) (hn : deps.length ≤ 1099511627776) (hr : RefOk r) :
    Calls Tryd.prog 119 #[.pointer (some ⟨g, 0, none⟩), .agg (refV r).toArray] w fun e w' => Below w.heap.size w w' ∧ e = .returned (.bool (foreignB deps r)) := by
  have HLT := Lib.hid hk.lt
  obtain ⟨Ad, cd, vm, h1, h2, h3⟩ := hk
  have HSL := Lib.hid h2; have HO := Lib.hid ho; have HR := Lib.hid hr
  have HCK := Lib.hid (show w.cell? ⟨g, 0, none⟩ = some (.slice Ad deps.length cd) from cells_at0 h1 0)
  have hsz : (Tryd.prog.info? 45).map (·.size) = some (idV r.1).length := by rw [idV_length, show r.1.length = 32 from hr.1]; exact sizeId2
  have HSZ := Lib.hid hsz
  have HW := Lib.hid (wf_bound hr.2)
  have HF : Hid (foreignB deps r = ((isSetB deps && decide (r.1 ∈ deps)) && decide (0 ≤ r.2) && decide (r.2 ≤ 2147483647))) := Lib.hid rfl
  clear h1 h2 h3 ho hr hsz
  rcases Bool.eq_false_or_eq_true (isSetB deps && decide (r.1 ∈ deps)) with ht | ht
  · have HT := Lib.hid ht
    rw [ht] at HF
    clear ht
    rcases (by omega : r.2 < 0 ∨ (0 ≤ r.2 ∧ 2147483647 < r.2) ∨ (0 ≤ r.2 ∧ r.2 ≤ 2147483647)) with q | ⟨q, q2⟩ | ⟨q, q2⟩
    · have d1 : decide (0 ≤ r.2) = false := by simp; omega
      have HE : Hid (foreignB deps r = false) := Lib.hid (by rw [HF.out, d1]; rfl)
      clear q
      go_enter Tryd.func119, Tryd.ntmps119
      go_upto_region 1 with fail
      obtain ⟨W0, hW0⟩ : ∃ W0, (w.alloc (.cells (refV r).toArray 47)) = W0 := ⟨_, rfl⟩
      have HB0 := Lib.hid (show Below w.heap.size w W0 by rw [← hW0]; exact (Below.refl _ _).alloc (Nat.le_refl _) _)
      have HZ := Lib.hid (show w.heap.size < W0.heap.size by rw [← hW0]; simp)
      have HX32 := Lib.hid (show W0.cell? ⟨w.heap.size, 32, none⟩ = some (.int .i64 r.2) by rw [← hW0]; exact laid_cells w _ _ _ _ (ref_cells HR.out).2)
      have HXI := Lib.hid (show W0.rangeAt w.heap.size 0 (idV r.1) by rw [← hW0]; exact fun j u hj => by rw [Nat.zero_add]; exact laid_cells w _ _ _ _ ((ref_cells HR.out).1 j u hj))
      have HC0 := Lib.hid ((HB0.out.cell (p := ⟨g, 0, none⟩) HLT.out).trans HCK.out)
      have HSLD := Lib.hid (((HSL.out.more (Nat.le_of_lt HLT.out)).keep HB0.out).more HB0.out.size)
      rw [hW0]
      clear hW0
      have hE1 : ∀ (u : World) (args : Array Value), (callFunc 15 args).run Tryd.prog u = .ok (.enter 15 args) u := fun u args => enters_of Tryd.func15 (by kernel_rfl) rfl args u
      refine wp_region_N 6 (fun u => u.cell? ⟨g, 0, none⟩ = some (.slice Ad deps.length cd) ∧ u.rangeAt w.heap.size 0 (idV r.1)) (by kernel_rfl) ?_
      have hF0 : (fun u => u.cell? ⟨g, 0, none⟩ = some (.slice Ad deps.length cd) ∧ u.rangeAt w.heap.size 0 (idV r.1)) W0.drew := ⟨HC0.out, HXI.out⟩
      refine tw 0 (.pointer (some ⟨g, 0, none⟩)) ?_
      go_frame
      refine tw 1 (.pointer (some ⟨g, 0, none⟩)) ?_
      go_frame
      refine tw 2 (.pointer (some ⟨g, 0, none⟩)) ?_
      go_frame
      refine tkF 3 (.slice Ad deps.length cd) (by kernel_rfl) rfl (fun _ _ _ h => h) (by rfl) hF0 (fun w' hw' => ex_load1 22 _ rfl (p := ⟨g, 0, none⟩) rfl Tryd.underlying22 rfl hw'.1) ?_
      go_frame
      refine tw 4 (.pointer (some ⟨w.heap.size, 0, none⟩)) ?_
      go_frame
      refine tkF 5 (.agg (idV r.1).toArray) (by kernel_rfl) rfl (fun _ _ _ h => h) (by rfl) hF0 (fun w' hw' => ex_load 45 _ rfl (p := ⟨w.heap.size, 0, none⟩) rfl (run_loadVar_mid w' _ _ _ (idV r.1) _ hw'.2 Tryd.underlying45 rfl HSZ.out)) ?_
      go_frame
      refine ta 6 ?_
      refine wpOp_call _ rfl (by kernel_rfl) (ex_callFn (f := 15) (args := #[.slice Ad deps.length cd, .agg (idV r.1).toArray]) rfl rfl (fun args w => hE1 w args) (by simp only [List.map_toArray, List.map_cons, List.map_nil]; rfl)) ?_
      refine (find_any deps r.1 Ad cd W0.drew hn HO.out HR.out.1 (HSLD.out.keep (Below.refl _ _).drew)).mono ?_
      rintro e w2 ⟨hb2, n, rfl, -, -⟩
      have HB2 := Lib.hid (HB0.out.drew.trans (hb2.mono HB0.out.size))
      have HX2 : Hid (w2.cell? ⟨w.heap.size, 32, none⟩ = some (.int .i64 r.2)) := Lib.hid ((hb2.cell (p := ⟨w.heap.size, 32, none⟩) HZ.out).trans HX32.out)
      rw [HT.out]
      clear hb2
      refine ⟨_, rfl, fun h => absurd h (by decide), ?_⟩
      go_frame
      refine tw 7 (.tuple #[.int .i64 n, .bool true]) ?_
      go_frame
      refine tw 8 (.int .i64 n) ?_
      go_frame
      refine tw 9 (.bool true) ?_
      go_frame
      refine tw 10 (.int .i64 n) ?_
      go_frame
      refine tw 11 (.bool true) ?_
      go_frame
      refine wpAnyN_done (by kernel_rfl) ?_ _
      have c32 := HX2.out
      go_wp2_with fail
      go_ret
      exact ⟨HB2.out, by rw [HE.out]; rfl⟩
    · have d1 : decide (0 ≤ r.2) = true := by simp; omega
      have d2 : decide (r.2 ≤ 2147483647) = false := by simp; omega
      have HE : Hid (foreignB deps r = false) := Lib.hid (by rw [HF.out, d1, d2]; rfl)
      clear q q2
      go_enter Tryd.func119, Tryd.ntmps119
      go_upto_region 1 with fail
      obtain ⟨W0, hW0⟩ : ∃ W0, (w.alloc (.cells (refV r).toArray 47)) = W0 := ⟨_, rfl⟩
      have HB0 := Lib.hid (show Below w.heap.size w W0 by rw [← hW0]; exact (Below.refl _ _).alloc (Nat.le_refl _) _)
      have HZ := Lib.hid (show w.heap.size < W0.heap.size by rw [← hW0]; simp)
      have HX32 := Lib.hid (show W0.cell? ⟨w.heap.size, 32, none⟩ = some (.int .i64 r.2) by rw [← hW0]; exact laid_cells w _ _ _ _ (ref_cells HR.out).2)
      have HXI := Lib.hid (show W0.rangeAt w.heap.size 0 (idV r.1) by rw [← hW0]; exact fun j u hj => by rw [Nat.zero_add]; exact laid_cells w _ _ _ _ ((ref_cells HR.out).1 j u hj))
      have HC0 := Lib.hid ((HB0.out.cell (p := ⟨g, 0, none⟩) HLT.out).trans HCK.out)
      have HSLD := Lib.hid (((HSL.out.more (Nat.le_of_lt HLT.out)).keep HB0.out).more HB0.out.size)
      rw [hW0]
      clear hW0
      have hE1 : ∀ (u : World) (args : Array Value), (callFunc 15 args).run Tryd.prog u = .ok (.enter 15 args) u := fun u args => enters_of Tryd.func15 (by kernel_rfl) rfl args u
      refine wp_region_N 6 (fun u => u.cell? ⟨g, 0, none⟩ = some (.slice Ad deps.length cd) ∧ u.rangeAt w.heap.size 0 (idV r.1)) (by kernel_rfl) ?_
      have hF0 : (fun u => u.cell? ⟨g, 0, none⟩ = some (.slice Ad deps.length cd) ∧ u.rangeAt w.heap.size 0 (idV r.1)) W0.drew := ⟨HC0.out, HXI.out⟩
      refine tw 0 (.pointer (some ⟨g, 0, none⟩)) ?_
      go_frame
      refine tw 1 (.pointer (some ⟨g, 0, none⟩)) ?_
      go_frame
      refine tw 2 (.pointer (some ⟨g, 0, none⟩)) ?_
      go_frame
      refine tkF 3 (.slice Ad deps.length cd) (by kernel_rfl) rfl (fun _ _ _ h => h) (by rfl) hF0 (fun w' hw' => ex_load1 22 _ rfl (p := ⟨g, 0, none⟩) rfl Tryd.underlying22 rfl hw'.1) ?_
      go_frame
      refine tw 4 (.pointer (some ⟨w.heap.size, 0, none⟩)) ?_
      go_frame
      refine tkF 5 (.agg (idV r.1).toArray) (by kernel_rfl) rfl (fun _ _ _ h => h) (by rfl) hF0 (fun w' hw' => ex_load 45 _ rfl (p := ⟨w.heap.size, 0, none⟩) rfl (run_loadVar_mid w' _ _ _ (idV r.1) _ hw'.2 Tryd.underlying45 rfl HSZ.out)) ?_
      go_frame
      refine ta 6 ?_
      refine wpOp_call _ rfl (by kernel_rfl) (ex_callFn (f := 15) (args := #[.slice Ad deps.length cd, .agg (idV r.1).toArray]) rfl rfl (fun args w => hE1 w args) (by simp only [List.map_toArray, List.map_cons, List.map_nil]; rfl)) ?_
      refine (find_any deps r.1 Ad cd W0.drew hn HO.out HR.out.1 (HSLD.out.keep (Below.refl _ _).drew)).mono ?_
      rintro e w2 ⟨hb2, n, rfl, -, -⟩
      have HB2 := Lib.hid (HB0.out.drew.trans (hb2.mono HB0.out.size))
      have HX2 : Hid (w2.cell? ⟨w.heap.size, 32, none⟩ = some (.int .i64 r.2)) := Lib.hid ((hb2.cell (p := ⟨w.heap.size, 32, none⟩) HZ.out).trans HX32.out)
      rw [HT.out]
      clear hb2
      refine ⟨_, rfl, fun h => absurd h (by decide), ?_⟩
      go_frame
      refine tw 7 (.tuple #[.int .i64 n, .bool true]) ?_
      go_frame
      refine tw 8 (.int .i64 n) ?_
      go_frame
      refine tw 9 (.bool true) ?_
      go_frame
      refine tw 10 (.int .i64 n) ?_
      go_frame
      refine tw 11 (.bool true) ?_
      go_frame
      refine wpAnyN_done (by kernel_rfl) ?_ _
      have c32 := HX2.out
      go_wp2_with fail
      go_ret
      exact ⟨HB2.out, by rw [HE.out]; rfl⟩
    · have d1 : decide (0 ≤ r.2) = true := by simp; omega
      have d2 : decide (r.2 ≤ 2147483647) = true := by simp; omega
      have HE : Hid (foreignB deps r = true) := Lib.hid (by rw [HF.out, d1, d2]; rfl)
      clear q q2
      go_enter Tryd.func119, Tryd.ntmps119
      go_upto_region 1 with fail
      obtain ⟨W0, hW0⟩ : ∃ W0, (w.alloc (.cells (refV r).toArray 47)) = W0 := ⟨_, rfl⟩
      have HB0 := Lib.hid (show Below w.heap.size w W0 by rw [← hW0]; exact (Below.refl _ _).alloc (Nat.le_refl _) _)
      have HZ := Lib.hid (show w.heap.size < W0.heap.size by rw [← hW0]; simp)
      have HX32 := Lib.hid (show W0.cell? ⟨w.heap.size, 32, none⟩ = some (.int .i64 r.2) by rw [← hW0]; exact laid_cells w _ _ _ _ (ref_cells HR.out).2)
      have HXI := Lib.hid (show W0.rangeAt w.heap.size 0 (idV r.1) by rw [← hW0]; exact fun j u hj => by rw [Nat.zero_add]; exact laid_cells w _ _ _ _ ((ref_cells HR.out).1 j u hj))
      have HC0 := Lib.hid ((HB0.out.cell (p := ⟨g, 0, none⟩) HLT.out).trans HCK.out)
      have HSLD := Lib.hid (((HSL.out.more (Nat.le_of_lt HLT.out)).keep HB0.out).more HB0.out.size)
      rw [hW0]
      clear hW0
      have hE1 : ∀ (u : World) (args : Array Value), (callFunc 15 args).run Tryd.prog u = .ok (.enter 15 args) u := fun u args => enters_of Tryd.func15 (by kernel_rfl) rfl args u
      refine wp_region_N 6 (fun u => u.cell? ⟨g, 0, none⟩ = some (.slice Ad deps.length cd) ∧ u.rangeAt w.heap.size 0 (idV r.1)) (by kernel_rfl) ?_
      have hF0 : (fun u => u.cell? ⟨g, 0, none⟩ = some (.slice Ad deps.length cd) ∧ u.rangeAt w.heap.size 0 (idV r.1)) W0.drew := ⟨HC0.out, HXI.out⟩
      refine tw 0 (.pointer (some ⟨g, 0, none⟩)) ?_
      go_frame
      refine tw 1 (.pointer (some ⟨g, 0, none⟩)) ?_
      go_frame
      refine tw 2 (.pointer (some ⟨g, 0, none⟩)) ?_
      go_frame
      refine tkF 3 (.slice Ad deps.length cd) (by kernel_rfl) rfl (fun _ _ _ h => h) (by rfl) hF0 (fun w' hw' => ex_load1 22 _ rfl (p := ⟨g, 0, none⟩) rfl Tryd.underlying22 rfl hw'.1) ?_
      go_frame
      refine tw 4 (.pointer (some ⟨w.heap.size, 0, none⟩)) ?_
      go_frame
      refine tkF 5 (.agg (idV r.1).toArray) (by kernel_rfl) rfl (fun _ _ _ h => h) (by rfl) hF0 (fun w' hw' => ex_load 45 _ rfl (p := ⟨w.heap.size, 0, none⟩) rfl (run_loadVar_mid w' _ _ _ (idV r.1) _ hw'.2 Tryd.underlying45 rfl HSZ.out)) ?_
      go_frame
      refine ta 6 ?_
      refine wpOp_call _ rfl (by kernel_rfl) (ex_callFn (f := 15) (args := #[.slice Ad deps.length cd, .agg (idV r.1).toArray]) rfl rfl (fun args w => hE1 w args) (by simp only [List.map_toArray, List.map_cons, List.map_nil]; rfl)) ?_
      refine (find_any deps r.1 Ad cd W0.drew hn HO.out HR.out.1 (HSLD.out.keep (Below.refl _ _).drew)).mono ?_
      rintro e w2 ⟨hb2, n, rfl, -, -⟩
      have HB2 := Lib.hid (HB0.out.drew.trans (hb2.mono HB0.out.size))
      have HX2 : Hid (w2.cell? ⟨w.heap.size, 32, none⟩ = some (.int .i64 r.2)) := Lib.hid ((hb2.cell (p := ⟨w.heap.size, 32, none⟩) HZ.out).trans HX32.out)
      rw [HT.out]
      clear hb2
      refine ⟨_, rfl, fun h => absurd h (by decide), ?_⟩
      go_frame
      refine tw 7 (.tuple #[.int .i64 n, .bool true]) ?_
      go_frame
      refine tw 8 (.int .i64 n) ?_
      go_frame
      refine tw 9 (.bool true) ?_
      go_frame
      refine tw 10 (.int .i64 n) ?_
      go_frame
      refine tw 11 (.bool true) ?_
      go_frame
      refine wpAnyN_done (by kernel_rfl) ?_ _
      have c32 := HX2.out
      go_wp2_with fail
      go_ret
      exact ⟨HB2.out, by rw [HE.out]; rfl⟩
  · have HT := Lib.hid ht
    have HE : Hid (foreignB deps r = false) := Lib.hid (by rw [HF.out, ht]; rfl)
    clear ht
    go_enter Tryd.func119, Tryd.ntmps119
    go_upto_region 1 with fail
    obtain ⟨W0, hW0⟩ : ∃ W0, (w.alloc (.cells (refV r).toArray 47)) = W0 := ⟨_, rfl⟩
    have HB0 := Lib.hid (show Below w.heap.size w W0 by rw [← hW0]; exact (Below.refl _ _).alloc (Nat.le_refl _) _)
    have HZ := Lib.hid (show w.heap.size < W0.heap.size by rw [← hW0]; simp)
    have HX32 := Lib.hid (show W0.cell? ⟨w.heap.size, 32, none⟩ = some (.int .i64 r.2) by rw [← hW0]; exact laid_cells w _ _ _ _ (ref_cells HR.out).2)
    have HXI := Lib.hid (show W0.rangeAt w.heap.size 0 (idV r.1) by rw [← hW0]; exact fun j u hj => by rw [Nat.zero_add]; exact laid_cells w _ _ _ _ ((ref_cells HR.out).1 j u hj))
    have HC0 := Lib.hid ((HB0.out.cell (p := ⟨g, 0, none⟩) HLT.out).trans HCK.out)
    have HSLD := Lib.hid (((HSL.out.more (Nat.le_of_lt HLT.out)).keep HB0.out).more HB0.out.size)
    rw [hW0]
    clear hW0
    have hE1 : ∀ (u : World) (args : Array Value), (callFunc 15 args).run Tryd.prog u = .ok (.enter 15 args) u := fun u args => enters_of Tryd.func15 (by kernel_rfl) rfl args u
    refine wp_region_N 6 (fun u => u.cell? ⟨g, 0, none⟩ = some (.slice Ad deps.length cd) ∧ u.rangeAt w.heap.size 0 (idV r.1)) (by kernel_rfl) ?_
    have hF0 : (fun u => u.cell? ⟨g, 0, none⟩ = some (.slice Ad deps.length cd) ∧ u.rangeAt w.heap.size 0 (idV r.1)) W0.drew := ⟨HC0.out, HXI.out⟩
    refine tw 0 (.pointer (some ⟨g, 0, none⟩)) ?_
    go_frame
    refine tw 1 (.pointer (some ⟨g, 0, none⟩)) ?_
    go_frame
    refine tw 2 (.pointer (some ⟨g, 0, none⟩)) ?_
    go_frame
    refine tkF 3 (.slice Ad deps.length cd) (by kernel_rfl) rfl (fun _ _ _ h => h) (by rfl) hF0 (fun w' hw' => ex_load1 22 _ rfl (p := ⟨g, 0, none⟩) rfl Tryd.underlying22 rfl hw'.1) ?_
    go_frame
    refine tw 4 (.pointer (some ⟨w.heap.size, 0, none⟩)) ?_
    go_frame
    refine tkF 5 (.agg (idV r.1).toArray) (by kernel_rfl) rfl (fun _ _ _ h => h) (by rfl) hF0 (fun w' hw' => ex_load 45 _ rfl (p := ⟨w.heap.size, 0, none⟩) rfl (run_loadVar_mid w' _ _ _ (idV r.1) _ hw'.2 Tryd.underlying45 rfl HSZ.out)) ?_
    go_frame
    refine ta 6 ?_
    refine wpOp_call _ rfl (by kernel_rfl) (ex_callFn (f := 15) (args := #[.slice Ad deps.length cd, .agg (idV r.1).toArray]) rfl rfl (fun args w => hE1 w args) (by simp only [List.map_toArray, List.map_cons, List.map_nil]; rfl)) ?_
    refine (find_any deps r.1 Ad cd W0.drew hn HO.out HR.out.1 (HSLD.out.keep (Below.refl _ _).drew)).mono ?_
    rintro e w2 ⟨hb2, n, rfl, -, -⟩
    have HB2 := Lib.hid (HB0.out.drew.trans (hb2.mono HB0.out.size))
    have HX2 : Hid (w2.cell? ⟨w.heap.size, 32, none⟩ = some (.int .i64 r.2)) := Lib.hid ((hb2.cell (p := ⟨w.heap.size, 32, none⟩) HZ.out).trans HX32.out)
    rw [HT.out]
    clear hb2
    refine ⟨_, rfl, fun h => absurd h (by decide), ?_⟩
    go_frame
    refine tw 7 (.tuple #[.int .i64 n, .bool false]) ?_
    go_frame
    refine tw 8 (.int .i64 n) ?_
    go_frame
    refine tw 9 (.bool false) ?_
    go_frame
    refine tw 10 (.int .i64 n) ?_
    go_frame
    refine tw 11 (.bool false) ?_
    go_frame
    refine wpAnyN_done (by kernel_rfl) ?_ _
    go_wp2_with fail
    go_ret
    exact ⟨HB2.out, by rw [HE.out]; rfl⟩
end Go.Proofs.YthjaepmfkgejkaaDoor
namespace Go.Proofs.YthjaepmfkgejkaaDoor
open Go.RowKit Go.Maps
set_option linter.unusedVariables false
set_option linter.unusedSimpArgs false

set_option maxHeartbeats 4000000 in
set_option maxRecDepth 100000 in
theorem wref_any (g : Nat) (deps : List (List UInt8)) (id : List UInt8) (i : Nat) (xs : List UInt8) (Ad : Option Addr) (cd : Nat) (w : World) (hw : WrAt w g xs) (ho : IdsOk deps) (hs : isSetB deps = true) (hn : deps.length ≤ 1099511627776) (hr : RefOk (id, ((i : Nat) : Int))) (hin : id = zero32 ∨ id ∈ deps) (hi : i < 9223372036854775808) (hx : xs.length + 20 ≤ 1099511627776) (hsl : Sl w g Ad deps.length 32 (idsV deps)) :
    Calls Tryd.prog 50 #[.pointer (some ⟨g, 0, none⟩), .slice Ad deps.length cd, .agg (refV (id, ((i : Nat) : Int))).toArray] w fun e w' => e = .returned (.tuple #[]) ∧ WrAt w' g (xs ++ refE deps (id, ((i : Nat) : Int))) ∧ WrGo g w w' := by
  have HWA := Lib.hid hw; have HO := Lib.hid ho; have HSL := Lib.hid hsl; have HR := Lib.hid hr
  have HI := Lib.hid (show IdOk id from hr.1)
  have hsz : (Tryd.prog.info? 45).map (·.size) = some (idV id).length := by rw [idV_length, show id.length = 32 from hr.1]; exact sizeId2
  have HSZ := Lib.hid hsz
  have EQ0 := Lib.hid (fun (u : World) => run_eqId (show IdOk id from hr.1) zero32_ok u)
  have ZB := Lib.hid zeroId_built
  by_cases hz : id = zero32
  · have dz : decide (id = zero32) = true := by simp [hz]
    have EQ := Lib.hid (fun (u : World) => (EQ0.out u).trans (by rw [dz]))
    have HE : Hid (refE deps (id, ((i : Nat) : Int)) = numB 0 ++ numB i) := Lib.hid (by unfold refE; simp only; rw [if_neg (by simp [hz]), numE_nat]; exact congrArg (· ++ numB i) (numE_nat 0))
    have hl := numB_len10 (n := 0) (by omega)
    clear dz EQ0 hw ho hsl hr hsz hz hin hs
    go_enter Tryd.func50, Tryd.ntmps50
    go_upto_region 1 with fail
    obtain ⟨W0, hW0⟩ : ∃ W0, (w.alloc (.cells (refV (id, ((i : Nat) : Int))).toArray 47)) = W0 := ⟨_, rfl⟩
    have HB0 := Lib.hid (show Below w.heap.size w W0 by rw [← hW0]; exact (Below.refl _ _).alloc (Nat.le_refl _) _)
    have HZ := Lib.hid (show w.heap.size < W0.heap.size by rw [← hW0]; simp)
    have HX32 := Lib.hid (show W0.cell? ⟨w.heap.size, 32, none⟩ = some (.int .i64 ((i : Nat) : Int)) by rw [← hW0]; exact laid_cells w _ _ _ _ (ref_cells HR.out).2)
    have HXI := Lib.hid (show W0.rangeAt w.heap.size 0 (idV id) by rw [← hW0]; exact fun j u hj => by rw [Nat.zero_add]; exact laid_cells w _ _ _ _ ((ref_cells HR.out).1 j u hj))
    rw [hW0]
    clear hW0
    have HWA0 := Lib.hid (HWA.out.keep HB0.out)
    have HNX := Lib.hid (HWA.out.newNot HB0.out (Nat.le_refl _))
    have HG0 := Lib.hid (WrGo.below HWA.out.lt HB0.out)

    go_upto_region 5 with (first
      | (refine wp_val (by rfl) (ex_load 45 _ rfl (p := ⟨w.heap.size, 0, none⟩) rfl (run_loadVar_mid _ _ _ _ _ _ HXI.out Tryd.underlying45 rfl HSZ.out)) ?_)
      | (refine wp_val (by rfl) (ex_build 45 #[] rfl (ZB.out _)) ?_)
      | (refine wp_val (by rfl) (ex_neq 45 _ _ _ rfl (xs := (idV id).toArray) (ys := (idV zero32).toArray) rfl rfl (r := true) eqId.noGuard (EQ.out _)) ?_; simp only [Act.put, List.setIfInBounds_toArray, List.set_cons_zero, List.set_cons_succ, Bool.not_true, Bool.not_false]))
    go_upto_region 6 with (first
      | (go_at_call 46; refine (wnum_any g 0 xs W0 HWA0.out (by omega) (by omega)).mono ?_; rintro e w2 ⟨rfl, hat2, hgo2⟩
         have c32 := (hgo2.cell (j := 32) HZ.out HNX.out).trans HX32.out
         have HAT2 := Lib.hid hat2; have HGO2 := Lib.hid hgo2
         clear hat2 hgo2))
    go_wp2_with (first
      | (go_at_call 46; refine (wnum_any g i (xs ++ numB 0) w2 HAT2.out (by omega) (by rw [List.length_append]; omega)).mono ?_; rintro e w3 ⟨rfl, hat3, hgo3⟩))
    go_end0
    exact ⟨rfl, by rw [HE.out, ← List.append_assoc]; exact hat3, HG0.out.trans (HGO2.out.trans hgo3)⟩
  · have dz : decide (id = zero32) = false := by simp [hz]
    have EQ := Lib.hid (fun (u : World) => (EQ0.out u).trans (by rw [dz]))
    have hm : id ∈ deps := hin.resolve_left hz
    have hlt := List.idxOf_lt_length_iff.2 hm
    have HTH : Hid ((isSetB deps && decide (id ∈ deps)) = true) := Lib.hid (by rw [hs]; simpa using hm)
    have HFI := Lib.hid (fun (n : Nat) (h : (isSetB deps && decide (id ∈ deps)) = true → deps[n]? = some id) => (show n = deps.idxOf id by
      have h1 := h HTH.out
      obtain ⟨h2, h3⟩ := List.getElem?_eq_some_iff.1 h1
      rw [← idxOf_at hs n h2, h3]))
    have HE : Hid (refE deps (id, ((i : Nat) : Int)) = numB (deps.idxOf id + 1) ++ numB i) := Lib.hid (by unfold refE; simp only; rw [if_pos hz, numE_nat]; exact congrArg (· ++ numB i) (numE_nat (deps.idxOf id + 1)))
    have hl := numB_len10 (n := deps.idxOf id + 1) (by omega)
    have hi63 : deps.idxOf id < 1099511627776 := by omega
    clear dz EQ0 hw ho hsl hr hsz hz hin hs hm hlt
    generalize deps.idxOf id = q at *
    go_enter Tryd.func50, Tryd.ntmps50
    go_upto_region 1 with fail
    obtain ⟨W0, hW0⟩ : ∃ W0, (w.alloc (.cells (refV (id, ((i : Nat) : Int))).toArray 47)) = W0 := ⟨_, rfl⟩
    have HB0 := Lib.hid (show Below w.heap.size w W0 by rw [← hW0]; exact (Below.refl _ _).alloc (Nat.le_refl _) _)
    have HZ := Lib.hid (show w.heap.size < W0.heap.size by rw [← hW0]; simp)
    have HX32 := Lib.hid (show W0.cell? ⟨w.heap.size, 32, none⟩ = some (.int .i64 ((i : Nat) : Int)) by rw [← hW0]; exact laid_cells w _ _ _ _ (ref_cells HR.out).2)
    have HXI := Lib.hid (show W0.rangeAt w.heap.size 0 (idV id) by rw [← hW0]; exact fun j u hj => by rw [Nat.zero_add]; exact laid_cells w _ _ _ _ ((ref_cells HR.out).1 j u hj))
    rw [hW0]
    clear hW0
    have HWA0 := Lib.hid (HWA.out.keep HB0.out)
    have HNX := Lib.hid (HWA.out.newNot HB0.out (Nat.le_refl _))
    have HG0 := Lib.hid (WrGo.below HWA.out.lt HB0.out)
    have HSLD := Lib.hid (((HSL.out.more (Nat.le_of_lt HWA.out.lt)).keep HB0.out).more HB0.out.size)
    go_upto_region 5 with (first
      | (refine wp_val (by rfl) (ex_load 45 _ rfl (p := ⟨w.heap.size, 0, none⟩) rfl (run_loadVar_mid _ _ _ _ _ _ HXI.out Tryd.underlying45 rfl HSZ.out)) ?_)
      | (refine wp_val (by rfl) (ex_build 45 #[] rfl (ZB.out _)) ?_)
      | (refine wp_val (by rfl) (ex_neq 45 _ _ _ rfl (xs := (idV id).toArray) (ys := (idV zero32).toArray) rfl rfl (r := false) eqId.noGuard (EQ.out _)) ?_; simp only [Act.put, List.setIfInBounds_toArray, List.set_cons_zero, List.set_cons_succ, Bool.not_true, Bool.not_false])
      | (go_at_call 15; refine (find_any deps id Ad cd W0 hn HO.out HI.out HSLD.out).mono ?_; rintro e w1 ⟨hb1, n, rfl, hn1, hn2⟩
         obtain rfl : q = n := (HFI.out n hn2).symm
         rw [HTH.out]
         have HWA1 := Lib.hid (HWA0.out.keep hb1)
         have HNX1 := Lib.hid (HWA0.out.keepNot hb1 HNX.out)
         have HG1 := Lib.hid (HG0.out.trans (WrGo.below HWA0.out.lt hb1))
         have HX32' := Lib.hid ((hb1.cell (p := ⟨w.heap.size, 32, none⟩) HZ.out).trans HX32.out)
         have HZ1 := Lib.hid (Nat.lt_of_lt_of_le HZ.out hb1.size)
         clear hb1 hn2))
    go_upto_region 6 with (first
      | (go_at_call 46; refine (wnum_any g (q + 1) xs w1 HWA1.out (by omega) (by omega)).mono ?_; rintro e w2 ⟨rfl, hat2, hgo2⟩
         have c32 := (hgo2.cell (j := 32) HZ1.out HNX1.out).trans HX32'.out
         have HAT2 := Lib.hid hat2; have HGO2 := Lib.hid hgo2
         clear hat2 hgo2))
    go_wp2_with (first
      | (go_at_call 46; refine (wnum_any g i (xs ++ numB (q + 1)) w2 HAT2.out (by omega) (by rw [List.length_append]; omega)).mono ?_; rintro e w3 ⟨rfl, hat3, hgo3⟩))
    go_end0
    exact ⟨rfl, by rw [HE.out, ← List.append_assoc]; exact hat3, HG1.out.trans (HGO2.out.trans hgo3)⟩
end Go.Proofs.YthjaepmfkgejkaaDoor
namespace Go.Proofs.YthjaepmfkgejkaaDoor
set_option linter.unusedVariables false

section
variable {P : Program} {ops : Array Oper} {Q : Exit → Act → World → Prop} {rest : List Oper} {a : Act} {w : World} {d : Option Tmp} {t : TypeId} {p : String} {af : Array Edge} {g : Option (Nat × Bool)}
theorem at_load {ty : TypeId} {x : Operand} (h : wpList P ops Q ({ dst := d, op := .load ty x, type := t, pos := p, after := af, guard := g } :: rest) a w) : wpList P ops Q ({ dst := d, op := .load ty x, type := t, pos := p, after := af, guard := g } :: rest) a w := h
theorem at_store {ty : TypeId} {x y : Operand} (h : wpList P ops Q ({ dst := d, op := .store ty x y, type := t, pos := p, after := af, guard := g } :: rest) a w) : wpList P ops Q ({ dst := d, op := .store ty x y, type := t, pos := p, after := af, guard := g } :: rest) a w := h
theorem at_alloc {ty : TypeId} (h : wpList P ops Q ({ dst := d, op := .alloc ty, type := t, pos := p, after := af, guard := g } :: rest) a w) : wpList P ops Q ({ dst := d, op := .alloc ty, type := t, pos := p, after := af, guard := g } :: rest) a w := h
theorem at_box {ty : TypeId} {x : Operand} (h : wpList P ops Q ({ dst := d, op := .box ty x, type := t, pos := p, after := af, guard := g } :: rest) a w) : wpList P ops Q ({ dst := d, op := .box ty x, type := t, pos := p, after := af, guard := g } :: rest) a w := h
theorem at_build {ty : TypeId} {xs : Array (Nat × Operand)} (h : wpList P ops Q ({ dst := d, op := .build ty xs, type := t, pos := p, after := af, guard := g } :: rest) a w) : wpList P ops Q ({ dst := d, op := .build ty xs, type := t, pos := p, after := af, guard := g } :: rest) a w := h
theorem at_binOp {b : BinOp} {ty tz : TypeId} {x y : Operand} (h : wpList P ops Q ({ dst := d, op := .binOp b ty x y tz, type := t, pos := p, after := af, guard := g } :: rest) a w) : wpList P ops Q ({ dst := d, op := .binOp b ty x y tz, type := t, pos := p, after := af, guard := g } :: rest) a w := h
end
end Go.Proofs.YthjaepmfkgejkaaDoor
namespace Go.Proofs.YthjaepmfkgejkaaDoor
open Go.RowKit
set_option linter.unusedVariables false

theorem setCells_heap {T : TypeId} {fr : Nat × Nat} {g : Nat} : ∀ (cs pre mid post : List Value) (w : World), mid.length = cs.length → w.heap[g]? = some (.cells (pre ++ (mid ++ post)).toArray T fr) → (w.setCells g pre.length cs).heap[g]? = some (.cells (pre ++ (cs ++ post)).toArray T fr)
  | [], pre, mid, post, w, hl, hg => by
    obtain rfl : mid = [] := List.eq_nil_of_length_eq_zero hl
    exact hg
  | v :: cs, pre, [], post, w, hl, hg => by cases hl
  | v :: cs, pre, u :: mid, post, w, hl, hg => by
    have h1 : (w.setCell ⟨g, pre.length, none⟩ v).heap[g]? = some (.cells ((pre ++ [v]) ++ (mid ++ post)).toArray T fr) := by
      simp [World.setCell, Array.getElem?_modify, hg]
    have h2 := setCells_heap cs (pre ++ [v]) mid post _ (by simpa using hl) h1
    rw [World.setCells]
    have e : (pre ++ [v]).length = pre.length + 1 := by simp
    rw [e] at h2
    rw [h2]
    simp
theorem setCells_but {X : Nat → Prop} {g : Nat} (hX : X g) : ∀ (cs : List Value) (o : Nat) (w : World), But X w (w.setCells g o cs)
  | [], _, _ => But.refl _ _
  | v :: cs, o, w => (But.setCell (X := X) (But.refl X w) (p := ⟨g, o, none⟩) (fun _ => hX) v).trans (setCells_but hX cs (o + 1) _) fun _ _ h => h
theorem setCells_size {g : Nat} : ∀ (cs : List Value) (o : Nat) (w : World), (w.setCells g o cs).heap.size = w.heap.size
  | [], _, _ => rfl
  | v :: cs, o, w => (setCells_size cs (o + 1) _).trans (by simp [World.setCell])
section
variable {P : Program} {o : Oper} {w : World}
theorem ex_storeM {ρ : Operand → Value} (ty : TypeId) (x y : Operand) (ho : o.op = .store ty x y) (g k : Nat) (pre mid post cs : List Value) (T : TypeId) (V : Value) (hx : ρ x = .pointer (some ⟨g, k, none⟩)) (hk : k = pre.length) (hy : ρ y = V) (hV : V.cells = cs.toArray)
    (hg : w.heap[g]? = some (.cells (pre ++ (mid ++ post)).toArray T (0, 0))) (hl : mid.length = cs.length) (hi : (P.info? ty).map (·.size) = some cs.length) (h1 : ∀ u ∈ cs, u.oneCell' = true) : (execOp ρ o).run P w = .ok .skip (w.setCells g pre.length cs) := by
  subst hk
  have hcell : ∀ j, j < cs.length → (w.cell? ⟨g, pre.length + 0 + j, none⟩).isSome = true := fun j hj => by
    rw [cells_at0 hg]
    have : pre.length + 0 + j < (pre ++ (mid ++ post)).length := by simp; omega
    rw [List.getElem?_eq_getElem this]; rfl
  have hfr : ∀ j, j < cs.length → w.frozen? ⟨g, pre.length + 0 + j, none⟩ = false := fun j _ => by simp [World.frozen?, hg]
  have h := run_storeCells_cells (P := P) g pre.length cs 0 w hcell hfr h1
  unfold execOp
  cases hq : P.info? ty with
  | none => simp [hq] at hi
  | some i =>
    have hs : i.size = cs.length := by simpa [hq] using hi
    simp only [ho, hx, hy, Instr.storeAt, Instr.sureAddr, Sem.run_bind, Sem.run_pure, Result.andThen_ok]
    simp [storeVar, sizeOf, typeInfo, hq, hV, hs, h]
theorem wp_storeM {ops : Array Oper} {rest : List Oper} {a : Act} {Q : Exit → Act → World → Prop} (hw : Region.wanted o (yielded ops a.tmps) = true) (ty : TypeId) (x y : Operand) (ho : o.op = .store ty x y) (g k : Nat) (pre mid post cs : List Value) (T : TypeId) (V : Value) (hx : a.eval x = .pointer (some ⟨g, k, none⟩)) (hk : k = pre.length) (hy : a.eval y = V) (hV : V.cells = cs.toArray)
    (hg : w.heap[g]? = some (.cells (pre ++ (mid ++ post)).toArray T (0, 0))) (hl : mid.length = cs.length) (hi : (P.info? ty).map (·.size) = some cs.length) (h1 : ∀ u ∈ cs, u.oneCell' = true)
    (h : ∀ W : World, But (fun k => k = g) w W → W.heap[g]? = some (.cells (pre ++ (cs ++ post)).toArray T (0, 0)) → W.heap.size = w.heap.size → wpList P ops Q rest (a.put o.dst undef) W) : wpList P ops Q (o :: rest) a w := by
  refine BigFrame.wpList_want hw fun K hK => ?_
  have h2 := ex_storeM (P := P) ty x y ho g k pre mid post cs T V hx hk hy hV hg hl hi h1
  unfold Oper.wp
  rw [h2]
  exact hK _ _ (h _ (setCells_but (X := fun k => k = g) rfl _ _ _) (setCells_heap cs pre mid post w hl hg) (setCells_size _ _ _))
/-- A new variable: its block, named by its cells. -/
theorem wp_allocM {ops : Array Oper} {rest : List Oper} {a : Act} {Q : Exit → Act → World → Prop} (hw : Region.wanted o (yielded ops a.tmps) = true) (t : TypeId) (ho : o.op = .alloc t) (cs : List Value) (hz : (zeroValue t).run P w = .ok (.agg cs.toArray) w)
    (h : ∀ W : World, Below w.heap.size w W → W.heap[w.heap.size]? = some (.cells cs.toArray t (0, 0)) → W.heap.size = w.heap.size + 1 → wpList P ops Q rest (a.put o.dst (.pointer (some ⟨w.heap.size, 0, none⟩))) W) : wpList P ops Q (o :: rest) a w := by
  refine BigFrame.wpList_want hw fun K hK => ?_
  have h2 : (execOp a.eval o).run P w = .ok (.value (.pointer (some ⟨w.heap.size, 0, none⟩))) (w.alloc (.cells cs.toArray t)) := by
    unfold execOp
    simp [ho, Instr.alloc, newVar, newRow, hz, Result.andThen, Sem.run_bind, Value.cells]
  unfold Oper.wp
  rw [h2]
  exact hK _ _ (h _ ((Below.refl _ _).alloc (Nat.le_refl _) _) (heap_alloc_new _ _) (by simp))
/-- A value laid in a new variable. -/
theorem wp_boxM {ops : Array Oper} {rest : List Oper} {a : Act} {Q : Exit → Act → World → Prop} (hw : Region.wanted o (yielded ops a.tmps) = true) (t : TypeId) (x : Operand) (ho : o.op = .box t x) (cs : List Value) (V : Value) (hx : a.eval x = V) (hV : V.cells = cs.toArray) (hi : (P.info? t).map (·.size) = some cs.length)
    (h : ∀ W : World, Below w.heap.size w W → W.heap[w.heap.size]? = some (.cells cs.toArray t (0, 0)) → W.heap.size = w.heap.size + 1 → wpList P ops Q rest (a.put o.dst (.pointer (some ⟨w.heap.size, 0, none⟩))) W) : wpList P ops Q (o :: rest) a w := by
  refine BigFrame.wpList_want hw fun K hK => ?_
  have h2 : (execOp a.eval o).run P w = .ok (.value (.pointer (some ⟨w.heap.size, 0, none⟩))) (w.alloc (.cells cs.toArray t)) := by
    unfold execOp
    cases hq : P.info? t with
    | none => simp [hq] at hi
    | some i =>
      have hs : i.size = cs.length := by simpa [hq] using hi
      simp [ho, hx, Instr.box, newVar, newRow, hV, Result.andThen]
  unfold Oper.wp
  rw [h2]
  exact hK _ _ (h _ ((Below.refl _ _).alloc (Nat.le_refl _) _) (heap_alloc_new _ _) (by simp))
end
/-- The same at a step taken by hand. -/
theorem wpOp_storeM {P : Program} {ops : Array Oper} {Q : Exit → Act → World → Prop} {i : Nat} {K : Act → World → Prop} {a : Act} {w : World} (o : Oper) (hi : opAt ops.toList i = some o) (hw : Region.wanted o (yielded ops a.tmps) = true)
    (ty : TypeId) (x y : Operand) (ho : o.op = .store ty x y) (g k : Nat) (pre mid post cs : List Value) (T : TypeId) (V : Value) (hx : a.eval x = .pointer (some ⟨g, k, none⟩)) (hk : k = pre.length) (hy : a.eval y = V) (hV : V.cells = cs.toArray)
    (hg : w.heap[g]? = some (.cells (pre ++ (mid ++ post)).toArray T (0, 0))) (hl : mid.length = cs.length) (hi2 : (P.info? ty).map (·.size) = some cs.length) (h1 : ∀ u ∈ cs, u.oneCell' = true)
    (h : ∀ W : World, But (fun k => k = g) w W → W.heap[g]? = some (.cells (pre ++ (cs ++ post)).toArray T (0, 0)) → W.heap.size = w.heap.size → K (a.put o.dst undef) W) : wpOp P ops Q i K a w :=
  wpOp_skip o hi hw (ex_storeM ty x y ho g k pre mid post cs T V hx hk hy hV hg hl hi2 h1) (h _ (setCells_but (X := fun k => k = g) rfl _ _ _) (setCells_heap cs pre mid post w hl hg) (setCells_size _ _ _))
theorem wpOp_allocM {P : Program} {ops : Array Oper} {Q : Exit → Act → World → Prop} {i : Nat} {K : Act → World → Prop} {a : Act} {w : World} (o : Oper) (hi : opAt ops.toList i = some o) (hw : Region.wanted o (yielded ops a.tmps) = true)
    (t : TypeId) (ho : o.op = .alloc t) (cs : List Value) (hz : (zeroValue t).run P w = .ok (.agg cs.toArray) w)
    (h : ∀ W : World, Below w.heap.size w W → W.heap[w.heap.size]? = some (.cells cs.toArray t (0, 0)) → W.heap.size = w.heap.size + 1 → K (a.put o.dst (.pointer (some ⟨w.heap.size, 0, none⟩))) W) : wpOp P ops Q i K a w :=
  wpOp_val o hi hw (ex_alloc (cs := cs.toArray) ho hz) (h _ ((Below.refl _ _).alloc (Nat.le_refl _) _) (heap_alloc_new _ _) (by simp))
/-- One result, which lies in a block. -/
theorem results_one {P : Program} {fn : Func} {p : Tmp} {ty : TypeId} (h : fn.results = #[.cell p ty]) (tmps : Array Value) (w : World) {a : Addr} {r : Value} (hp : tmps.getD p undef = .pointer (some a)) (hl : (loadVar ty a).run P w = .ok r w) : (results fn tmps).run P w = .ok r w := by
  have hp' : tmps[p]?.getD undef = .pointer (some a) := by simpa using hp
  simp only [results, h]
  simp [hp', asAddr, hl]
/-- Two. -/
theorem results_two {P : Program} {fn : Func} {p q : Tmp} {ty tz : TypeId} (h : fn.results = #[.cell p ty, .cell q tz]) (tmps : Array Value) (w : World) {a b : Addr} {r s : Value} (hp : tmps.getD p undef = .pointer (some a)) (hq : tmps.getD q undef = .pointer (some b)) (hl : (loadVar ty a).run P w = .ok r w) (hm : (loadVar tz b).run P w = .ok s w) : (results fn tmps).run P w = .ok (.tuple #[r, s]) w := by
  have hp' : tmps[p]?.getD undef = .pointer (some a) := by simpa using hp
  have hq' : tmps[q]?.getD undef = .pointer (some b) := by simpa using hq
  simp only [results, h]
  simp [Result.andThen, hp', hq', asAddr, hl, hm]
end Go.Proofs.YthjaepmfkgejkaaDoor
