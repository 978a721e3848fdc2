/-
  What every card's proof of this seat shares: the world's shape gives the library's variable MaxLen a number. No conditions.
  A slice of texts, a slice of files that came in: its cells as a list of paths and bytes, each within the form's reach. No conditions.
  Lists of data as a slice's cells, each element some cells wide; such a slice read from what came in. Over any program; conditions as each says.
  What paths documents have by any claims, as plain functions. No conditions; no program.
  Claims and named documents of the register as cells: read from what came in, compared cell by cell, put together. Conditions: the values are well formed, as each says.
  What the register's functions give: good, Right. Conditions: claims well formed; at most 2^40 of them; the library's variable MaxLen holds a number.
  Why files may not be a tree, as a plain function; files of a tree are one without any one of them, and with two of them changed about. No conditions; no program.
  What the reference's Runes and Is give, and the two Bytes of layer 7. Condition: a text of at most 2^40 bytes (Runes makes a list).
  What the program's Tree gives. Conditions: texts of at most 2^47 bytes; the library's variable MaxLen holds a number.
  What the register's lasts gives: a map of each document's last claim. Conditions: claims well formed; at most 2^40 of them.
  maps.Keys at the register's map: its iterator hands out every key once, in some order. Condition: the map is one that the call made.
  slices.Collect of the keys of the register's map: all keys, each once, in some order. Condition: the map is one that the call made, with at most 2^40 keys.
  A row of several-cell elements that the call owns, sorted by the library: between two vocabularies. Over any program; conditions as each says.
  What contracts of Go's library ask of the program, laid at this program by the kit's tools. Conditions: none.
  slices.SortedFunc over the keys of the register's map: the keys in their order. Condition: the map is one that the call made, with at most 2^40 keys.
  'm[k] op= x' as the model has it: the entry, then the store, over the view of a map. Over any program; conditions as each says.
-/
import Derived.Test.YtfjmbcljohobeaaDoorCards
import Derived.Test.YtfjmbcljohobeaaDoorTie
import Derived.WalkKit
import Derived.ProofKit
import Derived.OpenShut
import Derived.ShutString
import Derived.SliceStrings
import Derived.Carry
import Derived.Deep.DeepHandedRow
import Derived.Lay
import Derived.MakeChecks
import Derived.Shelf.Vars
import Derived.SevenTiedAt
import Derived.Test.YtfjmbcljohobeaaDoorFreshWalks
import Derived.Deep.SlicePairs
import Derived.Test.YtfjmbcljohobeaaDoorIdsSpec
import Derived.Test.YtfjmbcljohobeaaDoorKeySpec
import Derived.Test.YtfjmbcljohobeaaDoorFreshSpec
import Derived.Test.YtfjmbcljohobeaaDoorKeyCells
import Derived.Test.YtfjmbcljohobeaaDoorBuild
import Derived.Test.YtfjmbcljohobeaaDoorKeyWalks
import Derived.Test.YtfjmbcljohobeaaDoorKeyMap
import Derived.Test.YtfjmbcljohobeaaDoorPathNames
import Derived.Test.YtfjmbcljohobeaaDoorUtfRefWalks
import Derived.Test.YtfjmbcljohobeaaDoorMem
import Derived.Test.YtfjmbcljohobeaaDoorIterIn
import Derived.Test.YtfjmbcljohobeaaDoorGr
import Derived.Shelf.SlSortCmp.NoneTotal
import Derived.Shelf.SlGeneric
import Derived.Ground.SlsfProg
import Derived.Test.YtfjmbcljohobeaaDoorProg
import Derived.Test.YtfjmbcljohobeaaDoorMapView
import Derived.Test.YtfjmbcljohobeaaDoorQStep
import Derived.WideKeyEntry
namespace Go.Proofs.YtfjmbcljohobeaaDoor
open Go.RowKit

theorem own : ownKnob Tryd.prog.godebug = none := by kernel_rfl
theorem laidOut : laidOutB Tryd.prog = true := by kernel_rfl
theorem glob0 {W : World} (h : W.ShapedOpen Tryd.prog) : ∃ m : Int, W.cell? ⟨0, 0, none⟩ = some (.int .i64 m) :=
  cell_of_shapedOpen_int (zero := #[.int .i64 0]) (t := 3) h (of_decide_eq_true (by kernel_rfl)) (by kernel_rfl) rfl (by kernel_rfl) (by kernel_rfl) Tryd.underlying3

/-- A witness at a world of one's own. -/
theorem witness_laid {H : Type} {enc : TypeId × Value → H} {C : Checked} {os : Os} {f : FuncId} {fn : Func} {s : OpenSpec} {conds : List PathCond} {apart : Bool} {laid : List (String × DataW Unit)} (w0 : World) (args : Array Value) (hos : w0.os = os)
    (hsh : (w0.forCall (fun _ _ => 0) ⟨#[], args, []⟩).Shaped C.prog)
    (hok : Input.okWideB C.prog (w0.forCall (fun _ _ => 0) ⟨#[], args, []⟩) f ⟨#[], args, []⟩ = true)
    (hrow : s.preRow enc C.prog fn conds apart laid (w0.forCall (fun _ _ => 0) ⟨#[], args, []⟩).memory args) :
    ∃ (w : World) (tape : Tape) (i : Input), w.os = os ∧ (w.forCall tape i).Shaped C.prog ∧ i.vars = [] ∧ Input.okWide C.prog (w.forCall tape i) .any w.heap.size f i ∧
      s.preRow enc C.prog fn conds apart laid (w.forCall tape i).memory i.args ∧ ({} : Assume).holds C.prog (lone (Frame.enter C.prog f i.args .normal) [] (w.forCall tape i)) :=
  ⟨w0, fun _ _ => 0, ⟨#[], args, []⟩, hos, hsh, (Input.okWide_of_okWideB (base := 0) hok).1, (Input.okWide_of_okWideB hok).2, hrow, by
    simp only [Assume.holds]
    exact ⟨by simp, by simp, fun _ => Modest.zero, by simp, by simp⟩⟩
end Go.Proofs.YtfjmbcljohobeaaDoor
namespace Go.Proofs.YtfjmbcljohobeaaDoor
open Go.ChangeShapes Go.WideShapes Go.ChangeAt Go.RowKit
set_option linter.unusedVariables false

theorem addr_add (b off k : Nat) : (⟨b, off, none⟩ : Addr).add k = ⟨b, off + k, none⟩ := by unfold Addr.add; split <;> simp_all

theorem weightsAll_mem {H : Type} {P : Program} {e : TypeId} : ∀ {l : List (DataW H)} {d : DataW H}, d ∈ l → ∀ n ∈ d.weights P e, n ∈ DataW.weightsAll P e l
  | d' :: r, d, hd, n, hn => by
    simp only [DataW.weightsAll, List.mem_append]
    rcases List.mem_cons.1 hd with rfl | h
    · exact Or.inl hn
    · exact Or.inr (weightsAll_mem h n hn)

/-- A slice of texts that came in, each within the form's reach. -/
theorem strs_small {H : Type} {enc : TypeId × Value → H} {W : World} {a : Option Addr} {len cap : Nat} {d : DataW H} {ps : List MemPlace}
    (h : DataW.Trod enc Tryd.prog W 0 (fun _ => true) true 61 (.slice a len cap) d ps) {ts : List TypeId} {ds : List (DataW H)} (hsz : (DataW.weightsEach Tryd.prog ts ds).all (· ≤ reachBytes) = true) {j : Nat} (hts : ts[j]? = some 61) (hds : ds[j]? = some d) :
    ∃ taken : List ByteArray, taken.length = len ∧ len ≤ maxLen ∧ smallL taken ∧ Sl W W.heap.size a taken.length 1 (Go.Proofs.YtfjmbcljohobeaaDoor.strs taken) := by
  have lt : ∀ x ∈ ps, x.block < W.heap.size := by obtain ⟨m, hm⟩ := h; exact DataW.trod_lt m _ _ _ hm
  obtain ⟨fuel, hf⟩ := h
  rcases open_strings Tryd.underlying61 Tryd.underlying9 (by kernel_rfl) hf with ⟨hcs, _⟩ | ⟨x, l, c, ss, hcs, _, hl, hm, hss, hdx, hcell, hz⟩
  · simp [Value.cells] at hcs
    obtain ⟨rfl, rfl, rfl⟩ := hcs
    exact ⟨[], rfl, by unfold maxLen; omega, fun t ht => absurd ht (by simp), Sl.nil⟩
  · simp [Value.cells] at hcs
    obtain ⟨rfl, rfl, rfl⟩ := hcs
    have hsl : ss.length = cap := by simpa using hss
    have hlen : (ss.take len).length = len := by rw [List.length_take]; omega
    have hdd : d = .slice (Go.ChangeShapes.strs (ss.take len)) (Go.ChangeShapes.strs (ss.drop len)) := congrArg Prod.fst hdx
    subst hdd
    have hsm : smallL (ss.take len) := by
      intro t ht
      have hw := List.all_eq_true.1 hsz t.data.toList.length (DataW.weights_mem_each hts hds _ (by
        simp only [DataW.weights, Tryd.underlying61, List.mem_cons, List.mem_append]
        exact Or.inr (Or.inl (weightsAll_mem (d := .lit (.string t.data.toList)) (List.mem_map.2 ⟨t, ht, rfl⟩) _ (by simp [DataW.weights])))))
      have h1 := of_decide_eq_true hw
      have h2 : t.data.toList.length = t.size := L_length t
      have h3 : reachBytes = 140737488351232 := rfl
      omega
    refine ⟨ss.take len, hlen, by omega, hsm, by simp [Go.Proofs.YtfjmbcljohobeaaDoor.strs], fun h0 => ?_⟩
    rw [hlen] at h0
    obtain ⟨b, off, spot⟩ := x
    have hc := hcell 0 (by omega)
    obtain rfl : spot = none := by simpa [Addr.add] using World.cell?_spot hc
    have hblk : b < W.heap.size := by
      have hc0 : W.cell? ⟨b, off, none⟩ = some (.string (ss.getD 0 ByteArray.empty)) := by simpa [Addr.add] using hc
      rcases Nat.lt_or_ge b W.heap.size with q | q
      · exact q
      · unfold World.cell? at hc0
        rw [Array.getElem?_eq_none q] at hc0
        cases hc0
    refine ⟨b, off, rfl, hblk, fun j u hu => ?_⟩
    have hj : j < len := by
      have := (List.getElem?_eq_some_iff.1 hu).1
      simp [Go.Proofs.YtfjmbcljohobeaaDoor.strs] at this
      omega
    have hcj := hcell j (by omega)
    have e1 : (⟨b, off, none⟩ : Addr).add j = ⟨b, off + j, none⟩ := by unfold Addr.add; split <;> simp_all
    rw [e1] at hcj
    rw [hcj, ← hu]
    simp [Go.Proofs.YtfjmbcljohobeaaDoor.strs, hj, List.getD_eq_getElem?_getD, show j < ss.length by omega]

/-- Files, as a slice's cells. -/
def cells2 : List (ByteArray × ByteArray) → List Value
  | [] => []
  | f :: r => .string f.1 :: .string f.2 :: cells2 r
theorem cells2_length : ∀ fs, (cells2 fs).length = fs.length * 2
  | [] => rfl
  | f :: r => by simp only [cells2, List.length_cons, cells2_length r]; omega
theorem cells2_get : ∀ (fs : List (ByteArray × ByteArray)) (i : Nat) (h : i < fs.length), (cells2 fs)[i * 2]? = some (.string fs[i].1) ∧ (cells2 fs)[i * 2 + 1]? = some (.string fs[i].2)
  | f :: r, 0, _ => ⟨rfl, rfl⟩
  | f :: r, i + 1, h => by
    have := cells2_get r i (by simpa using h)
    rw [show (i + 1) * 2 = i * 2 + 1 + 1 by omega]
    simpa [cells2] using this
theorem cells2_append : ∀ (a b : List (ByteArray × ByteArray)), cells2 (a ++ b) = cells2 a ++ cells2 b
  | [], b => rfl
  | f :: r, b => by simp only [cells2, List.cons_append, cells2_append r b]
theorem cells2_one : ∀ (fs : List (ByteArray × ByteArray)), ∀ u ∈ cells2 fs, u.oneCell' = true
  | [], u, h => by cases h
  | f :: r, u, h => by
    simp only [cells2, List.mem_cons] at h
    rcases h with rfl | rfl | h
    · rfl
    · rfl
    · exact cells2_one r u h
def smallF (fs : List (ByteArray × ByteArray)) : Prop := ∀ f ∈ fs, f.1.size ≤ 140737488355328 ∧ f.2.size ≤ 140737488355328

theorem files_small {H : Type} {enc : TypeId × Value → H} {W : World} {a : Option Addr} {len cap : Nat} {d : DataW H} {ps : List MemPlace}
    (h : DataW.Trod enc Tryd.prog W 0 (fun _ => true) true 63 (.slice a len cap) d ps) {ts : List TypeId} {ds : List (DataW H)} (hsz : (DataW.weightsEach Tryd.prog ts ds).all (· ≤ reachBytes) = true) {j : Nat} (hts : ts[j]? = some 63) (hds : ds[j]? = some d) :
    ∃ fs : List (ByteArray × ByteArray), fs.length = len ∧ len ≤ maxLen ∧ len ≤ cap ∧ smallF fs ∧ Sl W W.heap.size a fs.length 2 (cells2 fs) := by
  have lt : ∀ x ∈ ps, x.block < W.heap.size := by obtain ⟨m, hm⟩ := h; exact DataW.trod_lt m _ _ _ hm
  obtain ⟨fuel, hf⟩ := h
  rcases Go.Deep.open_slice_pairs Tryd.underlying63 Tryd.underlying65 (by kernel_rfl) rfl rfl (by kernel_rfl) (by kernel_rfl) hf with ⟨hcs, _⟩ | ⟨x, l, c, m, n, V0, V1, D0, D1, P0, P1, hcs, _, hl, hc, hm, hdx, hcell⟩
  · simp [Value.cells] at hcs
    obtain ⟨rfl, rfl, rfl⟩ := hcs
    exact ⟨[], rfl, by unfold maxLen; omega, by omega, fun t ht => absurd ht (by simp), Sl.nil⟩
  · simp [Value.cells] at hcs
    obtain ⟨rfl, rfl, rfl⟩ := hcs
    have hmc : m = cap := by simpa using hm
    subst hmc
    have hdd := congrArg Prod.fst hdx
    simp only at hdd
    subst hdd
    have hel : ∀ i, i < len → ∃ f : ByteArray × ByteArray, V0 i = .string f.1 ∧ V1 i = .string f.2 ∧ D0 i = .lit (.string (L f.1)) ∧ D1 i = .lit (.string (L f.2)) := by
      intro i hi
      obtain ⟨_, _, t0, t1⟩ := hcell i (by omega)
      obtain ⟨s0, e0, x0, _⟩ := DataW.trod_string Tryd.underlying9 t0
      obtain ⟨s1, e1, x1, _⟩ := DataW.trod_string Tryd.underlying9 t1
      simp only [List.cons.injEq, and_true] at e0 e1
      exact ⟨(s0, s1), e0, e1, congrArg Prod.fst x0, congrArg Prod.fst x1⟩
    obtain ⟨F, hF⟩ := Go.Deep.choose_lt hel
    refine ⟨(List.range len).map F, by simp, by omega, hl, ?_, ?_⟩
    · intro f hf
      obtain ⟨i, hi, rfl⟩ := List.mem_map.1 hf
      have hi' : i < len := by simpa using hi
      obtain ⟨_, _, h0, h1⟩ := hF i hi'
      have hmem : ∀ k, k ∈ [(L (F i).1).length, (L (F i).2).length] → k ≤ 140737488355328 := by
        intro k hk
        have hw := List.all_eq_true.1 hsz k (DataW.weights_mem_each hts hds _ (by
          simp only [DataW.weights, Tryd.underlying63, List.mem_cons, List.mem_append]
          refine Or.inr (Or.inl (weightsAll_mem (d := .agg [D0 i, D1 i]) (List.mem_map.2 ⟨i, by simpa using hi', rfl⟩) _ ?_))
          rw [h0, h1]
          simp only [DataW.weights, Tryd.underlying65, List.map_cons, List.map_nil, DataW.weightsEach]
          simpa using hk))
        have h1 := of_decide_eq_true hw
        have h3 : reachBytes = 140737488351232 := rfl
        omega
      rw [← L_length, ← L_length]
      exact ⟨hmem _ (by simp), hmem _ (by simp)⟩
    · refine ⟨by rw [cells2_length], fun h0 => ?_⟩
      have hlen : ((List.range len).map F).length = len := by simp
      rw [hlen] at h0
      obtain ⟨b, off, spot⟩ := x
      have hc0 := (hcell 0 (by omega)).1
      obtain rfl : spot = none := by simpa [Addr.add] using World.cell?_spot hc0
      have hblk : b < W.heap.size := by
        have hc1 : W.cell? ⟨b, off, none⟩ = some (V0 0) := by simpa [Addr.add] using hc0
        rcases Nat.lt_or_ge b W.heap.size with q | q
        · exact q
        · unfold World.cell? at hc1
          rw [Array.getElem?_eq_none q] at hc1
          cases hc1
      refine ⟨b, off, rfl, hblk, fun j u hu => ?_⟩
      have hj := (List.getElem?_eq_some_iff.1 hu).1
      rw [cells2_length, hlen] at hj
      obtain ⟨g0, g1⟩ := cells2_get ((List.range len).map F) (j / 2) (by rw [hlen]; omega)
      obtain ⟨c0, c1, _, _⟩ := hcell (j / 2) (by omega)
      obtain ⟨e0, e1, _, _⟩ := hF (j / 2) (by omega)
      have ea : ∀ k, (⟨b, off, none⟩ : Addr).add k = ⟨b, off + k, none⟩ := addr_add b off
      rw [ea] at c0
      have ea2 : ((⟨b, off, none⟩ : Addr).add (j / 2 * 2 + 1)) = ⟨b, off + (j / 2 * 2 + 1), none⟩ := ea _
      rw [ea2] at c1
      have hFi : ((List.range len).map F)[j / 2]'(by rw [hlen]; omega) = F (j / 2) := by simp
      rw [hFi] at g0 g1
      rcases Nat.mod_two_eq_zero_or_one j with hj2 | hj2
      · have ej : j / 2 * 2 = j := by omega
        rw [ej] at g0 c0
        rw [hu] at g0
        rw [c0, e0, Option.some.inj g0]
      · have ej : j / 2 * 2 + 1 = j := by omega
        rw [ej] at g1 c1
        rw [hu] at g1
        rw [c1, e1, Option.some.inj g1]
end Go.Proofs.YtfjmbcljohobeaaDoor
namespace Go.Proofs.YtfjmbcljohobeaaDoor
open Go.RowKit Go.ChangeShapes Go.WideShapes Go.ChangeAt
set_option linter.unusedVariables false

section
variable {α : Type} {enc : α → List Value} {sz : Nat}
def rowsV (enc : α → List Value) (l : List α) : List Value := l.flatMap enc
theorem rowsV_length : ∀ {l : List α}, (∀ x ∈ l, (enc x).length = sz) → (rowsV enc l).length = l.length * sz
  | [], _ => by simp [rowsV]
  | a :: l, h => by
    have h1 := h a (by simp)
    have h2 := rowsV_length (l := l) fun x hx => h x (by simp [hx])
    simp only [rowsV, List.flatMap_cons, List.length_append, List.length_cons] at h2 ⊢
    rw [h1, h2, Nat.add_mul]; omega
theorem rowsV_app (a b : List α) : rowsV enc (a ++ b) = rowsV enc a ++ rowsV enc b := by simp [rowsV]
theorem rowsV_one (h1 : ∀ x, ∀ u ∈ enc x, u.oneCell' = true) (l : List α) : ∀ u ∈ rowsV enc l, u.oneCell' = true := by
  intro u hu
  obtain ⟨a, _, ha⟩ := List.mem_flatMap.1 hu
  exact h1 a u ha
theorem rowsV_get : ∀ {l : List α}, (∀ x ∈ l, (enc x).length = sz) → ∀ (i : Nat) (h : i < l.length) (j : Nat) (u : Value), (enc l[i])[j]? = some u → (rowsV enc l)[i * sz + j]? = some u
  | [], _, _, h, _, _, _ => by cases h
  | a :: l, ho, 0, _, j, u, hj => by
    have h1 : (enc a).length = sz := ho a (by simp)
    have hlt := (List.getElem?_eq_some_iff.1 hj).1
    simp only [rowsV, List.flatMap_cons, Nat.zero_mul, Nat.zero_add]
    rw [List.getElem?_append_left (by simpa using hlt)]
    exact hj
  | a :: l, ho, i + 1, h, j, u, hj => by
    have h1 : (enc a).length = sz := ho a (by simp)
    have := rowsV_get (l := l) (fun x hx => ho x (by simp [hx])) i (by simpa using h) j u (by simpa using hj)
    simp only [rowsV, List.flatMap_cons] at this ⊢
    rw [List.getElem?_append_right (by rw [h1, Nat.add_mul]; omega), h1, show (i + 1) * sz + j - sz = i * sz + j by rw [Nat.add_mul]; omega]
    exact this
theorem Sl.row {w : World} {b off : Nat} {l : List α} (ho : ∀ x ∈ l, (enc x).length = sz) (h : ∀ j u, (rowsV enc l)[j]? = some u → w.cell? ⟨b, off + j, none⟩ = some u) {i : Nat} (hi : i < l.length) : ∀ j u, (enc l[i])[j]? = some u → w.cell? ⟨b, off + i * sz + j, none⟩ = some u := by
  intro j u hj
  rw [Nat.add_assoc]
  exact h _ _ (rowsV_get ho i hi j u hj)
end

/-- Cells read together stand one by one. -/
theorem open_rows {H : Type} {encH : TypeId × Value → H} {P : Program} {W : World} {t e : TypeId} {α : Type} [Inhabited α] {enc : α → List Value} {ok : α → Prop} {sz : Nat} (ht : P.underlying t = some (.slice e)) (hce : P.cellsOf e = sz) (hsz : 0 < sz) (hlen : ∀ x, ok x → (enc x).length = sz)
    (dec : ∀ n cs x, DataW.trod encH P W 0 (fun _ => true) true n e cs = some x → ∃ c : α, ok c ∧ cs = enc c)
    {a : Option Addr} {len cap : Nat} {d : DataW H} {ps : List MemPlace} (h : DataW.Trod encH P W 0 (fun _ => true) true t (.slice a len cap) d ps) :
    ∃ l : List α, l.length = len ∧ len ≤ maxLen ∧ len ≤ cap ∧ (∀ c ∈ l, ok c) ∧ Sl W W.heap.size a l.length sz (rowsV enc l) := by
  obtain ⟨fuel, hf⟩ := h
  rcases Go.Deep.open_slice ht hf with ⟨hcs, _⟩ | ⟨x, ln, c, m, n, D, Pl, hcs, _, hl, hm, hmm, hdx, hx⟩
  · simp [Value.cells] at hcs
    obtain ⟨rfl, rfl, rfl⟩ := hcs
    exact ⟨[], rfl, by unfold maxLen; omega, by omega, fun t ht => absurd ht (by simp), Sl.nil⟩
  · simp [Value.cells] at hcs
    obtain ⟨rfl, rfl, rfl⟩ := hcs
    have hmc : m = cap := by simpa using hmm
    subst hmc
    have each : ∀ i, i < len → ∃ q : α, ok q ∧ W.cells? 0 (x.add (i * sz)) sz = some (enc q) := by
      intro i hi
      obtain ⟨cs', h1, h2⟩ := hx i (by omega)
      obtain ⟨q, hq, rfl⟩ := dec _ _ _ h2
      rw [hce] at h1
      exact ⟨q, hq, h1⟩
    obtain ⟨F, hF⟩ := Go.Deep.choose_lt each
    have hok : ∀ c ∈ (List.range len).map F, ok c := by
      intro c hc
      obtain ⟨i, hi, rfl⟩ := List.mem_map.1 hc
      exact (hF i (by simpa using hi)).1
    have hlens : ∀ c ∈ (List.range len).map F, (enc c).length = sz := fun c hc => hlen c (hok c hc)
    refine ⟨(List.range len).map F, by simp, by omega, hl, hok, rowsV_length hlens, fun h0 => ?_⟩
    have hln : ((List.range len).map F).length = len := by simp
    rw [hln] at h0
    obtain ⟨b, off, spot⟩ := x
    have hcell : ∀ i, i < len → ∀ k, k < sz → W.cell? ((⟨b, off, spot⟩ : Addr).add (i * sz + k)) = (enc (F i))[k]? := by
      intro i hi k hk
      obtain ⟨_, hlen', hc⟩ := World.cells?_some (hF i hi).2
      have := hc k hk
      rw [Go.Deep.add_add] at this
      exact this
    have hc0 := hcell 0 h0 0 hsz
    have hv0 : ∃ v, (enc (F 0))[0]? = some v := ⟨_, List.getElem?_eq_getElem (by rw [hlen _ (hF 0 h0).1]; exact hsz)⟩
    obtain ⟨v0, hv0⟩ := hv0
    rw [hv0] at hc0
    obtain rfl : spot = none := by simpa [Addr.add] using World.cell?_spot hc0
    have hblk : b < W.heap.size := by
      have hc1 : W.cell? ⟨b, off, none⟩ = some v0 := by simpa [Addr.add] using hc0
      rcases Nat.lt_or_ge b W.heap.size with q | q
      · exact q
      · unfold World.cell? at hc1
        rw [Array.getElem?_eq_none q] at hc1
        cases hc1
    refine ⟨b, off, rfl, hblk, fun j u hu => ?_⟩
    have hj := (List.getElem?_eq_some_iff.1 hu).1
    rw [rowsV_length hlens, hln] at hj
    have hi : j / sz < len := (Nat.div_lt_iff_lt_mul hsz).2 hj
    have hk : j % sz < sz := Nat.mod_lt _ hsz
    have hjs : j / sz * sz + j % sz = j := by rw [Nat.mul_comm]; exact Nat.div_add_mod j sz
    have hc := hcell (j / sz) hi (j % sz) hk
    rw [hjs, addr_add] at hc
    obtain ⟨v, hv⟩ : ∃ v, (enc (F (j / sz)))[j % sz]? = some v := ⟨_, List.getElem?_eq_getElem (by rw [hlen _ (hF _ hi).1]; exact hk)⟩
    have hg := rowsV_get hlens (j / sz) (by rw [hln]; exact hi) (j % sz) v (by simpa using hv)
    rw [hjs, hu] at hg
    rw [hc, hv, Option.some.inj hg]
end Go.Proofs.YtfjmbcljohobeaaDoor
namespace Go.Proofs.YtfjmbcljohobeaaDoor

/-- A claim: its key, its document, its kind, its path. -/
abbrev ClaimD := KeyD × KeyD × Nat × ByteArray
def goodB (k : Nat) (p : ByteArray) : Bool := if k = 3 ∨ k = 4 then pathB p else if k = 5 then decide (p.size = 0) else false
def RightP (l : List ClaimD) : Prop := (∀ c ∈ l, goodB c.2.2.1 c.2.2.2 = true) ∧ (l.map (·.1)).Nodup
instance (l : List ClaimD) : Decidable (RightP l) := by unfold RightP; infer_instance
def rightB (l : List ClaimD) : Bool := decide (RightP l)

/-- A document's last claim. -/
def later (d : KeyD) (a : Option ClaimD) (c : ClaimD) : Option ClaimD :=
  if c.2.1 = d then (match a with | none => some c | some w => if 0 < cmpK c.1 w.1 then some c else some w) else a
def lastOf (l : List ClaimD) (d : KeyD) : Option ClaimD := l.foldl (later d) none
theorem lastOf_snoc (l : List ClaimD) (c : ClaimD) (d : KeyD) : lastOf (l ++ [c]) d = later d (lastOf l d) c := by simp [lastOf]

theorem lastOf_ne {d : KeyD} {x : ClaimD} {l : List ClaimD} (h1 : x ∈ l) (h2 : x.2.1 = d) : lastOf l d ≠ none := by
  suffices h : ∀ (l : List ClaimD) (a : Option ClaimD), (a ≠ none ∨ (x ∈ l ∧ x.2.1 = d)) → l.foldl (later d) a ≠ none from h l none (.inr ⟨h1, h2⟩)
  intro l
  induction l with
  | nil => exact fun a h => h.elim id (fun h => absurd h.1 (by simp))
  | cons y l ih =>
    intro a h
    rw [List.foldl_cons]
    apply ih
    rcases h with h | ⟨h, hd⟩
    · left
      unfold later
      split
      · split
        · simp
        · split <;> simp
      · exact h
    · rcases List.mem_cons.1 h with rfl | h
      · left
        unfold later
        rw [if_pos hd]
        split
        · simp
        · split <;> simp
      · exact .inr ⟨h, hd⟩
theorem lastOf_is {l : List ClaimD} {d : KeyD} {c : ClaimD} (h0 : lastOf l d = some c) : c ∈ l ∧ c.2.1 = d ∧ ∀ x ∈ l, x.2.1 = d → cmpK x.1 c.1 ≤ 0 := by
  suffices h : ∀ (n : Nat) (l : List ClaimD), l.length ≤ n → ∀ c, lastOf l d = some c → c ∈ l ∧ c.2.1 = d ∧ ∀ x ∈ l, x.2.1 = d → cmpK x.1 c.1 ≤ 0 from h _ l (Nat.le_refl _) c h0
  intro n
  induction n with
  | zero =>
    intro l hl c h
    rw [List.length_eq_zero_iff.1 (by omega : l.length = 0)] at h
    cases h
  | succ n ih =>
    intro l hl c h
    rcases List.eq_nil_or_concat l with e | ⟨l', y, e⟩
    · rw [e] at h; cases h
    · rw [List.concat_eq_append] at e
      subst e
      have hl' : l'.length ≤ n := by simp at hl; omega
      rw [lastOf_snoc] at h
      unfold later at h
      split at h
      · rename_i hd
        split at h
        · rename_i hn
          cases h
          refine ⟨by simp, hd, fun x hx hxd => ?_⟩
          rcases List.mem_append.1 hx with hx | hx
          · have : lastOf l' d ≠ none := lastOf_ne hx hxd
            exact absurd hn this
          · simp at hx; subst hx; rw [cmpK_self]; exact Int.le_refl _
        · rename_i w hw
          obtain ⟨g1, g2, g3⟩ := ih l' hl' w hw
          split at h
          · rename_i hc
            cases h
            refine ⟨by simp, hd, fun x hx hxd => ?_⟩
            rcases List.mem_append.1 hx with hx | hx
            · have h3 := g3 x hx hxd
              rcases cmpK_cases x.1 w.1 with e | e | e
              · have := cmpK_trans e (cmpK_pos.1 hc); omega
              · rw [e]; have := cmpK_pos.1 hc; omega
              · have := cmpK_pos.2 e; omega
            · simp at hx; subst hx; rw [cmpK_self]; exact Int.le_refl _
          · rename_i hc
            cases h
            refine ⟨by simp [g1], g2, fun x hx hxd => ?_⟩
            rcases List.mem_append.1 hx with hx | hx
            · exact g3 x hx hxd
            · simp at hx; subst hx; omega
      · rename_i hd
        obtain ⟨g1, g2, g3⟩ := ih l' hl' c h
        refine ⟨by simp [g1], g2, fun x hx hxd => ?_⟩
        rcases List.mem_append.1 hx with hx | hx
        · exact g3 x hx hxd
        · simp at hx; subst hx; exact absurd hxd hd
theorem lastOf_some {l : List ClaimD} {d : KeyD} {x : ClaimD} (h : x ∈ l) (hd : x.2.1 = d) : ∃ c, lastOf l d = some c := by
  rcases e : lastOf l d with _ | c
  · exact absurd e (lastOf_ne h hd)
  · exact ⟨c, rfl⟩
theorem lastOf_none {l : List ClaimD} {d : KeyD} : lastOf l d = none ↔ d ∉ l.map (·.2.1) := by
  constructor
  · intro h hm
    obtain ⟨x, hx, rfl⟩ := List.mem_map.1 hm
    obtain ⟨c, hc⟩ := lastOf_some hx rfl
    rw [hc] at h; cases h
  · intro h
    rcases e : lastOf l d with _ | c
    · rfl
    · obtain ⟨h1, h2, _⟩ := lastOf_is e
      exact absurd (List.mem_map.2 ⟨c, h1, h2⟩) h
/-- With keys of their own, the last claim is the one with the greatest key. -/
theorem lastOf_eq {l : List ClaimD} (hn : (l.map (·.1)).Nodup) {d : KeyD} {c : ClaimD} (h1 : c ∈ l) (h2 : c.2.1 = d) (h3 : ∀ x ∈ l, x.2.1 = d → cmpK x.1 c.1 ≤ 0) : lastOf l d = some c := by
  obtain ⟨w, hw⟩ := lastOf_some h1 h2
  obtain ⟨g1, g2, g3⟩ := lastOf_is hw
  have e1 := g3 c h1 h2
  have e2 := h3 w g1 g2
  have hk : w.1 = c.1 := by
    rcases cmpK_cases w.1 c.1 with e | e | e
    · have := cmpK_pos.2 e; omega
    · exact e
    · have := cmpK_pos.2 e; omega
  have : w = c := by
    obtain ⟨i, hi, rfl⟩ := List.getElem_of_mem g1
    obtain ⟨j, hj, rfl⟩ := List.getElem_of_mem h1
    have hp := List.pairwise_iff_getElem.1 hn
    rcases (by omega : i < j ∨ i = j ∨ j < i) with e | e | e
    · exact absurd (by rw [List.getElem_map, List.getElem_map]; exact hk) (hp i j (by simpa using hi) (by simpa using hj) e)
    · subst e; rfl
    · exact absurd (by rw [List.getElem_map, List.getElem_map]; exact hk.symm) (hp j i (by simpa using hj) (by simpa using hi) e)
  rw [hw, this]

/-- The documents in order, their paths. -/
def docsS (l : List ClaimD) : List KeyD := sortK (l.map (·.2.1))
def pathsGo (f : KeyD → Option ClaimD) : List KeyD → List (List UInt8) → List (KeyD × List UInt8)
  | [], _ => []
  | d :: r, taken => match f d with
    | some c => if c.2.2.1 = 5 then pathsGo f r taken else (d, freshS (L c.2.2.2) taken) :: pathsGo f r (taken ++ [freshS (L c.2.2.2) taken])
    | none => pathsGo f r taken
def pathsS (l : List ClaimD) : List (KeyD × List UInt8) := if rightB l then pathsGo (lastOf l) (docsS l) [] else []
def findS (l : List ClaimD) (p : List UInt8) : Option KeyD := ((pathsS l).find? fun n => n.2 == p).map (·.1)

theorem rightB_iff {l : List ClaimD} : rightB l = true ↔ RightP l := by simp [rightB]
theorem rightB_perm {l m : List ClaimD} (h : l.Perm m) : rightB l = rightB m := by
  rw [Bool.eq_iff_iff, rightB_iff, rightB_iff]
  unfold RightP
  rw [(h.map (·.1)).nodup_iff]
  constructor
  · rintro ⟨h1, h2⟩; exact ⟨fun c hc => h1 c (h.mem_iff.2 hc), h2⟩
  · rintro ⟨h1, h2⟩; exact ⟨fun c hc => h1 c (h.mem_iff.1 hc), h2⟩
theorem lastOf_perm {l m : List ClaimD} (h : l.Perm m) (hn : (l.map (·.1)).Nodup) (d : KeyD) : lastOf l d = lastOf m d := by
  rcases e : lastOf l d with _ | c
  · rw [lastOf_none] at e
    exact ((lastOf_none (l := m)).2 fun hm => e ((h.map (·.2.1)).mem_iff.2 hm)).symm
  · obtain ⟨h1, h2, h3⟩ := lastOf_is e
    exact (lastOf_eq ((h.map (·.1)).nodup_iff.1 hn) (h.mem_iff.1 h1) h2 (fun x hx => h3 x (h.mem_iff.2 hx))).symm
theorem docsS_perm {l m : List ClaimD} (h : l.Perm m) : docsS l = docsS m :=
  Rising.ext (sortK_rising _) (sortK_rising _) fun k => by
    unfold docsS
    rw [mem_sortK, mem_sortK]
    exact (h.map (·.2.1)).mem_iff
/-- In which order claims are listed makes no difference. -/
theorem pathsS_perm {l m : List ClaimD} (h : l.Perm m) : pathsS l = pathsS m := by
  unfold pathsS
  rw [rightB_perm h]
  split
  · rename_i hr
    rw [← rightB_perm h, rightB_iff] at hr
    rw [docsS_perm h, show lastOf l = lastOf m from funext (lastOf_perm h hr.2)]
  · rfl

theorem pathsGo_docs (f : KeyD → Option ClaimD) : ∀ (ds : List KeyD) (taken : List (List UInt8)), (pathsGo f ds taken).map (·.1) = ds.filter fun d => match f d with | some c => !decide (c.2.2.1 = 5) | none => false
  | [], _ => rfl
  | d :: r, taken => by
    unfold pathsGo
    rw [List.filter_cons]
    rcases hf : f d with _ | c
    · simp [pathsGo_docs f r taken]
    · by_cases hk : c.2.2.1 = 5
      · simp [hk, pathsGo_docs f r taken]
      · simp [hk, pathsGo_docs f r _]
theorem pathsGo_rising {f : KeyD → Option ClaimD} {ds : List KeyD} {taken : List (List UInt8)} (h : Rising ds) : Rising ((pathsGo f ds taken).map (·.1)) := by
  rw [pathsGo_docs]
  exact h.sublist List.filter_sublist
theorem pathsGo_apart (f : KeyD → Option ClaimD) : ∀ (ds : List KeyD) (taken : List (List UInt8)), ((pathsGo f ds taken).map (·.2)).Pairwise (fun a b => clashB b a = false) ∧ ∀ p ∈ (pathsGo f ds taken).map (·.2), clashesB p taken = false
  | [], _ => ⟨List.Pairwise.nil, fun p hp => by cases hp⟩
  | d :: r, taken => by
    unfold pathsGo
    rcases hf : f d with _ | c
    · exact pathsGo_apart f r taken
    · by_cases hk : c.2.2.1 = 5
      · simp only [hk, if_true]
        exact pathsGo_apart f r taken
      · simp only [hk, if_false]
        obtain ⟨h1, h2⟩ := pathsGo_apart f r (taken ++ [freshS (L c.2.2.2) taken])
        have hsplit : ∀ p, clashesB p (taken ++ [freshS (L c.2.2.2) taken]) = false → clashesB p taken = false ∧ clashB p (freshS (L c.2.2.2) taken) = false := by
          intro p h
          simpa [clashesB] using h
        refine ⟨?_, ?_⟩
        · rw [List.map_cons, List.pairwise_cons]
          exact ⟨fun p hp => (hsplit p (h2 p hp)).2, h1⟩
        · intro p hp
          rw [List.map_cons] at hp
          rcases List.mem_cons.1 hp with rfl | hp
          · exact fresh_clear _ _
          · exact (hsplit p (h2 p hp)).1
theorem clashB_self (a : List UInt8) : clashB a a = true := by simp [clashB]

theorem pathsS_rising (l : List ClaimD) : Rising ((pathsS l).map (·.1)) := by
  unfold pathsS
  split
  · exact pathsGo_rising (sortK_rising _)
  · exact List.Pairwise.nil
theorem pathsS_apart (l : List ClaimD) : ((pathsS l).map (·.2)).Pairwise (fun a b => clashB b a = false) := by
  unfold pathsS
  split
  · exact (pathsGo_apart _ _ _).1
  · exact List.Pairwise.nil
/-- Each path is found. -/
theorem findS_is (l : List ClaimD) {i : Nat} (hi : i < (pathsS l).length) : findS l (pathsS l)[i].2 = some (pathsS l)[i].1 := by
  have hp := pathsS_apart l
  unfold findS
  have : ((pathsS l).find? fun n => n.2 == (pathsS l)[i].2) = some (pathsS l)[i] := by
    rw [List.find?_eq_some_iff_getElem]
    refine ⟨by simp, i, hi, rfl, fun j hj => ?_⟩
    rw [List.pairwise_iff_getElem] at hp
    have := hp j i (by simp; omega) (by simpa using hi) hj
    simp only [List.getElem_map] at this
    simp only [Bool.not_eq_true', beq_eq_false_iff_ne, ne_eq]
    intro e
    rw [e, clashB_self] at this
    cases this
  rw [this]; rfl
/-- A claim behind all others decides. -/
theorem newest {l : List ClaimD} {x : ClaimD} (h : ∀ c ∈ l, cmpK c.1 x.1 < 0) (hr : rightB (l ++ [x]) = true) : lastOf (l ++ [x]) x.2.1 = some x ∧ (x.2.1 ∈ (pathsS (l ++ [x])).map (·.1) ↔ x.2.2.1 ≠ 5) := by
  have hR := rightB_iff.1 hr
  have hlast : lastOf (l ++ [x]) x.2.1 = some x := by
    refine lastOf_eq hR.2 (by simp) rfl fun y hy _ => ?_
    rcases List.mem_append.1 hy with hy | hy
    · have := h y hy; omega
    · simp at hy; subst hy; rw [cmpK_self]; exact Int.le_refl _
  refine ⟨hlast, ?_⟩
  unfold pathsS
  rw [hr, if_pos rfl, pathsGo_docs, List.mem_filter]
  unfold docsS
  rw [mem_sortK, hlast]
  simp
end Go.Proofs.YtfjmbcljohobeaaDoor
namespace Go.Proofs.YtfjmbcljohobeaaDoor
open Go.RowKit
set_option linter.unusedVariables false

def claimV (c : ClaimD) : List Value := keyV c.1 ++ (keyV c.2.1 ++ ([.int .u8 (c.2.2.1 : Int)] ++ [.string c.2.2.2]))
def ClaimOk (c : ClaimD) : Prop := KeyOk c.1 ∧ KeyOk c.2.1 ∧ c.2.2.1 < 256 ∧ c.2.2.2.size ≤ maxLen
theorem claimV_length {c : ClaimD} (h : ClaimOk c) : (claimV c).length = 70 := by
  simp [claimV, keyV_length h.1, keyV_length h.2.1]
theorem claimV_one (c : ClaimD) : ∀ u ∈ claimV c, u.oneCell' = true := by
  intro u hu
  simp only [claimV, List.mem_append, List.mem_singleton] at hu
  rcases hu with hu | hu | rfl | rfl
  · exact keyV_one _ u hu
  · exact keyV_one _ u hu
  · rfl
  · rfl
theorem keyV_length' (a b : KeyD) (h : IdOk a.2.1) (h' : IdOk b.2.1) : (keyV a).length = (keyV b).length := by
  unfold IdOk at h h'
  simp [keyV, idV, h, h']
theorem claimV_inj {a b : ClaimD} (ha : ClaimOk a) (hb : ClaimOk b) (h : claimV a = claimV b) : a = b := by
  unfold claimV at h
  obtain ⟨h1, h2⟩ := List.append_inj h (by rw [keyV_length ha.1, keyV_length hb.1])
  obtain ⟨h3, h4⟩ := List.append_inj h2 (by rw [keyV_length ha.2.1, keyV_length hb.2.1])
  simp only [List.cons_append, List.nil_append, List.cons.injEq, Value.int.injEq, Value.string.injEq, true_and, and_true] at h4
  exact Prod.ext (keyV_inj h1) (Prod.ext (keyV_inj h3) (Prod.ext (by omega) h4.2))
theorem claim_cell {c : ClaimD} (h : ClaimOk c) : (claimV c)[68]? = some (.int .u8 (c.2.2.1 : Int)) ∧ (claimV c)[69]? = some (.string c.2.2.2) := by
  have h1 := keyV_length h.1
  have h2 := keyV_length h.2.1
  constructor
  · unfold claimV
    rw [List.getElem?_append_right (by omega), List.getElem?_append_right (by omega), h1, h2]; rfl
  · unfold claimV
    rw [List.getElem?_append_right (by omega), List.getElem?_append_right (by omega), h1, h2]; rfl
theorem claim_key {c : ClaimD} (h : ClaimOk c) : ∀ j u, (keyV c.1)[j]? = some u → (claimV c)[0 + j]? = some u := by
  intro j u hj
  unfold claimV
  rw [Nat.zero_add, List.getElem?_append_left (List.getElem?_eq_some_iff.1 hj).1]
  exact hj
theorem claim_doc {c : ClaimD} (h : ClaimOk c) : ∀ j u, (keyV c.2.1)[j]? = some u → (claimV c)[34 + j]? = some u := by
  intro j u hj
  have h1 := keyV_length h.1
  unfold claimV
  rw [List.getElem?_append_right (by omega), h1, show 34 + j - 34 = j by omega, List.getElem?_append_left (List.getElem?_eq_some_iff.1 hj).1]
  exact hj

/-- A document and its path. -/
abbrev NamedD := KeyD × ByteArray
def namedV (n : NamedD) : List Value := keyV n.1 ++ [.string n.2]
def NamedOk (n : NamedD) : Prop := KeyOk n.1 ∧ n.2.size ≤ maxLen
theorem namedV_length {n : NamedD} (h : NamedOk n) : (namedV n).length = 35 := by
  simp [namedV, keyV_length h.1]
theorem namedV_one (n : NamedD) : ∀ u ∈ namedV n, u.oneCell' = true := by
  intro u hu
  simp only [namedV, List.mem_append, List.mem_singleton] at hu
  rcases hu with hu | rfl
  · exact keyV_one _ u hu
  · rfl
theorem namedV_inj {a b : NamedD} (ha : NamedOk a) (hb : NamedOk b) (h : namedV a = namedV b) : a = b := by
  unfold namedV at h
  obtain ⟨h1, h2⟩ := List.append_inj h (by rw [keyV_length ha.1, keyV_length hb.1])
  simp only [List.cons.injEq, Value.string.injEq, and_true] at h2
  exact Prod.ext (keyV_inj h1) h2
theorem named_cell {n : NamedD} (h : NamedOk n) : (namedV n)[34]? = some (.string n.2) := by
  have h1 := keyV_length h.1
  unfold namedV
  rw [List.getElem?_append_right (by omega), h1]; rfl
theorem named_doc {n : NamedD} (h : NamedOk n) : ∀ j u, (keyV n.1)[j]? = some u → (namedV n)[0 + j]? = some u := by
  intro j u hj
  unfold namedV
  rw [Nat.zero_add, List.getElem?_append_left (List.getElem?_eq_some_iff.1 hj).1]
  exact hj

section
variable {H : Type} {enc : TypeId × Value → H} {w : World} {base : Nat} {spare : Nat → Bool} {held : Bool} {fuel : Nat} {cs : List Value} {x : DataW H × List MemPlace}
theorem trodId (h : DataW.trod enc Tryd.prog w base spare held fuel 33 cs = some x) : ∃ l : List UInt8, IdOk l ∧ cs = idV l :=
  trod_id Tryd.underlying33 Tryd.underlying5 cellsU8 cellsId h
theorem trodKey (h : DataW.trod enc Tryd.prog w base spare held fuel 35 cs = some x) : ∃ k : KeyD, KeyOk k ∧ cs = keyV k :=
  trod_key Tryd.underlying35 ⟨rfl, rfl⟩ ⟨rfl, rfl⟩ ⟨rfl, rfl⟩ Tryd.underlying3 Tryd.underlying33 Tryd.underlying5 cellsInt cellsId cellsU8 cellsKey h
theorem trod_claim {t : TypeId} {f0 f1 f2 f3 : Field} (ht : Tryd.prog.underlying t = some (.struct #[f0, f1, f2, f3])) (h0 : f0.type = 35 ∧ f0.offset = 0) (h1 : f1.type = 35 ∧ f1.offset = 34) (h2 : f2.type = 5 ∧ f2.offset = 68) (h3 : f3.type = 9 ∧ f3.offset = 69)
    (ct : Tryd.prog.cellsOf t = 70) (h : DataW.trod enc Tryd.prog w base spare held fuel t cs = some x) : ∃ c : ClaimD, ClaimOk c ∧ cs = claimV c := by
  obtain ⟨xs, n, _, _, hlen, hxl, hf⟩ := DataW.trod_struct ht h
  rw [ct] at hlen
  have hxl' : xs.length = 4 := hxl
  have g0 := hf 0 f0 rfl
  have g1 := hf 1 f1 rfl
  have g2 := hf 2 f2 rfl
  have g3 := hf 3 f3 rfl
  rw [h0.1, h0.2, cellsKey, List.getElem?_eq_getElem (by omega)] at g0
  rw [h1.1, h1.2, cellsKey, List.getElem?_eq_getElem (by omega)] at g1
  rw [h2.1, h2.2, cellsU8, List.getElem?_eq_getElem (by omega)] at g2
  rw [h3.1, h3.2, cellsStr, List.getElem?_eq_getElem (by omega)] at g3
  obtain ⟨k, hk, e0⟩ := trodKey g0
  obtain ⟨d, hd, e1⟩ := trodKey g1
  obtain ⟨n2, e2, _, w2⟩ := DataW.trod_int Tryd.underlying5 g2
  obtain ⟨s, e3, _, hs⟩ := DataW.trod_string Tryd.underlying9 g3
  have hr := bounds_u8 w2
  refine ⟨(k, d, n2.toNat, s), ⟨hk, hd, by simp; omega, hs⟩, ?_⟩
  have hsplit : cs = (cs.drop 0).take 34 ++ ((cs.drop 34).take 34 ++ ((cs.drop 68).take 1 ++ (cs.drop 69).take 1)) := by
    have a1 : (cs.drop 69).take 1 = cs.drop 69 := List.take_of_length_le (by simp; omega)
    rw [a1, show cs.drop 69 = (cs.drop 68).drop 1 by rw [List.drop_drop], List.take_append_drop, show cs.drop 68 = (cs.drop 34).drop 34 by rw [List.drop_drop], List.take_append_drop, List.drop_zero, List.take_append_drop]
  rw [hsplit, e0, e1, e2, e3]
  unfold claimV
  rw [show ((n2.toNat : Nat) : Int) = n2 by omega]
end
theorem kbClaim {t : TypeId} {f0 f1 f2 f3 : Field} (ht : Tryd.prog.underlying t = some (.struct #[f0, f1, f2, f3])) (h0 : f0.type = 35 ∧ f0.offset = 0) (h1 : f1.type = 35 ∧ f1.offset = 34) (h2 : f2.type = 5 ∧ f2.offset = 68) (h3 : f3.type = 9 ∧ f3.offset = 69)
    (ct : Tryd.prog.cellsOf t = 70) (hn : (#[f0, f1, f2, f3] : Array Field).all (·.name != "_") = true) {c : ClaimD} (hc : ClaimOk c) : Kb Tryd.prog 4 t (claimV c) := by
  have l0 := keyV_length hc.1
  have l1 := keyV_length hc.2.1
  refine kb_struct ht (by rw [claimV_length hc, ct]) hn fun f hf => ?_
  simp only [List.mem_cons, List.not_mem_nil, or_false] at hf
  rcases hf with rfl | rfl | rfl | rfl
  · rw [h0.1, h0.2, cellsKey, List.drop_zero, show (claimV c).take 34 = keyV c.1 by unfold claimV; rw [← l0, List.take_left']; rfl]
    exact kbKey hc.1
  · rw [h1.1, h1.2, cellsKey, show ((claimV c).drop 34).take 34 = keyV c.2.1 from cut_mid l0 l1]
    exact kbKey hc.2.1
  · rw [h2.1, h2.2, cellsU8, show ((claimV c).drop 68).take 1 = [.int .u8 (c.2.2.1 : Int)] by
      unfold claimV
      rw [← List.append_assoc]
      exact cut_mid (by simp [l0, l1]) rfl]
    refine fun d hd => kb_int Tryd.underlying5 ?_ d (by omega)
    have := hc.2.2.1
    simp only [Lit.wf, IntKind.min, IntKind.max, IntKind.signed, IntKind.bits, Bool.and_eq_true, decide_eq_true_eq]
    simp
    omega
  · rw [h3.1, h3.2, cellsStr, show ((claimV c).drop 69).take 1 = [.string c.2.2.2] by
      unfold claimV
      rw [← List.append_assoc, ← List.append_assoc]
      exact cut_end (by simp [l0, l1]) rfl]
    exact fun d hd => kb_str Tryd.underlying9 hc.2.2.2 d (by omega)
end Go.Proofs.YtfjmbcljohobeaaDoor
namespace Go.Proofs.YtfjmbcljohobeaaDoor
open Go.RowKit
set_option linter.unusedVariables false

theorem isEmpty_size (p : ByteArray) : p.toList.isEmpty = decide (p.size = 0) := by
  rw [toList_L, Bool.eq_iff_iff, decide_eq_true_eq, ← L_length, List.isEmpty_iff, List.length_eq_zero_iff]
set_option maxHeartbeats 1000000 in
set_option maxRecDepth 100000 in
theorem good_aux (cs : List Value) (k : Nat) (p : ByteArray) (w : World) (k0 : cs[68]? = some (.int .u8 (k : Int))) (k1 : cs[69]? = some (.string p)) (hsz : p.size ≤ maxLen) (hg : Glob w) :
    Calls Tryd.prog 40 #[.agg cs.toArray] w fun e w' => Below w.heap.size w w' ∧ e = .returned (.bool (goodB k p)) := by
  have h1 : (w.alloc (.cells cs.toArray 41)).heap[w.heap.size]? = some (.cells cs.toArray 41 (0, 0)) := heap_alloc_new _ _
  have c0 := (cells_box h1 68).trans k0
  have c1 := (cells_box h1 69).trans k1
  have hb : Below w.heap.size w (w.alloc (.cells cs.toArray 41)) := (Below.refl _ _).alloc (Nat.le_refl _) _
  have HG := Lib.hid (hg.next hb)
  have HB := Lib.hid hb
  have HZ := Lib.hid hsz
  clear hsz hb k0 k1 h1
  have hout : ∀ j : Nat, ¬ j = 3 → ¬ j = 4 → ¬ j = 5 → goodB j p = false := by
    intro j h3 h4 h5
    unfold goodB
    rw [if_neg (by omega), if_neg h5]
  have d3 : k < 3 ∨ 5 < k → ((k : Int) == 3) = false := by intro h; rw [beq_eq_false_iff_ne]; omega
  have d4 : k < 3 ∨ 5 < k → ((k : Int) == 4) = false := by intro h; rw [beq_eq_false_iff_ne]; omega
  have d5 : k < 3 ∨ 5 < k → ((k : Int) == 5) = false := by intro h; rw [beq_eq_false_iff_ne]; omega
  rcases (by omega : (k < 3 ∨ 5 < k) ∨ k = 3 ∨ k = 4 ∨ k = 5) with h | rfl | rfl | rfl
  · rw [hout k (by omega) (by omega) (by omega)]
    have d3 := d3 h; have d4 := d4 h; have d5 := d5 h
    clear hout h
    go_enter Tryd.func40, Tryd.ntmps40
    go_upto_region 1 with fail
    generalize w.alloc (.cells cs.toArray 41) = W at *
    go_wp2_with fail
    go_ret
    exact ⟨HB.out, rfl⟩
  · rw [show goodB 3 p = pathB p by simp [goodB]]
    clear hout d3 d4 d5
    go_enter Tryd.func40, Tryd.ntmps40
    go_upto_region 1 with fail
    generalize w.alloc (.cells cs.toArray 41) = W at *
    go_wp2_with (go_at_call 76; refine (path_any p _ HZ.out HG.out).mono ?_; rintro e w3 ⟨hb3, rfl⟩)
    go_ret
    exact ⟨HB.out.trans (hb3.mono HB.out.size), rfl⟩
  · rw [show goodB 4 p = pathB p by simp [goodB]]
    clear hout d3 d4 d5
    go_enter Tryd.func40, Tryd.ntmps40
    go_upto_region 1 with fail
    generalize w.alloc (.cells cs.toArray 41) = W at *
    go_wp2_with (go_at_call 76; refine (path_any p _ HZ.out HG.out).mono ?_; rintro e w3 ⟨hb3, rfl⟩)
    go_ret
    exact ⟨HB.out.trans (hb3.mono HB.out.size), rfl⟩
  · rw [show goodB 5 p = p.toList.isEmpty by simp [goodB, isEmpty_size]]
    clear hout d3 d4 d5
    go_enter Tryd.func40, Tryd.ntmps40
    go_upto_region 1 with fail
    generalize w.alloc (.cells cs.toArray 41) = W at *
    go_wp2_with fail
    go_ret
    exact ⟨HB.out, rfl⟩
theorem good_any (c : ClaimD) (w : World) (hc : ClaimOk c) (hg : Glob w) :
    Calls Tryd.prog 40 #[.agg (claimV c).toArray] w fun e w' => Below w.heap.size w w' ∧ e = .returned (.bool (goodB c.2.2.1 c.2.2.2)) :=
  good_aux _ _ _ w (claim_cell hc).1 (claim_cell hc).2 hc.2.2.2 hg
end Go.Proofs.YtfjmbcljohobeaaDoor
namespace Go.Proofs.YtfjmbcljohobeaaDoor

def bytesE (s : ByteArray) : Int := if 4096 < s.size then 2 else if isText s then 0 else 5
def treeGo : List (List UInt8) → List (ByteArray × ByteArray) → Int
  | _, [] => 0
  | ahead, f :: r => if pathB f.1 = false then 10 else if bytesE f.2 ≠ 0 then bytesE f.2 else if clashesB (L f.1) ahead then 11 else treeGo (ahead ++ [L f.1]) r
def treeE (fs : List (ByteArray × ByteArray)) : Int := if 64 < fs.length then 3 else treeGo [] fs

theorem clash_symm (a b : List UInt8) : clashB a b = clashB b a := by
  unfold clashB
  rw [show decide (a = b) = decide (b = a) by rw [Bool.eq_iff_iff]; simp [eq_comm]]
  rw [Bool.or_assoc, Bool.or_assoc, Bool.or_comm (underB a b)]

def okFile (f : ByteArray × ByteArray) : Prop := pathB f.1 = true ∧ bytesE f.2 = 0
def apartF (f g : ByteArray × ByteArray) : Prop := clashB (L f.1) (L g.1) = false
theorem treeGo_iff : ∀ (fs : List (ByteArray × ByteArray)) (ahead : List (List UInt8)), treeGo ahead fs = 0 ↔ (∀ f ∈ fs, okFile f) ∧ (∀ f ∈ fs, clashesB (L f.1) ahead = false) ∧ fs.Pairwise apartF := by
  intro fs
  induction fs with
  | nil => intro ahead; simp [treeGo]
  | cons f fs ih =>
    intro ahead
    rw [treeGo]
    cases hp : pathB f.1
    · rw [if_pos rfl]
      refine ⟨fun h => by omega, fun h => ?_⟩
      have := (h.1 f (by simp)).1
      rw [hp] at this; cases this
    · rw [if_neg (by simp)]
      by_cases hb : bytesE f.2 = 0
      · rw [if_neg (by simp [hb])]
        cases hc : clashesB (L f.1) ahead
        · rw [if_neg (by simp), ih]
          have hca : ∀ g : ByteArray × ByteArray, clashesB (L g.1) (ahead ++ [L f.1]) = (clashesB (L g.1) ahead || clashB (L g.1) (L f.1)) := by
            intro g; simp [clashesB]
          simp only [List.mem_cons, List.pairwise_cons, hca, Bool.or_eq_false_iff]
          constructor
          · rintro ⟨h1, h2, h3⟩
            refine ⟨?_, ?_, ⟨fun g hg => ?_, h3⟩⟩
            · rintro g (rfl | hg)
              · exact ⟨hp, hb⟩
              · exact h1 g hg
            · rintro g (rfl | hg)
              · exact hc
              · exact (h2 g hg).1
            · unfold apartF
              rw [clash_symm]
              exact (h2 g hg).2
          · rintro ⟨h1, h2, h3, h4⟩
            refine ⟨fun g hg => h1 g (.inr hg), fun g hg => ⟨h2 g (.inr hg), ?_⟩, h4⟩
            rw [clash_symm]
            exact h3 g hg
        · rw [if_pos rfl]
          refine ⟨fun h => by omega, fun h => ?_⟩
          have := h.2.1 f (by simp)
          rw [hc] at this; cases this
      · rw [if_pos hb]
        refine ⟨fun h => absurd h hb, fun h => ?_⟩
        exact absurd (h.1 f (by simp)).2 hb
theorem treeE_iff (fs : List (ByteArray × ByteArray)) : treeE fs = 0 ↔ fs.length ≤ 64 ∧ (∀ f ∈ fs, okFile f) ∧ fs.Pairwise apartF := by
  unfold treeE
  split
  · refine ⟨fun h => by omega, fun h => by omega⟩
  · rw [treeGo_iff]
    have : ∀ f : ByteArray × ByteArray, clashesB (L f.1) [] = false := fun f => rfl
    simp only [this, implies_true, true_and]
    constructor
    · rintro ⟨h1, h2⟩; exact ⟨by omega, h1, h2⟩
    · rintro ⟨_, h1, h2⟩; exact ⟨h1, h2⟩
theorem tree_sub {fs gs : List (ByteArray × ByteArray)} (h : treeE fs = 0) (hs : gs.Sublist fs) : treeE gs = 0 := by
  rw [treeE_iff] at h ⊢
  exact ⟨Nat.le_trans hs.length_le h.1, fun f hf => h.2.1 f (hs.subset hf), h.2.2.sublist hs⟩
theorem tree_perm {fs gs : List (ByteArray × ByteArray)} (h : treeE fs = 0) (hp : gs.Perm fs) : treeE gs = 0 := by
  rw [treeE_iff] at h ⊢
  refine ⟨by rw [hp.length_eq]; exact h.1, fun f hf => h.2.1 f (hp.mem_iff.1 hf), ?_⟩
  exact (hp.pairwise_iff (R := apartF) (fun {x y} hxy => by unfold apartF at hxy ⊢; rw [clash_symm]; exact hxy)).2 h.2.2
theorem tree_swap {fs : List (ByteArray × ByteArray)} (h : treeE fs = 0) {a b : Nat} (ha : a < fs.length) (hb : b < fs.length) : treeE ((fs.set a fs[b]).set b fs[a]) = 0 :=
  tree_perm h (List.set_set_perm ha hb)
theorem tree_less {fs : List (ByteArray × ByteArray)} (h : treeE fs = 0) (a : Nat) : treeE (fs.eraseIdx a) = 0 := tree_sub h (List.eraseIdx_sublist _ _)
end Go.Proofs.YtfjmbcljohobeaaDoor
namespace Go.Proofs.YtfjmbcljohobeaaDoor
open Go.RowKit
set_option linter.unusedVariables false

theorem info_i32 : (Tryd.prog.info? 21).map (fun i => (i.zero, i.size, i.bytes)) = some (some (.int .i32 0), 1, 4) := by kernel_rfl

def i32s (l : List Nat) : List Value := l.map fun (r : Nat) => Value.int .i32 (r : Int)

/-- What Runes gives: the runes, or none and ErrText. -/
def RunesGives (s : ByteArray) (w : World) (e : Ending) (w' : World) : Prop :=
  Below w.heap.size w w' ∧ ((∃ l A c, runesOf s = some l ∧ e = .returned (.tuple #[.slice A l.length c, .int .i64 0, .int .i64 0]) ∧ Sl w' w'.heap.size A l.length 1 (i32s l)) ∨
    runesOf s = none ∧ ∃ n : Int, e = .returned (.tuple #[.slice none 0 0, .int .i64 n, .int .i64 5]))

theorem own_form {w : World} {base : Nat} {e : TypeId} {sz : Nat} {v : Value} {n : Nat} {xs : List Value} (h : w.ownsRow base e sz v n xs) : ∃ A c, v = .slice A n c := by
  rcases h.2 with ⟨hv, h0⟩ | ⟨g, cap, cur, hv, _⟩
  · exact ⟨none, 0, by rw [hv, h0]⟩
  · exact ⟨_, _, hv⟩

set_option maxHeartbeats 1000000 in
set_option maxRecDepth 100000 in
theorem runes_any (s : ByteArray) (w : World) (hs : s.size ≤ 1099511627776) : Calls Tryd.prog 86 #[.string s] w (RunesGives s w) := by
  have hs' : s.size ≤ maxLen := by unfold maxLen; omega
  go_enter Tryd.func86, Tryd.ntmps86
  go_wp2
  go_loopw [5, 6] (fun v n wr => ∃ (k : Nat) (l : List Nat), k ≤ s.size ∧ l.length ≤ k ∧ n = .int .i64 k ∧ wr.ownsRow w.heap.size 21 1 v l.length (i32s l) ∧ Below w.heap.size w wr ∧ Hid (runesOf s = (runesAt s k).map (l ++ ·))) (fun _ n _ => s.size - (intOf n).toNat)
  case atStart => exact ⟨0, [], by omega, by simp, rfl, World.ownsRow_nil _ _ _ _, Below.refl _ _, Lib.hid (by rw [runesOf_eq]; simp)⟩
  case round =>
    obtain ⟨k, l, hk, hl, rfl, hown, hbw, hR⟩ := hrel
    by_cases hlt : k < s.size
    · have hin := dec_in hlt
      go_wp2_with fail
      refine (one_any s k _ hlt hs').mono ?_
      rintro e w1 ⟨hb1, ⟨ho, rfl⟩ | ⟨ho, rfl⟩⟩
      · have HO := Lib.hid ho; clear ho
        have hr := decode_le s k
        have hbw1 : Below w.heap.size w w1 := hbw.trans (hb1.mono hbw.size)
        have hown1 : w1.ownsRow w.heap.size 21 1 u5 l.length (i32s l) := by
          refine hown.kept (row := none) ⟨hb1.os, hb1.tape, hb1.output, hb1.size, fun j hj _ => hb1.block j hj⟩ ?_
          rcases h : u5.ownBlock with _ | g
          · exact .inl rfl
          · exact .inr (by simp)
        have hne : (((Utf8.decode s k).2 : Int) == 0) = false := by simp; omega
        go_wp2_with (at_builtin; refine wp_app1 rfl _ _ 100 rfl w.heap.size 21 (.int .i32 0) 4 Tryd.underlying100 info_i32 rfl _ _ _ rfl hown1 _ _ rfl rfl ?c1 ?c2 ?c3 ?_)
        case c1 => unfold maxLen; omega
        case c2 => omega
        case c3 => exact hbw1.size
        intro v' w2 hown2 hbel
        have hb2 := hbel _ _ (Nat.le_refl _) hbw1
        clear hbel
        go_wp2_with fail
        go_roundw
        case rel =>
          refine ⟨k + (Utf8.decode s k).2, l ++ [(Utf8.decode s k).1], by omega, by simp; omega, by go_num, ?_, hb2, Lib.hid ?_⟩
          · simpa [i32s] using hown2
          · rw [hR.out, runesAt_ok hlt HO.out]
            cases runesAt s (k + (Utf8.decode s k).2) <;> simp
        case measure => simp [intOf]; omega
      · have HO := Lib.hid ho; clear ho
        go_wp2_with fail
        go_ret3
        refine ⟨hbw.trans (hb1.mono hbw.size), .inr ⟨by rw [hR.out, runesAt_bad hlt HO.out]; rfl, _, rfl⟩⟩
    · go_wp2_with fail
      go_ret3
      obtain ⟨A, c, hv⟩ := own_form hown
      refine ⟨hbw, .inl ⟨l, A, c, by rw [hR.out, runesAt_end (by omega)]; simp, ?_, ?_⟩⟩
      · rw [← hv]; rfl
      · rw [hv] at hown
        exact Sl.of_own hown

/-- Is. -/
theorem is_any (s : ByteArray) (w : World) (hs : s.size ≤ 1099511627776) : Calls Tryd.prog 53 #[.string s] w fun e w' => Below w.heap.size w w' ∧ e = .returned (.bool (isText s)) := by
  go_enter Tryd.func53, Tryd.ntmps53
  go_wp2_with fail
  refine (runes_any s _ hs).mono ?_
  rintro e w1 ⟨hb1, ⟨l, A, c, hl, rfl, hsl⟩ | ⟨hl, n, rfl⟩⟩
  · have HL := Lib.hid hl; clear hl
    go_wp2_with fail
    go_ret
    exact ⟨hb1, by unfold isText; rw [HL.out]; rfl⟩
  · have HL := Lib.hid hl; clear hl
    go_wp2_with fail
    go_ret
    exact ⟨hb1, by unfold isText; rw [HL.out]; rfl⟩

/-- Why a file's bytes may not be: an error's number. -/
def bytesS (s : ByteArray) : Int := if 4096 < s.size then 2 else if isText s then 0 else 5

end Go.Proofs.YtfjmbcljohobeaaDoor
namespace Go.Proofs.YtfjmbcljohobeaaDoor
open Go.RowKit
set_option linter.unusedVariables false

theorem bytesE_eq (s : ByteArray) : bytesS s = bytesE s := rfl
theorem bytesE_cases (s : ByteArray) : bytesE s = 0 ∨ bytesE s = 2 ∨ bytesE s = 5 := by
  unfold bytesE
  split
  · exact .inr (.inl rfl)
  · split
    · exact .inl rfl
    · exact .inr (.inr rfl)
theorem bcell {W w1 : World} (hb : Below W.heap.size W w1) : (∀ b o, b < W.heap.size → w1.cell? ⟨b, o, none⟩ = W.cell? ⟨b, o, none⟩) ∧ (∀ b o, b < W.heap.size → w1.frozen? ⟨b, o, none⟩ = W.frozen? ⟨b, o, none⟩) :=
  ⟨fun b o h => hb.cell (p := ⟨b, o, none⟩) h, fun b o h => hb.frozen (p := ⟨b, o, none⟩) h⟩

/-- Read up to i: what is left decides. -/
def Treeing (fs : List (ByteArray × ByteArray)) (i : Nat) : Prop := treeE fs = treeGo ((fs.take i).map fun f => L f.1) (fs.drop i)
theorem treeing_start {fs : List (ByteArray × ByteArray)} (h : ¬ 64 < fs.length) : Treeing fs 0 := by
  unfold Treeing treeE; rw [if_neg h]; rfl
theorem treeing_step {fs : List (ByteArray × ByteArray)} {i : Nat} (h : Treeing fs i) (hi : i < fs.length) :
    treeE fs = if pathB fs[i].1 = false then 10 else if bytesE fs[i].2 ≠ 0 then bytesE fs[i].2 else if clashesB (L fs[i].1) ((fs.take i).map fun f => L f.1) then 11 else treeGo ((fs.take (i + 1)).map fun f => L f.1) (fs.drop (i + 1)) := by
  rw [h, List.drop_eq_getElem_cons hi, treeGo, List.take_succ_eq_append_getElem hi, List.map_append]
  rfl
theorem treeing_end {fs : List (ByteArray × ByteArray)} {i : Nat} (h : Treeing fs i) (hi : fs.length ≤ i) : treeE fs = 0 := by
  rw [h, List.drop_eq_nil_of_le hi]; rfl
theorem clashes_take_no {fs : List (ByteArray × ByteArray)} {i : Nat} {l : List UInt8} (hi : i ≤ fs.length) (h : ∀ j (hj : j < fs.length), j < i → clashB l (L fs[j].1) = false) : clashesB l ((fs.take i).map fun f => L f.1) = false := by
  unfold clashesB
  rw [List.any_eq_false]
  intro x hx
  obtain ⟨f, hf, rfl⟩ := List.mem_map.1 hx
  obtain ⟨j, hj, rfl⟩ := List.getElem_of_mem hf
  rw [List.length_take] at hj
  rw [List.getElem_take]
  simp [h j (by omega) (by omega)]
theorem clashes_take_yes {fs : List (ByteArray × ByteArray)} {i j : Nat} {l : List UInt8} (hi : i ≤ fs.length) (hj : j < i) (h : clashB l (L (fs[j]'(by omega)).1) = true) : clashesB l ((fs.take i).map fun f => L f.1) = true := by
  unfold clashesB
  rw [List.any_eq_true]
  refine ⟨L (fs[j]'(by omega)).1, List.mem_map.2 ⟨fs[j]'(by omega), ?_, rfl⟩, h⟩
  rw [List.mem_take_iff_getElem]
  exact ⟨j, by omega, rfl⟩

end Go.Proofs.YtfjmbcljohobeaaDoor
namespace Go.Proofs.YtfjmbcljohobeaaDoor
open Go.RowKit
set_option linter.unusedVariables false

def claimA (c : ClaimD) : Value := .agg (claimV c).toArray
def lastM (l : List ClaimD) (d : KeyD) : Option Value := (lastOf l d).map claimA
theorem lastM_put {t : List ClaimD} {c : ClaimD} (h : ∀ x, lastOf t c.2.1 = some x → 0 < cmpK c.1 x.1) : (fun k => if k = c.2.1 then some (claimA c) else lastM t k) = lastM (t ++ [c]) := by
  funext k
  unfold lastM
  rw [lastOf_snoc]
  unfold later
  by_cases e : k = c.2.1
  · subst e
    rw [if_pos rfl, if_pos rfl]
    cases h0 : lastOf t c.2.1 with
    | none => rfl
    | some x => simp only [if_pos (h x h0)]; rfl
  · rw [if_neg e, if_neg (fun q => e q.symm)]
theorem lastM_keep {t : List ClaimD} {c x : ClaimD} (h0 : lastOf t c.2.1 = some x) (h : ¬ 0 < cmpK c.1 x.1) : lastM t = lastM (t ++ [c]) := by
  funext k
  unfold lastM
  rw [lastOf_snoc]
  unfold later
  by_cases e : c.2.1 = k
  · subst e
    rw [if_pos rfl, h0]
    simp only [if_neg h]
  · rw [if_neg e]
theorem sizeClaim : (Tryd.prog.info? 41).map (·.size) = some 70 := by kernel_rfl
theorem sizeKey : (Tryd.prog.info? 35).map (·.size) = some 34 := by kernel_rfl

def zeroC : ClaimD := ((0, zero32, 0), (0, zero32, 0), 0, ByteArray.empty)
theorem zeroC_ok : ClaimOk zeroC := ⟨⟨by decide, zero32_ok, by decide⟩, ⟨by decide, zero32_ok, by decide⟩, by decide, by decide⟩
set_option maxRecDepth 100000 in
theorem zeroC_info : (Tryd.prog.info? 41).map (·.zero) = some (some (claimA zeroC)) := by kernel_rfl
theorem zeroC_run (w : World) : (zeroValue 41).run Tryd.prog w = .ok (claimA zeroC) w := by
  have h := zeroC_info
  cases hq : Tryd.prog.info? 41 with
  | none => rw [hq] at h; cases h
  | some i =>
    rw [hq] at h
    have h2 : i.zero = some (claimA zeroC) := Option.some.inj h
    simp [zeroValue, typeInfo, hq, h2]
set_option maxHeartbeats 2000000 in
set_option maxRecDepth 100000 in
theorem lasts_any (l : List ClaimD) (A : Option Addr) (c : Nat) (w : World) (hl : l.length ≤ 1099511627776) (hok : ∀ x ∈ l, ClaimOk x) (hsl : Sl w w.heap.size A l.length 70 (rowsV claimV l)) :
    Calls Tryd.prog 34 #[.slice A l.length c] w fun e w' => Below w.heap.size w w' ∧ e = .returned (.map (some w.heap.size)) ∧ ∃ n, n ≤ l.length ∧ MapV w' Tryd.prog 35 KeyOk keyL w.heap.size n (lastM l) := by
  have HSL := Lib.hid hsl; clear hsl
  have HOK := Lib.hid hok; clear hok
  have hmm := @run_makeMap Tryd.prog
  go_enter Tryd.func34, Tryd.ntmps34
  go_upto_region 2 with fail
  have hm0 := MapV.made w Tryd.prog 35 KeyOk keyL
  have hb0 : Below w.heap.size w (w.alloc (.map #[] 0)) := (Below.refl _ _).alloc (Nat.le_refl _) _
  clear hmm
  generalize w.alloc (.map #[] 0) = W at *
  go_wp2_with fail
  go_loopw [11] (fun t wr => ∃ i : Nat, i ≤ l.length ∧ t = .int .i64 i ∧ Below w.heap.size w wr ∧ ∃ n0, n0 ≤ i ∧ Hid (MapV wr Tryd.prog 35 KeyOk keyL w.heap.size n0 (lastM (l.take i)))) (fun t _ => l.length - (intOf t).toNat)
  case atStart => exact ⟨0, by omega, rfl, hb0, 0, Nat.le_refl _, Lib.hid hm0⟩
  case round =>
    obtain ⟨i, hi, rfl, hbr, n0, hn0, hM⟩ := hrel
    by_cases hlt : i < l.length
    · obtain ⟨b, off, rfl, hbl, hcl⟩ := (HSL.out.keep hbr).2 (by omega)
      have i0 : (0 : Int) ≤ (i : Int) := by omega
      have i1 : (i : Int) < (l.length : Int) := by omega
      have hlens : ∀ x ∈ l, (claimV x).length = 70 := fun x hx => claimV_length (HOK.out x hx)
      have hrow := Sl.row hlens hcl hlt
      have hcx := HOK.out _ (List.getElem_mem hlt)
      have htk : l.take (i + 1) = l.take i ++ [l[i]] := List.take_succ_eq_append_getElem hlt
      have HCL := Lib.hid hcl; clear hcl
      have HROW := Lib.hid hrow; clear hrow
      have HTK := Lib.hid htk; clear htk
      have HX := Lib.hid hcx; clear hcx
      clear hlens
      generalize l[i] = x at *
      go_upto_region 5 with (first
        | (refine wp_loadN rfl 41 _ rfl b _ rfl (claimV x) _ HROW.out Tryd.underlying41 rfl (by rw [claimV_length HX.out]; exact sizeClaim) ?_)
        | (refine wp_storeN (B := wr.heap.size) (w0 := wr) rfl 41 _ _ rfl wr.heap.size _ rfl rfl 41 _ (heap_alloc_new _ _) (by rw [List.size_toArray, claimV_length HX.out]; exact sizeClaim) (by rw [show (claimV x).toArray.size = 70 by rw [List.size_toArray, claimV_length HX.out]]; rfl) (by simpa using claimV_one x) ((Below.refl _ _).alloc (Nat.le_refl _) _) (Nat.le_refl _) ?_; intro W2 hbW2 hW2 _))
      have hM2 := Lib.hid (hM.out.below hbW2)
      have hdoc : ∀ j u, (keyV x.2.1)[j]? = some u → W2.cell? ⟨wr.heap.size, 34 + j, none⟩ = some u := fun j u hj => (cells_box hW2 (34 + j)).trans (claim_doc HX.out j u hj)
      have HDOC := Lib.hid hdoc; clear hdoc
      have HB2 := Lib.hid hbW2; have HW2 := Lib.hid hW2
      clear hbW2 hW2 hM
      have hz2 : wr.heap.size < W2.heap.size := (Array.getElem?_eq_some_iff.1 HW2.out).1
      have hall : ∀ j u, (claimV x)[j]? = some u → W2.cell? ⟨wr.heap.size, 0 + j, none⟩ = some u := fun j u hj => by rw [Nat.zero_add]; exact (cells_box HW2.out j).trans hj
      have HALL := Lib.hid hall; clear hall
      have HZ2 := Lib.hid hz2; clear hz2
      have hmax : n0 < maxLen := by unfold maxLen; omega
      have hkd : KeyOk x.2.1 := HX.out.2.1
      have hkk : KeyOk x.1 := HX.out.1
      cases hlast : lastOf (l.take i) x.2.1 with
      | none =>
        have hLM : lastM (l.take i) x.2.1 = none := by unfold lastM; rw [hlast]; rfl
        have hput := lastM_put (t := l.take i) (c := x) (fun y hy => by rw [hlast] at hy; cases hy)
        have HLM := Lib.hid hLM; have HPUT := Lib.hid hput
        clear hLM hput hlast
        go_upto_region 6 with (first
          | (refine wp_loadN rfl 35 _ rfl wr.heap.size 34 rfl (keyV x.2.1) _ HDOC.out Tryd.underlying35 rfl (by rw [keyV_length hkd]; exact sizeKey) ?_)
          | (refine wp_mapGet2 rfl _ _ 76 rfl 41 keyEnc Tryd.underlying76 (claimA zeroC) (zeroC_run _) rfl hM2.out x.2.1 hkd rfl ?_; rw [HLM.out]; simp only [Option.getD_none, Option.isSome_none])
          | (refine wp_storeN (B := W2.heap.size) (w0 := W2) rfl 41 _ _ rfl W2.heap.size _ rfl rfl 41 _ (heap_alloc_new _ _) (by kernel_rfl) (by kernel_rfl) (by simpa using claimV_one zeroC) ((Below.refl _ _).alloc (Nat.le_refl _) _) (Nat.le_refl _) ?_; intro W3 hbW3 hW3 _))
        obtain ⟨cl3, _⟩ := bcell hbW3
        have hM3 := Lib.hid (hM2.out.below hbW3)
        have D3 : Hid (∀ j u, (keyV x.2.1)[j]? = some u → W3.cell? ⟨wr.heap.size, 34 + j, none⟩ = some u) := fun j u hj => (cl3 _ _ HZ2.out).trans (HDOC.out j u hj)
        have A3 : Hid (∀ j u, (claimV x)[j]? = some u → W3.cell? ⟨wr.heap.size, 0 + j, none⟩ = some u) := fun j u hj => (cl3 _ _ HZ2.out).trans (HALL.out j u hj)
        have hb3 : Below w.heap.size w W3 := (hbr.trans (HB2.out.mono hbr.size)).trans (hbW3.mono (Nat.le_trans hbr.size HB2.out.size))
        have HB3 := Lib.hid hb3
        clear hb3 cl3 hW3 hbW3 hbr
        go_wp2_with (first
          | (refine wp_loadN rfl 35 _ rfl wr.heap.size 34 rfl (keyV x.2.1) _ D3.out Tryd.underlying35 rfl (by rw [keyV_length hkd]; exact sizeKey) ?_)
          | (refine wp_loadN rfl 41 _ rfl wr.heap.size 0 rfl (claimV x) _ A3.out Tryd.underlying41 rfl (by rw [claimV_length HX.out]; exact sizeClaim) ?_)
          | (refine wp_mapPut rfl _ _ _ 76 rfl 41 keyEnc Tryd.underlying76 rfl hM3.out hmax x.2.1 hkd rfl (claimA x) rfl ?_; intro W4 hM4 hg4))
        go_roundw
        case rel => exact ⟨i + 1, by omega, by go_num, HB3.out.grown hg4 HB3.out.size (fun k e => by cases e; exact Nat.le_refl _), n0 + 1, by omega, Lib.hid (by rw [HTK.out, ← HPUT.out]; exact hM4)⟩
        case measure => simp [intOf]; omega
      | some y =>
        have hy : ClaimOk y := HOK.out y (List.mem_of_mem_take (lastOf_is hlast).1)
        have hLM : lastM (l.take i) x.2.1 = some (claimA y) := by unfold lastM; rw [hlast]; rfl
        have HLM := Lib.hid hLM; have HY := Lib.hid hy
        clear hLM hy
        have hky : KeyOk y.1 := HY.out.1
        have hkeys := fun q => keys_any x.1 y.1 q hkk hky
        by_cases hq : 0 < cmpK x.1 y.1
        · have hput := lastM_put (t := l.take i) (c := x) (fun z hz => by rw [hlast] at hz; cases hz; exact hq)
          have HPUT := Lib.hid hput
          clear hput hlast
          generalize cmpK x.1 y.1 = q at *
          go_upto_region 6 with (first
            | (refine wp_loadN rfl 35 _ rfl wr.heap.size 34 rfl (keyV x.2.1) _ HDOC.out Tryd.underlying35 rfl (by rw [keyV_length hkd]; exact sizeKey) ?_)
            | (refine wp_mapGet2 rfl _ _ 76 rfl 41 keyEnc Tryd.underlying76 (claimA zeroC) (zeroC_run _) rfl hM2.out x.2.1 hkd rfl ?_; rw [HLM.out]; simp only [Option.getD_some, Option.isSome_some])
            | (refine wp_storeN (B := W2.heap.size) (w0 := W2) rfl 41 _ _ rfl W2.heap.size _ rfl rfl 41 _ (heap_alloc_new _ _) (by rw [List.size_toArray, claimV_length HY.out]; exact sizeClaim) (by rw [show (claimV y).toArray.size = 70 by rw [List.size_toArray, claimV_length HY.out]]; rfl) (by simpa using claimV_one y) ((Below.refl _ _).alloc (Nat.le_refl _) _) (Nat.le_refl _) ?_; intro W3 hbW3 hW3 _))
          obtain ⟨cl3, _⟩ := bcell hbW3
          have hM3 := Lib.hid (hM2.out.below hbW3)
          have D3 : Hid (∀ j u, (keyV x.2.1)[j]? = some u → W3.cell? ⟨wr.heap.size, 34 + j, none⟩ = some u) := fun j u hj => (cl3 _ _ HZ2.out).trans (HDOC.out j u hj)
          have A3 : Hid (∀ j u, (claimV x)[j]? = some u → W3.cell? ⟨wr.heap.size, 0 + j, none⟩ = some u) := fun j u hj => (cl3 _ _ HZ2.out).trans (HALL.out j u hj)
          have K3 : Hid (W3.rangeAt wr.heap.size 0 (keyV x.1)) := fun j u hj => A3.out j u (by have := claim_key HX.out j u hj; rwa [Nat.zero_add] at this)
          have L3 : Hid (W3.rangeAt W2.heap.size 0 (keyV y.1)) := fun j u hj => (cells_box hW3 (0 + j)).trans (claim_key HY.out j u hj)
          have HZ3 : Hid (wr.heap.size < W3.heap.size) := Nat.lt_of_lt_of_le HZ2.out hbW3.size
          have hb3 : Below w.heap.size w W3 := (hbr.trans (HB2.out.mono hbr.size)).trans (hbW3.mono (Nat.le_trans hbr.size HB2.out.size))
          have HB3 := Lib.hid hb3
          clear hb3 cl3 hW3 hbW3 hbr
          have hcmp := hkeys W3
          clear hkeys
          go_wp2_with (first
            | (refine wp_val (by rfl) (ex_load 35 _ rfl (p := ⟨wr.heap.size, 0, none⟩) rfl (run_loadVar_mid W3 _ _ _ (keyV x.1) _ K3.out Tryd.underlying35 rfl (by rw [keyV_length hkk]; exact sizeKey))) ?_)
            | (refine wp_val (by rfl) (ex_load 35 _ rfl (p := ⟨W2.heap.size, 0, none⟩) rfl (run_loadVar_mid W3 _ _ _ (keyV y.1) _ L3.out Tryd.underlying35 rfl (by rw [keyV_length hky]; exact sizeKey))) ?_)
            | (go_at_call 19; refine hcmp.mono ?_; rintro e w5 ⟨hb5, rfl⟩
               obtain ⟨cl5, _⟩ := bcell hb5
               have hM5 := Lib.hid (hM3.out.below hb5)
               have D5 : Hid (∀ j u, (keyV x.2.1)[j]? = some u → w5.cell? ⟨wr.heap.size, 34 + j, none⟩ = some u) := fun j u hj => (cl5 _ _ HZ3.out).trans (D3.out j u hj)
               have A5 : Hid (∀ j u, (claimV x)[j]? = some u → w5.cell? ⟨wr.heap.size, 0 + j, none⟩ = some u) := fun j u hj => (cl5 _ _ HZ3.out).trans (A3.out j u hj)
               have HB5 := Lib.hid (HB3.out.trans (hb5.mono HB3.out.size))
               clear cl5 hb5)
            | (refine wp_loadN rfl 35 _ rfl wr.heap.size 34 rfl (keyV x.2.1) _ D5.out Tryd.underlying35 rfl (by rw [keyV_length hkd]; exact sizeKey) ?_)
            | (refine wp_loadN rfl 41 _ rfl wr.heap.size 0 rfl (claimV x) _ A5.out Tryd.underlying41 rfl (by rw [claimV_length HX.out]; exact sizeClaim) ?_)
            | (refine wp_mapPut rfl _ _ _ 76 rfl 41 keyEnc Tryd.underlying76 rfl hM5.out hmax x.2.1 hkd rfl (claimA x) rfl ?_; intro W4 hM4 hg4))
          go_roundw
          case rel => exact ⟨i + 1, by omega, by go_num, HB5.out.grown hg4 HB5.out.size (fun k e => by cases e; exact Nat.le_refl _), n0 + 1, by omega, Lib.hid (by rw [HTK.out, ← HPUT.out]; exact hM4)⟩
          case measure => simp [intOf]; omega
        · have hkeep := lastM_keep hlast hq
          have HKEEP := Lib.hid hkeep
          have hq2 : cmpK x.1 y.1 ≤ 0 := by omega
          clear hkeep hlast
          generalize cmpK x.1 y.1 = q at *
          go_upto_region 6 with (first
            | (refine wp_loadN rfl 35 _ rfl wr.heap.size 34 rfl (keyV x.2.1) _ HDOC.out Tryd.underlying35 rfl (by rw [keyV_length hkd]; exact sizeKey) ?_)
            | (refine wp_mapGet2 rfl _ _ 76 rfl 41 keyEnc Tryd.underlying76 (claimA zeroC) (zeroC_run _) rfl hM2.out x.2.1 hkd rfl ?_; rw [HLM.out]; simp only [Option.getD_some, Option.isSome_some])
            | (refine wp_storeN (B := W2.heap.size) (w0 := W2) rfl 41 _ _ rfl W2.heap.size _ rfl rfl 41 _ (heap_alloc_new _ _) (by rw [List.size_toArray, claimV_length HY.out]; exact sizeClaim) (by rw [show (claimV y).toArray.size = 70 by rw [List.size_toArray, claimV_length HY.out]]; rfl) (by simpa using claimV_one y) ((Below.refl _ _).alloc (Nat.le_refl _) _) (Nat.le_refl _) ?_; intro W3 hbW3 hW3 _))
          obtain ⟨cl3, _⟩ := bcell hbW3
          have hM3 := Lib.hid (hM2.out.below hbW3)
          have D3 : Hid (∀ j u, (keyV x.2.1)[j]? = some u → W3.cell? ⟨wr.heap.size, 34 + j, none⟩ = some u) := fun j u hj => (cl3 _ _ HZ2.out).trans (HDOC.out j u hj)
          have A3 : Hid (∀ j u, (claimV x)[j]? = some u → W3.cell? ⟨wr.heap.size, 0 + j, none⟩ = some u) := fun j u hj => (cl3 _ _ HZ2.out).trans (HALL.out j u hj)
          have K3 : Hid (W3.rangeAt wr.heap.size 0 (keyV x.1)) := fun j u hj => A3.out j u (by have := claim_key HX.out j u hj; rwa [Nat.zero_add] at this)
          have L3 : Hid (W3.rangeAt W2.heap.size 0 (keyV y.1)) := fun j u hj => (cells_box hW3 (0 + j)).trans (claim_key HY.out j u hj)
          have HZ3 : Hid (wr.heap.size < W3.heap.size) := Nat.lt_of_lt_of_le HZ2.out hbW3.size
          have hb3 : Below w.heap.size w W3 := (hbr.trans (HB2.out.mono hbr.size)).trans (hbW3.mono (Nat.le_trans hbr.size HB2.out.size))
          have HB3 := Lib.hid hb3
          clear hb3 cl3 hW3 hbW3 hbr
          have hcmp := hkeys W3
          clear hkeys
          go_wp2_with (first
            | (refine wp_val (by rfl) (ex_load 35 _ rfl (p := ⟨wr.heap.size, 0, none⟩) rfl (run_loadVar_mid W3 _ _ _ (keyV x.1) _ K3.out Tryd.underlying35 rfl (by rw [keyV_length hkk]; exact sizeKey))) ?_)
            | (refine wp_val (by rfl) (ex_load 35 _ rfl (p := ⟨W2.heap.size, 0, none⟩) rfl (run_loadVar_mid W3 _ _ _ (keyV y.1) _ L3.out Tryd.underlying35 rfl (by rw [keyV_length hky]; exact sizeKey))) ?_)
            | (go_at_call 19; refine hcmp.mono ?_; rintro e w5 ⟨hb5, rfl⟩
               obtain ⟨cl5, _⟩ := bcell hb5
               have hM5 := Lib.hid (hM3.out.below hb5)
               have HB5 := Lib.hid (HB3.out.trans (hb5.mono HB3.out.size))
               clear cl5 hb5))
          go_roundw
          case rel => exact ⟨i + 1, by omega, by go_num, HB5.out, n0, by omega, Lib.hid (by rw [HTK.out, ← HKEEP.out]; exact hM5.out)⟩
          case measure => simp [intOf]; omega
    · go_wp2_with fail
      go_ret
      have e : l.take i = l := List.take_of_length_le (by omega)
      have hM2 := hM.out
      rw [e] at hM2
      exact ⟨hbr, rfl, n0, by omega, hM2⟩
end Go.Proofs.YtfjmbcljohobeaaDoor
namespace Go.Proofs.YtfjmbcljohobeaaDoor
open Go.RowKit Go.Maps
set_option linter.unusedVariables false
set_option linter.unusedSimpArgs false

abbrev KeyS := {k : KeyD // KeyOk k}
theorem keyV_info {k : KeyD} (h : KeyOk k) : (Tryd.prog.info? 35).map (·.size) = some (keyV k).toArray.size := by rw [List.size_toArray, keyV_length h]; exact sizeKey
theorem zeroKey : (Tryd.prog.info? 35).map (·.zero) = some (some (keyA (0, zero32, 0))) := by kernel_rfl

set_option maxRecDepth 100000 in
set_option maxHeartbeats 1000000 in
theorem keysIter_in (F : Fence) (n : Nat) (hf : F.fn 72) (hro : F.round = none) (hn : 1 ≤ n) (l Bm b nn : Nat) (m : KeyD → Option Value) (J Jx : List KeyS → World → Prop)
    (hY : ∀ pre x W, J pre W → pre.length < nn → YieldAt F (n - 1) Tryd.prog l #[keyA x.1] W fun e W' => (e = .returned (.bool true) ∧ J (pre ++ [x]) W' ∧ KeepsWalks W W') ∨ (e = .returned (.bool false) ∧ Jx (pre ++ [x]) W'))
    (W : World) (hJ : AbidesFrom W.heap.size J) (hm : W.cell? ⟨Bm, 0, none⟩ = some (.map (some b))) (hown : MapV W Tryd.prog 35 KeyOk keyL b nn m) (h0 : J [] W) :
    CallsIn F n Tryd.prog 72 #[.func (.yield l) #[] #[], .pointer (some ⟨Bm, 0, none⟩)] W fun e W' => (∃ v, e = .returned v) ∧ ((∃ ss : List KeyS, (KeysIs m ss ∧ ss.length ≤ nn) ∧ J ss W') ∨ (∃ pre, True ∧ Jx pre W')) := by
  obtain ⟨D, hD, hK, hh, hv⟩ := hown
  have hsz := hD.size_le
  have HK := Lib.hid hK; have HH := Lib.hid hh
  clear hK hh hv
  refine callsIn_of_wp Tryd.func72 rfl hf ?_ hro
  simp only [Tryd.ntmps72, List.size_toArray, List.length_cons, List.length_nil, Nat.reduceAdd, Nat.reduceSub, Array.replicate_succ, Array.replicate_zero, List.push_toArray, List.append_toArray, List.nil_append, List.cons_append]
  gi_wp2_with (first
    | (gi_at_range; refine wpListIn_range_own _ rfl _ 76 rfl 35 41 keyedKey Tryd.underlying76 Rv b nn _ rfl hD ?_; intro w0 hrg0 hg0 hs0)
    | gi_in)
  go_frame
  gi_loopw [3] (fun _ wr => ∃ (left : Lit → Bool) (cnt : Nat) (ss : List KeyS), wr.ranges Tryd.prog 35 Rv b W.heap.size nn D left cnt ∧ ss.length + cnt ≤ Maps.size D ∧ CollK keyL D left ss ∧ J ss wr)
    (fun _ wr => wr.rangeLeft b W.heap.size)
  case atStart =>
    exact ⟨_, _, [], hrg0, by simp, CollK.start D, hJ [] W w0 none h0 hg0 (fun r e => by cases e)⟩
  case round =>
    obtain ⟨left, cnt, ss, hrg, hcs, hC, hJs⟩ := hrel
    gi_wp2_with (first
      | (gi_at_next; refine wpListIn_next_ranges _ rfl _ rfl 35 keyedKey Rv (id : Value → Value) (id : Value → Value) (fun key kl hk => ⟨key, rfl⟩) (fun v y hv => ⟨v, rfl⟩) b W.heap.size nn _ _ _ rfl hrg ?_ ?_)
      | gi_in)
    · intro hc0 hl0
      gi_wp2
      go_end0
      exact ⟨⟨_, rfl⟩, .inl ⟨ss, ⟨hC.done hl0 HH.out, by omega⟩, hJs⟩⟩
    · intro x c kl yd yp w2 cnt2 hkey hlk hv hat hrg2 hlt hg2 hs2 hen
      have hhas := has_true_of_atKey hat
      obtain ⟨k, hk, rfl⟩ := HK.out.2 _ hhas
      have hxk : x = keyA k := keyedKey.inj hkey (keyEnc.of k hk)
      subst hxk
      have hJ2 : J ss w2 := hJ ss wr w2 (some W.heap.size) hJs hg2 (fun r e => by cases e; exact ⟨Nat.le_refl _, hrg.iter_walk⟩)
      clear hs2 hkey hv hat
      obtain ⟨g1, g2, g3⟩ := grown_box w2 (keyV (0, zero32, 0)).toArray (keyV k).toArray 35
      have hJ3 : J ss _ := hJ ss w2 _ none hJ2 g1 (fun r e => by cases e)
      have hrg3 := hrg2.of_walks (KeepsWalks.of_grownBy g1 (fun j o e => by cases e))
      have hst := fun (ρ : Operand → Value) (o : Oper) (x y : Operand) (ho : o.op = .store 35 x y) hx hy => ex_storeRow (P := Tryd.prog) (w := w2.alloc (.cells (keyV (0, zero32, 0)).toArray 35)) (ρ := ρ) 35 x y ho w2.heap.size (keyV k).toArray hx hy 35 (keyV (0, zero32, 0)).toArray (heap_alloc_new _ _) (keyV_info hk) (by rw [List.size_toArray, List.size_toArray, keyV_length hk]; rfl) (by simpa using keyV_one k)
      generalize (w2.alloc (.cells (keyV (0, zero32, 0)).toArray 35)).setRow w2.heap.size (keyV k).toArray = w3 at *
      have hld := fun (ρ : Operand → Value) (o : Oper) (x : Operand) (ho : o.op = .load 35 x) hx => ex_load (P := Tryd.prog) (ρ := ρ) (w := w3) 35 x ho (p := ⟨w2.heap.size, 0, none⟩) hx (run_loadVar_row w3 w2.heap.size 35 35 _ (0, 0) _ g2 Tryd.underlying35 rfl (keyV_info hk))
      obtain ⟨fn, tmps, assign, body, hy, hR⟩ := hY ss ⟨k, hk⟩ w3 hJ3 (by omega)
      simp only [keyA] at hy hen
      have HST := Lib.hid hst; have HLD := Lib.hid hld; have G2 := Lib.hid g2
      clear hst hld g1 g2 g3
      have HEN := Lib.hid hen
      gi_wp2_with (first
        | (refine wpListIn_none rfl (by intro c h; cases h) (by intro c h; cases h) (HST.out _ _ _ _ rfl rfl rfl) ?_)
        | (refine wpListIn_val rfl (by intro c h; cases h) (by intro c h; cases h) (HLD.out _ _ _ rfl rfl) ?_)
        | gi_in)
      refine hR.mono ?_
      rintro e W4 (⟨rfl, hJ4, hk4⟩ | ⟨rfl, hJ4⟩)
      · have hrg4 := hrg3.of_walks hk4
        gi_wp2
        go_roundw
        case rel => exact ⟨_, cnt2, ss ++ [⟨k, hk⟩], hrg4, by simp; omega, hC.step (x := ⟨k, hk⟩) keyEnc hlk hhas, hJ4⟩
        case measure => rw [hrg4.left_eq, hrg.left_eq]; exact hlt
      · gi_wp2
        refine bodyPost_ret (results_none rfl _ _ _) rfl ?_
        exact ⟨⟨_, rfl⟩, .inr ⟨_, trivial, hJ4⟩⟩
theorem keys_gives (F : Fence) (n : Nat) (hf : F.fn 72) (hro : F.round = none) (hn : 1 ≤ n) (Bm b nn : Nat) (m : KeyD → Option Value) (w : World) (hBm : Bm < w.heap.size)
    (hm : w.cell? ⟨Bm, 0, none⟩ = some (.map (some b))) (hown : MapV w Tryd.prog 35 KeyOk keyL b nn m) :
    SeqStopsK F n Tryd.prog 72 #[.pointer (some ⟨Bm, 0, none⟩)] (fun x : KeyS => #[keyA x.1]) KeepsWalks (fun ss => KeysIs m ss ∧ ss.length ≤ nn) (fun _ => True) nn w := fun l J Jx W hW hJ hJx hY h0 =>
  keysIter_in F n hf hro hn l Bm b nn m J Jx hY W hJ ((hW.cell (p := ⟨Bm, 0, none⟩) hBm).trans hm) (hown.below hW) h0

set_option maxHeartbeats 1000000 in
theorem keysSeq_in (F : Fence) (n : Nat) (hf : F.fn 36) (hro : F.round = none) (mb : Option Nat) (w : World) :
    CallsIn F n Tryd.prog 36 #[.map mb] w fun e w' => e = .returned (.func (.func 72) #[] #[.pointer (some ⟨w.heap.size, 0, none⟩)]) ∧ w' = w.alloc (.cells #[.map mb] 76) := by
  refine callsIn_of_wp Tryd.func36 rfl hf ?_ hro
  simp only [Tryd.ntmps36, List.size_toArray, List.length_cons, List.length_nil, Nat.reduceAdd, Nat.reduceSub, Array.replicate_succ, Array.replicate_zero, List.push_toArray, List.append_toArray, List.nil_append, List.cons_append]
  gi_wp2
  go_ret
  exact ⟨rfl, rfl⟩
end Go.Proofs.YtfjmbcljohobeaaDoor
namespace Go.Proofs.YtfjmbcljohobeaaDoor
open Go.RowKit Go.Maps Go.Shelf
set_option linter.unusedVariables false
set_option linter.unusedSimpArgs false
attribute [local go_sem] Oper.semAt_some

theorem keyInfo : (Tryd.prog.info? 35).map (fun i => (i.zero, i.size, i.bytes)) = some (some (keyA (0, zero32, 0)), 34, 48) := by kernel_rfl
/-- A block that holds a key. -/
def KeyBox (W : World) (B : Nat) (k : KeyD) : Prop := W.heap[B]? = some (.cells (keyV k).toArray 35 (0, 0))
theorem keyBox_own (B : Nat) (k : KeyD) : Own (fun (_ : Unit) W => KeyBox W B k) := fun s X Y row hs hg hrow => by
  have hlt := (Array.getElem?_eq_some_iff.1 (show X.heap[B]? = _ from hs)).1
  refine (hg.block B hlt fun e => ?_).trans hs
  obtain ⟨o, ho, hc⟩ := hrow B e.symm
  rw [show X.heap[B]? = _ from hs] at ho; cases ho; cases hc
def keysV (ss : List KeyS) : List Value := ss.flatMap fun k => keyV k.1

set_option maxRecDepth 100000 in
set_option maxHeartbeats 2000000 in
theorem appSeq_in (F : Fence) (n : Nat) (hf : F.fn 96) (hro : F.round = none) (hn : 2 ≤ n) (g : Nat) (lb : Array Value) (hFg : F.fn g) (eg : ∀ args w, (callFunc g args).run Tryd.prog w = .ok (.enter g args) w)
    (S Sp : List KeyS → Prop) (N : Nat) (hN : N ≤ 1099511627776) (w : World) (hseq : SeqStopsK F (n - 1) Tryd.prog g lb (fun x : KeyS => #[keyA x.1]) KeepsWalks S Sp N w) :
    CallsIn F n Tryd.prog 96 #[.slice none 0 0, .func (.func g) #[] lb] w fun e w' => ∃ (v : Value) (ss : List KeyS), e = .returned v ∧ S ss ∧ w'.ownsRow w.heap.size 35 34 v ss.length (keysV ss) ∧ (v = .slice none 0 0 ↔ ss = []) ∧ Below w.heap.size w w' := by
  have h1 : 1 ≤ n := by omega
  obtain ⟨i0, hi, hz0, hz1, hz2⟩ := info_parts keyInfo
  refine callsIn_of_wp_marks Tryd.func96 rfl hf ?_ hro
  simp only [Tryd.ntmps96, List.size_toArray, List.length_cons, List.length_nil, Nat.reduceAdd, Nat.reduceSub, Array.replicate_succ, Array.replicate_zero, List.push_toArray, List.append_toArray, List.nil_append, List.cons_append]
  gi_wp2
  have hW0s : (w.alloc (.cells #[.slice none 0 0] 78)).heap.size = w.heap.size + 1 := by simp
  have bS := Boxed.new w 78 (.slice none 0 0)
  have hB0 : Below w.heap.size w (w.alloc (.cells #[.slice none 0 0] 78)) := (Below.refl _ w).alloc (Nat.le_refl _) _
  have hnil : (w.alloc (.cells #[.slice none 0 0] 78)).ownsRow w.heap.size 35 34 (.slice none 0 0) 0 [] := ⟨rfl, .inl ⟨rfl, rfl⟩⟩
  generalize hW0 : w.alloc (.cells #[.slice none 0 0] 78) = W0 at *
  clear hW0
  refine wpIn_rangeFunc_ownH hro h1 (gf := g) (lb := lb) rfl hFg eg hseq walksK_t walksK_b hB0 (fun _ => rfl)
    (fun pre W => (∃ v, Boxed W w.heap.size 78 v ∧ W.ownsRow w.heap.size 35 34 v pre.length (keysV pre) ∧ (v = .slice none 0 0 ↔ pre = [])) ∧ Below w.heap.size w W)
    (fun _ _ _ => False)
    (OwnFrom.and (Own.from (holdsRow_own w.heap.size w.heap.size 78 35 34 (fun pre : List KeyS => pre.length) (fun pre => keysV pre) (fun pre v => v = .slice none 0 0 ↔ pre = [])) _) (ownFrom_below (Nat.le_refl _) (by omega)))
    (fun _ _ _ _ _ hs _ _ => hs)
    ⟨⟨_, bS, hnil, by simp⟩, hB0⟩
    (fun x a' W => ∃ Bx, w.heap.size < Bx ∧ KeyBox W Bx x.1 ∧ a' = { tmps := #[.slice none 0 0, .func (.func g) #[] lb, .pointer (some ⟨w.heap.size, 0, none⟩), undef, .slice none 0 0, .pointer (some ⟨Bx, 0, none⟩), .func (.func g) #[] lb, keyA x.1, undef, undef, undef, undef, undef], defers := [] })
    (fun x a' _ X Y row hs hg hr => by obtain ⟨Bx, h1, h2, h3⟩ := hs; exact ⟨Bx, h1, keyBox_own Bx x.1 () X Y row h2 hg (fun r e => (hr r e).2), h3⟩)
    ?assign ?body ?done ?stop
  case assign =>
    rintro l pre x W K ⟨⟨v, bv, hr, hv⟩, hB⟩ hK
    obtain ⟨g1, g2, g3⟩ := grown_box W (keyV (0, zero32, 0)).toArray (keyV x.1).toArray 35
    have hst := fun (ρ : Operand → Value) (o : Oper) (p y : Operand) (ho : o.op = .store 35 p y) hx hy => ex_storeRow (P := Tryd.prog) (w := W.alloc (.cells (keyV (0, zero32, 0)).toArray 35)) (ρ := ρ) 35 p y ho W.heap.size (keyV x.1).toArray hx hy 35 (keyV (0, zero32, 0)).toArray (heap_alloc_new _ _) (keyV_info x.2) (by rw [List.size_toArray, List.size_toArray, keyV_length x.2]; rfl) (by simpa using keyV_one x.1)
    have HST := Lib.hid hst
    clear hst
    generalize (W.alloc (.cells (keyV (0, zero32, 0)).toArray 35)).setRow W.heap.size (keyV x.1).toArray = W3 at *
    gi_wp2_with (first
      | (refine wpListIn_none rfl (by intro c h; cases h) (by intro c h; cases h) (HST.out _ _ _ _ rfl rfl rfl) ?_)
      | gi_in)
    refine hK _ _ ((KeepsOthers.of_grownBy g1 (fun j o e => by cases e)).from _) (KeepsWalks.of_grownBy g1 (fun j o e => by cases e)) ⟨⟨v, bv.kept g1 (by simp), hr.kept g1 ?_, hv⟩, hB.grown g1 hB.size (fun k e => by cases e)⟩ ⟨W.heap.size, bv.lt, g2, rfl⟩
    cases hvb : v.ownBlock with
    | none => exact .inl rfl
    | some b => exact .inr (by simp)
  case body =>
    rintro l pre x a' W hl ⟨r, hr⟩ ⟨⟨v, bv, hrow, hv⟩, hB⟩ ⟨Bx, hBx, bX, rfl⟩ hlt
    have hv1 := bv.cell
    have hsB := hB.size
    have hm1 : pre.length + 1 ≤ maxLen := by unfold maxLen; omega
    have hm2 : (pre.length + 1) * 48 ≤ 140737488355328 := by omega
    have hld := fun (W1 : World) (hb : KeyBox W1 Bx x.1) (ρ : Operand → Value) (o : Oper) (p : Operand) (ho : o.op = .load 35 p) hx => ex_load (P := Tryd.prog) (ρ := ρ) (w := W1) 35 p ho (p := ⟨Bx, 0, none⟩) hx (run_loadVar_row W1 Bx 35 35 _ (0, 0) _ hb Tryd.underlying35 rfl (keyV_info x.2))
    have hbs := fun (ρ : Operand → Value) (o : Oper) (p : Operand) (ho : o.op = .buildSlice 78 1 #[(0, p)]) hx => ex_buildSlice1 (P := Tryd.prog) (w := W) (ρ := ρ) 78 p ho 35 Tryd.underlying78 (keyA (0, zero32, 0)) 34 48 keyInfo rfl (by decide) (by decide) (keyV x.1) (keyV_length x.2) hx
    have HLD := Lib.hid (hld W bX); have HBS := Lib.hid hbs
    have hcells : ∀ j u, (keyV x.1)[j]? = some u → (W.alloc (.cells (keyV x.1).toArray 35)).cell? ((⟨W.heap.size, 0, none⟩ : Addr).add j) = some u := by
      intro j u hj
      rw [Addr.add_mid, cells_box (heap_alloc_new _ _)]
      simpa using hj
    have HCL := Lib.hid hcells
    clear hld hbs hcells
    gi_wp2_with (first
      | ((with_reducible refine wpListIn_val rfl ?_ ?_ (HLD.out _ _ (.tmp 5) ?_ ?_) ?_)
         · intro c h; cases h
         · intro c h; cases h
         · with_reducible exact rfl
         · exact rfl)
      | ((with_reducible refine wpListIn_val rfl ?_ ?_ (HBS.out _ _ (.tmp 9) ?_ ?_) ?_)
         · intro c h; cases h
         · intro c h; cases h
         · with_reducible exact rfl
         · exact rfl)
      | (gi_at_builtin; refine wpListIn_append_own _ rfl _ _ 78 rfl w.heap.size 35 i0 (keyA (0, zero32, 0)) 34 48 Tryd.underlying78 hi hz0 hz1 hz2 rfl (by decide) _ _ _ rfl (hrow.alloc _) ⟨W.heap.size, 0, none⟩ 1 1 (keyV x.1) rfl (by rw [keyV_length x.2]) HCL.out (keyV_one x.1) hm1 hm2 (by simp; omega) ?_; intro v' w1 hown' hgrow _; obtain ⟨g', cap', rfl⟩ := ownsRow_succ hown'; obtain ⟨hv1, hv2, hr2, hk2, hb2⟩ := bv.appended (by decide) hrow hB.size (Nat.le_refl _) hown' hgrow; have hc1 := hv1.cell; have hf1 := hv1.frozen)
      | gi_in)
    have hr3 := hr2
    rw [show keysV pre ++ keyV x.1 = keysV (pre ++ [x]) by simp [keysV]] at hr3
    exact ⟨hk2.from _, hk2.walks, ⟨_, hv2, by simpa using hr3, by simp⟩, hB.trans hb2⟩
  case done =>
    rintro D zs W hD hS ⟨⟨v, bv, hrow, hv⟩, hB⟩ hK
    have cS := bv.cell
    gi_wp2
    refine ⟨by simp, .inl ⟨_, _, rfl, run_takeDeferred hK, ?_⟩⟩
    exact ⟨_, results_tmp rfl _ _ _, v, zs, rfl, hS, ownsRow_putObj hrow _ hK rfl, hv, hB.trans (belowK_b (w := w) (Nat.le_refl _) W D _ _ (by omega) hK rfl rfl)⟩
  case stop =>
    rintro D c pre W _ _ h _
    exact h.elim

set_option maxHeartbeats 1000000 in
theorem collect_in (F : Fence) (n : Nat) (hf : F.fn 70) (hf2 : F.fn 96) (hro : F.round = none) (hn : 3 ≤ n) (g : Nat) (lb : Array Value) (hFg : F.fn g) (eg : ∀ args w, (callFunc g args).run Tryd.prog w = .ok (.enter g args) w)
    (S Sp : List KeyS → Prop) (N : Nat) (hN : N ≤ 1099511627776) (w : World) (hseq : SeqStopsK F (n - 1 - 1) Tryd.prog g lb (fun x : KeyS => #[keyA x.1]) KeepsWalks S Sp N w) :
    CallsIn F n Tryd.prog 70 #[.func (.func g) #[] lb] w fun e w' => ∃ (v : Value) (ss : List KeyS), e = .returned v ∧ S ss ∧ w'.ownsRow w.heap.size 35 34 v ss.length (keysV ss) ∧ (v = .slice none 0 0 ↔ ss = []) ∧ Below w.heap.size w w' := by
  have h1 : 1 ≤ n := by omega
  refine callsIn_of_wp Tryd.func70 rfl hf ?_ hro
  simp only [Tryd.ntmps70, List.size_toArray, List.length_cons, List.length_nil, Nat.reduceAdd, Nat.reduceSub, Array.replicate_succ, Array.replicate_zero, List.push_toArray, List.append_toArray, List.nil_append, List.cons_append]
  gi_wp2_with (gi_at_call 96; refine (appSeq_in F (n - 1) hf2 hro (by omega) g lb hFg eg S Sp N hN _ hseq).mono ?_; rintro e w' ⟨v, ss, rfl, hS, hrow, hnil, hb⟩)
  go_ret
  exact ⟨v, ss, rfl, hS, hrow, hnil, hb⟩
end Go.Proofs.YtfjmbcljohobeaaDoor
namespace Go.Proofs.YtfjmbcljohobeaaDoor
open Go.RowKit Go.Sort
set_option linter.unusedVariables false

section
variable {α : Type} [Inhabited α] {enc : α → List Value} {k : Nat}
theorem flatK_is (hk : ∀ x, (enc x).length = k) (hk0 : 0 < k) (l : List α) : flatK enc k l.toArray = (rowsV enc l).toArray := by
  have hl : (rowsV enc l).length = l.length * k := rowsV_length fun x _ => hk x
  refine ext_get! (by simp [hl]) fun t ht => ?_
  have ht' : t < l.length * k := by simpa using ht
  rw [get_flatK enc k l.toArray t (by simpa using ht')]
  have hi : t / k < l.length := (Nat.div_lt_iff_lt_mul hk0).2 ht'
  have hm : t % k < k := Nat.mod_lt _ hk0
  have hg := rowsV_get (l := l) (fun x _ => hk x) (t / k) hi (t % k) _ (List.getElem?_eq_getElem (by rw [hk]; exact hm))
  rw [show t / k * k + t % k = t by rw [Nat.mul_comm]; exact Nat.div_add_mod t k] at hg
  rw [show (l.toArray)[t / k]! = l[t / k] by simp [hi], getElem!_pos _ _ (by rw [hk]; exact hm), getElem!_pos _ _ (by simpa [hl] using ht')]
  obtain ⟨_, h2⟩ := List.getElem?_eq_some_iff.1 hg
  simpa using h2.symm
variable {w : World} {base g cap : Nat} {e : TypeId} {cur : Array Value} {l : List α}
theorem holdsK_of_block (hk : ∀ x, (enc x).length = k) (hk0 : 0 < k) (hb : w.heap[g]? = some (.cells cur e (0, 0))) (ht : cur.toList.take (l.length * k) = rowsV enc l) : HoldsK enc k w g 0 l.toArray := by
  unfold HoldsK
  rw [flatK_is hk hk0]
  intro j hj
  have hl : (rowsV enc l).length = l.length * k := rowsV_length fun x _ => hk x
  have hj' : j < (rowsV enc l).length := by simpa using hj
  refine ⟨?_, by simp [World.frozen?, hb]⟩
  have h1 : (cur.toList.take (l.length * k))[j]? = (rowsV enc l)[j]? := by rw [ht]
  rw [List.getElem?_take_of_lt (by omega)] at h1
  simp only [World.cell?, hb, Nat.zero_add]
  simp only [Option.isSome_none, Bool.false_eq_true, if_false]
  rw [← Array.getElem?_toList, h1]
  simp [hj']
/-- Behind the sort the slice reads as the sorted list; what lay is as it was. -/
theorem sortedK_sl (hk : ∀ x, (enc x).length = k) (hk0 : 0 < k) (hb : w.heap[g]? = some (.cells cur e (0, 0))) (hH : HoldsK enc k w g 0 l.toArray) (hbase : base ≤ g) {t : List α} (ht : t.length = l.length) (m : Nat) (os : Array Obj) (w0 : World) (hw : Below base w0 w) :
    Sl (sortWorldK enc k w g 0 m t.toArray os) (sortWorldK enc k w g 0 m t.toArray os).heap.size (some ⟨g, 0, none⟩) l.length k (rowsV enc t) ∧ Below base w0 (sortWorldK enc k w g 0 m t.toArray os) := by
  have hg : g < w.heap.size := (Array.getElem?_eq_some_iff.1 hb).1
  have hlt : (rowsV enc t).length = t.length * k := rowsV_length fun x _ => hk x
  have hll : (rowsV enc l).length = l.length * k := rowsV_length fun x _ => hk x
  unfold HoldsK at hH
  rw [flatK_is hk hk0] at hH
  have hH2 : Holds id (Sort.ahead w m) g 0 (rowsV enc l).toArray := hH
  have hsz : (grow (putRow id (Sort.ahead w m) g 0 (rowsV enc t).toArray) os).heap.size = w.heap.size + os.size := by
    unfold grow putRow mapBlock Sort.ahead
    simp
  unfold sortWorldK putRowK
  rw [flatK_is hk hk0]
  refine ⟨⟨by rw [hlt, ht], fun _ => ⟨g, 0, rfl, by rw [hsz]; omega, fun j u hu => ?_⟩⟩, ?_⟩
  · obtain ⟨hj, hu2⟩ := List.getElem?_eq_some_iff.1 hu
    have hc := cell?_putRow id (Sort.ahead w m) g 0 (rowsV enc l).toArray (rowsV enc t).toArray hH2 (by simp [hlt, hll, ht]) j (by simpa using hj)
    have hc2 : (grow (putRow id (Sort.ahead w m) g 0 (rowsV enc t).toArray) os).cell? ⟨g, 0 + j, none⟩ = (putRow id (Sort.ahead w m) g 0 (rowsV enc t).toArray).cell? ⟨g, 0 + j, none⟩ := by
      unfold World.cell? grow
      simp only
      rw [Array.getElem?_append_left (by unfold putRow mapBlock Sort.ahead; simpa using hg)]
    rw [hc2, hc]
    simp [hj, hu2]
  · refine hw.trans ⟨rfl, rfl, rfl, by rw [hsz]; omega, fun q hq => ?_⟩
    unfold grow
    simp only
    rw [Array.getElem?_append_left (by unfold putRow mapBlock Sort.ahead; simp; omega)]
    unfold putRow mapBlock Sort.ahead
    simp only
    rw [Array.getElem?_modify, if_neg (by omega)]
end
end Go.Proofs.YtfjmbcljohobeaaDoor
namespace Go.Proofs
open Go.Shelf
def Tryd.laysSortKeys_ren : Go.Shelf.Ren := ⟨fun | 6 => 71 | 15 => 90 | 14 => 97 | 28 => 122 | 29 => 123 | 20 => 129 | 21 => 130 | 22 => 131 | 23 => 132 | 24 => 133 | 25 => 134 | 26 => 135 | 27 => 136 | 46 => 161 | 47 => 147 | 48 => 148 | 49 => 162 | 50 => 163 | 57 => 171 | n => n, fun | 22 => 78 | 24 => 35 | 25 => 44 | 3 => 3 | 39 => 154 | 0 => 0 | 53 => 179 | 55 => 39 | 4 => 4 | 46 => 172 | 45 => 171 | 50 => 176 | 5 => 5 | 9 => 9 | 66 => 193 | 70 => 197 | 76 => 207 | 77 => 208 | n => n, fun | n => n⟩
theorem Tryd.laysSortKeys : Go.Proofs.SlLaysF0.n6 Tryd.prog Tryd.laysSortKeys_ren := {
  mixed := by kernel_rfl
  f6 := ⟨Tryd.f71.name, by decide, Tryd.func71.trans (congrArg some (by kernel_rfl))⟩
  f14 := ⟨Tryd.f97.name, by decide, Tryd.func97.trans (congrArg some (by kernel_rfl))⟩
  f15 := Tryd.func90.trans (congrArg some (by kernel_rfl))
  f20 := ⟨Tryd.f129.name, by decide, Tryd.func129.trans (congrArg some (by kernel_rfl))⟩
  f21 := ⟨Tryd.f130.name, by decide, Tryd.func130.trans (congrArg some (by kernel_rfl))⟩
  f22 := ⟨Tryd.f131.name, by decide, Tryd.func131.trans (congrArg some (by kernel_rfl))⟩
  f23 := ⟨Tryd.f132.name, by decide, Tryd.func132.trans (congrArg some (by kernel_rfl))⟩
  f24 := ⟨Tryd.f133.name, by decide, Tryd.func133.trans (congrArg some (by kernel_rfl))⟩
  f25 := ⟨Tryd.f134.name, by decide, Tryd.func134.trans (congrArg some (by kernel_rfl))⟩
  f26 := ⟨Tryd.f135.name, by decide, Tryd.func135.trans (congrArg some (by kernel_rfl))⟩
  f27 := ⟨Tryd.f136.name, by decide, Tryd.func136.trans (congrArg some (by kernel_rfl))⟩
  f28 := Tryd.func122.trans (congrArg some (by kernel_rfl))
  f29 := Tryd.func123.trans (congrArg some (by kernel_rfl))
  f46 := ⟨Tryd.f161.name, by decide, Tryd.func161.trans (congrArg some (by kernel_rfl))⟩
  f47 := Tryd.func147.trans (congrArg some (by kernel_rfl))
  f48 := Tryd.func148.trans (congrArg some (by kernel_rfl))
  f49 := ⟨Tryd.f162.name, by decide, Tryd.func162.trans (congrArg some (by kernel_rfl))⟩
  f50 := ⟨Tryd.f163.name, by decide, Tryd.func163.trans (congrArg some (by kernel_rfl))⟩
  f57 := ⟨Tryd.f171.name, by decide, Tryd.func171.trans (congrArg some (by kernel_rfl))⟩
  t0 := Tryd.underlying0
  a0 := Tryd.isAgg0
  z0 := Tryd.sizeOf0
  v0 := Tryd.zeroValue0
  t3 := Tryd.underlying3
  a3 := Tryd.isAgg3
  z3 := Tryd.sizeOf3
  v3 := Tryd.zeroValue3
  t4 := Tryd.underlying4
  a4 := Tryd.isAgg4
  z4 := Tryd.sizeOf4
  v4 := Tryd.zeroValue4
  t5 := Tryd.underlying5
  a5 := Tryd.isAgg5
  z5 := Tryd.sizeOf5
  v5 := Tryd.zeroValue5
  t9 := Tryd.underlying9
  a9 := Tryd.isAgg9
  z9 := Tryd.sizeOf9
  v9 := Tryd.zeroValue9
  t22 := Tryd.underlying78
  a22 := Tryd.isAgg78
  z22 := Tryd.sizeOf78
  v22 := Tryd.zeroValue78
  t25 := Tryd.underlying44
  a25 := Tryd.isAgg44
  z25 := Tryd.sizeOf44
  v25 := Tryd.zeroValue44
  t39 := Tryd.underlying154
  a39 := Tryd.isAgg154
  z39 := Tryd.sizeOf154
  v39 := Tryd.zeroValue154
  t45 := Tryd.underlying171
  a45 := Tryd.isAgg171
  z45 := Tryd.sizeOf171
  v45 := Tryd.zeroValue171
  t46 := Tryd.underlying172
  a46 := Tryd.isAgg172
  z46 := Tryd.sizeOf172
  v46 := Tryd.zeroValue172
  t50 := Tryd.underlying176
  a50 := Tryd.isAgg176
  z50 := Tryd.sizeOf176
  v50 := Tryd.zeroValue176
  t53 := Tryd.underlying179
  a53 := Tryd.isAgg179
  z53 := Tryd.sizeOf179
  v53 := Tryd.zeroValue179
  t55 := Tryd.underlying39
  a55 := Tryd.isAgg39
  z55 := Tryd.sizeOf39
  v55 := Tryd.zeroValue39
  t66 := Tryd.underlying193
  a66 := Tryd.isAgg193
  z66 := Tryd.sizeOf193
  v66 := Tryd.zeroValue193
  t70 := Tryd.underlying197
  a70 := Tryd.isAgg197
  z70 := Tryd.sizeOf197
  v70 := Tryd.zeroValue197
  t76 := Tryd.underlying207
  a76 := Tryd.isAgg207
  z76 := Tryd.sizeOf207
  v76 := Tryd.zeroValue207
  t77 := Tryd.underlying208
  a77 := Tryd.isAgg208
  z77 := Tryd.sizeOf208
  v77 := Tryd.zeroValue208 }
end Go.Proofs
namespace Go.Proofs.YtfjmbcljohobeaaDoor
open Go.RowKit Go.Maps Go.Shelf Go.Sort
set_option linter.unusedVariables false
set_option linter.unusedSimpArgs false

instance : Inhabited KeyS := ⟨⟨(0, zero32, 0), ⟨by decide, zero32_ok, by decide⟩⟩⟩
def cmpS (a b : KeyS) : Int := cmpK a.1 b.1
theorem ltS (a b : KeyS) : ltOf cmpS a b = decide (cmpK a.1 b.1 < 0) := rfl
theorem swoS : SWO (ltOf cmpS) where
  irrefl x := by rw [ltS, cmpK_self]; rfl
  trans x y z h1 h2 := by
    rw [ltS, decide_eq_true_eq] at *
    exact cmpK_trans h1 h2
  ntrans x y z h1 h2 := by
    rw [ltS, decide_eq_false_iff_not] at *
    intro h
    rcases cmpK_cases x.1 y.1 with q | q | q
    · exact h1 q
    · rw [q] at h; exact h2 h
    · exact h2 (cmpK_trans q h)
theorem partS (x y : KeyS) (h1 : ltOf cmpS x y = false) (h2 : ltOf cmpS y x = false) : x = y := by
  rw [ltS, decide_eq_false_iff_not] at *
  rcases cmpK_cases x.1 y.1 with q | q | q
  · exact absurd q h1
  · exact Subtype.ext q
  · exact absurd q h2

set_option maxHeartbeats 1000000 in
set_option maxRecDepth 100000 in
theorem closure_gr (a b : KeyD) (w : World) (ha : KeyOk a) (hb : KeyOk b) :
    Calls Tryd.prog 37 #[.agg (keyV a).toArray, .agg (keyV b).toArray] w fun e w' => Gr w w' ∧ e = .returned (.int .i64 (cmpK a b)) := by
  have hA0 : (w.alloc (.cells (keyV a).toArray 35)).heap[w.heap.size]? = some (.cells (keyV a).toArray 35 (0, 0)) := heap_alloc_new _ _
  go_enter Tryd.func37, Tryd.ntmps37
  go_upto_region 1 with fail
  have hA : ((w.alloc (.cells (keyV a).toArray 35)).alloc (.cells (keyV b).toArray 35)).heap[w.heap.size]? = some (.cells (keyV a).toArray 35 (0, 0)) := by
    exact (heap_alloc_old (w.alloc (.cells (keyV a).toArray 35)) _ (by simp)).trans hA0
  have hB : ((w.alloc (.cells (keyV a).toArray 35)).alloc (.cells (keyV b).toArray 35)).heap[w.heap.size + 1]? = some (.cells (keyV b).toArray 35 (0, 0)) := by
    have := heap_alloc_new (w.alloc (.cells (keyV a).toArray 35)) (.cells (keyV b).toArray 35)
    rw [World.size_alloc] at this
    exact this
  have hG : Gr w ((w.alloc (.cells (keyV a).toArray 35)).alloc (.cells (keyV b).toArray 35)) := ((Gr.refl _).alloc _).alloc _
  clear hA0
  generalize (w.alloc (.cells (keyV a).toArray 35)).alloc (.cells (keyV b).toArray 35) = W at *
  have HA := Lib.hid hA; have HB := Lib.hid hB; have HG := Lib.hid hG
  clear hA hB hG
  have hcall := keys_gr a b W ha hb
  go_wp2_with (first
    | (refine wpList_load_row rfl 35 _ rfl w.heap.size rfl 35 _ (0, 0) _ HA.out Tryd.underlying35 rfl (keyV_info ha) ?_)
    | (refine wpList_load_row rfl 35 _ rfl (w.heap.size + 1) rfl 35 _ (0, 0) _ HB.out Tryd.underlying35 rfl (keyV_info hb) ?_)
    | (go_at_call 19; refine hcall.mono ?_; rintro e w5 ⟨hb5, rfl⟩))
  go_ret
  exact ⟨HG.out.trans hb5, rfl⟩
theorem cmpLays (blk off size : Nat) (w : World) : CmpLays Tryd.prog 37 #[] (fun x : KeyS => keyV x.1) 34 cmpS blk off size w :=
  fun _ _ _ _ x y => (closure_gr x.1 y.1 _ x.2 y.2).mono fun e w' ⟨⟨q, os, h⟩, he⟩ => ⟨he, q, os, h⟩

/-- Keys in order. -/
def ordS (ss : List KeyS) : List KeyS := ss.mergeSort fun x y => !(ltOf cmpS) y x
theorem ordS_perm (ss : List KeyS) : (ordS ss).Perm ss := List.mergeSort_perm _ _
theorem ordS_rising {ss : List KeyS} (hn : ss.Nodup) : Rising ((ordS ss).map (·.1)) := by
  have hp : (ordS ss).Pairwise fun a b => (!(ltOf cmpS) b a) = true := by
    refine List.pairwise_mergeSort (fun a b c h1 h2 => ?_) (fun a b => ?_) ss
    · simp only [Bool.not_eq_true'] at *
      exact swoS.ntrans _ _ _ h2 h1
    · simp only [Bool.or_eq_true, Bool.not_eq_true']
      rw [ltS, ltS, decide_eq_false_iff_not, decide_eq_false_iff_not]
      rcases cmpK_cases a.1 b.1 with q | q | q
      · left; intro h; have := cmpK_trans q h; rw [cmpK_self] at this; omega
      · left; rw [q, cmpK_self]; omega
      · right; intro h; have := cmpK_trans q h; rw [cmpK_self] at this; omega
  have hnd : (ordS ss).Nodup := (ordS_perm ss).nodup_iff.2 hn
  unfold Rising
  rw [List.pairwise_map]
  refine (hp.and hnd).imp ?_
  rintro a b ⟨h1, h2⟩
  simp only [Bool.not_eq_true'] at h1
  rw [ltS, decide_eq_false_iff_not] at h1
  rcases cmpK_cases a.1 b.1 with q | q | q
  · exact q
  · exact absurd (Subtype.ext q) h2
  · exact absurd q h1
theorem ordS_mem {m : KeyD → Option Value} {ss : List KeyS} (h : KeysIs m ss) (x : KeyS) : x ∈ ordS ss ↔ (m x.1).isSome = true := by
  rw [(ordS_perm ss).mem_iff]
  exact h.2 x

set_option maxHeartbeats 1000000 in
set_option maxRecDepth 100000 in
theorem sorted_keys (b nn : Nat) (m : KeyD → Option Value) (w : World) (hnn : nn ≤ 1099511627776) (hown : MapV w Tryd.prog 35 KeyOk keyL b nn m) (Bm : Nat) (hBm : w.cell? ⟨Bm, 0, none⟩ = some (.map (some b))) :
    Calls Tryd.prog 35 #[.func (.func 72) #[] #[.pointer (some ⟨Bm, 0, none⟩)], .func (.func 37) #[] #[]] w fun e w' =>
      Below w.heap.size w w' ∧ ∃ A c ds, (∃ ss : List KeyS, KeysIs m ss ∧ ds = (ordS ss).map (·.1)) ∧ e = .returned (.slice A ds.length c) ∧ Sl w' w'.heap.size A ds.length 34 (rowsV keyV ds) := by
  have hBl : Bm < w.heap.size := block_lt_of_cell hBm
  have hcol := fun (W : World) (hb : Below w.heap.size w W) => callsIn_wide.1 (collect_in Fence.wide 5 trivial trivial rfl (by decide) 72 #[.pointer (some ⟨Bm, 0, none⟩)] trivial (enters_of Tryd.func72 (by kernel_rfl) rfl) (fun ss => KeysIs m ss ∧ ss.length ≤ nn) (fun _ => True) nn hnn W
    (keys_gives Fence.wide (5 - 1 - 1) trivial rfl (by decide) Bm b nn m W (Nat.lt_of_lt_of_le hBl hb.size) ((hb.cell (p := ⟨Bm, 0, none⟩) hBl).trans hBm) (hown.below hb)))
  have hcl := hcol w (Below.refl _ _)
  clear hcol
  have HO := Lib.hid hown; clear hown hBm
  go_enter Tryd.func35, Tryd.ntmps35
  go_wp2_with fail
  refine hcl.mono ?_
  rintro e W1 ⟨v, ss, rfl, ⟨hS, hlen⟩, hrow, hnil, hb1⟩
  clear hcl
  have HB1 := Lib.hid hb1; have HS := Lib.hid hS
  clear hb1 hS
  rcases hrow.2 with ⟨rfl, hz⟩ | ⟨g, cap, cur, rfl, hbase, hg, r1, r2, r3, r4⟩
  · have hss : ss = [] := List.eq_nil_of_length_eq_zero hz
    subst hss
    have hcs := AnyF.slices_SortFunc_none { Tryd.laysSortKeys with } (none : Option Addr) 0 (.func (.func 37) #[] #[]) W1
    change Calls Tryd.prog 71 _ _ _ at hcs
    clear hrow hnil hz
    go_wp2_with (go_at_call 71; refine hcs.mono ?_; rintro e w5 ⟨rfl, rfl⟩)
    go_ret
    exact ⟨HB1.out, none, 0, [], ⟨[], HS.out, by simp [ordS]⟩, rfl, Sl.nil⟩
  · have hk : ∀ x : KeyS, (keyV x.1).length = 34 := fun x => keyV_length x.2
    have hH : HoldsK (fun x : KeyS => keyV x.1) 34 W1 g 0 ss.toArray := holdsK_of_block hk (by decide) hg r4
    have hgl : g < W1.heap.size := (Array.getElem?_eq_some_iff.1 hg).1
    have hsz : ss.toArray.size < 4611686018427387904 := by rw [List.size_toArray]; omega
    have hcs := AnyQ.slices_SortFunc_total Tryd.laysSortKeys 34 Tryd.isAgg35 Tryd.sizeOf35 (fun x : KeyS => keyV x.1) hk (fun x => keyV_one x.1) cmpS swoS 37 #[] g 0 cap ss.toArray W1
      (enters_of Tryd.func37 (by kernel_rfl) rfl) (cmpLays g 0 _ W1) hH hgl hsz partS
    change Calls Tryd.prog 71 _ _ _ at hcs
    have hsl := fun (n : Nat) (os : Array Obj) => sortedK_sl hk (by decide) hg hH hbase (t := ordS ss) ((ordS_perm ss).length_eq) n os w HB1.out
    have HSL := Lib.hid hsl
    clear hsl hH hrow hnil hg r4
    simp only [List.size_toArray] at hcs
    go_wp2_with (go_at_call 71; refine hcs.mono ?_; rintro e w5 ⟨rfl, n, os, rfl⟩)
    go_ret
    obtain ⟨h1, h2⟩ := HSL.out n os
    refine ⟨h2, some ⟨g, 0, none⟩, cap, (ordS ss).map (·.1), ⟨ss, HS.out, rfl⟩, ?_, ?_⟩
    · rw [List.length_map, (ordS_perm ss).length_eq]; rfl
    · rw [List.length_map, (ordS_perm ss).length_eq, show rowsV keyV ((ordS ss).map (·.1)) = rowsV (fun x : KeyS => keyV x.1) (ordS ss) by simp [rowsV, List.flatMap_map]]
      exact h1
end Go.Proofs.YtfjmbcljohobeaaDoor
namespace Go.Proofs.YtfjmbcljohobeaaDoor
open Go.RowKit Go.Maps
set_option linter.unusedVariables false

section
variable {P : Program} {K : TypeId} {κ : Type} {ok : κ → Prop} {val : κ → Value} {kl : κ → Lit} {w : World} {b n : Nat} {m : κ → Option Value}
theorem EqT.law {t : TypeId} {d : Nat} (E : EqT P t d) : WideMaps.KeyLaw P t := deep_law_laid E.laid (m := P.types.size + 1) E.few E.row E.key E.wide

theorem MapV.update {t e : TypeId} [DecidableEq κ] (E : KeyEnc P K ok val kl) (ht : P.underlying t = some (.map K e)) (h : MapV w P K ok kl b n m) (hn : n < maxLen) {k0 : κ} (hk : ok k0) (v0 : Value) :
    ∃ w', (Instr.mapUpdate t (.map (some b)) (val k0) v0).run P w = .ok () w' ∧ MapV w' P K ok kl b (n + 1) (fun k => if k = k0 then some v0 else m k) ∧ w.grownBy w' (some b) := by
  obtain ⟨D, h1, h2, h3, h4⟩ := h
  obtain ⟨w', hrun, ho, hg⟩ := h1.update E.keyed ht hn (val := v0) (d := .held v0) (ps := []) (E.of k0 hk) rfl
  obtain ⟨g1, g2, g3⟩ := put_view E h2 h3 h4 hk v0
  exact ⟨w', hrun, ⟨_, ho, g1, g2, g3⟩, hg⟩
theorem setBlock_same {w : World} {b : Nat} {o : Obj} (h : w.heap[b]? = some o) : Go.ChangeMaps.setBlock w b o = w := by
  unfold Go.ChangeMaps.setBlock
  obtain ⟨hlt, hb⟩ := Array.getElem?_eq_some_iff.1 h
  have : w.heap.setIfInBounds b o = w.heap := by
    apply Array.ext_getElem?
    intro j
    by_cases e : b = j
    · subst e; simp [hlt, hb]
    · rw [Array.getElem?_setIfInBounds_ne e]
  rw [this]

/-- What a look gives. -/
theorem MapV.look {t e : TypeId} (E : KeyEnc P K ok val kl) (ht : P.underlying t = some (.map K e)) {z : Value} (hz : ∀ u : World, (zeroValue e).run P u = .ok z u) (h : MapV w P K ok kl b n m) {k0 : κ} (hk : ok k0) :
    (Instr.lookup t (.map (some b)) (val k0) false).run P w = .ok ((m k0).getD z) w := by
  obtain ⟨D, h1, hm, h3, h4⟩ := h
  obtain ⟨v, ps, hrun, hv⟩ := h1.lookup E.keyed ht (hz w) (zd := .held z) (zp := []) rfl (E.of k0 hk)
  have hv' : v = (m k0).getD z := by
    have e1 : (DataW.held v : DataW Value) = D.atKey (kl k0) (.held z) := congrArg Prod.fst (Option.some.inj hv)
    rcases hmk : m k0 with _ | u
    · have hh : has D (kl k0) = false := by rw [h3 k0 hk, hmk]; rfl
      rw [atKey_of_not_has hh] at e1
      injection e1
    · rw [h4 k0 u hk hmk] at e1
      injection e1
  rw [← hv']; exact hrun
theorem ex_lookup {ρ : Operand → Value} {o : Oper} {w w' : World} (t : TypeId) (x ix : Operand) (c : Bool) (ho : o.op = .lookup t x ix c) {vm vk v : Value} (hx : ρ x = vm) (hk : ρ ix = vk) (h : (Instr.lookup t vm vk c).run P w = .ok v w') : (execOp ρ o).run P w = .ok (.value v) w' := by
  unfold execOp
  simp only [ho, hx, hk, Sem.run_bind, h, Result.andThen_ok, Sem.run_pure]
theorem ex_mapEntry {ρ : Operand → Value} {o : Oper} {w w' : World} (t : TypeId) (x ix : Operand) (ho : o.op = .mapEntry t x ix) {vm vk v : Value} (hx : ρ x = vm) (hk : ρ ix = vk) (h : (Instr.mapEntry t vm vk).run P w = .ok v w') : (execOp ρ o).run P w = .ok (.value v) w' := by
  unfold execOp
  simp only [ho, hx, hk, Sem.run_bind, h, Result.andThen_ok, Sem.run_pure]
theorem ex_entryStore {ρ : Operand → Value} {o : Oper} {w w' : World} (t : TypeId) (x s y : Operand) (ho : o.op = .entryStore t x s y) {vm vs v : Value} (hx : ρ x = vm) (hs : ρ s = vs) (hy : ρ y = v) (h : (Instr.entryStore t vm vs v).run P w = .ok () w') : (execOp ρ o).run P w = .ok .skip w' := by
  unfold execOp
  simp only [ho, hx, hs, hy, Sem.run_bind, h, Result.andThen_ok, Sem.run_pure]

open Go.ChangeMaps in
/-- The entry of 'm[k] op= x', and the store behind it. -/
theorem MapV.entry {t e : TypeId} [DecidableEq κ] (E : KeyEnc P K ok val kl) (L : WideMaps.KeyLaw P K) (ht : P.underlying t = some (.map K e)) {z : Value} (hz : ∀ u : World, (zeroValue e).run P u = .ok z u) (h : MapV w P K ok kl b n m) (hn : n < maxLen) {k0 : κ} (hk : ok k0) :
    ∃ (st : Nat) (w1 : World), (Instr.mapEntry t (.map (some b)) (val k0)).run P w = .ok (.tuple #[(m k0).getD z, goInt st]) w1 ∧ w.grownBy w1 (some b) ∧ MapV w1 P K ok kl b (n + 1) (fun k => if k = k0 then some ((m k0).getD z) else m k) ∧
      ∀ v0, ∃ w2, (Instr.entryStore t (.map (some b)) (goInt st) v0).run P w1 = .ok () w2 ∧ MapV w2 P K ok kl b (n + 1) (fun k => if k = k0 then some v0 else m k) ∧ w.grownBy w2 (some b) := by
  have hv := h
  obtain ⟨D, ⟨es, clock, hb, F, hs, hD⟩, hm, h3, h4⟩ := hv
  have hkey := E.of k0 hk
  have hlt := (Array.getElem?_eq_some_iff.1 hb).1
  -- what a look gives
  have hlook : (Instr.lookup t (.map (some b)) (val k0) false).run P w = .ok ((m k0).getD z) w := by
    obtain ⟨v, ps, hrun, hv⟩ := World.ownsMap.lookup ⟨es, clock, hb, F, hs, hD⟩ E.keyed ht (hz w) (zd := .held z) (zp := []) rfl hkey
    have hv' : v = (m k0).getD z := by
      have e1 : (DataW.held v : DataW Value) = D.atKey (kl k0) (.held z) := congrArg Prod.fst (Option.some.inj hv)
      rcases hmk : m k0 with _ | u
      · have hh : has D (kl k0) = false := by rw [h3 k0 hk, hmk]; rfl
        rw [atKey_of_not_has hh] at e1
        injection e1
      · rw [h4 k0 u hk hmk] at e1
        injection e1
    rw [← hv']; exact hrun
  have store : ∀ (st : Nat) (w1 : World), (Instr.mapEntry t (.map (some b)) (val k0)).run P w = .ok (.tuple #[(m k0).getD z, goInt st]) w1 →
      ∀ v0, ∃ w2, (Instr.entryStore t (.map (some b)) (goInt st) v0).run P w1 = .ok () w2 ∧ MapV w2 P K ok kl b (n + 1) (fun k => if k = k0 then some v0 else m k) ∧ w.grownBy w2 (some b) := by
    intro st w1 hr v0
    obtain ⟨u, st', es1, clock1, hrun, _, hst⟩ := WideElems.entry_then_store L ht hz hb F hkey
    rw [hrun] at hr
    injection hr with hr1 hr2
    injection hr1 with hr1
    have hst' : st' = st := by
      have := congrArg (fun a : Array Value => a[1]?) hr1
      simp [goInt] at this
      omega
    subst hr2; subst hst'
    have hb1 : (setBlock w b (.map es1 clock1)).heap[b]? = some (.map es1 clock1) := by simp [setBlock, hlt]
    obtain ⟨es', clock', g1, g2⟩ := hst _ v0 hb1
    obtain ⟨w', hu, hM, hg⟩ := MapV.update E ht h hn hk v0
    rw [g2] at hu
    injection hu with _ hu
    have e2 : setBlock (setBlock w b (.map es1 clock1)) b (.map es' clock') = setBlock w b (.map es' clock') := by simp [setBlock]
    exact ⟨w', by rw [g1, e2, hu], hM, hg⟩
  rcases L.find w hkey es.toList F.keys with ⟨f1, f2⟩ | ⟨j, e0, f1, f2, f3⟩
  · have hz0 : (m k0).getD z = z := by
      have := hlook
      have hck := L.check w es.isEmpty hkey
      simp [Instr.lookup, run_underlying ht, MapKept.run_getObj_map hb, hck, f1, hz] at this
      exact this.symm
    have hr : (Instr.mapEntry t (.map (some b)) (val k0)).run P w = .ok (.tuple #[(m k0).getD z, goInt clock]) (setBlock w b (.map (es.push ⟨val k0, z, clock⟩) (clock + 1))) := by
      rw [hz0]
      simp [Instr.mapEntry, run_underlying ht, MapKept.run_getObj_map hb, L.check w false hkey, f1, hz, MapKept.run_setObj_map _ hb, Result.andThen, setBlock]
    obtain ⟨w', hu, hM, hg⟩ := MapV.update E ht h hn hk z
    have hu2 : (Instr.mapUpdate t (.map (some b)) (val k0) z).run P w = .ok () (setBlock w b (.map (es.push ⟨val k0, z, clock⟩) (clock + 1))) := by
      simp [Instr.mapUpdate, run_underlying ht, MapKept.run_getObj_map hb, L.check w false hkey, f1, MapKept.run_setObj_map _ hb, Result.andThen, setBlock]
    rw [hu2] at hu
    injection hu with _ hu
    exact ⟨clock, _, hr, by rw [hu]; exact hg, by rw [hu, hz0]; exact hM, store _ _ hr⟩
  · have hj : es[j]? = some e0 := by simpa using f2
    have hv0 : (m k0).getD z = e0.val := by
      have := hlook
      have hck := L.check w es.isEmpty hkey
      simp [Instr.lookup, run_underlying ht, MapKept.run_getObj_map hb, hck, f1] at this
      exact this.symm
    have hsame : es.modify j (fun e => { e with key := val k0 }) = es := by
      have hk0 : ({ e0 with key := val k0 } : MapEntry) = e0 := by rw [← f3]
      apply Array.ext_getElem?
      intro i
      rw [Array.getElem?_modify]
      by_cases q : j = i
      · subst q; rw [if_pos rfl, hj, Option.map_some, hk0]
      · rw [if_neg q]
    have hr : (Instr.mapEntry t (.map (some b)) (val k0)).run P w = .ok (.tuple #[(m k0).getD z, goInt e0.born]) w := by
      have hstay := L.stays w hkey
      rw [hv0]
      simp [Instr.mapEntry, run_underlying ht, MapKept.run_getObj_map hb, L.check w false hkey, f1, hj, f3, hstay, hsame, MapKept.run_setObj_map _ hb, Result.andThen]
      exact setBlock_same hb
    refine ⟨e0.born, w, hr, ⟨rfl, rfl, rfl, Nat.le_refl _, fun _ _ _ => rfl⟩, ?_, store _ _ hr⟩
    have hhas : m k0 = some e0.val := by
      obtain ⟨v, ps, hrun, _⟩ := World.ownsMap.look_ok ⟨es, clock, hb, F, hs, hD⟩ E.keyed ht (hz w) (zd := .held z) (zp := []) rfl hkey
      have hck := L.check w es.isEmpty hkey
      simp [Instr.lookup, run_underlying ht, MapKept.run_getObj_map hb, hck, f1] at hrun
      have hd : has D (kl k0) = true := hrun.2
      rw [h3 k0 hk] at hd
      rcases hmk : m k0 with _ | u
      · rw [hmk] at hd; cases hd
      · rw [hmk] at hv0
        exact congrArg some hv0
    have hm2 : (fun k => if k = k0 then some ((m k0).getD z) else m k) = m := by
      funext k
      by_cases q : k = k0
      · subst q; rw [if_pos rfl, hhas]; rfl
      · rw [if_neg q]
    rw [hm2]
    exact ⟨D, World.ownsMap.mono ⟨es, clock, hb, F, hs, hD⟩ (Nat.le_succ n), hm, h3, h4⟩
end
end Go.Proofs.YtfjmbcljohobeaaDoor
