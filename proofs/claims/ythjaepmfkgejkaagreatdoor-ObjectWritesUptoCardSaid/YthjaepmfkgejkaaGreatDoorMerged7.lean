/-
  What every card's proof of this seat shares: the world's shape gives the library's variable MaxLen a number. No conditions.
  A slice of texts, a slice of files that came in: its cells as a list of paths and bytes, each within the form's reach. No conditions.
  Lists of data as a slice's cells, each element some cells wide; such a slice read from what came in. Over any program; conditions as each says.
  Worlds that only drew and grew. No conditions; no program.
  Words for memory, second part: append beside an iterator over a string. No conditions; no program.
  ur an appended row lies: where it lay, or in a new block. Over any program; conditions as each says.
  Worlds alike but for some blocks. Over any program; conditions as each says.
  Objects as they lie in memory: an operation's cells, an object's; '==' on refs and operations. Conditions: the values are well formed, as each says.
-/
import Derived.Test.YthjaepmfkgejkaaGreatDoorCards
import Derived.Test.YthjaepmfkgejkaaGreatDoorTie
import Derived.WalkKit
import Derived.ProofKit
import Derived.OpenShut
import Derived.ShutString
import Derived.SliceStrings
import Derived.Carry
import Derived.Deep.DeepHandedRow
import Derived.Lay
import Derived.MakeChecks
import Derived.Shelf.Vars
import Derived.SevenTiedAt
import Derived.Test.YthjaepmfkgejkaaGreatDoorMerged6
import Derived.Deep.SlicePairs
import Derived.Test.YthjaepmfkgejkaaGreatDoorMerged2
import Derived.Sort.Grow
import Derived.Deep.Draws
import Derived.Below
import Derived.Test.YthjaepmfkgejkaaGreatDoorMerged1
import Derived.Lib.OthersKept
import Derived.BigFrame
import Derived.Test.YthjaepmfkgejkaaGreatDoorMerged5
set_option linter.unusedVariables false
set_option maxRecDepth 100000
namespace Go.Proofs.YthjaepmfkgejkaaGreatDoor
open Go.RowKit
theorem own : ownKnob Tryz.prog.godebug = none := by kernel_rfl
theorem laidOut : laidOutB Tryz.prog = true := by kernel_rfl
theorem glob0 {W : World} (h : W.ShapedOpen Tryz.prog) : ∃ m : Int, W.cell? ⟨2, 0, none⟩ = some (.int .i64 m) :=
  cell_of_shapedOpen_int (zero := #[.int .i64 0]) (t := 3) h (of_decide_eq_true (by kernel_rfl)) (by kernel_rfl) rfl (by kernel_rfl) (by kernel_rfl) Tryz.underlying3
theorem Qu {H : Type} {enc : TypeId × Value → H} {C : Checked} {os : Os} {f : FuncId} {fn : Func} {s : OpenSpec} {conds : List PathCond} {apart : Bool} {laid : List (String × DataW Unit)} (w0 : World) (args : Array Value) (hos : w0.os = os)
    (hsh : (w0.forCall (fun _ _ => 0) ⟨#[], args, []⟩).Shaped C.prog)
    (hok : Input.okWideB C.prog (w0.forCall (fun _ _ => 0) ⟨#[], args, []⟩) f ⟨#[], args, []⟩ = true)
    (hrow : s.preRow enc C.prog fn conds apart laid (w0.forCall (fun _ _ => 0) ⟨#[], args, []⟩).memory args) :
    ∃ (w : World) (tape : Tape) (i : Input), w.os = os ∧ (w.forCall tape i).Shaped C.prog ∧ i.vars = [] ∧ Input.okWide C.prog (w.forCall tape i) .any w.heap.size f i ∧
      s.preRow enc C.prog fn conds apart laid (w.forCall tape i).memory i.args ∧ ({} : Assume).holds C.prog (lone (Frame.enter C.prog f i.args .normal) [] (w.forCall tape i)) :=
  ⟨w0, fun _ _ => 0, ⟨#[], args, []⟩, hos, hsh, (Input.okWide_of_okWideB (base := 0) hok).1, (Input.okWide_of_okWideB hok).2, hrow, by
    simp only [Assume.holds]
    exact ⟨by simp, by simp, fun _ => Modest.zero, by simp, by simp⟩⟩
end Go.Proofs.YthjaepmfkgejkaaGreatDoor
namespace Go.Proofs.YthjaepmfkgejkaaGreatDoor
open Go.ChangeShapes Go.WideShapes Go.ChangeAt Go.RowKit
theorem addr_add (b off k : Nat) : (⟨b, off, none⟩ : Addr).add k = ⟨b, off + k, none⟩ := by unfold Addr.add; split <;> simp_all
end Go.Proofs.YthjaepmfkgejkaaGreatDoor
namespace Go.Proofs.YthjaepmfkgejkaaGreatDoor
open Go.RowKit Go.ChangeShapes Go.WideShapes Go.ChangeAt
section
variable {α : Type} {enc : α → List Value} {sz : Nat}
def jb (enc : α → List Value) (l : List α) : List Value := l.flatMap enc
theorem Zz : ∀ {l : List α}, (∀ x ∈ l, (enc x).length = sz) → (jb enc l).length = l.length * sz
  | [], _ => by simp [jb]
  | a :: l, h => by
    have h1 := h a (by simp)
    have h2 := Zz (l := l) fun x hx => h x (by simp [hx])
    simp only [jb, List.flatMap_cons, List.length_append, List.length_cons] at h2 ⊢
    rw [h1, h2, Nat.add_mul]; omega
theorem Zk (a b : List α) : jb enc (a ++ b) = jb enc a ++ jb enc b := by simp [jb]
theorem rowsV_one (h1 : ∀ x, ∀ u ∈ enc x, u.oneCell' = true) (l : List α) : ∀ u ∈ jb enc l, u.oneCell' = true := by
  intro u hu
  obtain ⟨a, _, ha⟩ := List.mem_flatMap.1 hu
  exact h1 a u ha
theorem JG : ∀ {l : List α}, (∀ x ∈ l, (enc x).length = sz) → ∀ (i : Nat) (h : i < l.length) (j : Nat) (u : Value), (enc l[i])[j]? = some u → (jb enc l)[i * sz + j]? = some u
  | [], _, _, h, _, _, _ => by cases h
  | a :: l, ho, 0, _, j, u, hj => by
    have h1 : (enc a).length = sz := ho a (by simp)
    have hlt := (List.getElem?_eq_some_iff.1 hj).1
    simp only [jb, List.flatMap_cons, Nat.zero_mul, Nat.zero_add]
    rw [List.getElem?_append_left (by simpa using hlt)]
    exact hj
  | a :: l, ho, i + 1, h, j, u, hj => by
    have h1 : (enc a).length = sz := ho a (by simp)
    have := JG (l := l) (fun x hx => ho x (by simp [hx])) i (by simpa using h) j u (by simpa using hj)
    simp only [jb, List.flatMap_cons] at this ⊢
    rw [List.getElem?_append_right (by rw [h1, Nat.add_mul]; omega), h1, show (i + 1) * sz + j - sz = i * sz + j by rw [Nat.add_mul]; omega]
    exact this
theorem Sl.row {w : World} {b off : Nat} {l : List α} (ho : ∀ x ∈ l, (enc x).length = sz) (h : ∀ j u, (jb enc l)[j]? = some u → w.cell? ⟨b, off + j, none⟩ = some u) {i : Nat} (hi : i < l.length) : ∀ j u, (enc l[i])[j]? = some u → w.cell? ⟨b, off + i * sz + j, none⟩ = some u := by
  intro j u hj
  rw [Nat.add_assoc]
  exact h _ _ (JG ho i hi j u hj)
end
theorem qQ {H : Type} {encH : TypeId × Value → H} {P : Program} {W : World} {t e : TypeId} {α : Type} [Inhabited α] {enc : α → List Value} {ok : α → Prop} {sz : Nat} (ht : P.underlying t = some (.slice e)) (hce : P.cellsOf e = sz) (hsz : 0 < sz) (hlen : ∀ x, ok x → (enc x).length = sz)
    (dec : ∀ n cs x, DataW.trod encH P W 0 (fun _ => true) true n e cs = some x → ∃ c : α, ok c ∧ cs = enc c)
    {a : Option Addr} {len cap : Nat} {d : DataW H} {ps : List MemPlace} (h : DataW.Trod encH P W 0 (fun _ => true) true t (.slice a len cap) d ps) :
    ∃ l : List α, l.length = len ∧ len ≤ maxLen ∧ len ≤ cap ∧ (∀ c ∈ l, ok c) ∧ Sl W W.heap.size a l.length sz (jb enc l) := by
  obtain ⟨fuel, hf⟩ := h
  rcases Go.Deep.open_slice ht hf with ⟨hcs, _⟩ | ⟨x, ln, c, m, n, D, Pl, hcs, _, hl, hm, hmm, hdx, hx⟩
  · simp [Value.cells] at hcs
    obtain ⟨rfl, rfl, rfl⟩ := hcs
    exact ⟨[], rfl, by unfold maxLen; omega, by omega, fun t ht => absurd ht (by simp), Sl.nil⟩
  ·
   simp [Value.cells] at hcs
   obtain ⟨rfl, rfl, rfl⟩ := hcs
   have hmc : m = cap := by simpa using hmm
   subst hmc
   have each : ∀ i, i < len → ∃ q : α, ok q ∧ W.cells? 0 (x.add (i * sz)) sz = some (enc q) := by
     intro i hi
     obtain ⟨cs', h1, h2⟩ := hx i (by omega)
     obtain ⟨q, hq, rfl⟩ := dec _ _ _ h2
     rw [hce] at h1
     exact ⟨q, hq, h1⟩
   obtain ⟨F, hF⟩ := Go.Deep.choose_lt each
   have hok : ∀ c ∈ (List.range len).map F, ok c := by
     intro c hc
     obtain ⟨i, hi, rfl⟩ := List.mem_map.1 hc
     exact (hF i (by simpa using hi)).1
   have hlens : ∀ c ∈ (List.range len).map F, (enc c).length = sz := fun c hc => hlen c (hok c hc)
   refine ⟨(List.range len).map F, by simp, by omega, hl, hok, Zz hlens, fun h0 => ?_⟩
   have hln : ((List.range len).map F).length = len := by simp
   rw [hln] at h0
   obtain ⟨b, off, spot⟩ := x
   have hcell : ∀ i, i < len → ∀ k, k < sz → W.cell? ((⟨b, off, spot⟩ : Addr).add (i * sz + k)) = (enc (F i))[k]? := by
     intro i hi k hk
     obtain ⟨_, hlen', hc⟩ := World.cells?_some (hF i hi).2
     have := hc k hk
     rw [Go.Deep.add_add] at this
     exact this
   have hc0 := hcell 0 h0 0 hsz
   have hv0 : ∃ v, (enc (F 0))[0]? = some v := ⟨_, List.getElem?_eq_getElem (by rw [hlen _ (hF 0 h0).1]; exact hsz)⟩
   obtain ⟨v0, hv0⟩ := hv0
   rw [hv0] at hc0
   obtain rfl : spot = none := by simpa [Addr.add] using World.cell?_spot hc0
   have hblk : b < W.heap.size := by
     have hc1 : W.cell? ⟨b, off, none⟩ = some v0 := by simpa [Addr.add] using hc0
     rcases Nat.lt_or_ge b W.heap.size with q | q
     · exact q
     · unfold World.cell? at hc1
       rw [Array.getElem?_eq_none q] at hc1
       cases hc1
   refine ⟨b, off, rfl, hblk, fun j u hu => ?_⟩
   have hj := (List.getElem?_eq_some_iff.1 hu).1
   rw [Zz hlens, hln] at hj
   have hi : j / sz < len := (Nat.div_lt_iff_lt_mul hsz).2 hj
   have hk : j % sz < sz := Nat.mod_lt _ hsz
   have hjs : j / sz * sz + j % sz = j := by rw [Nat.mul_comm]; exact Nat.div_add_mod j sz
   have hc := hcell (j / sz) hi (j % sz) hk
   rw [hjs, addr_add] at hc
   obtain ⟨v, hv⟩ : ∃ v, (enc (F (j / sz)))[j % sz]? = some v := ⟨_, List.getElem?_eq_getElem (by rw [hlen _ (hF _ hi).1]; exact hk)⟩
   have hg := JG hlens (j / sz) (by rw [hln]; exact hi) (j % sz) v (by simpa using hv)
   rw [hjs, hu] at hg
   rw [hc, hv, Option.some.inj hg]
end Go.Proofs.YthjaepmfkgejkaaGreatDoor
namespace Go.Proofs.YthjaepmfkgejkaaGreatDoor
open Go.RowKit Go.Sort
def Gr (w w' : World) : Prop := ∃ q os, w' = grow (w.drewN q) os
theorem Gr.refl (w : World) : Gr w w := ⟨0, #[], by rw [grow_empty]; rfl⟩
theorem Gr.trans {a b c : World} (h : Gr a b) (k : Gr b c) : Gr a c := by
  obtain ⟨q, os, rfl⟩ := h
  obtain ⟨q', os', rfl⟩ := k
  refine ⟨q + q', os ++ os', ?_⟩
  rw [show (grow (a.drewN q) os).drewN q' = grow ((a.drewN q).drewN q') os from rfl, grow_grow, World.drewN_drewN]
theorem Gr.alloc {a b : World} (h : Gr a b) (o : Obj) : Gr a (b.alloc o) := h.trans ⟨0, #[o], by rw [alloc_eq_grow]; rfl⟩
theorem Gr.drewN {a b : World} (h : Gr a b) (q : Nat) : Gr a (b.drewN q) := h.trans ⟨q, #[], by rw [grow_empty]⟩
theorem Gr.drew {a b : World} (h : Gr a b) : Gr a b.drew := h.drewN 1
theorem Gr.below {a b : World} (h : Gr a b) : Below a.heap.size a b := by
  obtain ⟨q, os, rfl⟩ := h
  refine ⟨rfl, rfl, rfl, by simp [grow, World.drewN], fun k hk => ?_⟩
  show (a.heap ++ os)[k]? = _
  rw [Array.getElem?_append_left hk]
end Go.Proofs.YthjaepmfkgejkaaGreatDoor
namespace Go.Proofs.YthjaepmfkgejkaaGreatDoor
open Go.RowKit
theorem own_iter_ne {w : World} {base : Nat} {e : TypeId} {sz : Nat} {v : Value} {n : Nat} {xs : List Value} (h : w.ownsRow base e sz v n xs) {k : Nat} {s : ByteArray} {p : Nat} (hk : w.heap[k]? = some (.stringIter s p)) : v.ownBlock ≠ some k := by
  intro hv
  rcases h.2 with ⟨hn, _⟩ | ⟨g, cap, cur, hvv, _, hg, _⟩
  · rw [hn] at hv; simp [Value.ownBlock] at hv
  ·
   rw [hvv] at hv
   have : g = k := by simpa [Value.ownBlock] using hv
   subst this
   rw [hg] at hk; cases hk
theorem own_iterAt {w : World} {base : Nat} {e : TypeId} {sz : Nat} {v : Value} {n : Nat} {xs : List Value} (h : w.ownsRow base e sz v n xs) {k : Nat} {s : ByteArray} {p : Nat} (hk : w.heap[k]? = some (.stringIter s p)) (p' : Nat) : (w.iterAt k s p').ownsRow base e sz v n xs := by
  have hne := own_iter_ne h hk
  refine h.kept (row := some k) ⟨rfl, rfl, rfl, by rw [Lib.iterAt_size]; exact Nat.le_refl _, fun j hj hjk => Lib.iterAt_other w k j s p' (fun e => hjk (by rw [e]))⟩ (.inr hne)
end Go.Proofs.YthjaepmfkgejkaaGreatDoor
namespace Go.Proofs.YthjaepmfkgejkaaGreatDoor
open Go.RowKit
def ur (z : Nat) (v v' : Value) : Prop := v'.ownBlock = v.ownBlock ∨ ∃ g, v'.ownBlock = some g ∧ z ≤ g
section
variable {P : Program} {w w' : World}
theorem Zl (base : Nat) (t ty e : TypeId) (i : TypeInfo) (z : Value) (size bytes : Nat) (ht : P.underlying t = some (.slice e)) (hi : P.info? e = some i) (hz : i.zero = some z)
    (hsize : i.size = size) (hby : i.bytes = bytes) (hzs : z.cells.size = size) (hsz : 0 < size)
    (v : Value) (n : Nat) (xs : List Value) (hown : w.ownsRow base e size v n xs)
    (a : Addr) (m c : Nat) (news : List Value) (hl : news.length = m * size) (hnews : ∀ j u, news[j]? = some u → w.cell? (a.add j) = some u) (h1 : ∀ u ∈ news, u.oneCell' = true)
    (h63 : n + m ≤ maxLen) (hbytes : (n + m) * bytes ≤ 140737488355328) {v' : Value} (hr : (Builtin.append_ #[t, t] ty #[v, .slice (some a) m c]).run P w = .ok v' w') : ur w.heap.size v v' := by
  subst hsize
  subst hby
  have hsmall : n + m ≤ 9223372036854775807 := by simp only [maxLen] at h63; omega
  rcases hown.2 with ⟨rfl, rfl⟩ | ⟨g, cap, cur, rfl, hbg, hg, hnc, hcm, hcs, htake⟩
  ·
   by_cases hm : m = 0
   ·
    subst hm
    have hn : news = [] := List.eq_nil_of_length_eq_zero (by simpa using hl)
    subst hn
    have h2 : (Builtin.append_ #[t, t] ty #[.slice none 0 0, .slice (some a) 0 c]).run P w = .ok (.slice none 0 0) w := by
      simp [Builtin.append_, run_underlying ht, sizeOf, typeInfo, hi, Builtin.lenOf, Builtin.firstCells, loadCells, loadCellsFrom]
    rw [h2] at hr
    injection hr with hr _
    rw [← hr]
    exact .inl rfl
   ·
    have h2 := run_append_nil (P := P) w t ty e i z ht hi hz a m c news hl hnews (by omega) (by omega) (by have hb := hbytes; simp only [Nat.zero_add] at hb; omega)
    rw [h2] at hr
    injection hr with hr _
    rw [← hr]
    exact .inr ⟨_, rfl, Nat.le_refl _⟩
  ·
   by_cases hroom : n + m ≤ cap
   ·
    have hfit : n * i.size + news.length ≤ cur.size := by rw [hl, hcs, ← Nat.add_mul]; exact Nat.mul_le_mul_right _ hroom
    have h2 := run_append_room (P := P) w t ty e i ht hi g n cap cur hg a m c news hl hnews h1 hroom hfit
    rw [h2] at hr
    injection hr with hr _
    rw [← hr]
    exact .inl rfl
   ·
    have holds : ∀ j u, xs[j]? = some u → w.cell? ((⟨g, 0, none⟩ : Addr).add j) = some u := hown.cells (g := g) rfl
    have h2 := run_append_grow (P := P) w t ty e i z ht hi hz ⟨g, 0, none⟩ n cap xs hown.1 holds a m c news hl hnews (by omega) (by omega) (growslice_fits (by omega) hbytes)
    rw [h2] at hr
    injection hr with hr _
    rw [← hr]
    exact .inr ⟨_, rfl, Nat.le_refl _⟩
end
end Go.Proofs.YthjaepmfkgejkaaGreatDoor
namespace Go.Proofs.YthjaepmfkgejkaaGreatDoor
open Go.RowKit
structure But (X : Nat → Prop) (w w' : World) : Prop where
  os : w'.os = w.os
  tape : w'.tape = w.tape
  output : w'.output = w.output
  size : w.heap.size ≤ w'.heap.size
  block : ∀ k, k < w.heap.size → ¬ X k → w'.heap[k]? = w.heap[k]?
def NoB (_ : Nat) : Prop := False
section
variable {X Y : Nat → Prop} {a b c w w' : World}
theorem But.refl (X : Nat → Prop) (w : World) : But X w w := ⟨rfl, rfl, rfl, qR _, fun _ _ _ => rfl⟩
theorem But.trans (h : But X a b) (k : But Y b c) (hxy : ∀ i, i < a.heap.size → Y i → X i) : But X a c :=
  ⟨k.os.trans h.os, k.tape.trans h.tape, k.output.trans h.output, qT h.size k.size, fun i hi hx => (k.block i (qL hi h.size) (fun hy => hx (hxy i hi hy))).trans (h.block i hi hx)⟩
theorem But.weak (h : But X a b) (hxy : ∀ i, i < a.heap.size → X i → Y i) : But Y a b := ⟨h.os, h.tape, h.output, h.size, fun i hi hy => h.block i hi fun hx => hy (hxy i hi hx)⟩
theorem But.of_below (h : Below a.heap.size a b) : But X a b := ⟨h.os, h.tape, h.output, h.size, fun k hk _ => h.block k hk⟩
theorem But.below {B : Nat} (h : But X a b) (hB : B ≤ a.heap.size) (hx : ∀ k, k < B → ¬ X k) : Below B a b := ⟨h.os, h.tape, h.output, h.size, fun k hk => h.block k (by omega) (hx k hk)⟩
theorem But.andBelow (h : But X a b) (k : Below b.heap.size b c) : But X a c := h.trans (Y := NoB) ⟨k.os, k.tape, k.output, k.size, fun i hi _ => k.block i hi⟩ fun _ _ q => q.elim
theorem But.drew (h : But X a b) : But X a b.drew := ⟨h.os, h.tape, h.output, h.size, h.block⟩
theorem But.alloc (h : But X a b) (o : Obj) : But X a (b.alloc o) := h.andBelow ((qB _ _).alloc (qR _) o)
theorem But.setCell (h : But X a b) {p : Addr} (hp : p.block < a.heap.size → X p.block) (u : Value) : But X a (b.setCell p u) :=
  ⟨h.os, h.tape, h.output, by simpa [World.setCell] using h.size, fun k hk hx => (Below.heap_setCell _ _ _ _ (by rintro rfl; exact hx (hp hk))).trans (h.block k hk hx)⟩
theorem But.grown {row : Option Nat} (h : But X a b) (hg : b.grownBy c row) (hr : ∀ k, row = some k → k < a.heap.size → X k) : But X a c :=
  h.trans (Y := fun k => row = some k) ⟨hg.os, hg.tape, hg.output, hg.size, fun k hk hx => hg.block k hk (fun e => hx e.symm)⟩ fun k hk hx => hr k hx hk
theorem But.cell (h : But X a b) {g j : Nat} (hg : g < a.heap.size) (hx : ¬ X g) : b.cell? ⟨g, j, none⟩ = a.cell? ⟨g, j, none⟩ := by
  unfold World.cell?
  rw [h.block g hg hx]
theorem But.own {base n size : Nat} {e : TypeId} {v : Value} {xs : List Value} (h : But X a b) (ho : a.ownsRow base e size v n xs) (hx : ∀ g, v.ownBlock = some g → ¬ X g) : b.ownsRow base e size v n xs := by
  refine ⟨ho.1, ?_⟩
  rcases ho.2 with h0 | ⟨g, cap, cur, rfl, hg, hh, r⟩
  · exact .inl h0
  · exact .inr ⟨g, cap, cur, rfl, hg, (h.block g (qX hh) (hx g rfl)).trans hh, r⟩
theorem But.sl {B n sz : Nat} {A : Option Addr} {xs : List Value} (h : But X a b) (ho : Sl a B A n sz xs) (hB : B ≤ a.heap.size) (hx : ∀ k, k < B → ¬ X k) : Sl b B A n sz xs := ho.keep (h.below hB hx)
theorem But.map {P : Program} {K : TypeId} {κ : Type} {ok : κ → Prop} {kl : κ → Lit} {g n : Nat} {m : κ → Option Value} (h : But X a b) (hm : MapV a P K ok kl g n m) (hx : ¬ X g) : MapV b P K ok kl g n m := by
  have hlt := hm.lt
  obtain ⟨D, h1, h2⟩ := hm
  obtain ⟨es, clock, hbk, F, hs, hD⟩ := h1
  exact ⟨D, ⟨es, clock, (h.block g hlt hx).trans hbk, F, hs, hD⟩, h2⟩
end
theorem k5 {w : World} {g : Nat} {cs : List Value} {t : TypeId} {fr : Nat × Nat} (h : w.heap[g]? = some (.cells cs.toArray t fr)) (j : Nat) : w.cell? ⟨g, j, none⟩ = cs[j]? := by
  rw [cell_of_row w g j _ t fr h]
  simp
theorem Jd {P : Program} {ops : Array Oper} {rest : List Oper} {o : Oper} {a : Act} {Q : Exit → Act → World → Prop} {w : World} (hw : Region.wanted o (yielded ops a.tmps) = true) (s x : Operand) (t : TypeId)
    (ho : o.op = .call { callee := .builtin .append, args := #[s, x], argTypes := #[t, t] })
    (base : Nat) (e : TypeId) (z : Value) (size bytes : Nat) (ht : P.underlying t = some (.slice e)) (hinf : (P.info? e).map (fun i => (i.zero, i.size, i.bytes)) = some (some z, size, bytes))
    (hz1 : z.cells.size = size) (hsz : 0 < size) (v : Value) (n : Nat) (xs : List Value) (hs : a.eval s = v) (hown : w.ownsRow base e size v n xs)
    (A : Addr) (m c : Nat) (news : List Value) (hx : a.eval x = .slice (some A) m c) (hl : news.length = m * size) (hnews : ∀ j u, news[j]? = some u → w.cell? (A.add j) = some u) (h1 : ∀ u ∈ news, u.oneCell' = true)
    (hn : n + m ≤ maxLen) (hb : (n + m) * bytes ≤ 140737488355328) (hbase : base ≤ w.heap.size)
    (h : ∀ v' w', w'.ownsRow base e size v' (n + m) (xs ++ news) → w.grownBy w' v.ownBlock → ur w.heap.size v v' → wpList P ops Q rest (a.put o.dst v') w') :
    wpList P ops Q (o :: rest) a w := by
  obtain ⟨i0, hi, hz0, hz2, hz3⟩ := info_parts hinf
  obtain ⟨v', w', hr, hown', hgrow, _⟩ := run_append_own (P := P) w base t o.type e i0 z size bytes ht hi hz0 hz2 hz3 hz1 hsz v n xs hown A m c news hl hnews h1 hn hb hbase
  have hwh := Zl (P := P) (w := w) base t o.type e i0 z size bytes ht hi hz0 hz2 hz3 hz1 hsz v n xs hown A m c news hl hnews h1 hn hb hr
  refine BigFrame.wpList_want hw fun K hK => ?_
  unfold Oper.wp execOp
  simp only [ho, resolve, invoke, builtin, Sem.run_bind, Sem.run_pure, Result.andThen_ok, List.map_toArray, List.map_cons, List.map_nil, hs, hx, hr]
  exact hK _ _ (h v' w' hown' hgrow hwh)
end Go.Proofs.YthjaepmfkgejkaaGreatDoor
namespace Go.Proofs.YthjaepmfkgejkaaGreatDoor
open Go.RowKit
def opV (x : OpD) : List Value := .int .u8 (x.1.toNat : Int) :: (ke x.2.1 ++ (ke x.2.2.1 ++ [.string x.2.2.2.1, .int .i64 x.2.2.2.2.1, .string x.2.2.2.2.2]))
def Je (x : OpD) : Prop := OpOk x ∧ x.2.2.2.1.size ≤ maxLen ∧ x.2.2.2.2.2.size ≤ maxLen
theorem kq {x : OpD} (h : Je x) : (opV x).length = 70 := by
  have h1 := kf h.1.1
  have h2 := kf h.1.2.1
  simp [opV, h1, h2]
theorem Jo (x : OpD) : ∀ u ∈ opV x, u.oneCell' = true := by
  intro u hu
  unfold opV at hu
  rcases List.mem_cons.1 hu with rfl | hu
  · rfl
  ·
   rcases List.mem_append.1 hu with hu | hu
   · exact Kz _ u hu
   · rcases List.mem_append.1 hu with hu | hu
     · exact Kz _ u hu
     · simp at hu; rcases hu with rfl | rfl | rfl <;> rfl
theorem kn {x : OpD} (h : Je x) : (opV x)[0]? = some (.int .u8 (x.1.toNat : Int)) ∧ (∀ (j : Nat) (u : Value), (ke x.2.1)[j]? = some u → (opV x)[1 + j]? = some u) ∧ (∀ (j : Nat) (u : Value), (ke x.2.2.1)[j]? = some u → (opV x)[34 + j]? = some u) ∧
    (opV x)[67]? = some (.string x.2.2.2.1) ∧ (opV x)[68]? = some (.int .i64 x.2.2.2.2.1) ∧ (opV x)[69]? = some (.string x.2.2.2.2.2) := by
  have h1 := kf h.1.1
  have h2 := kf h.1.2.1
  have e : opV x = [.int .u8 (x.1.toNat : Int)] ++ ke x.2.1 ++ ke x.2.2.1 ++ [.string x.2.2.2.1, .int .i64 x.2.2.2.2.1, .string x.2.2.2.2.2] := by simp [opV]
  have l1 : ([.int .u8 (x.1.toNat : Int)] ++ ke x.2.1 : List Value).length = 34 := by simp [h1]
  have l2 : ([.int .u8 (x.1.toNat : Int)] ++ ke x.2.1 ++ ke x.2.2.1 : List Value).length = 67 := by simp [h1, h2]
  refine ⟨rfl, fun j u hj => ?_, fun j u hj => ?_, ?_, ?_, ?_⟩
  · have hlt := (List.getElem?_eq_some_iff.1 hj).1
    rw [e, List.append_assoc, List.append_assoc, List.getElem?_append_right (by simp), List.getElem?_append_left (by simp <;> omega)]
    simpa using hj
  · have hlt := (List.getElem?_eq_some_iff.1 hj).1
    rw [e, List.append_assoc, List.getElem?_append_right (by omega), l1, List.getElem?_append_left (by omega), Nat.add_sub_cancel_left]
    exact hj
  · rw [e, List.getElem?_append_right (by omega), l2]; rfl
  · rw [e, List.getElem?_append_right (by omega), l2]; rfl
  · rw [e, List.getElem?_append_right (by omega), l2]; rfl
theorem kA {r : jQ} (h : jN r) : (∀ (j : Nat) (u : Value), (idV r.1)[j]? = some u → (ke r)[j]? = some u) ∧ (ke r)[32]? = some (.int .i64 r.2) := by
  have h1 : (idV r.1).length = 32 := by rw [k8]; exact h.1
  refine ⟨fun j u hj => ?_, ?_⟩
  · unfold ke
    rw [List.getElem?_append_left (List.getElem?_eq_some_iff.1 hj).1]
    exact hj
  · unfold ke
    rw [List.getElem?_append_right (by omega), h1]; rfl
theorem Zm : Tryz.prog.cellsOf 68 = 33 := by kernel_rfl
theorem eqRef : EqT Tryz.prog 68 3 := ⟨by kernel_rfl, of_decide_eq_true (by kernel_rfl), of_decide_eq_true (by kernel_rfl), by kernel_rfl, by kernel_rfl, of_decide_eq_true (by kernel_rfl), by kernel_rfl⟩
theorem kbRef {r : jQ} (hr : jN r) : Kb Tryz.prog 3 68 (ke r) := by
  have hln := kf hr
  have hid : (idV r.1).length = 32 := by rw [k8]; exact hr.1
  refine kb_struct Tryz.underlying68 (by rw [hln, Zm]) (by kernel_rfl) fun f hf => ?_
  simp only [List.mem_cons, List.not_mem_nil, or_false] at hf
  rcases hf with rfl | rfl
  · simp only [Zx, List.drop_zero]
    rw [show (ke r).take 32 = idV r.1 by unfold ke; rw [← hid, List.take_left]]
    exact kbId hr.1
  · simp only [ZQ]
    rw [show ((ke r).drop 32).take 1 = [.int .i64 r.2] from cut_end hid rfl]
    exact fun d hd => kb_int Tryz.underlying3 hr.2 d (by omega)
theorem kR {a b : jQ} (ha : jN a) (hb : jN b) (w : World) : (Op.equalIn 10000 68 (.agg (ke a).toArray) (.agg (ke b).toArray)).run Tryz.prog w = .ok (decide (a = b)) w :=
  eqRef.run ke (fun _ _ => refV_inj) (by rw [kf ha, Zm]) (by rw [kf hb, Zm]) (kbRef ha) (kbRef hb) w
theorem kp : jN kd := ⟨zP, by decide⟩
structure ObjIn (w : World) (B : Nat) (v : Value) (o : zR) : Prop where
  ok : ObjOk o
  ops : ∀ x ∈ o.2.1.2.2.2, Je x
  author : o.2.1.2.2.1.size ≤ maxLen
  author2 : o.2.2.2.2.1.size ≤ maxLen
  note : o.2.2.2.2.2.1.size ≤ maxLen
  cells : ∃ Ad cd Ao co Ap cp Ac cc, v = .agg #[.int .u8 (o.1.toNat : Int), .int .i64 o.2.1.1, .slice Ad o.2.1.2.1.length cd, .string o.2.1.2.2.1, .slice Ao o.2.1.2.2.2.length co, .slice Ap o.2.2.1.length cp, .slice Ac o.2.2.2.1.length cc, .string o.2.2.2.2.1, .string o.2.2.2.2.2.1, .int .i64 o.2.2.2.2.2.2] ∧
    Sl w B Ad o.2.1.2.1.length 32 (kr o.2.1.2.1) ∧ Sl w B Ao o.2.1.2.2.2.length 70 (jb opV o.2.1.2.2.2) ∧ Sl w B Ap o.2.2.1.length 32 (kr o.2.2.1) ∧ Sl w B Ac o.2.2.2.1.length 32 (kr o.2.2.2.1)
structure ChIn (w : World) (B : Nat) (v : Value) (c : zL) : Prop where
  ok : ChangeOk c
  ops : ∀ x ∈ c.2.2.2, Je x
  author : c.2.2.1.size ≤ maxLen
  cells : ∃ Ad cd Ao co, v = .agg #[.int .i64 c.1, .slice Ad c.2.1.length cd, .string c.2.2.1, .slice Ao c.2.2.2.length co] ∧ Sl w B Ad c.2.1.length 32 (kr c.2.1) ∧ Sl w B Ao c.2.2.2.length 70 (jb opV c.2.2.2)
structure CmIn (w : World) (B : Nat) (v : Value) (c : zV) : Prop where
  ok : CommitOk c
  author : c.2.2.1.size ≤ maxLen
  note : c.2.2.2.1.size ≤ maxLen
  cells : ∃ Ap cp Ac cc, v = .agg #[.slice Ap c.1.length cp, .slice Ac c.2.1.length cc, .string c.2.2.1, .string c.2.2.2.1, .int .i64 c.2.2.2.2] ∧ Sl w B Ap c.1.length 32 (kr c.1) ∧ Sl w B Ac c.2.1.length 32 (kr c.2.1)
section
variable {w w' : World} {B B' : Nat} {v : Value}
theorem ObjIn.keep {o : zR} (h : ObjIn w B v o) (hb : Below B w w') : ObjIn w' B v o := by
  obtain ⟨h1, h2, h3, h4, h5, Ad, cd, Ao, co, Ap, cp, Ac, cc, hv, s1, s2, s3, s4⟩ := h
  exact ⟨h1, h2, h3, h4, h5, Ad, cd, Ao, co, Ap, cp, Ac, cc, hv, s1.keep hb, s2.keep hb, s3.keep hb, s4.keep hb⟩
theorem ObjIn.more {o : zR} (h : ObjIn w B v o) (hB : B ≤ B') : ObjIn w B' v o := by
  obtain ⟨h1, h2, h3, h4, h5, Ad, cd, Ao, co, Ap, cp, Ac, cc, hv, s1, s2, s3, s4⟩ := h
  exact ⟨h1, h2, h3, h4, h5, Ad, cd, Ao, co, Ap, cp, Ac, cc, hv, s1.more hB, s2.more hB, s3.more hB, s4.more hB⟩
theorem ChIn.keep {o : zL} (h : ChIn w B v o) (hb : Below B w w') : ChIn w' B v o := by
  obtain ⟨h1, h2, h3, Ad, cd, Ao, co, hv, s1, s2⟩ := h
  exact ⟨h1, h2, h3, Ad, cd, Ao, co, hv, s1.keep hb, s2.keep hb⟩
theorem ChIn.more {o : zL} (h : ChIn w B v o) (hB : B ≤ B') : ChIn w B' v o := by
  obtain ⟨h1, h2, h3, Ad, cd, Ao, co, hv, s1, s2⟩ := h
  exact ⟨h1, h2, h3, Ad, cd, Ao, co, hv, s1.more hB, s2.more hB⟩
theorem CmIn.keep {o : zV} (h : CmIn w B v o) (hb : Below B w w') : CmIn w' B v o := by
  obtain ⟨h1, h2, h3, Ad, cd, Ao, co, hv, s1, s2⟩ := h
  exact ⟨h1, h2, h3, Ad, cd, Ao, co, hv, s1.keep hb, s2.keep hb⟩
theorem CmIn.more {o : zV} (h : CmIn w B v o) (hB : B ≤ B') : CmIn w B' v o := by
  obtain ⟨h1, h2, h3, Ad, cd, Ao, co, hv, s1, s2⟩ := h
  exact ⟨h1, h2, h3, Ad, cd, Ao, co, hv, s1.more hB, s2.more hB⟩
end
end Go.Proofs.YthjaepmfkgejkaaGreatDoor
