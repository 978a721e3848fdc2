/-
  Words for memory: a slice that reads as a list; append of one element to a row of the call's own. No conditions; no program.
  Ids and keys as cells: what a value of such a type holds, read as data; loads and stores of several cells at once. Over any program; conditions as each says.
  Lists of ids: their cells, whether they are a set, where an id stands in one. No conditions; no program.
-/
import Derived.WalkKit
import Derived.WalkSmall
import Derived.Lib.Hide
import Derived.Laws.Tables
import Derived.Laws.Rows
import Derived.Laws.ResultCell
import Derived.Test.YthjaepmfkgejkaaGreatDoorKeySpec
import Derived.OpenShut
import Derived.Deep.Slices
import Derived.Deep.Fields
import Derived.StillTailTactics
set_option linter.unusedVariables false
namespace Go.Proofs.YthjaepmfkgejkaaGreatDoor
open Go.RowKit
def Sl (w : World) (B : Nat) (A : Option Addr) (n sz : Nat) (xs : List Value) : Prop :=
  xs.length = n * sz ∧ (0 < n → ∃ b off, A = some ⟨b, off, none⟩ ∧ b < B ∧ ∀ j u, xs[j]? = some u → w.cell? ⟨b, off + j, none⟩ = some u)
section
variable {w w' : World} {B B' n sz : Nat} {A : Option Addr} {xs : List Value}
theorem Sl.nil : Sl w B A 0 sz [] := ⟨by simp, fun h => absurd h (by omega)⟩
theorem Sl.keep (h : Sl w B A n sz xs) (hb : Below B w w') : Sl w' B A n sz xs := by
  refine ⟨h.1, fun hn => ?_⟩
  obtain ⟨b, off, e, hlt, hc⟩ := h.2 hn
  exact ⟨b, off, e, hlt, fun j u hu => (hb.cell (p := ⟨b, off + j, none⟩) hlt).trans (hc j u hu)⟩
theorem Sl.more (h : Sl w B A n sz xs) (hB : B ≤ B') : Sl w B' A n sz xs := by
  refine ⟨h.1, fun hn => ?_⟩
  obtain ⟨b, off, e, hlt, hc⟩ := h.2 hn
  exact ⟨b, off, e, by omega, hc⟩
theorem Sl.of_own {base : Nat} {e : TypeId} {c : Nat} (h : w.ownsRow base e sz (.slice A n c) n xs) : Sl w w.heap.size A n sz xs := by
  refine ⟨h.1, fun hn => ?_⟩
  rcases h.2 with ⟨_, h0⟩ | ⟨g, cap, cur, hv, hbg, hg, hle, hm, hcs, ht⟩
  · omega
  ·
   injection hv with hA
   subst hA
   have hlt := (h.lt g (by simp [Value.ownBlock])).2
   refine ⟨g, 0, rfl, hlt, fun j u hu => ?_⟩
   have := h.cells (g := g) (by simp [Value.ownBlock]) j u hu
   have e : (⟨g, 0, none⟩ : Addr).add j = ⟨g, 0 + j, none⟩ := by unfold Addr.add; split <;> simp_all
   rw [← e]; exact this
theorem Sl.lt (h : Sl w B A n sz xs) (hn : 0 < n) (hs : 0 < sz) : ∃ b off, A = some ⟨b, off, none⟩ ∧ b < w.heap.size ∧ b < B := by
  obtain ⟨b, off, e, hlt, hc⟩ := h.2 hn
  have hl : 0 < xs.length := by rw [h.1]; exact Nat.mul_pos hn hs
  have := hc 0 _ (List.getElem?_eq_getElem hl)
  refine ⟨b, off, e, ?_, hlt⟩
  rcases Nat.lt_or_ge b w.heap.size with a | a
  · exact a
  · unfold World.cell? at this
    rw [Array.getElem?_eq_none a] at this
    cases this
end
theorem JN {P : Program} {ops : Array Oper} {rest : List Oper} {o : Oper} {a : Act} {Q : Exit → Act → World → Prop} {w : World} (hgd : o.guard = none) (s x : Operand) (t : TypeId)
    (ho : o.op = .call { callee := .builtin .append, args := #[s, x], argTypes := #[t, t] })
    (base : Nat) (e : TypeId) (z : Value) (bytes : Nat) (ht : P.underlying t = some (.slice e)) (hinf : (P.info? e).map (fun i => (i.zero, i.size, i.bytes)) = some (some z, 1, bytes))
    (hz1 : z.cells.size = 1) (v : Value) (n : Nat) (xs : List Value) (hs : a.eval s = v) (hown : w.ownsRow base e 1 v n xs)
    (u : Value) (et : TypeId) (hx : a.eval x = .slice (some ⟨w.heap.size, 0, none⟩) 1 1) (hu : u.oneCell' = true)
    (hn : n + 1 ≤ maxLen) (hb : (n + 1) * bytes ≤ 140737488355328) (hbase : base ≤ w.heap.size)
    (h : ∀ v' w', w'.ownsRow base e 1 v' (n + 1) (xs ++ [u]) → (∀ B a, B ≤ base → Below B a w → Below B a w') → wpList P ops Q rest (a.put o.dst v') w') :
    wpList P ops Q (o :: rest) a (w.alloc (.cells #[u] et)) := by
  obtain ⟨i0, hi, hz0, hz2, hz3⟩ := info_parts hinf
  refine wpList_append_own _ hgd s x t ho base e i0 z 1 bytes ht hi hz0 hz2 hz3 hz1 (by decide) v n xs hs (hown.alloc _) ⟨w.heap.size, 0, none⟩ 1 1 [u] hx rfl ?_ ?_ hn hb (by simp; omega) ?_
  · intro j u' hj
    match j, hj with
    | 0, hj => simp at hj; subst hj; simp [Addr.add]
  · intro u' hu'
    simp at hu'; subst hu'; exact hu
  ·
   intro v' w' hown' hgrow _
   refine h v' w' hown' fun B a hB hba => ?_
   refine (hba.alloc (by omega) _).grown hgrow (by simp; omega) fun k hk => ?_
   have := (hown.lt k hk).1
   omega
theorem wp_appN {P : Program} {ops : Array Oper} {rest : List Oper} {o : Oper} {a : Act} {Q : Exit → Act → World → Prop} {w : World} (hgd : o.guard = none) (s x : Operand) (t : TypeId)
    (ho : o.op = .call { callee := .builtin .append, args := #[s, x], argTypes := #[t, t] })
    (base : Nat) (e : TypeId) (z : Value) (size bytes : Nat) (ht : P.underlying t = some (.slice e)) (hinf : (P.info? e).map (fun i => (i.zero, i.size, i.bytes)) = some (some z, size, bytes))
    (hz1 : z.cells.size = size) (hsz : 0 < size) (v : Value) (n : Nat) (xs : List Value) (hs : a.eval s = v) (hown : w.ownsRow base e size v n xs)
    (us : List Value) (et : TypeId) (hl : us.length = size) (hx : a.eval x = .slice (some ⟨w.heap.size, 0, none⟩) 1 1) (hu : ∀ u ∈ us, u.oneCell' = true)
    (hn : n + 1 ≤ maxLen) (hb : (n + 1) * bytes ≤ 140737488355328) (hbase : base ≤ w.heap.size)
    (h : ∀ v' w', w'.ownsRow base e size v' (n + 1) (xs ++ us) → (∀ B a, B ≤ base → Below B a w → Below B a w') → wpList P ops Q rest (a.put o.dst v') w') :
    wpList P ops Q (o :: rest) a (w.alloc (.cells us.toArray et)) := by
  obtain ⟨i0, hi, hz0, hz2, hz3⟩ := info_parts hinf
  refine wpList_append_own _ hgd s x t ho base e i0 z size bytes ht hi hz0 hz2 hz3 hz1 hsz v n xs hs (hown.alloc _) ⟨w.heap.size, 0, none⟩ 1 1 us hx (by simp [hl]) ?_ hu hn hb (by simp; omega) ?_
  ·
   intro j u' hj
   have e : (⟨w.heap.size, 0, none⟩ : Addr).add j = ⟨w.heap.size, j, none⟩ := by unfold Addr.add; split <;> simp_all
   rw [e, World.cell?_alloc_new]
   simpa using hj
  ·
   intro v' w' hown' hgrow _
   refine h v' w' hown' fun B a hB hba => ?_
   refine (hba.alloc (by omega) _).grown hgrow (by simp; omega) fun k hk => ?_
   have := (hown.lt k hk).1
   omega
theorem Uq {B g : Nat} {w0 w : World} (hb : Below B w0 w) (hBg : B ≤ g) (cs : Array Value) : Below B w0 (w.setRow g cs) :=
  hb.trans ⟨rfl, rfl, rfl, by simp, fun k hk => setRow_other w g k cs (by omega)⟩
theorem u0 {P : Program} {ops : Array Oper} {rest : List Oper} {o : Oper} {a : Act} {w : World} {Q : Exit → Act → World → Prop} (hgd : o.guard = none) (ty : TypeId) (x y : Operand) (ho : o.op = .store ty x y)
    (g : Nat) (cells : Array Value) (hx : a.eval x = .pointer (some ⟨g, 0, none⟩)) (hy : a.eval y = .agg cells)
    (t : TypeId) (old : Array Value) (hg : w.heap[g]? = some (.cells old t (0, 0))) (hi : (P.info? ty).map (·.size) = some cells.size)
    (hold : old.size = cells.size) (h1 : cells.all (·.oneCell') = true) {B : Nat} {w0 : World} (hb : Below B w0 w) (hB : B ≤ g)
    (h : ∀ W : World, Below B w0 W → W.heap[g]? = some (.cells cells t (0, 0)) → (∀ k, k ≠ g → W.heap[k]? = w.heap[k]?) → wpList P ops Q rest (a.put o.dst undef) W) : wpList P ops Q (o :: rest) a w :=
  wpList_store_row hgd ty x y ho g cells hx hy t old hg hi hold h1 (h _ (Uq hb hB _) (setRow_heap _ _ _ _ _ _ hg) (fun k hk => setRow_other _ _ _ _ hk))
theorem jn {P : Program} {fn : Func} {p u : Tmp} {ty : TypeId} (h : fn.results = #[.cell p ty, .tmp u]) (tmps : Array Value) (w : World) {a : Addr} {v x : Value}
    (hp : tmps.getD p undef = .pointer (some a)) (hu : tmps.getD u undef = x) (hl : (loadVar ty a).run P w = .ok v w) : (results fn tmps).run P w = .ok (.tuple #[v, x]) w := by
  rw [results_cell_tmp h, hp, hu]
  show ((Sem.pure a).run P w).andThen _ = _
  simp [Sem.run, Result.andThen, hl]
end Go.Proofs.YthjaepmfkgejkaaGreatDoor
namespace Go.Proofs.YthjaepmfkgejkaaGreatDoor
open Go.RowKit
def idV (l : List UInt8) : List Value := l.map fun b => Value.int .u8 (b.toNat : Int)
def Kw (l : List UInt8) : Prop := l.length = 32
theorem km (l : List UInt8) : (idV l).length = l.length := by simp [idV]
theorem kT (l : List UInt8) : ∀ u ∈ idV l, u.oneCell' = true := by
  intro u hu
  obtain ⟨b, _, rfl⟩ := List.mem_map.1 hu
  rfl
theorem idV_inj {a b : List UInt8} (h : idV a = idV b) : a = b := by
  induction a generalizing b with
  | nil => cases b with
    | nil => rfl
    | cons _ _ => simp [idV] at h
  | cons x a ih => cases b with
    | nil => simp [idV] at h
    | cons y b =>
      simp only [idV, List.map_cons, List.cons.injEq, Value.int.injEq, true_and] at h
      rw [ih h.2, UInt8.toNat_inj.1 (by omega : x.toNat = y.toNat)]
section
variable {H : Type} {enc : TypeId × Value → H} {P : Program} {w : World} {base : Nat} {spare : Nat → Bool} {held : Bool} {fuel : Nat} {cs : List Value} {x : DataW H × List MemPlace}
end
theorem UE {P : Program} (w : World) (b off : Nat) (ty : TypeId) (cs : List Value) (d : TypeDesc) (hc : ∀ j u, cs[j]? = some u → w.cell? ⟨b, off + j, none⟩ = some u)
    (hu : P.underlying ty = some d) (hd : (match d with | .struct _ | .array _ _ => true | _ => false) = true) (hi : (P.info? ty).map (·.size) = some cs.length) :
    (loadVar ty ⟨b, off, none⟩).run P w = .ok (.agg cs.toArray) w := by
  have hl : (loadCells ⟨b, off, none⟩ cs.length).run P w = .ok cs.toArray w :=
    run_loadCells_list (P := P) w ⟨b, off, none⟩ cs (fun j v hv => by
      have hadd : (⟨b, off, none⟩ : Addr).add j = ⟨b, off + j, none⟩ := by unfold Addr.add; split <;> simp_all
      rw [hadd]
      exact hc j v hv)
  cases hq : P.info? ty with
  | none => simp [hq] at hi
  | some i =>
    have hs : i.size = cs.length := by simpa [hq] using hi
    have hagg : (isAgg ty).run P w = .ok true w := by
      unfold isAgg
      rw [Sem.run_bind, run_underlying hu w]
      cases d <;> simp_all
    simp [loadVar, Sem.run_bind, hagg, sizeOf, typeInfo, hq, hs, hl]
theorem zF {P : Program} {ops : Array Oper} {rest : List Oper} {o : Oper} {a : Act} {w : World} {Q : Exit → Act → World → Prop} (hgd : o.guard = none) (ty : TypeId) (x : Operand) (ho : o.op = .load ty x)
    (b off : Nat) (hx : a.eval x = .pointer (some ⟨b, off, none⟩)) (cs : List Value) (d : TypeDesc) (hc : ∀ j u, cs[j]? = some u → w.cell? ⟨b, off + j, none⟩ = some u)
    (hu : P.underlying ty = some d) (hd : (match d with | .struct _ | .array _ _ => true | _ => false) = true) (hi : (P.info? ty).map (·.size) = some cs.length)
    (h : wpList P ops Q rest (a.put o.dst (.agg cs.toArray)) w) : wpList P ops Q (o :: rest) a w :=
  wpList_plain hgd fun K hK => by
    have := hK _ _ h
    unfold Oper.wp execOp
    simp only [ho, hx, Instr.loadAt, Instr.sureAddr, Sem.run_bind, Sem.run_pure, Result.andThen_ok, UE w b off ty cs d hc hu hd hi]
    exact this
end Go.Proofs.YthjaepmfkgejkaaGreatDoor
namespace Go.Proofs.YthjaepmfkgejkaaGreatDoor
open Go.RowKit
def jf (l : List (List UInt8)) : List Value := l.flatMap idV
def IdsOk (l : List (List UInt8)) : Prop := ∀ i ∈ l, Kw i
theorem IdsOk.tail {a : List UInt8} {l : List (List UInt8)} (h : IdsOk (a :: l)) : IdsOk l := fun i hi => h i (by simp [hi])
theorem IdsOk.sub {a b : List (List UInt8)} (h : IdsOk b) (hs : ∀ i ∈ a, i ∈ b) : IdsOk a := fun i hi => h i (hs i hi)
theorem IdsOk.app {a b : List (List UInt8)} (ha : IdsOk a) (hb : IdsOk b) : IdsOk (a ++ b) := fun i hi => (List.mem_append.1 hi).elim (ha i) (hb i)
theorem idsV_get : ∀ {l : List (List UInt8)}, IdsOk l → ∀ (i : Nat) (h : i < l.length) (j : Nat) (u : Value), (idV l[i])[j]? = some u → (jf l)[i * 32 + j]? = some u
  | [], _, _, h, _, _, _ => by cases h
  | a :: l, ho, 0, _, j, u, hj => by
    have h1 : (idV a).length = 32 := by rw [km]; exact ho a (by simp)
    have hlt := (List.getElem?_eq_some_iff.1 hj).1
    simp only [jf, List.flatMap_cons, Nat.zero_mul, Nat.zero_add]
    rw [List.getElem?_append_left (by simpa using hlt)]
    exact hj
  | a :: l, ho, i + 1, h, j, u, hj => by
    have h1 : (idV a).length = 32 := by rw [km]; exact ho a (by simp)
    have := idsV_get ho.tail i (by simpa using h) j u (by simpa using hj)
    simp only [jf, List.flatMap_cons] at this ⊢
    rw [List.getElem?_append_right (by omega), h1, show (i + 1) * 32 + j - 32 = i * 32 + j by omega]
    exact this
theorem Sl.id {w : World} {B b off : Nat} {l : List (List UInt8)} (ho : IdsOk l) (h : ∀ j u, (jf l)[j]? = some u → w.cell? ⟨b, off + j, none⟩ = some u) {i : Nat} (hi : i < l.length) : ∀ j u, (idV l[i])[j]? = some u → w.cell? ⟨b, off + i * 32 + j, none⟩ = some u := by
  intro j u hj
  rw [Nat.add_assoc]
  exact h _ _ (idsV_get ho i hi j u hj)
def kY : List (List UInt8) → Bool
  | a :: b :: r => decide (jJ a b < 0) && kY (b :: r)
  | _ => true
theorem KY : ∀ {l : List (List UInt8)}, kY l = true ↔ ∀ i (h : i + 1 < l.length), jJ (l[i]'(by omega)) l[i + 1] < 0
  | [] => by simp [kY]
  | [a] => by simp [kY]
  | a :: b :: r => by
    rw [kY, Bool.and_eq_true, decide_eq_true_eq, KY (l := b :: r)]
    constructor
    ·
     rintro ⟨h1, h2⟩ i hi
     cases i with
     | zero => exact h1
     | succ i => exact h2 i (by simpa using hi)
    · intro h
      exact ⟨h 0 (by simp), fun i hi => h (i + 1) (by simpa using hi)⟩
theorem JO {l : List (List UInt8)} (h : kY l = true) : l.Pairwise fun a b => jJ a b < 0 := by
  induction l with
  | nil => exact List.Pairwise.nil
  | cons a l ih =>
    rw [List.pairwise_cons]
    have ht : kY l = true := by
      cases l with
      | nil => rfl
      | cons b r => rw [kY, Bool.and_eq_true] at h; exact h.2
    refine ⟨?_, ih ht⟩
    intro x hx
    cases l with
    | nil => cases hx
    | cons b r =>
      rw [kY, Bool.and_eq_true, decide_eq_true_eq] at h
      rcases List.mem_cons.1 hx with rfl | hx
      · exact h.1
      · exact KD h.1 ((List.pairwise_cons.1 (ih ht)).1 x hx)
theorem uL {l : List (List UInt8)} (h : l.Pairwise fun a b => jJ a b < 0) : kY l = true := by
  rw [KY]
  intro i hi
  exact (List.pairwise_iff_getElem.1 h) i (i + 1) (by omega) hi (by omega)
theorem K7 {P : Program} {ops : Array Oper} {rest : List Oper} {o : Oper} {a : Act} {w : World} {Q : Act → Prop} (hw : Region.wanted o (yielded ops a.tmps) = true) (ty : TypeId) (x : Operand) (ho : o.op = .load ty x)
    (b off : Nat) (hx : a.eval x = .pointer (some ⟨b, off, none⟩)) (cs : List Value) (d : TypeDesc) (hc : ∀ j u, cs[j]? = some u → w.cell? ⟨b, off + j, none⟩ = some u)
    (hu : P.underlying ty = some d) (hd : (match d with | .struct _ | .array _ _ => true | _ => false) = true) (hi : (P.info? ty).map (·.size) = some cs.length)
    (h : wpStill P ops w Q rest (a.put o.dst (.agg cs.toArray))) : wpStill P ops w Q (o :: rest) a := by
  unfold wpStill
  rw [if_pos hw]
  unfold Oper.still execOp
  simp only [ho, hx, Instr.loadAt, Instr.sureAddr, Sem.run_bind, Sem.run_pure, Result.andThen_ok, UE w b off ty cs d hc hu hd hi]
  exact ⟨rfl, h⟩
end Go.Proofs.YthjaepmfkgejkaaGreatDoor
