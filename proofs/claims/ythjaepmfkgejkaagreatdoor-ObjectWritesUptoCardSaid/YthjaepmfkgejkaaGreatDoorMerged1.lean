/-
  Words for memory: a slice that reads as a list; append of one element to a row of the call's own. No conditions; no program.
  Short names of what is said most often. Conditions: none.
  A map that the call made, as a plain function from keys to values: looked up, stored into. Over any program; conditions as each says.
-/
import Derived.WalkKit
import Derived.WalkSmall
import Derived.Lib.Hide
import Derived.Laws.Tables
import Derived.Laws.Rows
import Derived.Laws.ResultCell
import Derived.Deep.MidRow
import Derived.Maps.Own
import Derived.Maps.OwnOps
import Derived.Maps.OwnSet
import Derived.Maps.Views
set_option linter.unusedVariables false
namespace Go.Proofs.YthjaepmfkgejkaaGreatDoor
open Go.RowKit
def Sl (w : World) (B : Nat) (A : Option Addr) (n sz : Nat) (xs : List Value) : Prop :=
  xs.length = n * sz ∧ (0 < n → ∃ b off, A = some ⟨b, off, none⟩ ∧ b < B ∧ ∀ j u, xs[j]? = some u → w.cell? ⟨b, off + j, none⟩ = some u)
section
variable {w w' : World} {B B' n sz : Nat} {A : Option Addr} {xs : List Value}
theorem Sl.nil : Sl w B A 0 sz [] := ⟨by simp, fun h => absurd h (by omega)⟩
theorem Sl.keep (h : Sl w B A n sz xs) (hb : Below B w w') : Sl w' B A n sz xs := by
  refine ⟨h.1, fun hn => ?_⟩
  obtain ⟨b, off, e, hlt, hc⟩ := h.2 hn
  exact ⟨b, off, e, hlt, fun j u hu => (hb.cell (p := ⟨b, off + j, none⟩) hlt).trans (hc j u hu)⟩
theorem Sl.more (h : Sl w B A n sz xs) (hB : B ≤ B') : Sl w B' A n sz xs := by
  refine ⟨h.1, fun hn => ?_⟩
  obtain ⟨b, off, e, hlt, hc⟩ := h.2 hn
  exact ⟨b, off, e, by omega, hc⟩
theorem Sl.of_own {base : Nat} {e : TypeId} {c : Nat} (h : w.ownsRow base e sz (.slice A n c) n xs) : Sl w w.heap.size A n sz xs := by
  refine ⟨h.1, fun hn => ?_⟩
  rcases h.2 with ⟨_, h0⟩ | ⟨g, cap, cur, hv, hbg, hg, hle, hm, hcs, ht⟩
  · omega
  ·
   injection hv with hA
   subst hA
   have hlt := (h.lt g (by simp [Value.ownBlock])).2
   refine ⟨g, 0, rfl, hlt, fun j u hu => ?_⟩
   have := h.cells (g := g) (by simp [Value.ownBlock]) j u hu
   have e : (⟨g, 0, none⟩ : Addr).add j = ⟨g, 0 + j, none⟩ := by unfold Addr.add; split <;> simp_all
   rw [← e]; exact this
theorem Sl.lt (h : Sl w B A n sz xs) (hn : 0 < n) (hs : 0 < sz) : ∃ b off, A = some ⟨b, off, none⟩ ∧ b < w.heap.size ∧ b < B := by
  obtain ⟨b, off, e, hlt, hc⟩ := h.2 hn
  have hl : 0 < xs.length := by rw [h.1]; exact Nat.mul_pos hn hs
  have := hc 0 _ (List.getElem?_eq_getElem hl)
  refine ⟨b, off, e, ?_, hlt⟩
  rcases Nat.lt_or_ge b w.heap.size with a | a
  · exact a
  · unfold World.cell? at this
    rw [Array.getElem?_eq_none a] at this
    cases this
end
theorem Ko {P : Program} {ops : Array Oper} {rest : List Oper} {o : Oper} {a : Act} {Q : Exit → Act → World → Prop} {w : World} (hgd : o.guard = none) (s x : Operand) (t : TypeId)
    (ho : o.op = .call { callee := .builtin .append, args := #[s, x], argTypes := #[t, t] })
    (base : Nat) (e : TypeId) (z : Value) (bytes : Nat) (ht : P.underlying t = some (.slice e)) (hinf : (P.info? e).map (fun i => (i.zero, i.size, i.bytes)) = some (some z, 1, bytes))
    (hz1 : z.cells.size = 1) (v : Value) (n : Nat) (xs : List Value) (hs : a.eval s = v) (hown : w.ownsRow base e 1 v n xs)
    (u : Value) (et : TypeId) (hx : a.eval x = .slice (some ⟨w.heap.size, 0, none⟩) 1 1) (hu : u.oneCell' = true)
    (hn : n + 1 ≤ maxLen) (hb : (n + 1) * bytes ≤ 140737488355328) (hbase : base ≤ w.heap.size)
    (h : ∀ v' w', w'.ownsRow base e 1 v' (n + 1) (xs ++ [u]) → (∀ B a, B ≤ base → Below B a w → Below B a w') → wpList P ops Q rest (a.put o.dst v') w') :
    wpList P ops Q (o :: rest) a (w.alloc (.cells #[u] et)) := by
  obtain ⟨i0, hi, hz0, hz2, hz3⟩ := info_parts hinf
  refine wpList_append_own _ hgd s x t ho base e i0 z 1 bytes ht hi hz0 hz2 hz3 hz1 (by decide) v n xs hs (hown.alloc _) ⟨w.heap.size, 0, none⟩ 1 1 [u] hx rfl ?_ ?_ hn hb (by simp; omega) ?_
  · intro j u' hj
    match j, hj with
    | 0, hj => simp at hj; subst hj; simp [Addr.add]
  · intro u' hu'
    simp at hu'; subst hu'; exact hu
  ·
   intro v' w' hown' hgrow _
   refine h v' w' hown' fun B a hB hba => ?_
   refine (hba.alloc (by omega) _).grown hgrow (by simp; omega) fun k hk => ?_
   have := (hown.lt k hk).1
   omega
theorem ua {P : Program} {ops : Array Oper} {rest : List Oper} {o : Oper} {a : Act} {Q : Exit → Act → World → Prop} {w : World} (hgd : o.guard = none) (s x : Operand) (t : TypeId)
    (ho : o.op = .call { callee := .builtin .append, args := #[s, x], argTypes := #[t, t] })
    (base : Nat) (e : TypeId) (z : Value) (size bytes : Nat) (ht : P.underlying t = some (.slice e)) (hinf : (P.info? e).map (fun i => (i.zero, i.size, i.bytes)) = some (some z, size, bytes))
    (hz1 : z.cells.size = size) (hsz : 0 < size) (v : Value) (n : Nat) (xs : List Value) (hs : a.eval s = v) (hown : w.ownsRow base e size v n xs)
    (us : List Value) (et : TypeId) (hl : us.length = size) (hx : a.eval x = .slice (some ⟨w.heap.size, 0, none⟩) 1 1) (hu : ∀ u ∈ us, u.oneCell' = true)
    (hn : n + 1 ≤ maxLen) (hb : (n + 1) * bytes ≤ 140737488355328) (hbase : base ≤ w.heap.size)
    (h : ∀ v' w', w'.ownsRow base e size v' (n + 1) (xs ++ us) → (∀ B a, B ≤ base → Below B a w → Below B a w') → wpList P ops Q rest (a.put o.dst v') w') :
    wpList P ops Q (o :: rest) a (w.alloc (.cells us.toArray et)) := by
  obtain ⟨i0, hi, hz0, hz2, hz3⟩ := info_parts hinf
  refine wpList_append_own _ hgd s x t ho base e i0 z size bytes ht hi hz0 hz2 hz3 hz1 hsz v n xs hs (hown.alloc _) ⟨w.heap.size, 0, none⟩ 1 1 us hx (by simp [hl]) ?_ hu hn hb (by simp; omega) ?_
  ·
   intro j u' hj
   have e : (⟨w.heap.size, 0, none⟩ : Addr).add j = ⟨w.heap.size, j, none⟩ := by unfold Addr.add; split <;> simp_all
   rw [e, World.cell?_alloc_new]
   simpa using hj
  ·
   intro v' w' hown' hgrow _
   refine h v' w' hown' fun B a hB hba => ?_
   refine (hba.alloc (by omega) _).grown hgrow (by simp; omega) fun k hk => ?_
   have := (hown.lt k hk).1
   omega
theorem qr {B g : Nat} {w0 w : World} (hb : Below B w0 w) (hBg : B ≤ g) (cs : Array Value) : Below B w0 (w.setRow g cs) :=
  hb.trans ⟨rfl, rfl, rfl, by simp, fun k hk => setRow_other w g k cs (by omega)⟩
theorem uN {P : Program} {ops : Array Oper} {rest : List Oper} {o : Oper} {a : Act} {w : World} {Q : Exit → Act → World → Prop} (hgd : o.guard = none) (ty : TypeId) (x y : Operand) (ho : o.op = .store ty x y)
    (g : Nat) (cells : Array Value) (hx : a.eval x = .pointer (some ⟨g, 0, none⟩)) (hy : a.eval y = .agg cells)
    (t : TypeId) (old : Array Value) (hg : w.heap[g]? = some (.cells old t (0, 0))) (hi : (P.info? ty).map (·.size) = some cells.size)
    (hold : old.size = cells.size) (h1 : cells.all (·.oneCell') = true) {B : Nat} {w0 : World} (hb : Below B w0 w) (hB : B ≤ g)
    (h : ∀ W : World, Below B w0 W → W.heap[g]? = some (.cells cells t (0, 0)) → (∀ k, k ≠ g → W.heap[k]? = w.heap[k]?) → wpList P ops Q rest (a.put o.dst undef) W) : wpList P ops Q (o :: rest) a w :=
  wpList_store_row hgd ty x y ho g cells hx hy t old hg hi hold h1 (h _ (qr hb hB _) (setRow_heap _ _ _ _ _ _ hg) (fun k hk => setRow_other _ _ _ _ hk))
theorem ZK {P : Program} {fn : Func} {p u : Tmp} {ty : TypeId} (h : fn.results = #[.cell p ty, .tmp u]) (tmps : Array Value) (w : World) {a : Addr} {v x : Value}
    (hp : tmps.getD p undef = .pointer (some a)) (hu : tmps.getD u undef = x) (hl : (loadVar ty a).run P w = .ok v w) : (results fn tmps).run P w = .ok (.tuple #[v, x]) w := by
  rw [results_cell_tmp h, hp, hu]
  show ((Sem.pure a).run P w).andThen _ = _
  simp [Sem.run, Result.andThen, hl]
end Go.Proofs.YthjaepmfkgejkaaGreatDoor
namespace Go.Proofs.YthjaepmfkgejkaaGreatDoor
open Go.RowKit
theorem qX {α : Type} {xs : Array α} {i : Nat} {a : α} (h : xs[i]? = some a) : i < xs.size := (Array.getElem?_eq_some_iff.1 h).1
theorem dT {p : Prop} [Decidable p] (h : p) : decide p = true := decide_eq_true h
theorem dF {p : Prop} [Decidable p] (h : ¬ p) : decide p = false := decide_eq_false h
theorem qR (n : Nat) : n ≤ n := Nat.le_refl n
theorem qT {a b c : Nat} (h : a ≤ b) (g : b ≤ c) : a ≤ c := Nat.le_trans h g
theorem qL {a b c : Nat} (h : a < b) (g : b ≤ c) : a < c := Nat.lt_of_lt_of_le h g
theorem qZ (n : Nat) : 0 + n = n := Nat.zero_add n
theorem qD (b : Nat) (w : World) : Below b w w.drew := (Below.refl b w).drew
theorem qB (b : Nat) (w : World) : Below b w w := Below.refl b w
abbrev qV := @run_loadVar_mid
end Go.Proofs.YthjaepmfkgejkaaGreatDoor
namespace Go.Proofs.YthjaepmfkgejkaaGreatDoor
open Go.RowKit Go.Maps
structure KeyEnc (P : Program) (K : TypeId) {κ : Type} (ok : κ → Prop) (val : κ → Value) (kl : κ → Lit) : Prop where
  keyed : Keyed P K
  of : ∀ k, ok k → keyOf P K (val k) = some (kl k)
  inj : ∀ a b, val a = val b → a = b
def Rv (v : Value) : Option (DataW Value × List MemPlace) := some (.held v, [])
def MapK {κ : Type} (ok : κ → Prop) (kl : κ → Lit) (D : DataW Value) : Prop := IsMap D ∧ ∀ l, has D l = true → ∃ k, ok k ∧ l = kl k
def MapV (w : World) (P : Program) (K : TypeId) {κ : Type} (ok : κ → Prop) (kl : κ → Lit) (b n : Nat) (m : κ → Option Value) : Prop :=
  ∃ D : DataW Value, w.ownsMap P K Rv b n D ∧ MapK ok kl D ∧ (∀ k, ok k → has D (kl k) = (m k).isSome) ∧ ∀ k v, ok k → m k = some v → ∀ z, D.atKey (kl k) z = .held v
section
variable {P : Program} {K : TypeId} {κ : Type} {ok : κ → Prop} {val : κ → Value} {kl : κ → Lit} {w : World} {b n : Nat} {m : κ → Option Value}
theorem KeyEnc.klInj (E : KeyEnc P K ok val kl) {x y : κ} (hx : ok x) (hy : ok y) (h : kl x = kl y) : x = y :=
  E.inj _ _ (E.keyed.inj (E.of x hx) (by rw [h]; exact E.of y hy))
theorem MapV.made (w : World) (P : Program) (K : TypeId) (ok : κ → Prop) (kl : κ → Lit) : MapV (w.alloc (.map #[] 0)) P K ok kl w.heap.size 0 (fun _ => none) :=
  ⟨.map [], World.ownsMap_made w P K Rv, ⟨isMap_empty, fun l h => by cases h⟩, fun _ _ => rfl, fun _ _ _ h => by cases h⟩
theorem MapV.lt (h : MapV w P K ok kl b n m) : b < w.heap.size := by
  obtain ⟨D, h1, _⟩ := h
  exact h1.lt
theorem MapV.below {w' : World} (h : MapV w P K ok kl b n m) (hb : Below w.heap.size w w') : MapV w' P K ok kl b n m := by
  have hlt := h.lt
  obtain ⟨D, h1, h2⟩ := h
  obtain ⟨es, clock, hbk, F, hs, hD⟩ := h1
  exact ⟨D, ⟨es, clock, (hb.block b hlt).trans hbk, F, hs, hD⟩, h2⟩
theorem MapV.kept {w' : World} {row : Option Nat} (h : MapV w P K ok kl b n m) (hg : w.grownBy w' row) (hne : some b ≠ row) : MapV w' P K ok kl b n m := by
  obtain ⟨D, h1, h2⟩ := h
  exact ⟨D, h1.kept hg hne, h2⟩
theorem MapV.alloc (h : MapV w P K ok kl b n m) (o : Obj) : MapV (w.alloc o) P K ok kl b n m := by
  obtain ⟨D, h1, h2⟩ := h
  exact ⟨D, h1.alloc o, h2⟩
theorem MapV.drew (h : MapV w P K ok kl b n m) : MapV w.drew P K ok kl b n m := by
  obtain ⟨D, h1, h2⟩ := h
  exact ⟨D, h1.drew, h2⟩
theorem put_view {D : DataW Value} (E : KeyEnc P K ok val kl) (hm0 : MapK ok kl D) (h1 : ∀ k, ok k → has D (kl k) = (m k).isSome) (h2 : ∀ k v, ok k → m k = some v → ∀ z, D.atKey (kl k) z = .held v) [DecidableEq κ] {k0 : κ} (hk : ok k0) (v0 : Value) :
    MapK ok kl (D.put (kl k0) (.held v0)) ∧ (∀ k, ok k → has (D.put (kl k0) (.held v0)) (kl k) = (if k = k0 then some v0 else m k).isSome) ∧ ∀ k v, ok k → (if k = k0 then some v0 else m k) = some v → ∀ z, (D.put (kl k0) (.held v0)).atKey (kl k) z = .held v := by
  have hlit := E.keyed.key (E.of k0 hk)
  have hm := hm0.1
  refine ⟨⟨hm.put _ _, fun l hl => ?_⟩, fun k ho => ?_, fun k v ho h z => ?_⟩
  ·
   by_cases e : l = kl k0
   · exact ⟨k0, hk, e⟩
   · rw [has_put_other e] at hl
     exact hm0.2 l hl
  ·
   by_cases e : k = k0
   · subst e
     rw [if_pos rfl, has_put_same hm hlit]; rfl
   · rw [if_neg e, has_put_other (fun he => e (E.klInj ho hk he)), h1 k ho]
  ·
   by_cases e : k = k0
   ·
    subst e
    rw [if_pos rfl] at h
    cases h
    exact atKey_put_same hm hlit _ _
   · rw [if_neg e] at h
     rw [atKey_put_other (fun he => e (E.klInj ho hk he))]
     exact h2 k v ho h z
theorem wp_mapGet1 {ops : Array Oper} {rest : List Oper} {o : Oper} {a : Act} {Q : Exit → Act → World → Prop} (hg : o.guard = none) (mo x : Operand) (t : TypeId) (hop : o.op = Op.lookup t mo x false)
    (e : TypeId) (E : KeyEnc P K ok val kl) (ht : P.underlying t = some (.map K e)) (z : Value) (hz : (zeroValue e).run P w = .ok z w) (hm : a.eval mo = .map (some b)) (hown : MapV w P K ok kl b n m) (k0 : κ) (hk : ok k0) (hx : a.eval x = val k0)
    (h : wpList P ops Q rest (a.put o.dst ((m k0).getD z)) w) :
    wpList P ops Q (o :: rest) a w := by
  obtain ⟨D, h1, h2, h3, h4⟩ := hown
  refine wpList_plain hg fun K' hK' => ?_
  obtain ⟨v, ps, hrun, hv⟩ := h1.lookup E.keyed ht hz (zd := .held z) (zp := []) rfl (E.of k0 hk)
  have hv' : v = (m k0).getD z := by
    have e1 : (DataW.held v : DataW Value) = D.atKey (kl k0) (.held z) := congrArg Prod.fst (Option.some.inj hv)
    rcases hmk : m k0 with _ | u
    · have hh : has D (kl k0) = false := by rw [h3 k0 hk, hmk]; rfl
      rw [atKey_of_not_has hh] at e1
      injection e1
    · rw [h4 k0 u hk hmk] at e1
      injection e1
  subst hv'
  unfold Oper.wp
  simp [execOp, hop, hm, hx, hrun, Result.andThen]
  exact hK' _ _ h
end
end Go.Proofs.YthjaepmfkgejkaaGreatDoor
