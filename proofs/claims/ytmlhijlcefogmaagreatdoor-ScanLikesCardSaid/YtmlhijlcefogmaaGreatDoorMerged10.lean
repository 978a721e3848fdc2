/-
  What the search's next gives at 0: the first list. Conditions: rows of at most 100000 numbers, kept where the search's box says.
  A map that the call made, as a plain function from keys to values: looked up, stored into. Over any program; conditions as each says.
  Whole numbers and texts as a map's keys. Conditions: the keys are well formed.
  What the search's cost gives: the whole's cost; and which lists it keeps. Conditions: rows of at most 100000 numbers, kept where the search's box says.
-/
import Derived.Test.YtmlhijlcefogmaaGreatDoorMyersNext
import Derived.Test.YtmlhijlcefogmaaGreatDoorMerged2
import Derived.Maps.Own
import Derived.Maps.OwnOps
import Derived.Maps.OwnSet
import Derived.Maps.Views
import Derived.Test.YtmlhijlcefogmaaGreatDoorMerged5
set_option linter.unusedVariables false
set_option linter.unusedSimpArgs false
set_option maxHeartbeats 4000000
set_option maxRecDepth 100000
namespace Go.Proofs.YtmlhijlcefogmaaGreatDoor
open Go.RowKit Go.Maps Go.Shelf

theorem Gr.ownNew {w w' : World} (h : Gr w w') (base : Nat) (hb : base ≤ w'.heap.size) (v : Value) (e : TypeId) : (w'.alloc (.cells #[v] e)).ownsRow base e 1 (.slice (some ⟨w'.heap.size, 0, none⟩) 1 1) 1 [v] :=
  ⟨by simp, .inr ⟨w'.heap.size, 1, #[v], rfl, hb, heap_alloc_new _ _, Nat.le_refl _, by decide, by simp, by simp⟩⟩
theorem next0_any (a b : List Int) (B : Nat) (A A' Al : Option Addr) (ca cb cl nl : Nat) (w : World) (hB : B < w.heap.size) (cA : w.cell? ⟨B, 0, none⟩ = some (.slice A a.length ca)) (cB : w.cell? ⟨B, 1, none⟩ = some (.slice A' b.length cb))
    (hsa : Sl w w.heap.size A a.length 1 (i32V a)) (hsb : Sl w w.heap.size A' b.length 1 (i32V b)) (hn : a.length ≤ 100000) (hm : b.length ≤ 100000) :
    Calls Tryz.prog 131 #[.pointer (some ⟨B, 0, none⟩), .int .i64 0, .slice Al nl cl] w fun r w' => Below w.heap.size w w' ∧ ∃ g c, r = .returned (.slice (some ⟨g, 0, none⟩) 1 c) ∧
      w'.ownsRow w.heap.size 21 1 (.slice (some ⟨g, 0, none⟩) 1 c) 1 (natV (lst a b 0)) := by
  have c1 := Wg.cell cA hB
  have c2 := Wg.cell cB hB
  have e1 : IntKind.i64.wrap ((a.length : Int) - (b.length : Int)) = (a.length : Int) - b.length := IntWalk.i64_in _ (by omega)
  have hsl : ∀ u : World, Gr w u → Calls Tryz.prog 176 #[.pointer (some ⟨B, 0, none⟩), .int .i64 (a.length : Int), .int .i64 ((a.length : Int) - b.length)] u fun e w' => e = .returned (.int .i32 (slideS a b a.length ((a.length : Int) - b.length) : Int)) ∧ Gr u w' := fun u hu =>
    slide_any a b B A A' ca cb a.length _ u (Nat.lt_of_lt_of_le hB hu.below.size) ((hu.below.cell (p := ⟨B, 0, none⟩) hB).trans cA) ((hu.below.cell (p := ⟨B, 1, none⟩) hB).trans cB) ((hsa.keep hu.below).more hu.below.size) ((hsb.keep hu.below).more hu.below.size) hn hm (Nat.le_refl _) (by omega) (by omega)
  have HS := Lib.hid hsl
  clear hsl hsa hsb cA cB
  go_enter Tryz.func131, Tryz.ntmps131
  go_upto_region 2 with fail
  refine wp_region_tail_wg 18 (by kernel_rfl) (by kernel_rfl) (by kernel_rfl) (by kernel_rfl) (by kernel_rfl) ?_
  simp only [List.take_succ_cons, List.take_zero, List.drop_succ_cons, List.drop_zero]
  repeat (first
    | go_big_quiet_skip
    | (go_big_quiet_want
       go_big_quiet_op
       first
         | go_big_quiet_on
         | go_big_quiet_call (first | (go_at_call 176; rename_i n; exact (HS.out n.val n.2).mono fun e w'' ⟨he, hw⟩ => ⟨he, ⟨⟨w'', n.2.trans hw⟩, rfl⟩⟩))))
  refine wpQuiet_nil ?_
  rintro w' ⟨kk, rfl⟩
  have hkk := kk.2
  generalize kk.val = w2 at *
  clear c1 c2
  go_wp2_with fail
  go_ret
  refine ⟨hkk.below.alloc hkk.below.size _, _, _, rfl, ?_⟩
  exact hkk.ownNew w.heap.size hkk.below.size _ _
end Go.Proofs.YtmlhijlcefogmaaGreatDoor
namespace Go.Proofs.YtmlhijlcefogmaaGreatDoor
open Go.RowKit Go.Maps

/-- Keys of a plain type, as a map's keys. -/
structure KeyEnc (P : Program) (K : TypeId) {κ : Type} (ok : κ → Prop) (val : κ → Value) (kl : κ → Lit) : Prop where
  keyed : Keyed P K
  of : ∀ k, ok k → keyOf P K (val k) = some (kl k)
  inj : ∀ a b, val a = val b → a = b

def Rv (v : Value) : Option (DataW Value × List MemPlace) := some (.held v, [])

/-- A map, and all its keys are such as are meant. -/
def MapK {κ : Type} (ok : κ → Prop) (kl : κ → Lit) (D : DataW Value) : Prop := IsMap D ∧ ∀ l, has D l = true → ∃ k, ok k ∧ l = kl k
/-- Block b is a map of at most n entries that holds just what m says. -/
def MapV (w : World) (P : Program) (K : TypeId) {κ : Type} (ok : κ → Prop) (kl : κ → Lit) (b n : Nat) (m : κ → Option Value) : Prop :=
  ∃ D : DataW Value, w.ownsMap P K Rv b n D ∧ MapK ok kl D ∧ (∀ k, ok k → has D (kl k) = (m k).isSome) ∧ ∀ k v, ok k → m k = some v → ∀ z, D.atKey (kl k) z = .held v

section
variable {P : Program} {K : TypeId} {κ : Type} {ok : κ → Prop} {val : κ → Value} {kl : κ → Lit} {w : World} {b n : Nat} {m : κ → Option Value}

theorem KeyEnc.klInj (E : KeyEnc P K ok val kl) {x y : κ} (hx : ok x) (hy : ok y) (h : kl x = kl y) : x = y :=
  E.inj _ _ (E.keyed.inj (E.of x hx) (by rw [h]; exact E.of y hy))

theorem MapV.made (w : World) (P : Program) (K : TypeId) (ok : κ → Prop) (kl : κ → Lit) : MapV (w.alloc (.map #[] 0)) P K ok kl w.heap.size 0 (fun _ => none) :=
  ⟨.map [], World.ownsMap_made w P K Rv, ⟨isMap_empty, fun l h => by cases h⟩, fun _ _ => rfl, fun _ _ _ h => by cases h⟩
theorem MapV.lt (h : MapV w P K ok kl b n m) : b < w.heap.size := by
  obtain ⟨D, h1, _⟩ := h
  exact h1.lt
theorem MapV.below {w' : World} (h : MapV w P K ok kl b n m) (hb : Below w.heap.size w w') : MapV w' P K ok kl b n m := by
  have hlt := h.lt
  obtain ⟨D, h1, h2⟩ := h
  obtain ⟨es, clock, hbk, F, hs, hD⟩ := h1
  exact ⟨D, ⟨es, clock, (hb.block b hlt).trans hbk, F, hs, hD⟩, h2⟩
theorem MapV.kept {w' : World} {row : Option Nat} (h : MapV w P K ok kl b n m) (hg : w.grownBy w' row) (hne : some b ≠ row) : MapV w' P K ok kl b n m := by
  obtain ⟨D, h1, h2⟩ := h
  exact ⟨D, h1.kept hg hne, h2⟩
theorem MapV.alloc (h : MapV w P K ok kl b n m) (o : Obj) : MapV (w.alloc o) P K ok kl b n m := by
  obtain ⟨D, h1, h2⟩ := h
  exact ⟨D, h1.alloc o, h2⟩
theorem MapV.drew (h : MapV w P K ok kl b n m) : MapV w.drew P K ok kl b n m := by
  obtain ⟨D, h1, h2⟩ := h
  exact ⟨D, h1.drew, h2⟩

theorem put_view {D : DataW Value} (E : KeyEnc P K ok val kl) (hm0 : MapK ok kl D) (h1 : ∀ k, ok k → has D (kl k) = (m k).isSome) (h2 : ∀ k v, ok k → m k = some v → ∀ z, D.atKey (kl k) z = .held v) [DecidableEq κ] {k0 : κ} (hk : ok k0) (v0 : Value) :
    MapK ok kl (D.put (kl k0) (.held v0)) ∧ (∀ k, ok k → has (D.put (kl k0) (.held v0)) (kl k) = (if k = k0 then some v0 else m k).isSome) ∧ ∀ k v, ok k → (if k = k0 then some v0 else m k) = some v → ∀ z, (D.put (kl k0) (.held v0)).atKey (kl k) z = .held v := by
  have hlit := E.keyed.key (E.of k0 hk)
  have hm := hm0.1
  refine ⟨⟨hm.put _ _, fun l hl => ?_⟩, fun k ho => ?_, fun k v ho h z => ?_⟩
  · by_cases e : l = kl k0
    · exact ⟨k0, hk, e⟩
    · rw [has_put_other e] at hl
      exact hm0.2 l hl
  · by_cases e : k = k0
    · subst e
      rw [if_pos rfl, has_put_same hm hlit]; rfl
    · rw [if_neg e, has_put_other (fun he => e (E.klInj ho hk he)), h1 k ho]
  · by_cases e : k = k0
    · subst e
      rw [if_pos rfl] at h
      cases h
      exact atKey_put_same hm hlit _ _
    · rw [if_neg e] at h
      rw [atKey_put_other (fun he => e (E.klInj ho hk he))]
      exact h2 k v ho h z

/-- 'm[k] = v'. -/
theorem wp_mapPut {ops : Array Oper} {rest : List Oper} {o : Oper} {a : Act} {Q : Exit → Act → World → Prop} [DecidableEq κ] (hg : o.guard = none) (mo x v : Operand) (t : TypeId) (hop : o.op = Op.mapUpdate t mo x v)
    (e : TypeId) (E : KeyEnc P K ok val kl) (ht : P.underlying t = some (.map K e)) (hm : a.eval mo = .map (some b)) (hown : MapV w P K ok kl b n m) (hn : n < maxLen) (k0 : κ) (hk : ok k0) (hx : a.eval x = val k0) (v0 : Value) (hv : a.eval v = v0)
    (h : ∀ w', MapV w' P K ok kl b (n + 1) (fun k => if k = k0 then some v0 else m k) → w.grownBy w' (some b) → wpList P ops Q rest (a.put o.dst undef) w') :
    wpList P ops Q (o :: rest) a w := by
  obtain ⟨D, h1, h2, h3, h4⟩ := hown
  refine wpList_mapUpdate_own w hg mo x v t hop K e E.keyed ht Rv b n D hm h1 hn (val k0) v0 (kl k0) hx hv (E.of k0 hk) (.held v0) [] rfl fun w' hw hgr => ?_
  obtain ⟨g1, g2, g3⟩ := put_view E h2 h3 h4 hk v0
  exact h w' ⟨_, hw, g1, g2, g3⟩ hgr
/-- 'm[k]'. -/
theorem wp_mapGet1 {ops : Array Oper} {rest : List Oper} {o : Oper} {a : Act} {Q : Exit → Act → World → Prop} (hg : o.guard = none) (mo x : Operand) (t : TypeId) (hop : o.op = Op.lookup t mo x false)
    (e : TypeId) (E : KeyEnc P K ok val kl) (ht : P.underlying t = some (.map K e)) (z : Value) (hz : (zeroValue e).run P w = .ok z w) (hm : a.eval mo = .map (some b)) (hown : MapV w P K ok kl b n m) (k0 : κ) (hk : ok k0) (hx : a.eval x = val k0)
    (h : wpList P ops Q rest (a.put o.dst ((m k0).getD z)) w) :
    wpList P ops Q (o :: rest) a w := by
  obtain ⟨D, h1, h2, h3, h4⟩ := hown
  refine wpList_plain hg fun K' hK' => ?_
  obtain ⟨v, ps, hrun, hv⟩ := h1.lookup E.keyed ht hz (zd := .held z) (zp := []) rfl (E.of k0 hk)
  have hv' : v = (m k0).getD z := by
    have e1 : (DataW.held v : DataW Value) = D.atKey (kl k0) (.held z) := congrArg Prod.fst (Option.some.inj hv)
    rcases hmk : m k0 with _ | u
    · have hh : has D (kl k0) = false := by rw [h3 k0 hk, hmk]; rfl
      rw [atKey_of_not_has hh] at e1
      injection e1
    · rw [h4 k0 u hk hmk] at e1
      injection e1
  subst hv'
  unfold Oper.wp
  simp [execOp, hop, hm, hx, hrun, Result.andThen]
  exact hK' _ _ h
end
end Go.Proofs.YtmlhijlcefogmaaGreatDoor
namespace Go.Proofs.YtmlhijlcefogmaaGreatDoor
open Go.RowKit Go.Maps

def IntOk (n : Int) : Prop := (Lit.int .i64 n).wf = true
def intK (n : Int) : Value := .int .i64 n
def intL (n : Int) : Lit := .int .i64 n
theorem keyedInt : Keyed Tryz.prog 3 := int_keyed Tryz.underlying3
theorem intEnc : KeyEnc Tryz.prog 3 IntOk intK intL := ⟨keyedInt, fun k hk => by
  unfold IntOk at hk
  simp [keyOf, mapKey, intK, intL, Tryz.underlying3, hk], fun a b h => by injection h⟩
end Go.Proofs.YtmlhijlcefogmaaGreatDoor
namespace Go.Proofs.YtmlhijlcefogmaaGreatDoor
open Go.RowKit Go.Maps Go.Shelf

theorem Sl.grown {w w' : World} {A : Option Addr} {n M : Nat} {xs : List Value} (h : Sl w w.heap.size A n 1 xs) (hM : ∃ es c, w.heap[M]? = some (.map es c)) (hg : w.grownBy w' (some M)) : Sl w' w'.heap.size A n 1 xs := by
  refine ⟨h.1, fun hn => ?_⟩
  obtain ⟨b, off, e, hb, hc⟩ := h.2 hn
  have hx : 0 < xs.length := by have := h.1; omega
  have hbM : b ≠ M := by
    rintro rfl
    obtain ⟨es, c, hm⟩ := hM
    have h0 := hc 0 xs[0] (by simp [hx])
    simp [World.cell?, hm] at h0
  have hbk : w'.heap[b]? = w.heap[b]? := hg.block b hb fun q => hbM (Option.some.inj q)
  refine ⟨b, off, e, Nat.lt_of_lt_of_le hb hg.size, fun j u hj => ?_⟩
  have h1 := hc j u hj
  unfold World.cell? at h1 ⊢
  rw [hbk]
  exact h1
theorem next0_any' (a b : List Int) (B : Nat) (A A' Al : Option Addr) (ca cb cl nl : Nat) (d : Nat) (hd : d = 0) (w : World) (hB : B < w.heap.size) (cA : w.cell? ⟨B, 0, none⟩ = some (.slice A a.length ca)) (cB : w.cell? ⟨B, 1, none⟩ = some (.slice A' b.length cb))
    (hsa : Sl w w.heap.size A a.length 1 (i32V a)) (hsb : Sl w w.heap.size A' b.length 1 (i32V b)) (hn : a.length ≤ 100000) (hm : b.length ≤ 100000) :
    Calls Tryz.prog 131 #[.pointer (some ⟨B, 0, none⟩), .int .i64 (d : Int), .slice Al nl cl] w fun r w' => Below w.heap.size w w' ∧ ∃ g c, r = .returned (.slice (some ⟨g, 0, none⟩) (d + 1) c) ∧
      w'.ownsRow w.heap.size 21 1 (.slice (some ⟨g, 0, none⟩) (d + 1) c) (d + 1) (natV (lst a b d)) := by
  subst hd
  have h := next0_any a b B A A' Al ca cb cl nl w hB cA cB hsa hsb hn hm
  first
    | exact h
    | simpa using h
def SavedOk (a b : List Int) (w : World) (mm : Int → Option Value) (j : Nat) : Prop := ∃ g c, mm (j : Int) = some (.slice (some ⟨g, 0, none⟩) (j + 1) c) ∧ Sl w w.heap.size (some ⟨g, 0, none⟩) (j + 1) 1 (natV (lst a b j))
/-- What stands while the search goes on. -/
structure CostAt (a b : List Int) (B M base : Nat) (A A' : Option Addr) (ca cb : Nat) (v3 v4 : Value) (w : World) (d : Nat) (wr : World) : Prop where
  bel : Below base w wr
  box : wr.heap[B]? = some (.cells #[.slice A a.length ca, .slice A' b.length cb, .map (some M), v3, v4] 176 (0, 0))
  map : ∃ nn mm, nn ≤ d ∧ MapV wr Tryz.prog 3 IntOk intL M nn mm ∧ ∀ j, j < d → j % 64 = 0 → SavedOk a b wr mm j
  ra : Sl wr wr.heap.size A a.length 1 (i32V a)
  rb : Sl wr wr.heap.size A' b.length 1 (i32V b)
section
variable {a b : List Int} {B M base d ca cb : Nat} {A A' : Option Addr} {v3 v4 : Value} {w wr w' : World}
theorem CostAt.below (h : CostAt a b B M base A A' ca cb v3 v4 w d wr) (hbs : base ≤ wr.heap.size) (hb : Below wr.heap.size wr w') : CostAt a b B M base A A' ca cb v3 v4 w d w' := by
  obtain ⟨nn, mm, h1, h2, h3⟩ := h.map
  refine ⟨h.bel.trans (hb.mono hbs), (hb.block B (Array.getElem?_eq_some_iff.1 h.box).1).trans h.box, ⟨nn, mm, h1, h2.below hb, fun j hj h0 => ?_⟩, (h.ra.keep hb).more hb.size, (h.rb.keep hb).more hb.size⟩
  obtain ⟨g, c, e, hs⟩ := h3 j hj h0
  exact ⟨g, c, e, (hs.keep hb).more hb.size⟩
theorem CostAt.skip (h : CostAt a b B M base A A' ca cb v3 v4 w d wr) (hd : d % 64 ≠ 0) : CostAt a b B M base A A' ca cb v3 v4 w (d + 1) wr := by
  obtain ⟨nn, mm, h1, h2, h3⟩ := h.map
  exact ⟨h.bel, h.box, ⟨nn, mm, by omega, h2, fun j hj h0 => h3 j (by by_cases e : j = d; exact absurd (e ▸ h0) hd; omega) h0⟩, h.ra, h.rb⟩
theorem CostAt.put (h : CostAt a b B M base A A' ca cb v3 v4 w d wr) (hMb : base ≤ M) (hBM : B ≠ M) (hbs : base ≤ wr.heap.size) {nn : Nat} {mm : Int → Option Value} (h1 : nn ≤ d) (h2 : MapV wr Tryz.prog 3 IntOk intL M nn mm) (h3 : ∀ j, j < d → j % 64 = 0 → SavedOk a b wr mm j) {g c : Nat}
    (hs : Sl wr wr.heap.size (some ⟨g, 0, none⟩) (d + 1) 1 (natV (lst a b d))) (hm' : MapV w' Tryz.prog 3 IntOk intL M (nn + 1) (fun k => if k = (d : Int) then some (.slice (some ⟨g, 0, none⟩) (d + 1) c) else mm k)) (hg : wr.grownBy w' (some M)) :
    CostAt a b B M base A A' ca cb v3 v4 w (d + 1) w' := by
  have hM : ∃ es c, wr.heap[M]? = some (.map es c) := by
    obtain ⟨D, ⟨es, clock, hbk, _⟩, _⟩ := h2
    exact ⟨es, clock, hbk⟩
  refine ⟨h.bel.grown hg hbs (fun k e => by rw [← Option.some.inj e]; exact hMb), (hg.block B (Array.getElem?_eq_some_iff.1 h.box).1 (fun q => hBM (Option.some.inj q))).trans h.box, ⟨nn + 1, _, by omega, hm', fun j hj h0 => ?_⟩, h.ra.grown hM hg, h.rb.grown hM hg⟩
  by_cases e : j = d
  · subst e
    exact ⟨g, c, by simp, hs.grown hM hg⟩
  · obtain ⟨g', c', e', hs'⟩ := h3 j (by omega) h0
    refine ⟨g', c', ?_, hs'.grown hM hg⟩
    show (if (j : Int) = (d : Int) then _ else _) = _
    rw [if_neg (by omega)]
    exact e'
end
theorem cost_any (a b : List Int) (B M base : Nat) (A A' : Option Addr) (ca cb : Nat) (v3 v4 : Value) (w : World) (hC : CostAt a b B M base A A' ca cb v3 v4 w 0 w) (hbs : base ≤ w.heap.size) (hBb : base ≤ B) (hMb : base ≤ M) (hBM : B ≠ M) (hn : a.length ≤ 100000) (hm : b.length ≤ 100000) :
    Calls Tryz.prog 83 #[.pointer (some ⟨B, 0, none⟩)] w fun e w' => e = .returned (.int .i64 (C a b 0 0 : Int)) ∧ CostAt a b B M base A A' ca cb v3 v4 w (C a b 0 0 + 1) w' := by
  have hDb : C a b 0 0 ≤ 200000 := by
    have h1 := C_zero_i (a := a) (b := b) a.length (Nat.le_refl _)
    have h2 := C_end (a := a) (b := b) (i := a.length) (j := 0) rfl
    omega
  have HC0 := Lib.hid hC
  clear hC
  go_enter Tryz.func83, Tryz.ntmps83
  go_wp2_with fail
  go_loopw [3, 4] (fun l t wr => ∃ d : Nat, d ≤ C a b 0 0 ∧ t = .int .i64 d ∧ w.heap.size ≤ wr.heap.size ∧ Hid (CostAt a b B M base A A' ca cb v3 v4 w d wr) ∧ Hid ((d = 0 ∧ l = .slice none 0 0) ∨ (∃ e g c, d = e + 1 ∧ l = .slice (some ⟨g, 0, none⟩) d c ∧ Sl wr wr.heap.size (some ⟨g, 0, none⟩) d 1 (natV (lst a b e))))) (fun _ t _ => C a b 0 0 + 1 - (intOf t).toNat)
  case atStart => exact ⟨0, Nat.zero_le _, rfl, Nat.le_refl _, HC0, Lib.hid (.inl ⟨rfl, rfl⟩)⟩
  case round =>
    obtain ⟨d, hd, rfl, hsz, HC, HLL⟩ := hrel
    have hbox := HC.out.box
    have hBz : B < wr.heap.size := (Array.getElem?_eq_some_iff.1 hbox).1
    have hbw : base ≤ wr.heap.size := Nat.le_trans hbs hsz
    have cA : wr.cell? ⟨B, 0, none⟩ = some (.slice A a.length ca) := cells_box hbox 0
    have cB : wr.cell? ⟨B, 1, none⟩ = some (.slice A' b.length cb) := cells_box hbox 1
    have hmt : (d : Int).tmod 64 = ((d % 64 : Nat) : Int) := by rw [Int.tmod_eq_emod_of_nonneg (by omega)]; omega
    rcases HLL.out with ⟨hd0, rfl⟩ | ⟨e, g, c, hde, rfl, hsl⟩
    · have hnx := next0_any' a b B A A' none ca cb 0 0 d hd0 wr hBz cA cB HC.out.ra HC.out.rb hn hm
      have HD0 := Lib.hid hd0
      clear hd0
      go_upto_region 5 with (go_at_call 131; refine hnx.mono ?_; rintro r w2 ⟨hb2, g2, c2, rfl, hown2⟩)
      clear hnx
      have C2 : Hid (CostAt a b B M base A A' ca cb v3 v4 w d w2) := HC.out.below hbw hb2
      have S2 : Hid (Sl w2 w2.heap.size (some ⟨g2, 0, none⟩) (d + 1) 1 (natV (lst a b d))) := Sl.of_own hown2
      have hz2 : w.heap.size ≤ w2.heap.size := Nat.le_trans hsz hb2.size
      clear hb2 hown2 cA cB hbox
      by_cases hmod : d % 64 = 0
      · rw [hmod] at hmt
        obtain ⟨nn, mm, hnn, hM, hsv⟩ := C2.out.map
        have cM : w2.cell? ⟨B, 2, none⟩ = some (.map (some M)) := cells_box C2.out.box 2
        have HM := Lib.hid hM; have HSV := Lib.hid hsv
        clear hM hsv
        go_upto_region 7 with (refine wp_mapPut rfl _ _ _ 173 rfl 75 intEnc Tryz.underlying173 rfl HM.out (by unfold maxLen; omega) (d : Int) (by unfold IntOk; simp [Lit.wf, IntKind.min, IntKind.max, IntKind.signed, IntKind.bits]; omega) rfl _ rfl ?_; intro w3 hm3 hg3)
        have C3 : Hid (CostAt a b B M base A A' ca cb v3 v4 w (d + 1) w3) := C2.out.put hMb hBM (Nat.le_trans hbs hz2) hnn HM.out HSV.out S2.out hm3 hg3
        have S3 : Hid (Sl w3 w3.heap.size (some ⟨g2, 0, none⟩) (d + 1) 1 (natV (lst a b d))) := S2.out.grown (by obtain ⟨D, ⟨es, clock, hbk, _⟩, _⟩ := HM.out; exact ⟨es, clock, hbk⟩) hg3
        have hz3 : w.heap.size ≤ w3.heap.size := Nat.le_trans hz2 hg3.size
        clear cM hm3 hg3
        have hbx := C3.out.box
        have hle := least_any a b B A A' (some ⟨g2, 0, none⟩) ca cb c2 d (lst a b d) 0 w3 (Array.getElem?_eq_some_iff.1 hbx).1 (cells_box hbx 0) (cells_box hbx 1) (by rw [lst_length]; exact S3.out) (by rw [lst_length]; omega) (lst_never (by unfold never; omega) d) hn hm (by omega) (by omega)
        rw [lst_length] at hle
        have hlz := least_zero (a := a) (b := b) (d := d) (by unfold never; omega) hd
        obtain ⟨lv, hlv⟩ : ∃ lv, leastS a b d (lst a b d) 0 = lv := ⟨_, rfl⟩
        rw [hlv] at hle hlz
        clear hbx hlv
        by_cases hlv0 : lv = 0
        · have hdD := hlz.1 hlv0
          have HDD := Lib.hid hdD
          have hlb : ((lv : Int) == 0) = true := by rw [hlv0]; rfl
          clear hdD hlz hlv0
          go_wp2_with (go_at_call 84; refine hle.mono ?_; rintro r w4 ⟨rfl, hg4⟩)
          go_ret
          have h4 := C3.out.below (Nat.le_trans hbs hz3) hg4.below
          rw [HDD.out] at h4
          exact ⟨by rw [← HDD.out]; rfl, h4⟩
        · have hlb : ((lv : Int) == 0) = false := by rw [beq_eq_false_iff_ne]; omega
          have hdD : d < C a b 0 0 := by
            rcases Nat.lt_or_eq_of_le hd with h | h
            · exact h
            · exact absurd (hlz.2 h) hlv0
          clear hlz hlv0
          go_wp2_with (go_at_call 84; refine hle.mono ?_; rintro r w4 ⟨rfl, hg4⟩)
          go_roundw
          case rel => exact ⟨d + 1, hdD, by go_num, Nat.le_trans hz3 hg4.below.size, Lib.hid (C3.out.below (Nat.le_trans hbs hz3) hg4.below), Lib.hid (.inr ⟨d, g2, c2, rfl, rfl, (S3.out.keep hg4.below).more hg4.below.size⟩)⟩
          case measure => simp [intOf]; omega

      · have hmi : (((d % 64 : Nat) : Int) == 0) = false := by rw [beq_eq_false_iff_ne]; omega
        have C3 : Hid (CostAt a b B M base A A' ca cb v3 v4 w (d + 1) w2) := C2.out.skip hmod
        go_upto_region 7 with fail
        have hbx := C3.out.box
        have hle := least_any a b B A A' (some ⟨g2, 0, none⟩) ca cb c2 d (lst a b d) 0 w2 (Array.getElem?_eq_some_iff.1 hbx).1 (cells_box hbx 0) (cells_box hbx 1) (by rw [lst_length]; exact S2.out) (by rw [lst_length]; omega) (lst_never (by unfold never; omega) d) hn hm (by omega) (by omega)
        rw [lst_length] at hle
        have hlz := least_zero (a := a) (b := b) (d := d) (by unfold never; omega) hd
        obtain ⟨lv, hlv⟩ : ∃ lv, leastS a b d (lst a b d) 0 = lv := ⟨_, rfl⟩
        rw [hlv] at hle hlz
        clear hbx hlv
        by_cases hlv0 : lv = 0
        · have hdD := hlz.1 hlv0
          have HDD := Lib.hid hdD
          have hlb : ((lv : Int) == 0) = true := by rw [hlv0]; rfl
          clear hdD hlz hlv0
          go_wp2_with (go_at_call 84; refine hle.mono ?_; rintro r w4 ⟨rfl, hg4⟩)
          go_ret
          have h4 := C3.out.below (Nat.le_trans hbs hz2) hg4.below
          rw [HDD.out] at h4
          exact ⟨by rw [← HDD.out]; rfl, h4⟩
        · have hlb : ((lv : Int) == 0) = false := by rw [beq_eq_false_iff_ne]; omega
          have hdD : d < C a b 0 0 := by
            rcases Nat.lt_or_eq_of_le hd with h | h
            · exact h
            · exact absurd (hlz.2 h) hlv0
          clear hlz hlv0
          go_wp2_with (go_at_call 84; refine hle.mono ?_; rintro r w4 ⟨rfl, hg4⟩)
          go_roundw
          case rel => exact ⟨d + 1, hdD, by go_num, Nat.le_trans hz2 hg4.below.size, Lib.hid (C3.out.below (Nat.le_trans hbs hz2) hg4.below), Lib.hid (.inr ⟨d, g2, c2, rfl, rfl, (S2.out.keep hg4.below).more hg4.below.size⟩)⟩
          case measure => simp [intOf]; omega
    · have hnx := next_any a b B A A' (some ⟨g, 0, none⟩) ca cb c e wr hBz cA cB HC.out.ra HC.out.rb (by rw [← hde]; exact hsl) hn hm (by omega)
      rw [show e + 2 = d + 1 by omega, ← hde] at hnx
      have HDE := Lib.hid hde
      clear hde
      clear hsl
      go_upto_region 5 with (go_at_call 131; refine hnx.mono ?_; rintro r w2 ⟨hb2, g2, c2, rfl, hown2⟩)
      clear hnx
      have C2 : Hid (CostAt a b B M base A A' ca cb v3 v4 w d w2) := HC.out.below hbw hb2
      have S2 : Hid (Sl w2 w2.heap.size (some ⟨g2, 0, none⟩) (d + 1) 1 (natV (lst a b d))) := Sl.of_own hown2
      have hz2 : w.heap.size ≤ w2.heap.size := Nat.le_trans hsz hb2.size
      clear hb2 hown2 cA cB hbox
      by_cases hmod : d % 64 = 0
      · rw [hmod] at hmt
        obtain ⟨nn, mm, hnn, hM, hsv⟩ := C2.out.map
        have cM : w2.cell? ⟨B, 2, none⟩ = some (.map (some M)) := cells_box C2.out.box 2
        have HM := Lib.hid hM; have HSV := Lib.hid hsv
        clear hM hsv
        go_upto_region 7 with (refine wp_mapPut rfl _ _ _ 173 rfl 75 intEnc Tryz.underlying173 rfl HM.out (by unfold maxLen; omega) (d : Int) (by unfold IntOk; simp [Lit.wf, IntKind.min, IntKind.max, IntKind.signed, IntKind.bits]; omega) rfl _ rfl ?_; intro w3 hm3 hg3)
        have C3 : Hid (CostAt a b B M base A A' ca cb v3 v4 w (d + 1) w3) := C2.out.put hMb hBM (Nat.le_trans hbs hz2) hnn HM.out HSV.out S2.out hm3 hg3
        have S3 : Hid (Sl w3 w3.heap.size (some ⟨g2, 0, none⟩) (d + 1) 1 (natV (lst a b d))) := S2.out.grown (by obtain ⟨D, ⟨es, clock, hbk, _⟩, _⟩ := HM.out; exact ⟨es, clock, hbk⟩) hg3
        have hz3 : w.heap.size ≤ w3.heap.size := Nat.le_trans hz2 hg3.size
        clear cM hm3 hg3
        have hbx := C3.out.box
        have hle := least_any a b B A A' (some ⟨g2, 0, none⟩) ca cb c2 d (lst a b d) 0 w3 (Array.getElem?_eq_some_iff.1 hbx).1 (cells_box hbx 0) (cells_box hbx 1) (by rw [lst_length]; exact S3.out) (by rw [lst_length]; omega) (lst_never (by unfold never; omega) d) hn hm (by omega) (by omega)
        rw [lst_length] at hle
        have hlz := least_zero (a := a) (b := b) (d := d) (by unfold never; omega) hd
        obtain ⟨lv, hlv⟩ : ∃ lv, leastS a b d (lst a b d) 0 = lv := ⟨_, rfl⟩
        rw [hlv] at hle hlz
        clear hbx hlv
        by_cases hlv0 : lv = 0
        · have hdD := hlz.1 hlv0
          have HDD := Lib.hid hdD
          have hlb : ((lv : Int) == 0) = true := by rw [hlv0]; rfl
          clear hdD hlz hlv0
          go_wp2_with (go_at_call 84; refine hle.mono ?_; rintro r w4 ⟨rfl, hg4⟩)
          go_ret
          have h4 := C3.out.below (Nat.le_trans hbs hz3) hg4.below
          rw [HDD.out] at h4
          exact ⟨by rw [← HDD.out]; rfl, h4⟩
        · have hlb : ((lv : Int) == 0) = false := by rw [beq_eq_false_iff_ne]; omega
          have hdD : d < C a b 0 0 := by
            rcases Nat.lt_or_eq_of_le hd with h | h
            · exact h
            · exact absurd (hlz.2 h) hlv0
          clear hlz hlv0
          go_wp2_with (go_at_call 84; refine hle.mono ?_; rintro r w4 ⟨rfl, hg4⟩)
          go_roundw
          case rel => exact ⟨d + 1, hdD, by go_num, Nat.le_trans hz3 hg4.below.size, Lib.hid (C3.out.below (Nat.le_trans hbs hz3) hg4.below), Lib.hid (.inr ⟨d, g2, c2, rfl, rfl, (S3.out.keep hg4.below).more hg4.below.size⟩)⟩
          case measure => simp [intOf]; omega

      · have hmi : (((d % 64 : Nat) : Int) == 0) = false := by rw [beq_eq_false_iff_ne]; omega
        have C3 : Hid (CostAt a b B M base A A' ca cb v3 v4 w (d + 1) w2) := C2.out.skip hmod
        go_upto_region 7 with fail
        have hbx := C3.out.box
        have hle := least_any a b B A A' (some ⟨g2, 0, none⟩) ca cb c2 d (lst a b d) 0 w2 (Array.getElem?_eq_some_iff.1 hbx).1 (cells_box hbx 0) (cells_box hbx 1) (by rw [lst_length]; exact S2.out) (by rw [lst_length]; omega) (lst_never (by unfold never; omega) d) hn hm (by omega) (by omega)
        rw [lst_length] at hle
        have hlz := least_zero (a := a) (b := b) (d := d) (by unfold never; omega) hd
        obtain ⟨lv, hlv⟩ : ∃ lv, leastS a b d (lst a b d) 0 = lv := ⟨_, rfl⟩
        rw [hlv] at hle hlz
        clear hbx hlv
        by_cases hlv0 : lv = 0
        · have hdD := hlz.1 hlv0
          have HDD := Lib.hid hdD
          have hlb : ((lv : Int) == 0) = true := by rw [hlv0]; rfl
          clear hdD hlz hlv0
          go_wp2_with (go_at_call 84; refine hle.mono ?_; rintro r w4 ⟨rfl, hg4⟩)
          go_ret
          have h4 := C3.out.below (Nat.le_trans hbs hz2) hg4.below
          rw [HDD.out] at h4
          exact ⟨by rw [← HDD.out]; rfl, h4⟩
        · have hlb : ((lv : Int) == 0) = false := by rw [beq_eq_false_iff_ne]; omega
          have hdD : d < C a b 0 0 := by
            rcases Nat.lt_or_eq_of_le hd with h | h
            · exact h
            · exact absurd (hlz.2 h) hlv0
          clear hlz hlv0
          go_wp2_with (go_at_call 84; refine hle.mono ?_; rintro r w4 ⟨rfl, hg4⟩)
          go_roundw
          case rel => exact ⟨d + 1, hdD, by go_num, Nat.le_trans hz2 hg4.below.size, Lib.hid (C3.out.below (Nat.le_trans hbs hz2) hg4.below), Lib.hid (.inr ⟨d, g2, c2, rfl, rfl, (S2.out.keep hg4.below).more hg4.below.size⟩)⟩
          case measure => simp [intOf]; omega
end Go.Proofs.YtmlhijlcefogmaaGreatDoor
