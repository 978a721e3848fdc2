/-
  slices.Collect of the keys of the register's map: all keys, each once, in some order. Condition: the map is one that the call made, with at most 2^40 keys.
-/
import Derived.Test.YtdgbjhfkmembdaaGreatDoorKeyIter
namespace Go.Proofs.YtdgbjhfkmembdaaGreatDoor
open Go.RowKit Go.Maps Go.Shelf
set_option linter.unusedVariables false
set_option linter.unusedSimpArgs false
attribute [local go_sem] Oper.semAt_some

theorem keyInfo : (Tryz.prog.info? 89).map (fun i => (i.zero, i.size, i.bytes)) = some (some (keyA (0, zero32, 0)), 34, 48) := by kernel_rfl
/-- A block that holds a key. -/
def KeyBox (W : World) (B : Nat) (k : KeyD) : Prop := W.heap[B]? = some (.cells (keyV k).toArray 89 (0, 0))
theorem keyBox_own (B : Nat) (k : KeyD) : Own (fun (_ : Unit) W => KeyBox W B k) := fun s X Y row hs hg hrow => by
  have hlt := (Array.getElem?_eq_some_iff.1 (show X.heap[B]? = _ from hs)).1
  refine (hg.block B hlt fun e => ?_).trans hs
  obtain ⟨o, ho, hc⟩ := hrow B e.symm
  rw [show X.heap[B]? = _ from hs] at ho; cases ho; cases hc
def keysV (ss : List KeyS) : List Value := ss.flatMap fun k => keyV k.1

set_option maxRecDepth 100000 in
set_option maxHeartbeats 2000000 in
theorem appSeq_in (F : Fence) (n : Nat) (hf : F.fn 174) (hro : F.round = none) (hn : 2 ≤ n) (g : Nat) (lb : Array Value) (hFg : F.fn g) (eg : ∀ args w, (callFunc g args).run Tryz.prog w = .ok (.enter g args) w)
    (S Sp : List KeyS → Prop) (N : Nat) (hN : N ≤ 1099511627776) (w : World) (hseq : SeqStopsK F (n - 1) Tryz.prog g lb (fun x : KeyS => #[keyA x.1]) KeepsWalks S Sp N w) :
    CallsIn F n Tryz.prog 174 #[.slice none 0 0, .func (.func g) #[] lb] w fun e w' => ∃ (v : Value) (ss : List KeyS), e = .returned v ∧ S ss ∧ w'.ownsRow w.heap.size 89 34 v ss.length (keysV ss) ∧ (v = .slice none 0 0 ↔ ss = []) ∧ Below w.heap.size w w' := by
  have h1 : 1 ≤ n := by omega
  obtain ⟨i0, hi, hz0, hz1, hz2⟩ := info_parts keyInfo
  refine callsIn_of_wp_marks Tryz.func174 rfl hf ?_ hro
  simp only [Tryz.ntmps174, List.size_toArray, List.length_cons, List.length_nil, Nat.reduceAdd, Nat.reduceSub, Array.replicate_succ, Array.replicate_zero, List.push_toArray, List.append_toArray, List.nil_append, List.cons_append]
  gi_wp2
  have hW0s : (w.alloc (.cells #[.slice none 0 0] 161)).heap.size = w.heap.size + 1 := by simp
  have bS := Boxed.new w 161 (.slice none 0 0)
  have hB0 : Below w.heap.size w (w.alloc (.cells #[.slice none 0 0] 161)) := (Below.refl _ w).alloc (Nat.le_refl _) _
  have hnil : (w.alloc (.cells #[.slice none 0 0] 161)).ownsRow w.heap.size 89 34 (.slice none 0 0) 0 [] := ⟨rfl, .inl ⟨rfl, rfl⟩⟩
  generalize hW0 : w.alloc (.cells #[.slice none 0 0] 161) = W0 at *
  clear hW0
  refine wpIn_rangeFunc_ownH hro h1 (gf := g) (lb := lb) rfl hFg eg hseq walksK_t walksK_b hB0 (fun _ => rfl)
    (fun pre W => (∃ v, Boxed W w.heap.size 161 v ∧ W.ownsRow w.heap.size 89 34 v pre.length (keysV pre) ∧ (v = .slice none 0 0 ↔ pre = [])) ∧ Below w.heap.size w W)
    (fun _ _ _ => False)
    (OwnFrom.and (Own.from (holdsRow_own w.heap.size w.heap.size 161 89 34 (fun pre : List KeyS => pre.length) (fun pre => keysV pre) (fun pre v => v = .slice none 0 0 ↔ pre = [])) _) (ownFrom_below (Nat.le_refl _) (by omega)))
    (fun _ _ _ _ _ hs _ _ => hs)
    ⟨⟨_, bS, hnil, by simp⟩, hB0⟩
    (fun x a' W => ∃ Bx, w.heap.size < Bx ∧ KeyBox W Bx x.1 ∧ a' = { tmps := #[.slice none 0 0, .func (.func g) #[] lb, .pointer (some ⟨w.heap.size, 0, none⟩), undef, .slice none 0 0, .pointer (some ⟨Bx, 0, none⟩), .func (.func g) #[] lb, keyA x.1, undef, undef, undef, undef, undef], defers := [] })
    (fun x a' _ X Y row hs hg hr => by obtain ⟨Bx, h1, h2, h3⟩ := hs; exact ⟨Bx, h1, keyBox_own Bx x.1 () X Y row h2 hg (fun r e => (hr r e).2), h3⟩)
    ?assign ?body ?done ?stop
  case assign =>
    rintro l pre x W K ⟨⟨v, bv, hr, hv⟩, hB⟩ hK
    obtain ⟨g1, g2, g3⟩ := grown_box W (keyV (0, zero32, 0)).toArray (keyV x.1).toArray 89
    have hst := fun (ρ : Operand → Value) (o : Oper) (p y : Operand) (ho : o.op = .store 89 p y) hx hy => ex_storeRow (P := Tryz.prog) (w := W.alloc (.cells (keyV (0, zero32, 0)).toArray 89)) (ρ := ρ) 89 p y ho W.heap.size (keyV x.1).toArray hx hy 89 (keyV (0, zero32, 0)).toArray (heap_alloc_new _ _) (keyV_info x.2) (by rw [List.size_toArray, List.size_toArray, keyV_length x.2]; rfl) (by simpa using keyV_one x.1)
    have HST := Lib.hid hst
    clear hst
    generalize (W.alloc (.cells (keyV (0, zero32, 0)).toArray 89)).setRow W.heap.size (keyV x.1).toArray = W3 at *
    gi_wp2_with (first
      | (refine wpListIn_none rfl (by intro c h; cases h) (by intro c h; cases h) (HST.out _ _ _ _ rfl rfl rfl) ?_)
      | gi_in)
    refine hK _ _ ((KeepsOthers.of_grownBy g1 (fun j o e => by cases e)).from _) (KeepsWalks.of_grownBy g1 (fun j o e => by cases e)) ⟨⟨v, bv.kept g1 (by simp), hr.kept g1 ?_, hv⟩, hB.grown g1 hB.size (fun k e => by cases e)⟩ ⟨W.heap.size, bv.lt, g2, rfl⟩
    cases hvb : v.ownBlock with
    | none => exact .inl rfl
    | some b => exact .inr (by simp)
  case body =>
    rintro l pre x a' W hl ⟨r, hr⟩ ⟨⟨v, bv, hrow, hv⟩, hB⟩ ⟨Bx, hBx, bX, rfl⟩ hlt
    have hv1 := bv.cell
    have hsB := hB.size
    have hm1 : pre.length + 1 ≤ maxLen := by unfold maxLen; omega
    have hm2 : (pre.length + 1) * 48 ≤ 140737488355328 := by omega
    have hld := fun (W1 : World) (hb : KeyBox W1 Bx x.1) (ρ : Operand → Value) (o : Oper) (p : Operand) (ho : o.op = .load 89 p) hx => ex_load (P := Tryz.prog) (ρ := ρ) (w := W1) 89 p ho (p := ⟨Bx, 0, none⟩) hx (run_loadVar_row W1 Bx 89 89 _ (0, 0) _ hb Tryz.underlying89 rfl (keyV_info x.2))
    have hbs := fun (ρ : Operand → Value) (o : Oper) (p : Operand) (ho : o.op = .buildSlice 161 1 #[(0, p)]) hx => ex_buildSlice1 (P := Tryz.prog) (w := W) (ρ := ρ) 161 p ho 89 Tryz.underlying161 (keyA (0, zero32, 0)) 34 48 keyInfo rfl (by decide) (by decide) (keyV x.1) (keyV_length x.2) hx
    have HLD := Lib.hid (hld W bX); have HBS := Lib.hid hbs
    have hcells : ∀ j u, (keyV x.1)[j]? = some u → (W.alloc (.cells (keyV x.1).toArray 89)).cell? ((⟨W.heap.size, 0, none⟩ : Addr).add j) = some u := by
      intro j u hj
      rw [Addr.add_mid, cells_box (heap_alloc_new _ _)]
      simpa using hj
    have HCL := Lib.hid hcells
    clear hld hbs hcells
    gi_wp2_with (first
      | ((with_reducible refine wpListIn_val rfl ?_ ?_ (HLD.out _ _ (.tmp 5) ?_ ?_) ?_)
         · intro c h; cases h
         · intro c h; cases h
         · with_reducible exact rfl
         · exact rfl)
      | ((with_reducible refine wpListIn_val rfl ?_ ?_ (HBS.out _ _ (.tmp 9) ?_ ?_) ?_)
         · intro c h; cases h
         · intro c h; cases h
         · with_reducible exact rfl
         · exact rfl)
      | (gi_at_builtin; refine wpListIn_append_own _ rfl _ _ 161 rfl w.heap.size 89 i0 (keyA (0, zero32, 0)) 34 48 Tryz.underlying161 hi hz0 hz1 hz2 rfl (by decide) _ _ _ rfl (hrow.alloc _) ⟨W.heap.size, 0, none⟩ 1 1 (keyV x.1) rfl (by rw [keyV_length x.2]) HCL.out (keyV_one x.1) hm1 hm2 (by simp; omega) ?_; intro v' w1 hown' hgrow _; obtain ⟨g', cap', rfl⟩ := ownsRow_succ hown'; obtain ⟨hv1, hv2, hr2, hk2, hb2⟩ := bv.appended (by decide) hrow hB.size (Nat.le_refl _) hown' hgrow; have hc1 := hv1.cell; have hf1 := hv1.frozen)
      | gi_in)
    have hr3 := hr2
    rw [show keysV pre ++ keyV x.1 = keysV (pre ++ [x]) by simp [keysV]] at hr3
    exact ⟨hk2.from _, hk2.walks, ⟨_, hv2, by simpa using hr3, by simp⟩, hB.trans hb2⟩
  case done =>
    rintro D zs W hD hS ⟨⟨v, bv, hrow, hv⟩, hB⟩ hK
    have cS := bv.cell
    gi_wp2
    refine ⟨by simp, .inl ⟨_, _, rfl, run_takeDeferred hK, ?_⟩⟩
    exact ⟨_, results_tmp rfl _ _ _, v, zs, rfl, hS, ownsRow_putObj hrow _ hK rfl, hv, hB.trans (belowK_b (w := w) (Nat.le_refl _) W D _ _ (by omega) hK rfl rfl)⟩
  case stop =>
    rintro D c pre W _ _ h _
    exact h.elim

set_option maxHeartbeats 1000000 in
theorem collect_in (F : Fence) (n : Nat) (hf : F.fn 124) (hf2 : F.fn 174) (hro : F.round = none) (hn : 3 ≤ n) (g : Nat) (lb : Array Value) (hFg : F.fn g) (eg : ∀ args w, (callFunc g args).run Tryz.prog w = .ok (.enter g args) w)
    (S Sp : List KeyS → Prop) (N : Nat) (hN : N ≤ 1099511627776) (w : World) (hseq : SeqStopsK F (n - 1 - 1) Tryz.prog g lb (fun x : KeyS => #[keyA x.1]) KeepsWalks S Sp N w) :
    CallsIn F n Tryz.prog 124 #[.func (.func g) #[] lb] w fun e w' => ∃ (v : Value) (ss : List KeyS), e = .returned v ∧ S ss ∧ w'.ownsRow w.heap.size 89 34 v ss.length (keysV ss) ∧ (v = .slice none 0 0 ↔ ss = []) ∧ Below w.heap.size w w' := by
  have h1 : 1 ≤ n := by omega
  refine callsIn_of_wp Tryz.func124 rfl hf ?_ hro
  simp only [Tryz.ntmps124, List.size_toArray, List.length_cons, List.length_nil, Nat.reduceAdd, Nat.reduceSub, Array.replicate_succ, Array.replicate_zero, List.push_toArray, List.append_toArray, List.nil_append, List.cons_append]
  gi_wp2_with (gi_at_call 174; refine (appSeq_in F (n - 1) hf2 hro (by omega) g lb hFg eg S Sp N hN _ hseq).mono ?_; rintro e w' ⟨v, ss, rfl, hS, hrow, hnil, hb⟩)
  go_ret
  exact ⟨v, ss, rfl, hS, hrow, hnil, hb⟩
end Go.Proofs.YtdgbjhfkmembdaaGreatDoor
