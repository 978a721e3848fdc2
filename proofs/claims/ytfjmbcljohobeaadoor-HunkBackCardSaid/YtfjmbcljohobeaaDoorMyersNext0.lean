/-
  What the search's next gives at 0: the first list. Conditions: rows of at most 100000 numbers, kept where the search's box says.
-/
import Derived.Test.YtfjmbcljohobeaaDoorMyersNext
namespace Go.Proofs.YtfjmbcljohobeaaDoor
open Go.RowKit Go.Maps Go.Shelf
set_option linter.unusedVariables false
set_option linter.unusedSimpArgs false

theorem Gr.ownNew {w w' : World} (h : Gr w w') (base : Nat) (hb : base ≤ w'.heap.size) (v : Value) (e : TypeId) : (w'.alloc (.cells #[v] e)).ownsRow base e 1 (.slice (some ⟨w'.heap.size, 0, none⟩) 1 1) 1 [v] :=
  ⟨by simp, .inr ⟨w'.heap.size, 1, #[v], rfl, hb, heap_alloc_new _ _, Nat.le_refl _, by decide, by simp, by simp⟩⟩
set_option maxHeartbeats 4000000 in
set_option maxRecDepth 100000 in
theorem next0_any (a b : List Int) (B : Nat) (A A' Al : Option Addr) (ca cb cl nl : Nat) (w : World) (hB : B < w.heap.size) (cA : w.cell? ⟨B, 0, none⟩ = some (.slice A a.length ca)) (cB : w.cell? ⟨B, 1, none⟩ = some (.slice A' b.length cb))
    (hsa : Sl w w.heap.size A a.length 1 (i32V a)) (hsb : Sl w w.heap.size A' b.length 1 (i32V b)) (hn : a.length ≤ 100000) (hm : b.length ≤ 100000) :
    Calls Tryd.prog 108 #[.pointer (some ⟨B, 0, none⟩), .int .i64 0, .slice Al nl cl] w fun r w' => Below w.heap.size w w' ∧ ∃ g c, r = .returned (.slice (some ⟨g, 0, none⟩) 1 c) ∧
      w'.ownsRow w.heap.size 21 1 (.slice (some ⟨g, 0, none⟩) 1 c) 1 (natV (lst a b 0)) := by
  have c1 := Wg.cell cA hB
  have c2 := Wg.cell cB hB
  have e1 : IntKind.i64.wrap ((a.length : Int) - (b.length : Int)) = (a.length : Int) - b.length := IntWalk.i64_in _ (by omega)
  have hsl : ∀ u : World, Gr w u → Calls Tryd.prog 139 #[.pointer (some ⟨B, 0, none⟩), .int .i64 (a.length : Int), .int .i64 ((a.length : Int) - b.length)] u fun e w' => e = .returned (.int .i32 (slideS a b a.length ((a.length : Int) - b.length) : Int)) ∧ Gr u w' := fun u hu =>
    slide_any a b B A A' ca cb a.length _ u (Nat.lt_of_lt_of_le hB hu.below.size) ((hu.below.cell (p := ⟨B, 0, none⟩) hB).trans cA) ((hu.below.cell (p := ⟨B, 1, none⟩) hB).trans cB) ((hsa.keep hu.below).more hu.below.size) ((hsb.keep hu.below).more hu.below.size) hn hm (Nat.le_refl _) (by omega) (by omega)
  have HS := Lib.hid hsl
  clear hsl hsa hsb cA cB
  go_enter Tryd.func108, Tryd.ntmps108
  go_upto_region 2 with fail
  refine wp_region_tail_wg 18 (by kernel_rfl) (by kernel_rfl) (by kernel_rfl) (by kernel_rfl) (by kernel_rfl) ?_
  simp only [List.take_succ_cons, List.take_zero, List.drop_succ_cons, List.drop_zero]
  repeat (first
    | go_big_quiet_skip
    | (go_big_quiet_want
       go_big_quiet_op
       first
         | go_big_quiet_on
         | go_big_quiet_call (first | (go_at_call 139; rename_i n; exact (HS.out n.val n.2).mono fun e w'' ⟨he, hw⟩ => ⟨he, ⟨⟨w'', n.2.trans hw⟩, rfl⟩⟩))))
  refine wpQuiet_nil ?_
  rintro w' ⟨kk, rfl⟩
  have hkk := kk.2
  generalize kk.val = w2 at *
  clear c1 c2
  go_wp2_with fail
  go_ret
  refine ⟨hkk.below.alloc hkk.below.size _, _, _, rfl, ?_⟩
  exact hkk.ownNew w.heap.size hkk.below.size _ _
end Go.Proofs.YtfjmbcljohobeaaDoor
