/-
  A region that draws its order, in the worlds that only drew and grew. Conditions: as the law says.
  The contracts of Go's library that this claim uses, laid at this program by the kit's tools (lay-shelf, lay-plain). Conditions: as each says.
  What the program's order gives of ids: Compare, IsSet, place, Find. Conditions: ids of 32 bytes; as each says.
  Ids, refs and keys of the program: compared cell by cell; read from what came in. Conditions: the values are well formed, as each says.
  What the program's order of keys gives. Conditions: the keys are well formed.
  What hunk.Split gives: a text's lines. Conditions: texts of at most a million bytes; the library's variable MaxLen holds a number.
  What the search's diagonal, slide and least give. Conditions: rows of at most 100000 numbers, kept where the search's box says.
  What the search's least gives. Conditions: rows of at most 100000 numbers, kept where the search's box says; a list of at most a million places.
  What the closure of the search's next does: the lesser of two places, if the new one may be. Conditions: the captured variables lie in blocks of their own.
-/
import Derived.Test.YtmlhijlcefogmaaGreatDoorMerged8
import Derived.Shelf.Strings.Builder1
import Derived.Shelf.Small.Strs
import Derived.Shelf.Strconv.Itoa0
import Derived.Shelf.Strconv.Itoa1
import Derived.Shelf.LaysM
import Derived.Shelf.Strconv.Itoa2
import Derived.Shelf.Strconv.Itoa3
import Derived.Shelf.Strings.Search1
import Derived.Shelf.Strings.Search2
import Derived.Shelf.Strings.Search3
import Derived.Shelf.Strings.Count
import Derived.Shelf.Strings.Shaped
import Derived.Shelf.Strings.Prefix
import Derived.Shelf.Strings.Split
import Derived.Shelf.Strings.SplitShaped
import Derived.Shelf.Unicode.DecodeSlow
import Derived.Test.YtmlhijlcefogmaaGreatDoorProg
import Derived.Test.YtmlhijlcefogmaaGreatDoorMerged5
import Derived.Test.YtmlhijlcefogmaaGreatDoorMerged7
import Derived.Lib.SlBytesRow
import Derived.Lib.BytesEntry
import Derived.Handy
import Derived.PlainAid
import Derived.Lib.Hide
import Derived.Deep.QuietTactic
import Derived.BigQuiet
import Derived.StillTailTactics
import Derived.Deep.CutRange
import Derived.Deep.MidRow
import Derived.Test.YtmlhijlcefogmaaGreatDoorMerged1
import Derived.IntWalk
import Derived.Test.YtmlhijlcefogmaaGreatDoorMerged2
import Derived.OneCell
set_option linter.unusedVariables false
set_option linter.unusedSimpArgs false
set_option maxHeartbeats 4000000
set_option maxRecDepth 100000
namespace Go.Proofs.YtmlhijlcefogmaaGreatDoor
open Go.RowKit

theorem wp_region_wr {P : Program} {id : Nat} {Q : Exit → Act → World → Prop} {a : Act} {w : World} {l : List Oper} (hm : P.follows .mixedOrders = true) (hB : Region.lexB .any l.toArray = true)
    (h : wpQuiet P l.toArray (fun w' => ∃ n : Wg w, w' = n.val) (fun a' => ∀ w', (∃ n : Wg w, w' = n.val) → Q .normal a' w') l a) : (Code.region id l.toArray true).wp P Q a w :=
  wp_region_quiet (C := fun w' => ∃ n : Wg w, w' = n.val) hm hB ⟨⟨_, (Gr.refl w).drew⟩, rfl⟩ (by simpa using h)
end Go.Proofs.YtmlhijlcefogmaaGreatDoor
namespace Go.Proofs
open Go.Shelf
end Go.Proofs
namespace Go.Proofs.YtmlhijlcefogmaaGreatDoor
open Go.RowKit

end Go.Proofs.YtmlhijlcefogmaaGreatDoor
namespace Go.Proofs.YtmlhijlcefogmaaGreatDoor
open Go.RowKit

section
variable {P : Program} {t u i a : TypeId}
end
/-- A ref: an id, an index. -/
abbrev RefD := List UInt8 × Int
def refV (r : RefD) : List Value := idV r.1 ++ [.int .i64 r.2]
def RefOk (r : RefD) : Prop := IdOk r.1 ∧ (Lit.int .i64 r.2).wf = true
end Go.Proofs.YtmlhijlcefogmaaGreatDoor
namespace Go.Proofs.YtmlhijlcefogmaaGreatDoor
open Go.RowKit

theorem cells_box {w : World} {g : Nat} {cs : List Value} {t : TypeId} {fr : Nat × Nat} (h : w.heap[g]? = some (.cells cs.toArray t fr)) (j : Nat) : w.cell? ⟨g, j, none⟩ = cs[j]? := by
  rw [cell_of_row w g j _ t fr h]
  simp

end Go.Proofs.YtmlhijlcefogmaaGreatDoor
namespace Go.Proofs.YtmlhijlcefogmaaGreatDoor
open Go.RowKit Go.Shelf

end Go.Proofs.YtmlhijlcefogmaaGreatDoor
namespace Go.Proofs.YtmlhijlcefogmaaGreatDoor
open Go.RowKit Go.Maps Go.Shelf

def i32V (l : List Int) : List Value := l.map fun x => .int .i32 x
theorem ret_i32 {x y : Int} (h : x = y) : Ending.returned (.int .i32 x) = .returned (.int .i32 y) := by rw [h]
theorem diag_any (B : Nat) (A A' : Option Addr) (n m ca cb : Nat) (d t : Nat) (w : World) (hB : B < w.heap.size) (cA : w.cell? ⟨B, 0, none⟩ = some (.slice A n ca)) (cB : w.cell? ⟨B, 1, none⟩ = some (.slice A' m cb))
    (hn : n ≤ 100000) (hm : m ≤ 100000) (hd : d ≤ 1000000) (ht : t ≤ 1000000) :
    Calls Tryz.prog 132 #[.pointer (some ⟨B, 0, none⟩), .int .i64 (d : Int), .int .i64 (t : Int)] w fun e w' => e = .returned (.int .i64 ((n : Int) - m - d + 2 * t)) ∧ Gr w w' := by
  have c1 := Wg.cell cA hB
  have c2 := Wg.cell cB hB
  have e1 : IntKind.i64.wrap ((n : Int) - (m : Int)) = (n : Int) - m := IntWalk.i64_in _ (by omega)
  have e2 : IntKind.i64.wrap ((n : Int) - (m : Int) - (d : Int)) = (n : Int) - m - d := IntWalk.i64_in _ (by omega)
  have e3 : IntKind.i64.wrap (2 * (t : Int)) = 2 * (t : Int) := IntWalk.i64_in _ (by omega)
  have e4 : IntKind.i64.wrap ((n : Int) - (m : Int) - (d : Int) + 2 * (t : Int)) = (n : Int) - m - d + 2 * t := IntWalk.i64_in _ (by omega)
  go_enter Tryz.func132, Tryz.ntmps132
  go_wp2_with fail
  refine wp_region_wr (by kernel_rfl) (by kernel_rfl) ?_
  repeat (first
    | go_big_quiet_skip
    | (go_big_quiet_want
       first
         | (go_big_quiet_op
            first
              | go_big_quiet_on
              | go_big_quiet_call (first | (fail)))))
  refine wpQuiet_nil ?_
  rintro w' ⟨kk, rfl⟩
  have hkk := kk.2
  generalize kk.val = w11 at *

  go_wp2_with fail
  go_ret
  exact ⟨rfl, hkk⟩
theorem slide_any (a b : List Int) (B : Nat) (A A' : Option Addr) (ca cb : Nat) (i : Nat) (k : Int) (w : World) (hB : B < w.heap.size) (cA : w.cell? ⟨B, 0, none⟩ = some (.slice A a.length ca)) (cB : w.cell? ⟨B, 1, none⟩ = some (.slice A' b.length cb))
    (hsa : Sl w w.heap.size A a.length 1 (i32V a)) (hsb : Sl w w.heap.size A' b.length 1 (i32V b)) (hn : a.length ≤ 100000) (hm : b.length ≤ 100000) (hi : i ≤ a.length) (hj : (i : Int) - k ≤ b.length) (hk : -1000000 ≤ k ∧ k ≤ 1000000) :
    Calls Tryz.prog 176 #[.pointer (some ⟨B, 0, none⟩), .int .i64 (i : Int), .int .i64 k] w fun e w' => e = .returned (.int .i32 (slideS a b i k : Int)) ∧ Gr w w' := by
  have HSA := Lib.hid hsa; have HSB := Lib.hid hsb; have HCA := Lib.hid cA; have HCB := Lib.hid cB
  clear hsa hsb cA cB
  go_enter Tryz.func176, Tryz.ntmps176
  go_wp2_with fail
  go_loopw [1] (fun t wr => ∃ x : Nat, x ≤ i ∧ t = .int .i64 x ∧ Gr w wr ∧ Hid (slideS a b x k = slideS a b i k)) (fun t _ => (intOf t).toNat)
  case atStart => exact ⟨i, Nat.le_refl _, rfl, Gr.refl _, Lib.hid rfl⟩
  case round =>
    obtain ⟨x, hx, rfl, hgr, hS⟩ := hrel
    have hbl := hgr.below
    have c1 := Wg.cell (w := wr) ((hbl.cell (p := ⟨B, 0, none⟩) hB).trans HCA.out) (Nat.lt_of_lt_of_le hB hbl.size)
    have c2 := Wg.cell (w := wr) ((hbl.cell (p := ⟨B, 1, none⟩) hB).trans HCB.out) (Nat.lt_of_lt_of_le hB hbl.size)
    have HGR := Lib.hid hgr
    rcases Nat.eq_zero_or_pos x with hx0 | hx0
    · have d1 : decide ((0 : Int) < (x : Int)) = false := by rw [decide_eq_false_iff_not]; omega
      have d2 : ¬ (0 : Int) < (x : Int) := by omega
      have d3 : decide (0 < x) = false := by rw [decide_eq_false_iff_not]; omega
      have hrs := hS.out
      rw [hx0] at hrs
      have HRS := Lib.hid (show (x : Int) = (slideS a b i k : Int) by rw [hx0, ← hrs]; rfl)
      have e5 : IntKind.i32.wrap (x : Int) = (x : Int) := IntWalk.i32_in _ (by omega)
      clear hx0 hrs hgr hbl
      go_wp2_with fail
      refine wp_region_wr (by kernel_rfl) (by kernel_rfl) ?_
      repeat (first
        | go_big_quiet_skip
        | (go_big_quiet_want
           first
             | (go_big_quiet_op
                first
                  | go_big_quiet_on
                  | go_big_quiet_call (first | (fail)))))
      refine wpQuiet_nil ?_
      rintro w' ⟨kk, rfl⟩
      have hkk := kk.2
      generalize kk.val = w11 at *

      clear c1 c2 d1 d2 d3
      go_wp2_with fail
      go_ret
      exact ⟨ret_i32 HRS.out, HGR.out.trans hkk⟩
    · obtain ⟨q, hq⟩ : ∃ q, x = q + 1 := ⟨x - 1, by omega⟩
      have d1 : decide ((0 : Int) < (x : Int)) = true := by rw [decide_eq_true_iff]; omega
      have d2 : (0 : Int) < (x : Int) := by omega
      have d3 : decide (0 < x) = true := by rw [decide_eq_true_iff]; omega
      have e1 : IntKind.i64.wrap ((x : Int) - k) = (x : Int) - k := IntWalk.i64_in _ (by omega)
      have e5 : IntKind.i32.wrap (x : Int) = (x : Int) := IntWalk.i32_in _ (by omega)
      by_cases hp : 0 < (x : Int) - k
      · have d4 : decide (k < (x : Int)) = true := by rw [decide_eq_true_iff]; omega
        have d5 : k < (x : Int) := by omega
        obtain ⟨j, hjq⟩ : ∃ j : Nat, (j : Int) = (x : Int) - k - 1 := ⟨((x : Int) - k - 1).toNat, by omega⟩
        have hqa : q < a.length := by omega
        have hjb : j < b.length := by omega
        have e2 : IntKind.i64.wrap ((x : Int) - 1) = (q : Int) := by rw [IntWalk.i64_in _ (by omega)]; omega
        have e3 : IntKind.i64.wrap ((x : Int) - k - 1) = (j : Int) := by rw [IntWalk.i64_in _ (by omega)]; omega
        obtain ⟨bA, oA, rfl, hbA, hcA⟩ := (HSA.out.keep hbl).2 (by omega)
        obtain ⟨bB, oB, rfl, hbB, hcB⟩ := (HSB.out.keep hbl).2 (by omega)
        have ca := Wg.cell (w := wr) (hcA q (.int .i32 a[q]) (by simp [i32V, hqa])) (Nat.lt_of_lt_of_le hbA hbl.size)
        have cb := Wg.cell (w := wr) (hcB j (.int .i32 b[j]) (by simp [i32V, hjb])) (Nat.lt_of_lt_of_le hbB hbl.size)
        have q0 : (0 : Int) ≤ (q : Int) := by omega
        have q1 : (q : Int) < (a.length : Int) := by omega
        have j0 : (0 : Int) ≤ (j : Int) := by omega
        have j1 : (j : Int) < (b.length : Int) := by omega
        by_cases he : a[q] = b[j]
        · have hst : slideS a b q k = slideS a b i k := by
            have hcond : 0 < (q : Int) + 1 - k ∧ a[q]? = b[((q : Int) - k).toNat]? := ⟨by omega, by rw [List.getElem?_eq_getElem hqa, he, show ((q : Int) - k).toNat = j by omega, List.getElem?_eq_getElem hjb]⟩
            rw [← hS.out, hq, slideS, if_pos hcond]
          have HST := Lib.hid hst
          have hv : (a[q] == b[j]) = true := by rw [he]; exact beq_self_eq_true _
          generalize a[q] = u at *
          generalize b[j] = v at *
          have HQ : Hid (q + 1 = x) := hq.symm
          clear hcA hcB hst he hq hjq hgr hbl hS
          go_wp2_with fail
          refine wp_region_wr (by kernel_rfl) (by kernel_rfl) ?_
          repeat (first
            | go_big_quiet_skip
            | (go_big_quiet_want
               first
                 | (go_big_quiet_op
                    first
                      | go_big_quiet_on
                      | go_big_quiet_call (first | (fail)))))
          refine wpQuiet_nil ?_
          rintro w' ⟨kk, rfl⟩
          have hkk := kk.2
          generalize kk.val = w11 at *

          clear c1 c2 ca cb d1 d2 d3 d4 d5 hv
          go_wp2_with fail
          go_roundw
          case rel => exact ⟨q, by have := HQ.out; omega, by go_num, HGR.out.trans hkk, HST⟩
          case measure => have := HQ.out; simp [intOf]; omega
        · have hst : slideS a b x k = x := by
            have hcn : ¬ (0 < (q : Int) + 1 - k ∧ a[q]? = b[((q : Int) - k).toNat]?) := by
              rintro ⟨_, h⟩
              rw [List.getElem?_eq_getElem hqa, show ((q : Int) - k).toNat = j by omega, List.getElem?_eq_getElem hjb] at h
              exact he (Option.some.inj h)
            rw [hq, slideS, if_neg hcn]
          have HRS := Lib.hid (show (x : Int) = (slideS a b i k : Int) by rw [← hS.out, hst])
          have hv : (a[q] == b[j]) = false := by rw [beq_eq_false_iff_ne]; exact he
          generalize a[q] = u at *
          generalize b[j] = v at *
          clear hcA hcB hst he hq hjq hgr hbl hS
          go_wp2_with fail
          refine wp_region_wr (by kernel_rfl) (by kernel_rfl) ?_
          repeat (first
            | go_big_quiet_skip
            | (go_big_quiet_want
               first
                 | (go_big_quiet_op
                    first
                      | go_big_quiet_on
                      | go_big_quiet_call (first | (fail)))))
          refine wpQuiet_nil ?_
          rintro w' ⟨kk, rfl⟩
          have hkk := kk.2
          generalize kk.val = w11 at *

          clear c1 c2 ca cb d1 d2 d3 d4 d5 hv
          go_wp2_with fail
          go_ret
          exact ⟨ret_i32 HRS.out, HGR.out.trans hkk⟩
      · have d4 : decide (k < (x : Int)) = false := by rw [decide_eq_false_iff_not]; omega
        have d5 : ¬ k < (x : Int) := by omega
        have hst : slideS a b x k = x := by
          have hcn : ¬ (0 < (q : Int) + 1 - k ∧ a[q]? = b[((q : Int) - k).toNat]?) := by
            rintro ⟨h, _⟩
            omega
          rw [hq, slideS, if_neg hcn]
        have HRS := Lib.hid (show (x : Int) = (slideS a b i k : Int) by rw [← hS.out, hst])
        clear hst hq hgr hbl hS
        go_wp2_with fail
        refine wp_region_wr (by kernel_rfl) (by kernel_rfl) ?_
        repeat (first
          | go_big_quiet_skip
          | (go_big_quiet_want
             first
               | (go_big_quiet_op
                  first
                    | go_big_quiet_on
                    | go_big_quiet_call (first | (fail)))))
        refine wpQuiet_nil ?_
        rintro w' ⟨kk, rfl⟩
        have hkk := kk.2
        generalize kk.val = w11 at *

        clear c1 c2 d1 d2 d3 d4 d5
        go_wp2_with fail
        go_ret
        exact ⟨ret_i32 HRS.out, HGR.out.trans hkk⟩
end Go.Proofs.YtmlhijlcefogmaaGreatDoor
namespace Go.Proofs.YtmlhijlcefogmaaGreatDoor
open Go.RowKit Go.Maps Go.Shelf

def natV (l : List Nat) : List Value := l.map fun x : Nat => .int .i32 (x : Int)
theorem ret_i64 {x y : Int} (h : x = y) : Ending.returned (.int .i64 x) = .returned (.int .i64 y) := by rw [h]
theorem addr_eq {b0 o0 b1 o1 : Nat} (h : some (⟨b0, o0, none⟩ : Addr) = some ⟨b1, o1, none⟩) : b1 = b0 ∧ o1 = o0 := by
  injection h with h
  injection h with h1 h2
  exact ⟨h1.symm, h2.symm⟩
theorem least_any (a b : List Int) (B : Nat) (A A' Al : Option Addr) (ca cb cl : Nat) (d : Nat) (l : List Nat) (k : Int) (w : World) (hB : B < w.heap.size) (cA : w.cell? ⟨B, 0, none⟩ = some (.slice A a.length ca)) (cB : w.cell? ⟨B, 1, none⟩ = some (.slice A' b.length cb))
    (hsl : Sl w w.heap.size Al l.length 1 (natV l)) (hl : l.length ≤ 1000000) (hle : ∀ x ∈ l, x ≤ never) (hn : a.length ≤ 100000) (hm : b.length ≤ 100000) (hd : d ≤ 1000000) (hk : -1000000 ≤ k ∧ k ≤ 1000000) :
    Calls Tryz.prog 84 #[.pointer (some ⟨B, 0, none⟩), .int .i64 (d : Int), .slice Al l.length cl, .int .i64 k] w fun e w' => e = .returned (.int .i64 (leastS a b d l k : Int)) ∧ Gr w w' := by
  have hdg := diag_any B A A' a.length b.length ca cb d 0 w hB cA cB hn hm hd (by omega)
  obtain ⟨D0, hD0⟩ : ∃ D0 : Int, (a.length : Int) - b.length - d + 2 * ((0 : Nat) : Int) = D0 := ⟨_, rfl⟩
  rw [hD0, show ((0 : Nat) : Int) = 0 from rfl] at hdg
  have hdz : dg a b d 0 = D0 := by rw [← hD0]; rfl
  have HSL := Lib.hid hsl; have HLE := Lib.hid hle
  clear hsl hle
  obtain ⟨u, hu⟩ : ∃ u : Int, k - D0 = u := ⟨_, rfl⟩
  have e0 : IntKind.i64.wrap (k - D0) = u := by rw [IntWalk.i64_in _ (by omega)]; exact hu
  have HU : Hid (k - dg a b d 0 = u) := by rw [hdz]; exact hu
  have hur : -3000000 ≤ u ∧ u ≤ 3000000 := by omega
  clear hu hdz hD0 cA cB
  rcases (by omega : u < 0 ∨ 0 ≤ u) with h0 | h0
  · have HV := Lib.hid (show (2147483647 : Int) = (leastS a b d l k : Int) by unfold leastS; rw [HU.out, if_pos (.inl h0)]; rfl)
    have d1 : decide (u < 0) = true := by rw [decide_eq_true_iff]; exact h0
    go_enter Tryz.func84, Tryz.ntmps84
    go_wp2_with (go_at_call 132; refine hdg.mono ?_; rintro e w2 ⟨rfl, hg2⟩)
    go_ret
    exact ⟨ret_i64 HV.out, hg2⟩
  · have h0' : ¬ u < 0 := by omega
    have d1 : decide (u < 0) = false := by rw [decide_eq_false_iff_not]; exact h0'
    have hm1 : u.tmod 2 = u % 2 := Int.tmod_eq_emod_of_nonneg h0
    have hq1 : u.tdiv 2 = u / 2 := Int.tdiv_eq_ediv_of_nonneg h0
    rcases (by omega : u % 2 = 1 ∨ u % 2 = 0) with h1 | h1
    · have HV := Lib.hid (show (2147483647 : Int) = (leastS a b d l k : Int) by unfold leastS; rw [HU.out, if_pos (.inr (.inl (by omega)))]; rfl)
      rw [h1] at hm1
      clear h1 hq1
      go_enter Tryz.func84, Tryz.ntmps84
      go_wp2_with (go_at_call 132; refine hdg.mono ?_; rintro e w2 ⟨rfl, hg2⟩)
      go_ret
      exact ⟨ret_i64 HV.out, hg2⟩
    · rw [h1] at hm1
      obtain ⟨q, hq⟩ : ∃ q : Nat, u / 2 = (q : Int) := ⟨(u / 2).toNat, by omega⟩
      rw [hq] at hq1
      have e6 : IntKind.i64.wrap (q : Int) = (q : Int) := IntWalk.i64_in _ (by omega)
      by_cases hlen : q < l.length
      · have HV := Lib.hid (show ((l[q] : Nat) : Int) = (leastS a b d l k : Int) by
          unfold leastS
          rw [HU.out, if_neg (by omega), hq, Int.toNat_natCast, List.getD_eq_getElem?_getD, List.getElem?_eq_getElem hlen]
          rfl)
        have d2 : ¬ (l.length : Int) ≤ (q : Int) := by omega
        have d3 : decide ((l.length : Int) ≤ (q : Int)) = false := by rw [decide_eq_false_iff_not]; exact d2
        have q0 : (0 : Int) ≤ (q : Int) := by omega
        have q1 : (q : Int) < (l.length : Int) := by omega
        have hxx : l[q] ≤ never := HLE.out _ (List.getElem_mem hlen)
        have e7 : IntKind.i64.wrap ((l[q] : Nat) : Int) = ((l[q] : Nat) : Int) := IntWalk.i64_in _ (by unfold never at hxx; omega)
        have hcell : ∀ u : World, Gr w u → ∃ b off, Al = some ⟨b, off, none⟩ ∧ u.cell? ⟨b, off + q, none⟩ = some (.int .i32 ((l[q] : Nat) : Int)) := by
          intro u hu
          obtain ⟨b, off, e, hb, hc⟩ := (HSL.out.keep hu.below).2 (by omega)
          exact ⟨b, off, e, hc q _ (by simp [natV, hlen])⟩
        have HC := Lib.hid hcell
        obtain ⟨b0, o0, rfl, _⟩ := hcell w (Gr.refl w)
        generalize l[q] = x at *
        clear h1 hq hcell hxx
        go_enter Tryz.func84, Tryz.ntmps84
        go_wp2_with (go_at_call 132; refine hdg.mono ?_; rintro e w2 ⟨rfl, hg2⟩; obtain ⟨b1, o1, hbo, hc2⟩ := HC.out w2 hg2; obtain ⟨rfl, rfl⟩ := addr_eq hbo)
        go_ret
        exact ⟨ret_i64 HV.out, hg2⟩
      · have HV := Lib.hid (show (2147483647 : Int) = (leastS a b d l k : Int) by unfold leastS; rw [HU.out, if_pos (.inr (.inr (by omega)))]; rfl)
        have d2 : (l.length : Int) ≤ (q : Int) := by omega
        have d3 : decide ((l.length : Int) ≤ (q : Int)) = true := by rw [decide_eq_true_iff]; exact d2
        clear h1 hq
        go_enter Tryz.func84, Tryz.ntmps84
        go_wp2_with (go_at_call 132; refine hdg.mono ?_; rintro e w2 ⟨rfl, hg2⟩)
        go_ret
        exact ⟨ret_i64 HV.out, hg2⟩
end Go.Proofs.YtmlhijlcefogmaaGreatDoor
namespace Go.Proofs.YtmlhijlcefogmaaGreatDoor
open Go.RowKit Go.Maps Go.Shelf

def IBox (w : World) (B : Nat) (x : Int) : Prop := w.heap[B]? = some (.cells #[.int .i64 x] 3 (0, 0))
def OnlyAt (B : Nat) (w w' : World) : Prop := Below B w w' ∧ w'.heap.size = w.heap.size ∧ ∀ j, j ≠ B → w'.heap[j]? = w.heap[j]?
theorem IBox.cell {w : World} {B : Nat} {x : Int} (h : IBox w B x) : w.cell? ⟨B, 0, none⟩ = some (.int .i64 x) := cells_box h 0
theorem try_any (x k : Int) (best : Nat) (Bk Bb : Nat) (w : World) (hk : IBox w Bk k) (hb : IBox w Bb (best : Int)) (hne : Bk ≠ Bb) (hx : -1000000 ≤ x ∧ x ≤ 1000000) (hkr : -1000000 ≤ k ∧ k ≤ 1000000) :
    Calls Tryz.prog 177 #[.int .i64 x, .pointer (some ⟨Bk, 0, none⟩), .pointer (some ⟨Bb, 0, none⟩)] w fun e w' => e = .returned (.tuple #[]) ∧ OnlyAt Bb w w' ∧ IBox w' Bb (tryS best x k : Int) := by
  have c1 := hk.cell
  have c2 := hb.cell
  have f2 : w.frozen? ⟨Bb, 0, none⟩ = false := frozen_of_row w Bb 0 _ _ hb
  have hbz : Bb < w.heap.size := (Array.getElem?_eq_some_iff.1 hb).1
  have e1 : IntKind.i64.wrap (x - k) = x - k := IntWalk.i64_in _ (by omega)
  have HB := Lib.hid hb
  clear hk hb
  by_cases h1 : 0 ≤ x
  · by_cases h2 : k ≤ x
    · have hs : tryS best x k = min best x.toNat := by unfold tryS; rw [if_pos ⟨h1, by omega⟩]
      have hmin : min (best : Int) x = ((min best x.toNat : Nat) : Int) := by omega
      have d2 : 0 ≤ x - k := by omega
      rw [hs]
      clear hs
      go_enter Tryz.func177, Tryz.ntmps177
      go_wp2_with fail
      go_end0
      exact ⟨rfl, ⟨Below.setCell (Below.refl Bb w) (p := ⟨Bb, 0, none⟩) (Nat.le_refl Bb) _, by simp [World.setCell], fun j hj => Below.heap_setCell _ _ _ _ hj⟩, one_setCell HB.out⟩
    · have hs : tryS best x k = best := by unfold tryS; rw [if_neg (by omega)]
      have d2 : ¬ 0 ≤ x - k := by omega
      rw [hs]
      clear hs
      go_enter Tryz.func177, Tryz.ntmps177
      go_wp2_with fail
      go_end0
      exact ⟨rfl, ⟨Below.refl _ _, rfl, fun _ _ => rfl⟩, HB.out⟩
  · have hs : tryS best x k = best := by unfold tryS; rw [if_neg (by omega)]
    rw [hs]
    clear hs
    go_enter Tryz.func177, Tryz.ntmps177
    go_wp2_with fail
    go_end0
    exact ⟨rfl, ⟨Below.refl _ _, rfl, fun _ _ => rfl⟩, HB.out⟩
end Go.Proofs.YtmlhijlcefogmaaGreatDoor
