/-
  What the program's order gives of ids: Compare, IsSet, place, Find. Conditions: ids of 32 bytes; as each says.
  What IsSet, place and Find give. Conditions: ids of 32 bytes; lists of at most 2^40 ids.
  What place and Find give. Conditions: ids of 32 bytes; lists of at most 2^40 ids.
-/
import Derived.Test.YthjaepmfkgejkaaGreatDoorProg
import Derived.Test.YthjaepmfkgejkaaGreatDoorMerged2
import Derived.Test.YthjaepmfkgejkaaGreatDoorMerged7
import Derived.Lib.SlBytesRow
import Derived.Lib.BytesEntry
import Derived.Handy
import Derived.PlainAid
import Derived.Lib.Hide
import Derived.Deep.QuietTactic
import Derived.BigQuiet
import Derived.StillTailTactics
import Derived.Deep.CutRange
import Derived.Test.YthjaepmfkgejkaaGreatDoorMerged1
set_option linter.unusedVariables false
set_option maxHeartbeats 4000000
set_option maxRecDepth 100000
namespace Go.Proofs.YthjaepmfkgejkaaGreatDoor
open Go.RowKit
theorem U8 {P : Program} {w : World} {b off : Nat} {l : List UInt8} (cap : Nat) (hc : Lib.Bytes w b off ⟨l.toArray⟩) : (Extern.Bytes.bytesOf (.slice (some ⟨b, off, none⟩) l.length cap)).run P w = .ok ⟨l.toArray⟩ w := by
  have h := Lib.run_loadBytesX (P := P) (w := w) (l.map fun c => (c.toNat : Int)) ⟨b, off, none⟩ .empty (fun j x hj => by
    rw [List.getElem?_map] at hj
    rcases hl : l[j]? with _ | c
    · rw [hl] at hj; cases hj
    ·
     rw [hl] at hj
     obtain ⟨hlt, hcj⟩ := List.getElem?_eq_some_iff.1 hl
     have e1 : (⟨b, off, none⟩ : Addr).add j = ⟨b, off + j, none⟩ := by unfold Addr.add; split <;> simp_all
     have hs : j < (⟨l.toArray⟩ : ByteArray).size := by simpa [ByteArray.size] using hlt
     have e2 : (⟨l.toArray⟩ : ByteArray)[j] = l[j] := by
       show (l.toArray)[j] = l[j]
       simp
     simp only [Option.map_some, Option.some.injEq] at hj
     rw [e1, hc j hs, e2, hcj, hj])
  rw [List.length_map] at h
  show (Extern.Bytes.loadBytes ⟨b, off, none⟩ l.length .empty).run P w = _
  rw [h]
  congr 2
  have e3 : Lib.bytesOf (l.map fun c => (c.toNat : Int)) = l := by
    unfold Lib.bytesOf
    rw [List.map_map]
    conv => rhs; rw [← List.map_id l]
    apply List.map_congr_left
    intro c _
    simp
  rw [e3]
  simp [ByteArray.empty, ByteArray.emptyWithCapacity]
  rfl
theorem uR (a b : List UInt8) (ga oa ca gb ob cb : Nat) (w : World) (ha : Lib.Bytes w ga oa ⟨a.toArray⟩) (hb : Lib.Bytes w gb ob ⟨b.toArray⟩) :
    Calls Tryz.prog 129 #[.slice (some ⟨ga, oa, none⟩) a.length ca, .slice (some ⟨gb, ob, none⟩) b.length cb] w fun e w' => e = .returned (.int .i64 (kX a b)) ∧ w' = w := by
  have hcmp : (Extern.BytealgCompare.compare #[.slice (some ⟨ga, oa, none⟩) a.length ca, .slice (some ⟨gb, ob, none⟩) b.length cb]).run Tryz.prog w = .ok (.int .i64 (kX a b)) w := by
    change Sem.run Tryz.prog (do pure (goInt (Extern.BytealgCompare.cmp (← Extern.Bytes.bytesOf (.slice (some ⟨ga, oa, none⟩) a.length ca)) (← Extern.Bytes.bytesOf (.slice (some ⟨gb, ob, none⟩) b.length cb))))) w = _
    simp only [Sem.run_bind, Sem.run_pure, U8 ca ha, U8 cb hb, Result.andThen]
    rw [Lib.cmp_eq]
    rfl
  go_enter Tryz.func129, Tryz.ntmps129
  go_wp2
  rw [run_callFunc_extern Tryz.func132 (by kernel_rfl) (by kernel_rfl) (by kernel_rfl) (e := Extern.BytealgCompare.compare) (by kernel_rfl), hcmp]
  simp only [Result.andThen]
  rw [Oper.upon_value]
  go_wp2
  go_ret
  exact ⟨rfl, rfl⟩
theorem qS {w : World} {g : Nat} {l : List UInt8} {t : TypeId} {fr : Nat × Nat} (h : w.heap[g]? = some (.cells (idV l).toArray t fr)) : Lib.Bytes w g 0 ⟨l.toArray⟩ := by
  intro i hi
  have hi' : i < l.length := by simpa [ByteArray.size] using hi
  rw [Nat.zero_add, cell_of_row w g i _ t fr h]
  have e2 : (⟨l.toArray⟩ : ByteArray)[i] = l[i] := by
    show (l.toArray)[i] = l[i]
    simp
  rw [e2]
  simp [idV, hi']
theorem compare_gr (a b : List UInt8) (w : World) (ha : Ke a) (hb : Ke b) :
    Calls Tryz.prog 116 #[.agg (idV a).toArray, .agg (idV b).toArray] w fun e w' => Gr w w' ∧ e = .returned (.int .i64 (kX a b)) := by
  have h1 : (w.alloc (.cells (idV a).toArray 47)).heap[w.heap.size]? = some (.cells (idV a).toArray 47 (0, 0)) := heap_alloc_new _ _
  go_enter Tryz.func116, Tryz.ntmps116
  go_upto_region 1 with fail
  obtain ⟨W, hW⟩ : ∃ W, (w.alloc (.cells (idV a).toArray 47)).alloc (.cells (idV b).toArray 47) = W := ⟨_, rfl⟩
  have hba : Lib.Bytes W w.heap.size 0 ⟨a.toArray⟩ := by
    rw [← hW]
    exact qS (t := 47) (fr := (0, 0)) ((heap_alloc_old (w.alloc (.cells (idV a).toArray 47)) _ (by simp)).trans h1)
  have hbb : Lib.Bytes W (w.heap.size + 1) 0 ⟨b.toArray⟩ := by
    rw [← hW]
    have := heap_alloc_new (w.alloc (.cells (idV a).toArray 47)) (.cells (idV b).toArray 47)
    rw [World.size_alloc] at this
    exact qS (t := 47) (fr := (0, 0)) this
  have hbW : Gr w W := by rw [← hW]; exact ((Gr.refl _).alloc _).alloc _
  rw [hW]
  clear hW h1
  have HA := Lib.hid hba; clear hba
  have HB := Lib.hid hbb; clear hbb
  have hcall := fun q => uR a b w.heap.size 0 32 (w.heap.size + 1) 0 32 (W.drewN q) (HA.out.drewN q) (HB.out.drewN q)
  rw [show a.length = 32 from ha, show b.length = 32 from hb] at hcall
  have HCALL := Lib.hid hcall; clear hcall
  go_quiet ((go_at_call 129; exact Calls.quiet_of_same (HCALL.out _)))
  go_wp2_with fail
  go_ret
  exact ⟨hbW.drewN _, rfl⟩
theorem ZX (a b : List UInt8) (w : World) (ha : Ke a) (hb : Ke b) :
    Calls Tryz.prog 116 #[.agg (idV a).toArray, .agg (idV b).toArray] w fun e w' => Below w.heap.size w w' ∧ e = .returned (.int .i64 (kX a b)) :=
  (compare_gr a b w ha hb).mono fun _ _ ⟨h, e⟩ => ⟨h.below, e⟩
end Go.Proofs.YthjaepmfkgejkaaGreatDoor
namespace Go.Proofs.YthjaepmfkgejkaaGreatDoor
open Lib (hid)
open Go.RowKit
theorem kt : (Tryz.prog.info? 47).map (·.size) = some 32 := by kernel_rfl
theorem vy (l : List (List UInt8)) (A : Option Addr) (c : Nat) (w : World) (hn : l.length ≤ 1099511627776) (ho : IdsOk l) (hsl : Sl w w.heap.size A l.length 32 (kr l)) :
    Calls Tryz.prog 96 #[.slice A l.length c] w fun e w' => Below w.heap.size w w' ∧ e = .returned (.bool (kI l)) := by
  have HSL := hid hsl; clear hsl
  have HO := hid ho; clear ho
  go_enter Tryz.func96, Tryz.ntmps96
  go_wp2_with fail
  go_loopw [6] (fun t wr => ∃ i : Nat, i ≤ l.length ∧ t = .int .i64 i ∧ Below w.heap.size w wr ∧ Hid (∀ j (h : j + 1 < l.length), j + 1 < i → kX (l[j]'(by omega)) l[j + 1] < 0)) (fun t _ => l.length - (intOf t).toNat)
  case atStart => exact ⟨0, by omega, rfl, Below.refl _ _, hid fun j _ hj => absurd hj (by omega)⟩
  case round =>
    obtain ⟨i, hi, rfl, hbr, hI⟩ := hrel
    by_cases hlt : i < l.length
    ·
     by_cases h0 : i = 0
     ·
      have hg : decide ((0 : Int) < (i : Int)) = false := by simp; omega
      have hg2 : decide (0 < i) = false := by simp; omega
      have hg3 : (i : Int) ≤ 0 := by omega
      have H0 := hid h0; clear h0
      go_wp2_with fail
      go_quiet (fail)
      go_wp2_with fail
      go_roundw
      case rel => exact ⟨i + 1, by omega, by go_num, below_drewN hbr _, hid fun j _ hj => absurd hj (by have := H0.out; omega)⟩
      case measure => simp [intOf]; omega
     ·
      have hg : decide ((0 : Int) < (i : Int)) = true := by simp; omega
      have hg2 : decide (0 < i) = true := by simp; omega
      have i1 : (0 : Int) ≤ (i : Int) - 1 := by omega
      have i2 : (1 : Int) ≤ (i : Int) := by omega
      have i3 : (i : Int) < (l.length : Int) := by omega
      have i4 : ((i : Int) - 1) < (l.length : Int) := by omega
      obtain ⟨b, off, rfl, hbl, hcl⟩ := (HSL.out.keep hbr).2 (by omega)
      have c1 := Sl.id (B := 0) HO.out hcl (i := i - 1) (by omega)
      have c2 := Sl.id (B := 0) HO.out hcl (i := i) hlt
      have e1 : IntKind.i64.wrap ((i : Int) - 1) = ((i - 1 : Nat) : Int) := by rw [IntWalk.i64_in _ ⟨by omega, by omega⟩]; omega
      have e2 : ((i - 1 : Nat) : Int) < (l.length : Int) := by omega
      have C1 := hid c1; clear c1
      have C2 := hid c2; clear c2
      clear hcl
      go_wp2_with fail
      refine wp_region_still_tail 12 (by kernel_rfl) (by kernel_rfl) ?_
      simp only [List.take_succ_cons, List.take_zero, List.drop_succ_cons, List.drop_zero]
      repeat still_step
      refine zn (by rfl) 47 _ rfl b _ rfl (idV (l[i - 1]'(by omega))) _ C1.out Tryz.underlying47 rfl (by rw [k8, HO.out _ (List.getElem_mem _)]; exact kt) ?_
      repeat still_step
      refine zn (by rfl) 47 _ rfl b _ rfl (idV l[i]) _ C2.out Tryz.underlying47 rfl (by rw [k8, HO.out _ (List.getElem_mem _)]; exact kt) ?_
      refine wpStill_nil ?_
      change wpList _ _ _ _ _ wr.drew
      generalize hwd : wr.drew = w2
      have hbr2 : Below w.heap.size w w2 := by rw [← hwd]; exact hbr.drew
      clear hwd
      clear e1
      go_wp2_with fail
      refine (ZX (l[i - 1]'(by omega)) l[i] _ (HO.out _ (List.getElem_mem _)) (HO.out _ (List.getElem_mem _))).mono ?_
      have hstop : 0 ≤ kX (l[i - 1]'(by omega)) l[i] → kI l = false := by
        intro h
        rw [Bool.eq_false_iff]
        intro h2
        have := J5.1 h2 (i - 1) (by omega)
        simp only [show i - 1 + 1 = i by omega] at this
        omega
      have hgo : kX (l[i - 1]'(by omega)) l[i] < 0 → ∀ j (h : j + 1 < l.length), j + 1 < i + 1 → kX (l[j]'(by omega)) l[j + 1] < 0 := by
        intro h j hj hji
        rcases (by omega : j + 1 < i ∨ j + 1 = i) with q | q
        · exact hI.out j hj q
        ·
         have e1 : j = i - 1 := by omega
         subst e1
         simp only [show i - 1 + 1 = i by omega]
         exact h
      have HST := hid hstop; clear hstop
      have HGO := hid hgo; clear hgo
      generalize kX (l[i - 1]'(by omega)) l[i] = q at *
      rintro e w3 ⟨hb3, rfl⟩
      have hbr3 := hbr2.trans (hb3.mono hbr2.size)
      by_cases hq : 0 ≤ q
      ·
       have hno := HST.out hq
       have HNO := hid hno; clear hno
       go_wp2_with fail
       go_ret
       exact ⟨hbr3, by rw [HNO.out]; rfl⟩
      ·
       have hq2 : q < 0 := by omega
       go_wp2_with fail
       go_roundw
       case rel => exact ⟨i + 1, by omega, by go_num, hbr3, hid (HGO.out hq2)⟩
       case measure => simp [intOf]; omega
    ·
     go_wp2_with fail
     go_ret
     refine ⟨hbr, ?_⟩
     have : kI l = true := J5.2 fun j hj => hI.out j hj (by omega)
     rw [this]; rfl
end Go.Proofs.YthjaepmfkgejkaaGreatDoor
namespace Go.Proofs.YthjaepmfkgejkaaGreatDoor
open Lib (hid)
open Go.RowKit
def FindGives (l : List (List UInt8)) (x : List UInt8) (w : World) (e : Ending) (w' : World) : Prop :=
  Below w.heap.size w w' ∧ ∃ n : Nat, e = .returned (.tuple #[.int .i64 n, .bool (kI l && decide (x ∈ l))]) ∧ n ≤ l.length ∧ ((kI l && decide (x ∈ l)) = true → l[n]? = some x)
theorem FindGives.yes {l : List (List UInt8)} {x : List UInt8} {w w' : World} {e : Ending} {n : Nat} (hs : kI l = true) (h : l[n]? = some x) (hb : Below w.heap.size w w') (he : e = .returned (.tuple #[.int .i64 n, .bool true])) : FindGives l x w e w' := by
  have hm : (kI l && decide (x ∈ l)) = true := by rw [hs]; simpa using List.mem_of_getElem? h
  refine ⟨hb, n, by rw [hm]; exact he, ?_, fun _ => h⟩
  have := (List.getElem?_eq_some_iff.1 h).1
  omega
theorem FindGives.no {l : List (List UInt8)} {x : List UInt8} {w w' : World} {e : Ending} {n : Nat} (hm : (kI l && decide (x ∈ l)) = false) (hn : n ≤ l.length) (hb : Below w.heap.size w w') (he : e = .returned (.tuple #[.int .i64 n, .bool false])) : FindGives l x w e w' :=
  ⟨hb, n, by rw [hm]; exact he, hn, fun h => by rw [hm] at h; cases h⟩
def Halving (l : List (List UInt8)) (x : List UInt8) (lo hi : Nat) : Prop :=
  (∀ j (h : j < l.length), j < lo → kX l[j] x < 0) ∧ (∀ j (h : j < l.length), hi ≤ j → 0 < kX l[j] x)
theorem Halving.start (l : List (List UInt8)) (x : List UInt8) : Halving l x 0 l.length := ⟨fun j _ h => absurd h (by omega), fun j h h' => absurd h (by omega)⟩
theorem Halving.up {l : List (List UInt8)} {x : List UInt8} {lo hi m : Nat} (h : Halving l x lo hi) (hs : kI l = true) (hm : m < l.length) (hc : kX l[m] x < 0) : Halving l x (m + 1) hi := by
  refine ⟨fun j hj hjm => ?_, h.2⟩
  rcases (by omega : j < m ∨ j = m) with q | q
  · exact Kf ((List.pairwise_iff_getElem.1 (Kg hs)) j m hj hm q) hc
  · subst q; exact hc
theorem Halving.down {l : List (List UInt8)} {x : List UInt8} {lo hi m : Nat} (h : Halving l x lo hi) (hs : kI l = true) (hm : m < l.length) (hc : 0 < kX l[m] x) : Halving l x lo m := by
  refine ⟨h.1, fun j hj hjm => ?_⟩
  rcases (by omega : m < j ∨ j = m) with q | q
  ·
   have h1 := (List.pairwise_iff_getElem.1 (Kg hs)) m j hm hj q
   have h2 : kX x l[m] < 0 := by rw [Ze]; omega
   have := Kf h2 h1
   rw [Ze] at this
   omega
  · subst q; exact hc
theorem Halving.end {l : List (List UInt8)} {x : List UInt8} {lo hi : Nat} (h : Halving l x lo hi) (he : hi ≤ lo) : x ∉ l := by
  intro hx
  obtain ⟨j, hj, rfl⟩ := List.getElem_of_mem hx
  rcases (by omega : j < lo ∨ hi ≤ j) with q | q
  · have := h.1 j hj q
    rw [Kp] at this; omega
  · have := h.2 j hj q
    rw [Kp] at this; omega
theorem place_any (l : List (List UInt8)) (x : List UInt8) (A : Option Addr) (c : Nat) (w : World) (hn : l.length ≤ 1099511627776) (ho : IdsOk l) (hx : Ke x) (hs : kI l = true) (hsl : Sl w w.heap.size A l.length 32 (kr l)) :
    Calls Tryz.prog 120 #[.slice A l.length c, .agg (idV x).toArray] w (FindGives l x w) := by
  have HSL := hid hsl; clear hsl
  have HO := hid ho; clear ho
  have HS := hid hs; clear hs
  have hxl : (idV x).length = 32 := by rw [k8]; exact hx
  go_enter Tryz.func120, Tryz.ntmps120
  go_upto_region 1 with fail
  obtain ⟨W0, hW0⟩ : ∃ W0, w.alloc (.cells (idV x).toArray 47) = W0 := ⟨_, rfl⟩
  have hb0 : Below w.heap.size w W0 := by rw [← hW0]; exact (qB _ _).alloc (qR _) _
  have hg0 : W0.heap[w.heap.size]? = some (.cells (idV x).toArray 47 (0, 0)) := by rw [← hW0]; exact heap_alloc_new _ _
  have hz0 : w.heap.size < W0.heap.size := by rw [← hW0]; simp
  rw [hW0]
  have HX : Hid (∀ j u, (idV x)[j]? = some u → W0.cell? ⟨w.heap.size, 0 + j, none⟩ = some u) := hid (fun j u hj => by
    rw [qZ, cell_of_row W0 w.heap.size j _ _ _ hg0]; simpa using hj)
  clear hW0 hg0
  go_wp2_with fail
  go_loopw [6, 7] (fun t6 t7 wr => ∃ lo hi : Nat, lo ≤ hi ∧ hi ≤ l.length ∧ t6 = .int .i64 lo ∧ t7 = .int .i64 hi ∧ Below W0.heap.size W0 wr ∧ Hid (Halving l x lo hi)) (fun t6 t7 _ => (intOf t7).toNat - (intOf t6).toNat)
  case atStart => exact ⟨0, l.length, by omega, by omega, rfl, rfl, qB _ _, hid (Halving.start l x)⟩
  case round =>
    obtain ⟨lo, hi, hlh, hhl, rfl, rfl, hbr, hH⟩ := hrel
    have hbw := hb0.trans (hbr.mono (by omega))
    by_cases hlt : lo < hi
    ·
     obtain ⟨m, hm⟩ : ∃ m, m = lo + (hi - lo) / 2 := ⟨_, rfl⟩
     have hm1 : lo ≤ m := by omega
     have hm2 : m < hi := by omega
     have em : (lo : Int) + ((hi : Int) - (lo : Int)) / 2 = (m : Int) := by omega
     clear hm
     have i0 : (0 : Int) ≤ (m : Int) := by omega
     have i1 : (m : Int) < (l.length : Int) := by omega
     obtain ⟨b, off, rfl, hbl, hcl⟩ := (HSL.out.keep hbw).2 (by omega)
     have C1 : Hid _ := hid (Sl.id (B := 0) HO.out hcl (i := m) (by omega))
     have C2 : Hid (∀ j u, (idV x)[j]? = some u → wr.cell? ⟨w.heap.size, 0 + j, none⟩ = some u) := hid (fun j u hj => (hbr.cell (p := ⟨w.heap.size, 0 + j, none⟩) hz0).trans (HX.out j u hj))
     clear hcl
     go_upto_region 4 with fail
     clear em
     refine wp_region_still_tail 5 (by kernel_rfl) (by kernel_rfl) ?_
     simp only [List.take_succ_cons, List.take_zero, List.drop_succ_cons, List.drop_zero]
     repeat still_step
     refine zn (by rfl) 47 _ rfl b _ rfl (idV (l[m]'(by omega))) _ C1.out Tryz.underlying47 rfl (by rw [k8, HO.out _ (List.getElem_mem _)]; exact kt) ?_
     refine zn (by rfl) 47 _ rfl w.heap.size 0 rfl (idV x) _ C2.out Tryz.underlying47 rfl (by rw [hxl]; exact kt) ?_
     refine wpStill_nil ?_
     change wpList _ _ _ _ _ wr.drew
     generalize hwd : wr.drew = w2
     have hbr2 : Below W0.heap.size W0 w2 := by rw [← hwd]; exact hbr.drew
     clear hwd
     go_wp2_with fail
     refine (ZX (l[m]'(by omega)) x _ (HO.out _ (List.getElem_mem _)) hx).mono ?_
     have hup := hH.out.up HS.out (m := m) (by omega)
     have hdn := hH.out.down HS.out (m := m) (by omega)
     have heq : kX (l[m]'(by omega)) x = 0 → l[m]? = some x := fun h => by rw [List.getElem?_eq_getElem (by omega), K6.1 h]
     have HUP := hid hup; clear hup
     have HDN := hid hdn; clear hdn
     have HEQ := hid heq; clear heq
     generalize kX (l[m]'(by omega)) x = q at *
     rintro e w3 ⟨hb3, rfl⟩
     have hbr3 := hbr2.trans (hb3.mono hbr2.size)
     have hbw3 := hb0.trans (hbr3.mono (by omega))
     rcases (by omega : q = 0 ∨ q < 0 ∨ 0 < q) with hq | hq | hq
     ·
      have hf := HEQ.out hq
      have HF := hid hf; clear hf
      have hq2 : (q == 0) = true := by simp [hq]
      clear hq
      go_wp2_with fail
      go_ret2
      exact FindGives.yes HS.out HF.out hbw3 rfl
     ·
      have hu := HUP.out hq
      have HU := hid hu; clear hu
      have hq2 : (q == 0) = false := by simp; omega
      go_wp2_with fail
      go_roundw
      case rel => exact ⟨m + 1, hi, by omega, by omega, by go_num, rfl, hbr3, HU⟩
      case measure => simp [intOf]; omega
     ·
      have hu := HDN.out hq
      have HU := hid hu; clear hu
      have hq2 : (q == 0) = false := by simp; omega
      go_wp2_with fail
      go_roundw
      case rel => exact ⟨lo, m, by omega, by omega, rfl, by go_num, hbr3, HU⟩
      case measure => simp [intOf]; omega
    ·
     have hno := hH.out.end (by omega)
     have HNO := hid hno; clear hno
     go_wp2_with fail
     go_ret2
     exact FindGives.no (by simp [HNO.out]) (by omega) hbw rfl
theorem UQ (l : List (List UInt8)) (x : List UInt8) (A : Option Addr) (c : Nat) (w : World) (hn : l.length ≤ 1099511627776) (ho : IdsOk l) (hx : Ke x) (hsl : Sl w w.heap.size A l.length 32 (kr l)) :
    Calls Tryz.prog 94 #[.slice A l.length c, .agg (idV x).toArray] w (FindGives l x w) := by
  have HSL := hid hsl; clear hsl
  have HO := hid ho; clear ho
  have hxl : (idV x).length = 32 := by rw [k8]; exact hx
  go_enter Tryz.func94, Tryz.ntmps94
  go_upto_region 1 with fail
  obtain ⟨W0, hW0⟩ : ∃ W0, w.alloc (.cells (idV x).toArray 47) = W0 := ⟨_, rfl⟩
  have hb0 : Below w.heap.size w W0 := by rw [← hW0]; exact (qB _ _).alloc (qR _) _
  have hg0 : W0.heap[w.heap.size]? = some (.cells (idV x).toArray 47 (0, 0)) := by rw [← hW0]; exact heap_alloc_new _ _
  have hz0 : w.heap.size < W0.heap.size := by rw [← hW0]; simp
  rw [hW0]
  have HX : Hid (∀ j u, (idV x)[j]? = some u → W0.cell? ⟨w.heap.size, 0 + j, none⟩ = some u) := hid (fun j u hj => by
    rw [qZ, cell_of_row W0 w.heap.size j _ _ _ hg0]; simpa using hj)
  clear hW0 hg0
  have HSL0 := hid ((HSL.out.keep hb0).more hb0.size)
  go_wp2_with fail
  refine (vy l A c _ hn HO.out HSL0.out).mono ?_
  cases hs : kI l
  ·
   have HS := hid hs; clear hs
   rintro e w1 ⟨hb1, rfl⟩
   go_wp2_with fail
   go_ret2
   exact FindGives.no (by rw [HS.out]; rfl) (Nat.zero_le _) (hb0.trans (hb1.mono hb0.size)) rfl
  ·
   have HS := hid hs; clear hs
   rintro e w1 ⟨hb1, rfl⟩
   have hb01 := hb0.trans (hb1.mono hb0.size)
   have HSL1 := hid ((HSL.out.keep hb01).more hb01.size)
   have C2 : Hid (∀ j u, (idV x)[j]? = some u → w1.cell? ⟨w.heap.size, 0 + j, none⟩ = some u) := hid (fun j u hj => (hb1.cell (p := ⟨w.heap.size, 0 + j, none⟩) hz0).trans (HX.out j u hj))
   go_wp2_with (refine zE rfl 47 _ rfl w.heap.size 0 rfl (idV x) _ C2.out Tryz.underlying47 rfl (by rw [hxl]; exact kt) ?_)
   refine (place_any l x A c _ hn HO.out hx HS.out HSL1.out).mono ?_
   rintro e w2 ⟨hb2, n, rfl, hn2, hf⟩
   have HF := hid hf; clear hf
   go_wp2_with fail
   go_ret2
   exact ⟨hb01.trans (hb2.mono hb01.size), n, rfl, hn2, HF.out⟩
end Go.Proofs.YthjaepmfkgejkaaGreatDoor
