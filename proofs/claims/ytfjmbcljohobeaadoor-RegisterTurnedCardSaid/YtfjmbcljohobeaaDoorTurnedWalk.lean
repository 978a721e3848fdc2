/-
  RegisterTurned's walk. Conditions: claims well formed; the library's variable MaxLen holds a number.
-/
import Derived.Test.YtfjmbcljohobeaaDoorAwake14
import Derived.Test.YtfjmbcljohobeaaDoorQuietTailX
import Derived.Test.YtfjmbcljohobeaaDoorSwapRows
import Derived.Test.YtfjmbcljohobeaaDoorNamedEq
import Derived.Deep.QuietTactic
import Derived.IntWalk
namespace Go.Proofs.YtfjmbcljohobeaaDoor
open Go.RowKit Go.Maps Go.Shelf
set_option linter.unusedVariables false
set_option linter.unusedSimpArgs false

set_option maxHeartbeats 2000000 in
set_option maxRecDepth 100000 in
theorem turned_walk (l : List ClaimD) (A : Option Addr) (c : Nat) (a b : Int) (w : World) (hl : l.length ≤ maxLen) (hok : ∀ x ∈ l, ClaimOk x) (hsl : Sl w w.heap.size A l.length 70 (rowsV claimV l)) (ha : (Lit.int .i64 a).wf = true) (hb : (Lit.int .i64 b).wf = true) (hg : Glob w) :
    Calls Tryd.prog 4 #[.slice A l.length c, .int .i64 a, .int .i64 b] w fun e w' => e = .returned (.bool true) ∧ Below w.heap.size w w' := by
  have hlight := light_any l A c w hl hok hsl
  have HSL := Lib.hid hsl; have HOK := Lib.hid hok
  clear hsl hok ha hb
  cases hlt : lightB l with
  | false =>
    rw [hlt] at hlight
    clear hlt
    go_enter Tryd.func4, Tryd.ntmps4
    go_wp2_with (go_at_call 12; refine hlight.mono ?_; rintro e w1 ⟨rfl, rfl⟩)
    go_ret
    exact ⟨rfl, Below.refl _ _⟩
  | true =>
    rw [hlt] at hlight
    obtain ⟨h40, h100⟩ := light_yes hlt
    clear hlt
    by_cases h0 : l.length = 0
    · have h0' : ((l.length : Int) == 0) = true := by rw [beq_iff_eq]; omega
      clear h0
      go_enter Tryd.func4, Tryd.ntmps4
      go_wp2_with (go_at_call 12; refine hlight.mono ?_; rintro e w1 ⟨rfl, rfl⟩)
      go_ret
      exact ⟨rfl, Below.refl _ _⟩
    · have h0' : ((l.length : Int) == 0) = false := by rw [beq_eq_false_iff_ne]; omega
      have hpos : 0 < l.length := by omega
      go_enter Tryd.func4, Tryd.ntmps4
      go_upto_region 3 with (go_at_call 12; refine hlight.mono ?_; rintro e w1 ⟨rfl, rfl⟩)
      have u64n : ∀ n : Nat, n < 1000 → IntKind.u64.wrap (n : Int) = n := fun n hn => by simp [IntKind.wrap, IntKind.bits, IntKind.signed]; omega
      have i64n : ∀ n : Nat, n < 1000 → IntKind.i64.wrap (n : Int) = n := fun n hn => by exact IntWalk.i64_in _ (by omega)
      obtain ⟨p, hp⟩ : ∃ p : Nat, IntKind.u64.wrap a = (p : Int) := ⟨(IntKind.u64.wrap a).toNat, by simp [IntKind.wrap, IntKind.bits, IntKind.signed]; omega⟩
      obtain ⟨q, hq⟩ : ∃ q : Nat, IntKind.u64.wrap b = (q : Int) := ⟨(IntKind.u64.wrap b).toNat, by simp [IntKind.wrap, IntKind.bits, IntKind.signed]; omega⟩
      have hx : p % l.length < l.length := Nat.mod_lt _ hpos
      have hy : q % l.length < l.length := Nat.mod_lt _ hpos
      have hnl := u64n l.length (by omega)
      have m1 : (p : Int).tmod (l.length : Int) = ((p % l.length : Nat) : Int) := rfl
      have m2 : (q : Int).tmod (l.length : Int) = ((q % l.length : Nat) : Int) := rfl
      have e1 := u64n (p % l.length) (by omega)
      have e2 := u64n (q % l.length) (by omega)
      have e3 := i64n (p % l.length) (by omega)
      have e4 := i64n (q % l.length) (by omega)
      generalize p % l.length = x at *
      generalize q % l.length = y at *
      clear u64n i64n
      go_quiet (fail)
      clear e1 e2 e3 e4 m1 m2 hp hq hnl
      have hB0 : Below w.heap.size w (w.drewN nq) := ⟨rfl, rfl, rfl, Nat.le_refl _, fun _ _ => rfl⟩
      generalize w.drewN nq = W0 at *
      have htold := fun (u : World) (hu : Below w.heap.size w u) => told_any l A c u (by omega) HOK.out ((HSL.out.keep hu).more hu.size)
      have HT := Lib.hid htold
      have ht0 := HT.out W0 hB0
      have HB0 := Lib.hid hB0
      clear htold hB0
      go_upto_region 5 with (go_at_call 14; refine ht0.mono ?_; rintro e w2 ⟨hb2, v, rfl, hv⟩)
      obtain ⟨g, cap, cur, rfl, hbase, hgc, r1, r2, r3, r4⟩ : ∃ g cap cur, v = .slice (some ⟨g, 0, none⟩) l.length cap ∧ W0.heap.size ≤ g ∧ w2.heap[g]? = some (.cells cur 41 (0, 0)) ∧ l.length ≤ cap ∧ cap ≤ maxLen ∧ cur.size = cap * 70 ∧ cur.toList.take (l.length * 70) = rowsV claimV l := by
        rcases hv.2 with ⟨_, h⟩ | h
        · omega
        · exact h
      have hlens : ∀ z ∈ l, (claimV z).length = 70 := fun z hz => claimV_length (HOK.out z hz)
      have heach := own_each hv hlens hpos
      have hth : ∀ i, i < l.length → w2.there g (i * 70) 70 := fun i hi => own_there hgc r1 r3 i hi
      have hgl : g < w2.heap.size := (Array.getElem?_eq_some_iff.1 hgc).1
      have hfin := swap_rows (w := w2.drew) hlens (fun i hi => (World.rangeAt_drew _ _ _ _).2 (heach i hi)) (fun i hi => (World.there_drew _ _ _ _).2 (hth i hi)) hx hy
      have hbel : Below w.heap.size w ((w2.drew.setCells g (x * 70) (claimV l[y])).setCells g (y * 70) (claimV l[x])) := below_setCells (Nat.le_trans HB0.out.size hbase) _ _ _ (below_setCells (Nat.le_trans HB0.out.size hbase) _ _ _ (HB0.out.trans (hb2.mono HB0.out.size)).drew)
      have hsz5 : ((w2.drew.setCells g (x * 70) (claimV l[y])).setCells g (y * 70) (claimV l[x])).heap.size = w2.heap.size := by rw [size_setCells', size_setCells']; rfl
      have rx : w2.drew.rangeAt g (x * 70) (claimV l[x]) := (World.rangeAt_drew _ _ _ _).2 (heach x hx)
      have ry : w2.drew.rangeAt g (y * 70) (claimV l[y]) := (World.rangeAt_drew _ _ _ _).2 (heach y hy)
      have tx : w2.drew.there g (x * 70) 70 := (World.there_drew _ _ _ _).2 (hth x hx)
      have ty : (w2.drew.setCells g (x * 70) (claimV l[y])).there g (y * 70) 70 := World.there_setCells ((World.there_drew _ _ _ _).2 (hth y hy)) _ _ _
      have lx := hlens _ (List.getElem_mem hx)
      have ly := hlens _ (List.getElem_mem hy)
      have HFIN := Lib.hid hfin; have HBEL := Lib.hid hbel; have HSZ5 := Lib.hid hsz5
      have RX := Lib.hid rx; have RY := Lib.hid ry; have TX := Lib.hid tx; have TY := Lib.hid ty
      clear hfin hbel hsz5 rx ry tx ty hv heach hth hgc r1 r2 r3 r4 hlens hb2 ht0
      have x0 : (0 : Int) ≤ (x : Int) := by omega
      have x1 : (x : Int) < (l.length : Int) := by omega
      have y0 : (0 : Int) ≤ (y : Int) := by omega
      have y1 : (y : Int) < (l.length : Int) := by omega
      refine wp_region_any (by kernel_rfl) ?_
      refine wpAny_take (i := 2) (v := .slice (some ⟨g, 0, none⟩) l.length cap) rfl (by kernel_rfl) (by kernel_rfl) (by kernel_rfl) (fun _ _ _ h => h) (Or.inl ⟨by rfl, fun w' => by rfl⟩) ?_
      simp only [Act.put, List.getElem_toArray, List.getElem_cons_succ, List.getElem_cons_zero, List.setIfInBounds_toArray, List.set_cons_zero, List.set_cons_succ, List.size_toArray, List.length_cons, List.length_nil, Nat.reduceAdd, Array.replicate_succ, Array.replicate_zero, List.push_toArray, List.nil_append, List.cons_append]
      refine wpAny_take (i := 3) (v := .int .i64 (y : Int)) rfl (by kernel_rfl) (by kernel_rfl) (by kernel_rfl) (fun _ _ _ h => h) (Or.inl ⟨by rfl, fun w' => by rfl⟩) ?_
      simp only [Act.put, List.getElem_toArray, List.getElem_cons_succ, List.getElem_cons_zero, List.setIfInBounds_toArray, List.set_cons_zero, List.set_cons_succ]
      refine wpAny_quiet_tailX 13 [0, 1, 4, 5, 6, 7, 8, 9, 10, 11, 12] (fun w' => w' = w2.drew) rfl (by kernel_rfl) (by kernel_rfl) (by kernel_rfl) (by kernel_rfl) ?_
      simp only [List.map_cons, List.map_nil, List.take_succ_cons, List.take_zero, List.drop_succ_cons, List.drop_zero, Array.getD_eq_getD_getElem?, List.getElem?_toArray, List.getElem?_cons_succ, List.getElem?_cons_zero, Option.getD_some]
      repeat (first
        | go_big_quiet_skip
        | (go_big_quiet_want
           first
             | (refine quiet_val (fun w' hw' => ex_load 41 _ rfl (p := ⟨g, y * 70, none⟩) rfl (run_loadVar_mid w' _ _ _ (claimV l[y]) _ (hw' ▸ RY.out) Tryd.underlying41 rfl (by rw [ly]; exact sizeClaim))) ?_
                go_big_quiet_on
                simp only [Act.put, List.setIfInBounds_toArray, List.set_cons_zero, List.set_cons_succ])
             | (refine quiet_val (fun w' hw' => ex_load 41 _ rfl (p := ⟨g, x * 70, none⟩) rfl (run_loadVar_mid w' _ _ _ (claimV l[x]) _ (hw' ▸ RX.out) Tryd.underlying41 rfl (by rw [lx]; exact sizeClaim))) ?_
                go_big_quiet_on
                simp only [Act.put, List.setIfInBounds_toArray, List.set_cons_zero, List.set_cons_succ])
             | (go_big_quiet_op
                go_big_quiet_on)))
      refine wpQuiet_nil ?_
      rintro w' rfl
      have t2 : (claimV l[y]).toArray.size = 70 := by rw [List.size_toArray, ly]
      have t3 : (claimV l[x]).toArray.size = 70 := by rw [List.size_toArray, lx]
      go_upto_region 6 with (first
        | (refine wpList_store_mid rfl 41 _ _ rfl g (x * 70) (claimV l[y]).toArray rfl rfl (by rw [t2]; exact TX.out) (by rw [t2]; exact sizeClaim) (all_oneCell_toArray (claimV_one _)) ?_)
        | (refine wpList_store_mid rfl 41 _ _ rfl g (y * 70) (claimV l[x]).toArray rfl rfl (by rw [t3]; exact TY.out) (by rw [t3]; exact sizeClaim) (all_oneCell_toArray (claimV_one _)) ?_))
      have hokS : ∀ z ∈ swapL l x y hx hy, ClaimOk z := fun z hz => HOK.out z ((swapL_perm l x y hx hy).mem_iff.1 hz)
      have hsmS : ∀ z ∈ swapL l x y hx hy, z.2.2.2.size ≤ 1073741824 := fun z hz => by have := h100 z ((swapL_perm l x y hx hy).mem_iff.1 hz); omega
      have hslS : Sl ((w2.drew.setCells g (x * 70) (claimV l[y])).setCells g (y * 70) (claimV l[x])) ((w2.drew.setCells g (x * 70) (claimV l[y])).setCells g (y * 70) (claimV l[x])).heap.size (some ⟨g, 0, none⟩) (swapL l x y hx hy).length 70 (rowsV claimV (swapL l x y hx hy)) :=
        ⟨rowsV_length fun z hz => claimV_length (hokS z hz), fun _ => ⟨g, 0, rfl, by rw [HSZ5.out]; exact hgl, rows_of_each (fun z hz => claimV_length (hokS z hz)) (by decide) (fun i hi => by rw [Nat.zero_add]; exact HFIN.out i hi)⟩⟩
      have hperm := pathsS_perm (swapL_perm l x y hx hy)
      rw [swapL_length] at hslS
      have hSl := swapL_length l x y hx hy
      generalize swapL l x y hx hy = lS at *
      generalize (w2.drew.setCells g (x * 70) (claimV l[y])).setCells g (y * 70) (claimV l[x]) = W5 at *
      have HS5 := Lib.hid hslS; have HOS := Lib.hid hokS; have HSS := Lib.hid hsmS; have HPM := Lib.hid hperm; have HSL2 := Lib.hid hSl
      clear hslS hokS hsmS hperm hSl HFIN RX RY TX TY HSZ5 lx ly t2 t3 hbase hgl
      have ht5 := HT.out W5 HBEL.out
      go_wp2_with (go_at_call 14; refine ht5.mono ?_; rintro e w6 ⟨hb6, v6, rfl, hv6⟩; obtain ⟨A6, c6, rfl⟩ := own_shape hv6
                   have hp6 := paths_any l A6 c6 w6 (by omega) HOK.out (fun z hz => by have := h100 z hz; omega) (Sl.of_own hv6) (hg.next (HBEL.out.trans (hb6.mono HBEL.out.size)))
                   have HB6 := Lib.hid (HBEL.out.trans (hb6.mono HBEL.out.size)); have HB56 := Lib.hid hb6
                   clear hv6 hb6 ht5)
      refine hp6.mono ?_
      rintro e w7 ⟨hb7, A7, c7, r7, rfl, hr7, hk7, hs7⟩
      clear hp6
      have hp7 := paths_any lS (some ⟨g, 0, none⟩) cap w7 (by rw [HSL2.out]; omega) HOS.out HSS.out (by rw [HSL2.out]; exact ((HS5.out.keep (HB56.out.trans (hb7.mono HB56.out.size))).more (Nat.le_trans HB56.out.size hb7.size))) (hg.next (HB6.out.trans (hb7.mono HB6.out.size)))
      rw [HSL2.out] at hp7
      have HB7 := Lib.hid (HB6.out.trans (hb7.mono HB6.out.size))
      have HR7 := Lib.hid hr7; have HK7 := Lib.hid hk7; have HS7 := Lib.hid hs7
      clear hb7 hr7 hk7 hs7 HB56 HS5
      go_upto_region 7 with (go_at_call 13; refine hp7.mono ?_; rintro e w8 ⟨hb8, A8, c8, r8, rfl, hr8, hk8, hs8⟩)
      have hrr : r8 = r7 := by
        have h := hr8.trans (HPM.out.trans HR7.out.symm)
        have hinj : ∀ a b : NamedD, (a.1, L a.2) = (b.1, L b.2) → a = b := fun a b h => by
          have h1 := (Prod.ext_iff.1 h).1
          have h2 := (Prod.ext_iff.1 h).2
          exact Prod.ext h1 (by
            have h3 : a.2.data.toList = b.2.data.toList := h2
            cases ha : a.2; cases hb : b.2
            rw [ha, hb] at h3
            simp at h3
            rw [h3])
        exact List.map_inj_right hinj |>.1 h
      subst hrr
      have hs7' := (HS7.out.keep hb8).more hb8.size
      have HB8 := Lib.hid (HB7.out.trans (hb8.mono HB7.out.size))
      have H7 := Lib.hid hs7'; have H8 := Lib.hid hs8
      clear hs7' hs8 hr8 hk8 hb8 hp7 HS7
      have hrl : r8.length ≤ 1099511627776 := by
        have h := congrArg List.length HR7.out
        rw [List.length_map] at h
        rw [h]
        unfold pathsS
        split
        · have := pathsGo_length (lastOf l) (docsS l) []
          have := docsS_length l
          omega
        · simp
      go_wp2_with fail
      go_loopw [12] (fun t wr => ∃ i : Nat, i ≤ r8.length ∧ t = .int .i64 i ∧ Below w8.heap.size w8 wr) (fun t _ => r8.length - (intOf t).toNat)
      case atStart => exact ⟨0, by omega, rfl, Below.refl _ _⟩
      case round =>
        obtain ⟨i, hi, rfl, hbr⟩ := hrel
        by_cases hlt : i < r8.length
        · obtain ⟨b8, o8, rfl, hbl8, hc8⟩ := (H8.out.keep hbr).2 (by omega)
          obtain ⟨b7, o7, rfl, hbl7, hc7⟩ := (H7.out.keep hbr).2 (by omega)
          have i0 : (0 : Int) ≤ (i : Int) := by omega
          have i1 : (i : Int) < (r8.length : Int) := by omega
          have hnx : ∀ z ∈ r8, NamedOk z := fun z hz => ⟨(HK7.out z hz).1, by have := (HK7.out z hz).2; unfold maxLen; omega⟩
          have hn := hnx _ (List.getElem_mem hlt)
          have row8 := Wd.row (base := wr.heap.size) (Sl.row (fun z hz => namedV_length (hnx z hz)) hc8 hlt) (Nat.lt_of_lt_of_le hbl8 hbr.size)
          have row7 := Wd.row (base := wr.heap.size) (Sl.row (fun z hz => namedV_length (hnx z hz)) hc7 hlt) (Nat.lt_of_lt_of_le hbl7 hbr.size)
          generalize r8[i] = z at *
          have hzl := namedV_length hn
          have hsz : (Tryd.prog.info? 37).map (·.size) = some (namedV z).length := by rw [hzl]; kernel_rfl
          have heq : ∀ w' : World, (Op.equalIn 10000 37 (.agg (namedV z).toArray) (.agg (namedV z).toArray)).run Tryd.prog w' = .ok true w' := fun w' => by have := run_eqNamed hn hn w'; simpa using this
          have R8 := Lib.hid row8; have R7 := Lib.hid row7; have HEQ := Lib.hid heq
          clear row8 row7 heq hc8 hc7 hnx
          go_wp2_with fail
          refine wp_region_wd (base := wr.heap.size) wr (Below.refl _ _) (by kernel_rfl) (by kernel_rfl) ?_
          repeat (first
            | go_big_quiet_skip
            | (go_big_quiet_want
               first
                 | (refine quiet_val (fun w' hw' => ex_load 37 _ rfl (p := ⟨b7, o7 + i * 35, none⟩) rfl (run_loadVar_mid w' _ _ _ (namedV z) _ (R7.out w' hw') Tryd.underlying37 rfl hsz)) ?_
                    go_big_quiet_on
                    simp only [Act.put, List.setIfInBounds_toArray, List.set_cons_zero, List.set_cons_succ])
                 | (refine quiet_val (fun w' hw' => ex_load 37 _ rfl (p := ⟨b8, o8 + i * 35, none⟩) rfl (run_loadVar_mid w' _ _ _ (namedV z) _ (R8.out w' hw') Tryd.underlying37 rfl hsz)) ?_
                    go_big_quiet_on
                    simp only [Act.put, List.setIfInBounds_toArray, List.set_cons_zero, List.set_cons_succ])
                 | (refine quiet_val (fun w' hw' => ex_neq 37 _ _ _ rfl (xs := (namedV z).toArray) (ys := (namedV z).toArray) rfl rfl (r := true) eqNamed.noGuard (HEQ.out w')) ?_
                    go_big_quiet_on
                    simp only [Act.put, List.setIfInBounds_toArray, List.set_cons_zero, List.set_cons_succ, Bool.not_true])
                 | (go_big_quiet_op
                    go_big_quiet_on)))
          refine wpQuiet_nil ?_
          rintro w' ⟨k, rfl⟩
          have hk := k.2
          generalize k.val = w9 at *
          have hb9 := Lib.hid (hbr.trans (hk.mono hbr.size))
          clear hk k hbr
          go_wp2_with fail
          go_roundw
          case rel => exact ⟨i + 1, by omega, by go_num, hb9.out⟩
          case measure => simp [intOf]; omega
        · have hb9 := HB8.out.trans (hbr.mono HB8.out.size)
          have haw := awake14_any wr (hg.next hb9)
          have HB9 := Lib.hid hb9
          clear hb9 hbr
          go_wp2_with (go_at_call 17; refine haw.mono ?_; rintro e w10 ⟨hb10, rfl⟩)
          go_ret
          exact ⟨rfl, HB9.out.trans (hb10.mono HB9.out.size)⟩
end Go.Proofs.YtfjmbcljohobeaaDoor
