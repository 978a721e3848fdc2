/-
  What the document's reader reads: ids. Conditions: as RrAt says.
  The document's Decode: what stands on its way. Conditions: none.
-/
import Derived.Test.YthjaepmfkgejkaaGreatDoorMerged24
import Derived.Test.YthjaepmfkgejkaaGreatDoorRefId8
import Derived.Test.YthjaepmfkgejkaaGreatDoorMerged16
import Derived.Test.YthjaepmfkgejkaaGreatDoorMerged9
import Derived.Test.YthjaepmfkgejkaaGreatDoorMerged17
import Derived.Test.YthjaepmfkgejkaaGreatDoorRefBytes8c
import Derived.Test.YthjaepmfkgejkaaGreatDoorRefOpR8
import Derived.Test.YthjaepmfkgejkaaGreatDoorMerged19
import Derived.Test.YthjaepmfkgejkaaGreatDoorMerged2
set_option linter.unusedVariables false
set_option linter.unusedSimpArgs false
set_option maxHeartbeats 4000000
set_option maxRecDepth 100000
namespace Go.Proofs.YthjaepmfkgejkaaGreatDoor
open Lib (hid)
open Go.RowKit Go.Maps
theorem uj (g b off c : Nat) (l : List UInt8) (at' : Nat) (ok : Bool) (most : Nat) (w : World) (hr : RrAt w g b off c l at' ok) (hl : l.length ≤ 1099511627776) (hmost : most ≤ 4096) :
    Calls Tryz.prog 26 #[.pointer (some ⟨g, 0, none⟩), .int .i64 (most : Int)] w (RrGives g b off c l at' ok w (kV most pId) (fun xs v w' => IdsOk xs ∧ xs.length ≤ most ∧ ∃ A co, v = .slice A xs.length co ∧ w'.ownsRow w.heap.size 47 32 (.slice A xs.length co) xs.length (jf xs))) := by
  have HRD := hid hr
  have HGW := hid hr.lt
  clear hr
  have hE1 : ∀ (u : World) (args : Array Value), (callFunc 59 args).run Tryz.prog u = .ok (.enter 59 args) u := fun u args => enters_of Tryz.func59 (by kernel_rfl) rfl args u
  go_enter Tryz.func26, Tryz.ntmps26
  go_upto_region 3 with (first
    | (go_at_call 25; refine (Jc g b off c l at' ok w HRD.out hl).mono ?_; rintro e w1 ⟨n, v1, a1, ok1, rfl, ⟨rfl, hn63⟩, hrd1, hbt1, hp1⟩
       have HRD1 := hid hrd1; have HBT1 := hid hbt1; have HP1 := hid hp1
       clear hrd1 hbt1 hp1))
  obtain ⟨okk, hokk⟩ : ∃ k, (ok1 && decide (n ≤ most)) = k := ⟨_, rfl⟩
  have HKK := hid hokk
  have HLST := hid (fun (h : ok = true) (ys : List (List UInt8)) (r : List UInt8) (hp : kV most pId (l.drop at') = some (ys, r)) => (show okk = true ∧ zY pId n (l.drop a1) = some (ys, r) from by
    unfold kV at hp
    obtain ⟨m, s, h1, h2⟩ := kp hp
    obtain ⟨rfl, rfl, rfl⟩ := HP1.out h m s h1
    unfold KS at h2
    split at h2
    · rename_i hd
      exact ⟨by rw [← HKK.out, hd]; rfl, h2⟩
    · cases h2))
  have c2 : w1.cell? ⟨g, 2, none⟩ = some (.bool ok1) := k6 HRD1.out.box 2
  have f2 := HRD1.out.frozen 2
  obtain ⟨hm1, hm2⟩ := HRD1.out.say okk
  have HM := hid hm1; have HMB := hid hm2
  clear hm1 hm2
  have HB1 := hid (show But (fun k => k = g) w (w1.setCell ⟨g, 2, none⟩ (.bool okk)) from HBT1.out.trans HMB.out fun _ _ q => q)
  cases okk
  ·
   have HNONE := hid (show ok = true → kV most pId (l.drop at') = none from fun h => by
     rcases hq : kV most pId (l.drop at') with _ | ⟨ys, r⟩
     · rfl
     · have h9 := (HLST.out h ys r hq).1
       cases h9)
   cases ok1
   rotate_left
   focus
     have dn : decide ((n : Int) ≤ (most : Int)) = false := by
       have h9 := HKK.out
       rw [Bool.true_and, decide_eq_false_iff_not] at h9
       simp; omega
   all_goals
     go_wp2_with fail
     obtain ⟨wz, hwz⟩ : ∃ u, w1.setCell ⟨g, 2, none⟩ (.bool false) = u := ⟨_, rfl⟩
     rw [hwz] at HM HB1 ⊢
     clear hwz
     go_loopw [5, 7] (fun t5 t7 wr => t5 = .slice none 0 0 ∧ t7 = .int .i64 0 ∧ wr = wz) (fun _ _ _ => 0)
     case atStart => exact ⟨rfl, rfl, rfl⟩
     case round =>
       obtain ⟨rfl, rfl, hwr⟩ := hrel
       subst hwr
       have c2 : wr.cell? ⟨g, 2, none⟩ = some (.bool false) := k6 HM.out.box 2
       rcases Nat.eq_zero_or_pos n with h0 | h0
       focus
         have i1 : ¬ (0 : Int) < (n : Int) := by omega
       rotate_left
       focus
         have i1 : (0 : Int) < (n : Int) := by omega
       all_goals
         go_wp2_with fail
         go_ret
         exact RrGives.bad [] (fun h => HNONE.out h) rfl ⟨fun i hi => absurd hi (by simp), Nat.zero_le _, none, 0, rfl, World.ownsRow_nil _ _ _ _⟩ HM.out HB1.out
  ·
   have hn2 : n ≤ most := by
     have h9 := HKK.out
     rw [Bool.and_eq_true, decide_eq_true_eq] at h9
     exact h9.2
   have ho1 : ok1 = true := by
     have h9 := HKK.out
     rw [Bool.and_eq_true] at h9
     exact h9.1
   subst ho1
   have dn : decide ((n : Int) ≤ (most : Int)) = true := by simp; omega
   go_wp2_with fail
   clear c2 f2
   go_loopw [5, 7] (fun t5 t7 wr => ∃ (xs : List (List UInt8)) (Ao : Option Addr) (co a : Nat), xs.length ≤ n ∧ t7 = .int .i64 ((xs.length : Nat) : Int) ∧ t5 = .slice Ao xs.length co ∧ Hid (RrAt wr g b off c l a true) ∧ Hid (But (fun k => k = g) w wr) ∧ Hid (wr.ownsRow w.heap.size 47 32 (.slice Ao xs.length co) xs.length (jf xs)) ∧ Hid (IdsOk xs) ∧ Hid (LRest pId l n a1 xs.length a xs)) (fun _ t7 _ => n - (intOf t7).toNat)
   case atStart => exact ⟨[], none, 0, a1, Nat.zero_le _, rfl, rfl, HM, HB1, hid (World.ownsRow_nil _ _ _ _), hid (fun i hi => absurd hi (by simp)), hid (LRest.start _ _ _ _)⟩
   case round =>
     clear HM HB1 HMB
     obtain ⟨xs, Ao, co, a, hxn, rfl, rfl, HRR, HBT, HOWN, HIO, HLR⟩ := hrel
     have HBD := hid (show Below wr.heap.size wr wr.drew from (Below.refl _ _).drew)
     have HFK := hid (fun (u : World) (hu : Below wr.heap.size wr u) => (show u.cell? ⟨g, 0, none⟩ = some (.slice (some ⟨b, off, none⟩) l.length c) ∧ u.cell? ⟨g, 1, none⟩ = some (.int .i64 (a : Int)) from ⟨(hu.cell (p := ⟨g, 0, none⟩) HRR.out.lt).trans (k6 HRR.out.box 0), (hu.cell (p := ⟨g, 1, none⟩) HRR.out.lt).trans (k6 HRR.out.box 1)⟩))
     have HF0 := hid (HFK.out _ HBD.out)
     have HGI := hid (fun (u : World) (hu : Below wr.heap.size wr u) => qp l b off c a u hl HRR.out.cap HRR.out.le (Nat.lt_of_lt_of_le (Nat.lt_trans HRR.out.low HRR.out.lt) hu.size) (fun j hj => (hu.cell (p := ⟨b, off + j, none⟩) (Nat.lt_trans HRR.out.low HRR.out.lt)).trans (HRR.out.bytes j hj)))
     have c2 : wr.cell? ⟨g, 2, none⟩ = some (.bool true) := k6 HRR.out.box 2
     by_cases hlt : xs.length < n
     ·
      have i1 : ((xs.length : Nat) : Int) < (n : Int) := by omega
      rcases hg : Kh (l.drop a) with _ | id
      ·
       have HPN : Hid (pId (l.drop a) = none) := hid (by
         unfold Kh at hg
         unfold pId
         split at hg
         · rename_i h; rw [if_pos h]
         · cases hg)
       have HNONE := hid (show ok = true → kV most pId (l.drop at') = none from fun h => by
         rcases hq : kV most pId (l.drop at') with _ | ⟨ys, r⟩
         · rfl
         · have h9 := (HLST.out h ys r hq).2
           rw [HLR.out.fail hlt HPN.out] at h9
           cases h9)
       have HGT := hid (fun (u : World) (e : Ending) (u2 : World) (h : zP l a u e u2) => (show Below u.heap.size u u2 ∧ ∃ q : Int, q ≠ 0 ∧ e = .returned (.tuple #[.agg (idV zero32).toArray, .int .i64 0, .int .i64 q]) by
         unfold zP at h; rw [hg] at h; exact h))
       have HID := hid (show zero32.length = 32 from rfl)
       have HLN := hid (show (idV zero32).length = (idV zero32).length from rfl)
       clear hg
       go_upto_region 7 with fail
       go_cut [8, 9, 10] from 36 to 49 (fun t8 t9 t10 wx => ∃ z, t8 = .pointer (some ⟨z, 0, none⟩) ∧ t9 = .int .i64 0 ∧ (∃ q : Int, q ≠ 0 ∧ t10 = .int .i64 q) ∧ wr.heap.size ≤ z ∧ Hid (Below wr.heap.size wr wx) ∧ Hid (wx.heap[z]? = some (.cells (idV zero32).toArray 47 (0, 0))))
       case first =>
         refine kr 14 (fun u => u.cell? ⟨g, 0, none⟩ = some (.slice (some ⟨b, off, none⟩) l.length c) ∧ u.cell? ⟨g, 1, none⟩ = some (.int .i64 (a : Int))) (by kernel_rfl) ?_
         have hF0 : (fun u => u.cell? ⟨g, 0, none⟩ = some (.slice (some ⟨b, off, none⟩) l.length c) ∧ u.cell? ⟨g, 1, none⟩ = some (.int .i64 (a : Int))) wr.drew := HF0.out
         refine tw 0 (.pointer (some ⟨g, 0, none⟩)) ?_
         go_frame
         refine tw 1 (.pointer (some ⟨g, 0, none⟩)) ?_
         go_frame
         refine tw 2 (.pointer (some ⟨g, 0, none⟩)) ?_
         go_frame
         refine tkF 3 (.slice (some ⟨b, off, none⟩) l.length c) (by kernel_rfl) rfl (fun _ _ _ h => h) (by rfl) hF0 (fun w' hw' => ki 22 _ rfl (p := ⟨g, 0, none⟩) rfl Tryz.underlying22 rfl hw'.1) ?_
         go_frame
         refine tw 4 (.pointer (some ⟨g, 0, none⟩)) ?_
         go_frame
         refine tw 5 (.pointer (some ⟨g, 0, none⟩)) ?_
         go_frame
         refine tw 6 (.pointer (some ⟨g, 1, none⟩)) ?_
         go_frame
         refine tkF 7 (.int .i64 (a : Int)) (by kernel_rfl) rfl (fun _ _ _ h => h) (by rfl) hF0 (fun w' hw' => ki 3 _ rfl (p := ⟨g, 1, none⟩) rfl Tryz.underlying3 rfl hw'.2) ?_
         go_frame
         refine zG (rs := [8, 13]) (by kernel_rfl) (by simp) ?_
         intro q' hq'
         simp only [List.mem_cons, List.not_mem_nil, or_false] at hq'
         rcases hq' with rfl | rfl
         ·
          refine kC _ rfl (by kernel_rfl) (kv (f := 59) (args := #[.slice (some ⟨b, off, none⟩) l.length c, .int .i64 (a : Int)]) rfl rfl (fun args w => hE1 w args) (by simp only [List.map_toArray, List.map_cons, List.map_nil]; rfl)) ?_
          refine (HGI.out (wr.drew) HBD.out).mono ?_
          rintro e v1 hgi
          obtain ⟨hb1, q, hq, rfl⟩ := HGT.out _ e v1 hgi
          have hbv1 : Below wr.heap.size wr v1 := (HBD.out).trans (hb1.mono (HBD.out).size)
          clear hgi
          refine ⟨_, rfl, fun _ _ => HFK.out _ hbv1, ?_⟩
          go_frame
          refine tw 9 (.tuple #[(.agg (idV zero32).toArray), .int .i64 0, .int .i64 q]) ?_
          go_frame
          refine tw 10 (.agg (idV zero32).toArray) ?_
          go_frame
          refine tw 11 (.int .i64 0) ?_
          go_frame
          refine tw 12 (.int .i64 q) ?_
          go_frame
          refine ta 13 ?_
          refine jo _ rfl (by kernel_rfl) (KT (cs := (idV zero32).toArray) rfl (zQ _)) ?_
          have hba : Below wr.heap.size wr ((v1).alloc (.cells (idV zero32).toArray 47)) := (hbv1).alloc (hbv1).size _
          have hzc : ((v1).alloc (.cells (idV zero32).toArray 47)).heap[(v1).heap.size]? = some (.cells (idV zero32).toArray 47 (0, 0)) := heap_alloc_new _ _
          have hzw : wr.heap.size ≤ (v1).heap.size := (hbv1).size
          refine ⟨fun _ _ => HFK.out _ hba, ?_⟩
          go_frame
          refine ta 14 ?_
          refine z6 _ rfl (by kernel_rfl) (K8 47 _ _ rfl ((v1).heap.size) 0 [] (idV zero32) [] (idV zero32) 47 (.agg (idV zero32).toArray) rfl rfl rfl rfl (by simpa using hzc) HLN.out (by rw [km, show zero32.length = 32 from HID.out]; exact kR) (kT _)) ?_
          have hbw : But (fun k => k = (v1).heap.size) ((v1).alloc (.cells (idV zero32).toArray 47)) (World.setCells ((v1).alloc (.cells (idV zero32).toArray 47)) ((v1).heap.size) ([] : List Value).length (idV zero32)) := jY (X := fun k => k = (v1).heap.size) rfl _ _ _
          have hzz : (World.setCells ((v1).alloc (.cells (idV zero32).toArray 47)) ((v1).heap.size) ([] : List Value).length (idV zero32)).heap[(v1).heap.size]? = some (.cells ([] ++ ((idV zero32) ++ [])).toArray 47 (0, 0)) := jN (idV zero32) [] (idV zero32) [] _ HLN.out (by simpa using hzc)
          have hbz : Below wr.heap.size wr (World.setCells ((v1).alloc (.cells (idV zero32).toArray 47)) ((v1).heap.size) ([] : List Value).length (idV zero32)) := (hba).trans (hbw.below (hba).size (fun k hk => by omega))
          have hz7 : wr.heap.size ≤ (v1).heap.size := hzw
          refine ⟨fun h => absurd h (by decide), ?_⟩
          go_frame
          refine tw 15 (.int .i64 0) ?_
          go_frame
          refine tw 16 (.int .i64 q) ?_
          go_frame
          refine kx (by kernel_rfl) ?_ _
          go_wp2_with fail
          go_meet
          case rel => exact ⟨(v1).heap.size, rfl, rfl, ⟨q, hq, rfl⟩, hz7, hid hbz, hid (by simpa using hzz)⟩
         ·
          refine jo _ rfl (by kernel_rfl) (KT (cs := (idV zero32).toArray) rfl (zQ _)) ?_
          have hba : Below wr.heap.size wr ((wr.drew).alloc (.cells (idV zero32).toArray 47)) := (HBD.out).alloc (HBD.out).size _
          have hzc : ((wr.drew).alloc (.cells (idV zero32).toArray 47)).heap[(wr.drew).heap.size]? = some (.cells (idV zero32).toArray 47 (0, 0)) := heap_alloc_new _ _
          have hzw : wr.heap.size ≤ (wr.drew).heap.size := (HBD.out).size
          refine ⟨fun _ _ => HFK.out _ hba, ?_⟩
          go_frame
          refine ta 8 ?_
          refine kC _ rfl (by kernel_rfl) (kv (f := 59) (args := #[.slice (some ⟨b, off, none⟩) l.length c, .int .i64 (a : Int)]) rfl rfl (fun args w => hE1 w args) (by simp only [List.map_toArray, List.map_cons, List.map_nil]; rfl)) ?_
          refine (HGI.out (((wr.drew).alloc (.cells (idV zero32).toArray 47))) hba).mono ?_
          rintro e v1 hgi
          obtain ⟨hb1, q, hq, rfl⟩ := HGT.out _ e v1 hgi
          have hbv1 : Below wr.heap.size wr v1 := (hba).trans (hb1.mono (hba).size)
          have hzv := (hb1.block _ (Array.getElem?_eq_some_iff.1 hzc).1).trans hzc
          clear hgi
          refine ⟨_, rfl, fun _ _ => HFK.out _ hbv1, ?_⟩
          go_frame
          refine tw 9 (.tuple #[(.agg (idV zero32).toArray), .int .i64 0, .int .i64 q]) ?_
          go_frame
          refine tw 10 (.agg (idV zero32).toArray) ?_
          go_frame
          refine tw 11 (.int .i64 0) ?_
          go_frame
          refine tw 12 (.int .i64 q) ?_
          go_frame
          refine ta 14 ?_
          refine z6 _ rfl (by kernel_rfl) (K8 47 _ _ rfl ((wr.drew).heap.size) 0 [] (idV zero32) [] (idV zero32) 47 (.agg (idV zero32).toArray) rfl rfl rfl rfl (by simpa using hzv) HLN.out (by rw [km, show zero32.length = 32 from HID.out]; exact kR) (kT _)) ?_
          have hbw : But (fun k => k = (wr.drew).heap.size) v1 (World.setCells v1 ((wr.drew).heap.size) ([] : List Value).length (idV zero32)) := jY (X := fun k => k = (wr.drew).heap.size) rfl _ _ _
          have hzz : (World.setCells v1 ((wr.drew).heap.size) ([] : List Value).length (idV zero32)).heap[(wr.drew).heap.size]? = some (.cells ([] ++ ((idV zero32) ++ [])).toArray 47 (0, 0)) := jN (idV zero32) [] (idV zero32) [] _ HLN.out (by simpa using hzv)
          have hbz : Below wr.heap.size wr (World.setCells v1 ((wr.drew).heap.size) ([] : List Value).length (idV zero32)) := (hbv1).trans (hbw.below (hbv1).size (fun k hk => by omega))
          have hz7 : wr.heap.size ≤ (wr.drew).heap.size := hzw
          refine ⟨fun h => absurd h (by decide), ?_⟩
          go_frame
          refine tw 15 (.int .i64 0) ?_
          go_frame
          refine tw 16 (.int .i64 q) ?_
          go_frame
          refine kx (by kernel_rfl) ?_ _
          go_wp2_with fail
          go_meet
          case rel => exact ⟨(wr.drew).heap.size, rfl, rfl, ⟨q, hq, rfl⟩, hz7, hid hbz, hid (by simpa using hzz)⟩
       case rest =>
         obtain ⟨z, rfl, rfl, ⟨q, hq, rfl⟩, hz, HBW, HZ⟩ := hcut
         have dq : (q != 0) = true := by simpa [bne, beq_eq_false_iff_ne] using hq
         have HR2 := hid (HRR.out.keep HBW.out)
         have c2' : wc.cell? ⟨g, 2, none⟩ = some (.bool true) := k6 HR2.out.box 2
         have f2 := HR2.out.frozen 2
         obtain ⟨hm1, hm2⟩ := HR2.out.say false
         have HM1 := hid hm1; have HM2 := hid hm2
         clear hm1 hm2 hq
         go_wp2_with fail
         go_ret
         exact RrGives.bad [] (fun h => HNONE.out h) rfl ⟨fun i hi => absurd hi (by simp), Nat.zero_le _, none, 0, rfl, World.ownsRow_nil _ _ _ _⟩ HM1.out ((HBT.out.trans (But.of_below (X := fun k => k = g) HBW.out) fun _ _ q => q).trans HM2.out fun _ _ q => q)
      ·
       have hlen32 : ¬ (l.drop a).length < 32 := by
         intro h
         unfold Kh at hg
         rw [if_pos h] at hg
         cases hg
       have hide : id = (l.drop a).take 32 := by
         unfold Kh at hg
         rw [if_neg hlen32] at hg
         exact (Option.some.inj hg).symm
       have HPID : Hid (pId (l.drop a) = some (id, l.drop (a + 32))) := hid (by
         unfold pId
         rw [if_neg hlen32, hide, List.drop_drop])
       have HGT := hid (fun (u : World) (e : Ending) (u2 : World) (h : zP l a u e u2) => (show Below u.heap.size u u2 ∧ e = .returned (.tuple #[.agg (idV id).toArray, .int .i64 ((a + 32 : Nat) : Int), .int .i64 0]) by
         unfold zP at h; rw [hg] at h; exact h))
       have HID := hid (show id.length = 32 by rw [hide, List.length_take]; omega)
       have HLN := hid (show (idV zero32).length = (idV id).length by rw [km, km, show id.length = 32 from HID.out]; rfl)
       have HLE := hid (show a + 32 ≤ l.length by rw [List.length_drop] at hlen32; omega)
       clear hg hide hlen32
       go_upto_region 7 with fail
       go_cut [8, 9, 10] from 36 to 49 (fun t8 t9 t10 wx => ∃ z, t8 = .pointer (some ⟨z, 0, none⟩) ∧ t9 = .int .i64 ((a + 32 : Nat) : Int) ∧ t10 = .int .i64 0 ∧ wr.heap.size ≤ z ∧ Hid (Below wr.heap.size wr wx) ∧ Hid (wx.heap[z]? = some (.cells (idV id).toArray 47 (0, 0))))
       case first =>
         refine kr 14 (fun u => u.cell? ⟨g, 0, none⟩ = some (.slice (some ⟨b, off, none⟩) l.length c) ∧ u.cell? ⟨g, 1, none⟩ = some (.int .i64 (a : Int))) (by kernel_rfl) ?_
         have hF0 : (fun u => u.cell? ⟨g, 0, none⟩ = some (.slice (some ⟨b, off, none⟩) l.length c) ∧ u.cell? ⟨g, 1, none⟩ = some (.int .i64 (a : Int))) wr.drew := HF0.out
         refine tw 0 (.pointer (some ⟨g, 0, none⟩)) ?_
         go_frame
         refine tw 1 (.pointer (some ⟨g, 0, none⟩)) ?_
         go_frame
         refine tw 2 (.pointer (some ⟨g, 0, none⟩)) ?_
         go_frame
         refine tkF 3 (.slice (some ⟨b, off, none⟩) l.length c) (by kernel_rfl) rfl (fun _ _ _ h => h) (by rfl) hF0 (fun w' hw' => ki 22 _ rfl (p := ⟨g, 0, none⟩) rfl Tryz.underlying22 rfl hw'.1) ?_
         go_frame
         refine tw 4 (.pointer (some ⟨g, 0, none⟩)) ?_
         go_frame
         refine tw 5 (.pointer (some ⟨g, 0, none⟩)) ?_
         go_frame
         refine tw 6 (.pointer (some ⟨g, 1, none⟩)) ?_
         go_frame
         refine tkF 7 (.int .i64 (a : Int)) (by kernel_rfl) rfl (fun _ _ _ h => h) (by rfl) hF0 (fun w' hw' => ki 3 _ rfl (p := ⟨g, 1, none⟩) rfl Tryz.underlying3 rfl hw'.2) ?_
         go_frame
         refine zG (rs := [8, 13]) (by kernel_rfl) (by simp) ?_
         intro q' hq'
         simp only [List.mem_cons, List.not_mem_nil, or_false] at hq'
         rcases hq' with rfl | rfl
         ·
          refine kC _ rfl (by kernel_rfl) (kv (f := 59) (args := #[.slice (some ⟨b, off, none⟩) l.length c, .int .i64 (a : Int)]) rfl rfl (fun args w => hE1 w args) (by simp only [List.map_toArray, List.map_cons, List.map_nil]; rfl)) ?_
          refine (HGI.out (wr.drew) HBD.out).mono ?_
          rintro e v1 hgi
          obtain ⟨hb1, rfl⟩ := HGT.out _ e v1 hgi
          have hbv1 : Below wr.heap.size wr v1 := (HBD.out).trans (hb1.mono (HBD.out).size)
          clear hgi
          refine ⟨_, rfl, fun _ _ => HFK.out _ hbv1, ?_⟩
          go_frame
          refine tw 9 (.tuple #[(.agg (idV id).toArray), .int .i64 ((a + 32 : Nat) : Int), .int .i64 0]) ?_
          go_frame
          refine tw 10 (.agg (idV id).toArray) ?_
          go_frame
          refine tw 11 (.int .i64 ((a + 32 : Nat) : Int)) ?_
          go_frame
          refine tw 12 (.int .i64 0) ?_
          go_frame
          refine ta 13 ?_
          refine jo _ rfl (by kernel_rfl) (KT (cs := (idV zero32).toArray) rfl (zQ _)) ?_
          have hba : Below wr.heap.size wr ((v1).alloc (.cells (idV zero32).toArray 47)) := (hbv1).alloc (hbv1).size _
          have hzc : ((v1).alloc (.cells (idV zero32).toArray 47)).heap[(v1).heap.size]? = some (.cells (idV zero32).toArray 47 (0, 0)) := heap_alloc_new _ _
          have hzw : wr.heap.size ≤ (v1).heap.size := (hbv1).size
          refine ⟨fun _ _ => HFK.out _ hba, ?_⟩
          go_frame
          refine ta 14 ?_
          refine z6 _ rfl (by kernel_rfl) (K8 47 _ _ rfl ((v1).heap.size) 0 [] (idV zero32) [] (idV id) 47 (.agg (idV id).toArray) rfl rfl rfl rfl (by simpa using hzc) HLN.out (by rw [km, show id.length = 32 from HID.out]; exact kR) (kT _)) ?_
          have hbw : But (fun k => k = (v1).heap.size) ((v1).alloc (.cells (idV zero32).toArray 47)) (World.setCells ((v1).alloc (.cells (idV zero32).toArray 47)) ((v1).heap.size) ([] : List Value).length (idV id)) := jY (X := fun k => k = (v1).heap.size) rfl _ _ _
          have hzz : (World.setCells ((v1).alloc (.cells (idV zero32).toArray 47)) ((v1).heap.size) ([] : List Value).length (idV id)).heap[(v1).heap.size]? = some (.cells ([] ++ ((idV id) ++ [])).toArray 47 (0, 0)) := jN (idV id) [] (idV zero32) [] _ HLN.out (by simpa using hzc)
          have hbz : Below wr.heap.size wr (World.setCells ((v1).alloc (.cells (idV zero32).toArray 47)) ((v1).heap.size) ([] : List Value).length (idV id)) := (hba).trans (hbw.below (hba).size (fun k hk => by omega))
          have hz7 : wr.heap.size ≤ (v1).heap.size := hzw
          refine ⟨fun h => absurd h (by decide), ?_⟩
          go_frame
          refine tw 15 (.int .i64 ((a + 32 : Nat) : Int)) ?_
          go_frame
          refine tw 16 (.int .i64 0) ?_
          go_frame
          refine kx (by kernel_rfl) ?_ _
          go_wp2_with fail
          go_meet
          case rel => exact ⟨(v1).heap.size, rfl, rfl, rfl, hz7, hid hbz, hid (by simpa using hzz)⟩
         ·
          refine jo _ rfl (by kernel_rfl) (KT (cs := (idV zero32).toArray) rfl (zQ _)) ?_
          have hba : Below wr.heap.size wr ((wr.drew).alloc (.cells (idV zero32).toArray 47)) := (HBD.out).alloc (HBD.out).size _
          have hzc : ((wr.drew).alloc (.cells (idV zero32).toArray 47)).heap[(wr.drew).heap.size]? = some (.cells (idV zero32).toArray 47 (0, 0)) := heap_alloc_new _ _
          have hzw : wr.heap.size ≤ (wr.drew).heap.size := (HBD.out).size
          refine ⟨fun _ _ => HFK.out _ hba, ?_⟩
          go_frame
          refine ta 8 ?_
          refine kC _ rfl (by kernel_rfl) (kv (f := 59) (args := #[.slice (some ⟨b, off, none⟩) l.length c, .int .i64 (a : Int)]) rfl rfl (fun args w => hE1 w args) (by simp only [List.map_toArray, List.map_cons, List.map_nil]; rfl)) ?_
          refine (HGI.out (((wr.drew).alloc (.cells (idV zero32).toArray 47))) hba).mono ?_
          rintro e v1 hgi
          obtain ⟨hb1, rfl⟩ := HGT.out _ e v1 hgi
          have hbv1 : Below wr.heap.size wr v1 := (hba).trans (hb1.mono (hba).size)
          have hzv := (hb1.block _ (Array.getElem?_eq_some_iff.1 hzc).1).trans hzc
          clear hgi
          refine ⟨_, rfl, fun _ _ => HFK.out _ hbv1, ?_⟩
          go_frame
          refine tw 9 (.tuple #[(.agg (idV id).toArray), .int .i64 ((a + 32 : Nat) : Int), .int .i64 0]) ?_
          go_frame
          refine tw 10 (.agg (idV id).toArray) ?_
          go_frame
          refine tw 11 (.int .i64 ((a + 32 : Nat) : Int)) ?_
          go_frame
          refine tw 12 (.int .i64 0) ?_
          go_frame
          refine ta 14 ?_
          refine z6 _ rfl (by kernel_rfl) (K8 47 _ _ rfl ((wr.drew).heap.size) 0 [] (idV zero32) [] (idV id) 47 (.agg (idV id).toArray) rfl rfl rfl rfl (by simpa using hzv) HLN.out (by rw [km, show id.length = 32 from HID.out]; exact kR) (kT _)) ?_
          have hbw : But (fun k => k = (wr.drew).heap.size) v1 (World.setCells v1 ((wr.drew).heap.size) ([] : List Value).length (idV id)) := jY (X := fun k => k = (wr.drew).heap.size) rfl _ _ _
          have hzz : (World.setCells v1 ((wr.drew).heap.size) ([] : List Value).length (idV id)).heap[(wr.drew).heap.size]? = some (.cells ([] ++ ((idV id) ++ [])).toArray 47 (0, 0)) := jN (idV id) [] (idV zero32) [] _ HLN.out (by simpa using hzv)
          have hbz : Below wr.heap.size wr (World.setCells v1 ((wr.drew).heap.size) ([] : List Value).length (idV id)) := (hbv1).trans (hbw.below (hbv1).size (fun k hk => by omega))
          have hz7 : wr.heap.size ≤ (wr.drew).heap.size := hzw
          refine ⟨fun h => absurd h (by decide), ?_⟩
          go_frame
          refine tw 15 (.int .i64 ((a + 32 : Nat) : Int)) ?_
          go_frame
          refine tw 16 (.int .i64 0) ?_
          go_frame
          refine kx (by kernel_rfl) ?_ _
          go_wp2_with fail
          go_meet
          case rel => exact ⟨(wr.drew).heap.size, rfl, rfl, rfl, hz7, hid hbz, hid (by simpa using hzz)⟩
       case rest =>
         obtain ⟨z, rfl, rfl, rfl, hz, HBW, HZ⟩ := hcut
         have HR2 := hid (HRR.out.keep HBW.out)
         have HBAL := hid (show Below wc.heap.size wc (wc.alloc (.cells (idV id).toArray 47)) from (Below.refl _ _).alloc (Nat.le_refl _) _)
         have HOA := hid ((But.of_below (X := NoB) (HBW.out.trans (HBAL.out.mono HBW.out.size))).own HOWN.out fun _ _ q => q)
         have HZC := hid (show ∀ j v, (idV id)[j]? = some v → wc.cell? ⟨z, 0 + j, none⟩ = some v from fun j v hj => by rw [Nat.zero_add]; exact (k6 HZ.out j).trans hj)
         have HBZ := hid (show w.heap.size ≤ (wc.alloc (.cells (idV id).toArray 47)).heap.size from Nat.le_trans HBT.out.size (Nat.le_trans HBW.out.size HBAL.out.size))
         have HNW := hid (show ∀ j u, (idV id)[j]? = some u → (wc.alloc (.cells (idV id).toArray 47)).cell? ((⟨wc.heap.size, 0, none⟩ : Addr).add j) = some u from fun j u hj => by
           have e1 : (⟨wc.heap.size, 0, none⟩ : Addr).add j = ⟨wc.heap.size, j, none⟩ := by unfold Addr.add; split <;> simp_all
           rw [e1]
           exact (k6 (heap_alloc_new _ _) j).trans hj)
         go_upto_region 12 with (first
           | (with_reducible refine ke ?_
              refine zF rfl 47 _ rfl z 0 rfl (idV id) _ HZC.out Tryz.underlying47 rfl (by rw [km, show id.length = 32 from HID.out]; exact kR) ?_)
           | (refine K0 (by rfl) 23 _ rfl 47 Tryz.underlying23 (.agg (idV zero32).toArray) 32 32 Uf rfl (by decide) (by decide) (idV id) (by rw [km]; exact HID.out) rfl ?_)
           | (at_builtin; refine Kn (by rfl) _ _ 23 rfl w.heap.size 47 (.agg (idV zero32).toArray) 32 32 Tryz.underlying23 Uf rfl (by decide) (.slice Ao xs.length co) xs.length (jf xs) rfl HOA.out ⟨wc.heap.size, 0, none⟩ 1 1 (idV id) rfl (by rw [km, Nat.one_mul]; exact HID.out) HNW.out (kT _) (by unfold maxLen; omega) (by omega) HBZ.out ?_
              intro v9 w9 ho9 hg9 hw9
              obtain ⟨A9, c9, rfl⟩ := kB ho9
              have HO9 := hid ho9; have HG9 := hid hg9
              clear ho9 hg9 hw9))
         have HB9 := hid (show Below wc.heap.size wc w9 ∨ True from .inr trivial)
         have HR9 := hid (show RrAt w9 g b off c l a true from (HR2.out.keep HBAL.out).but (X := fun k => (Value.slice Ao xs.length co).ownBlock = some k) ((But.refl _ _).grown HG9.out fun k hk _ => hk) (fun k hk e => by have h1 := (HOWN.out.lt k e).1; have h2 := HGW.out; omega))
         have HT9 := hid (show But (fun k => k = g) w w9 from ((HBT.out.trans (But.of_below (X := fun k => k = g) HBW.out) fun _ _ q => q).andBelow HBAL.out).trans (Y := fun k => (Value.slice Ao xs.length co).ownBlock = some k) ((But.refl _ _).grown HG9.out fun k hk _ => hk) (fun k hk e => by have h1 := (HOWN.out.lt k e).1; omega))
         have d1 : w9.cell? ⟨g, 1, none⟩ = some (.int .i64 (a : Int)) := k6 HR9.out.box 1
         have f1 := HR9.out.frozen 1
         obtain ⟨hm1, hm2⟩ := HR9.out.move (at2 := a + 32) HLE.out
         have HM1 := hid hm1; have HM2 := hid hm2
         clear hm1 hm2 HB9
         go_wp2_with fail
         go_roundw
         case rel => exact ⟨xs ++ [id], A9, c9, a + 32, by rw [List.length_append, List.length_singleton]; omega, by rw [List.length_append, List.length_singleton]; go_num, by rw [List.length_append, List.length_singleton], HM1, hid (HT9.out.trans HM2.out fun _ _ q => q), hid (by
           rw [List.length_append, List.length_singleton, ue]
           exact (HM2.out.own HO9.out fun k hk e => by have h1 := (HO9.out.lt k hk).1; have h2 := HGW.out; omega)), hid (HIO.out.app fun i hi => by rw [List.mem_singleton.1 hi]; exact HID.out), hid (by rw [List.length_append, List.length_singleton]; exact HLR.out.next (by omega) HPID.out)⟩
         case measure => (simp [intOf]) <;> omega
     ·
      have i1 : ¬ ((xs.length : Nat) : Int) < (n : Int) := by omega
      have HEND := hid (HLR.out.end (show n ≤ xs.length by omega))
      have hxm : xs.length ≤ most := by omega
      go_wp2_with fail
      go_ret
      exact ⟨xs, _, a, true, rfl, ⟨HIO.out, hxm, Ao, co, rfl, HOWN.out⟩, HRR.out, HBT.out, fun h ys r hp => by
        have h9 := (HLST.out h ys r hp).2
        rw [HEND.out] at h9
        cases h9
        exact ⟨rfl, rfl, rfl⟩⟩
end Go.Proofs.YthjaepmfkgejkaaGreatDoor
namespace Go.Proofs.YthjaepmfkgejkaaGreatDoor
open Go.RowKit Go.Maps
structure DcSt (w : World) (z2 z4 z5 b off c : Nat) (l : List UInt8) (cs : List Value) (a : Nat) (ok : Bool) (wx : World) : Prop where
  rd : RrAt wx z5 b off c l a ok
  bel : Below w.heap.size w wx
  res : wx.heap[z2]? = some (.cells objZ.toArray 30 (0, 0))
  obj : wx.heap[z4]? = some (.cells cs.toArray 30 (0, 0))
structure DcZ (w : World) (z2 z4 z5 : Nat) : Prop where
  n2 : w.heap.size ≤ z2
  n4 : w.heap.size ≤ z4
  n5 : w.heap.size ≤ z5
  a24 : z2 ≠ z4
  a25 : z2 ≠ z5
  a45 : z4 ≠ z5
section
variable {w wx wy : World} {z2 z4 z5 b off c a a2 : Nat} {l : List UInt8} {cs cs' : List Value} {ok ok2 : Bool}
theorem DcSt.l2 (h : DcSt w z2 z4 z5 b off c l cs a ok wx) : z2 < wx.heap.size := (Array.getElem?_eq_some_iff.1 h.res).1
theorem DcSt.l4 (h : DcSt w z2 z4 z5 b off c l cs a ok wx) : z4 < wx.heap.size := (Array.getElem?_eq_some_iff.1 h.obj).1
theorem DcSt.read (h : DcSt w z2 z4 z5 b off c l cs a ok wx) (hz : DcZ w z2 z4 z5) (hr : RrAt wy z5 b off c l a2 ok2) (hb : But (fun k => k = z5) wx wy) : DcSt w z2 z4 z5 b off c l cs a2 ok2 wy := by
  have h1 := hz.n5; have h2 := hz.a25; have h3 := hz.a45
  exact ⟨hr, h.bel.trans (hb.below h.bel.size fun k hk e => by omega), (hb.block z2 h.l2 (by omega)).trans h.res, (hb.block z4 h.l4 (by omega)).trans h.obj⟩
theorem DcSt.keep (h : DcSt w z2 z4 z5 b off c l cs a ok wx) (hb : Below wx.heap.size wx wy) : DcSt w z2 z4 z5 b off c l cs a ok wy :=
  ⟨h.rd.keep hb, h.bel.trans (hb.mono h.bel.size), (hb.block z2 h.l2).trans h.res, (hb.block z4 h.l4).trans h.obj⟩
theorem DcSt.put (h : DcSt w z2 z4 z5 b off c l cs a ok wx) (hz : DcZ w z2 z4 z5) (hw : b < w.heap.size) (hb : But (fun k => k = z4) wx wy) (hy : wy.heap[z4]? = some (.cells cs'.toArray 30 (0, 0))) : DcSt w z2 z4 z5 b off c l cs' a ok wy := by
  have h1 := hz.n4; have h2 := hz.a24; have h3 := hz.a45; have h4 := h.rd.lt; have h5 := h.rd.low
  exact ⟨⟨(hb.block z5 h.rd.lt (by omega)).trans h.rd.box, h.rd.le, h.rd.cap, h.rd.low, fun j hj => (hb.cell (Nat.lt_trans h5 h4) (by omega)).trans (h.rd.bytes j hj)⟩, h.bel.trans (hb.below h.bel.size fun k hk e => by omega), (hb.block z2 h.l2 (by omega)).trans h.res, hy⟩
end
theorem UY (b off n c : Nat) (w : World) : (Instr.build 63 #[(0, .slice (some ⟨b, off, none⟩) n c), (1, .int .i64 1), (2, .bool true)]).run Tryz.prog w = .ok (.agg ([.slice (some ⟨b, off, none⟩) n c, .int .i64 1, .bool true] : List Value).toArray) w := by kernel_rfl
theorem Jm {ρ : Operand → Value} {o : Oper} {w : World} (x : Operand) (ho : o.op = .convert 22 9 x) {v r : Value} (hx : ρ x = v) (hr : (convert 22 9 v).run Tryz.prog w = .ok r w) : (execOp ρ o).run Tryz.prog w = .ok (.value r) w := by
  unfold execOp
  simp only [ho, hx, Sem.run_bind, hr, Result.andThen_ok, Sem.run_pure]
theorem Zo {ρ : Operand → Value} {o : Oper} {w : World} (x y : Operand) (t' : TypeId) (ho : o.op = .binOp .neq 9 x y t') {s t : ByteArray} (hx : ρ x = .string s) (hy : ρ y = .string t) {r : Bool} (hr : (!(s.toList == t.toList)) = r) : (execOp ρ o).run Tryz.prog w = .ok (.value (.bool r)) w := by
  subst hr
  unfold execOp
  simp only [ho, hx, hy]
  rfl
theorem uy {w : World} {B c : Nat} {A : Option Addr} {l : List UInt8} (h : Sl w B A l.length 1 (idV l)) (hp : 0 < l.length) : (convert 22 9 (.slice A l.length c)).run Tryz.prog w = .ok (.string ⟨l.toArray⟩) w := by
  obtain ⟨b, off, rfl, _, hc⟩ := h.2 hp
  have hb : Lib.Bytes w b off ⟨l.toArray⟩ := Z6 fun j hj => hc j _ (by unfold idV; rw [List.getElem?_map, List.getElem?_eq_getElem hj]; rfl)
  have hw := Lib.run_convert_window (P := Tryz.prog) w 22 5 9 Tryz.underlying22 Tryz.underlying5 Tryz.underlying9 b off ⟨l.toArray⟩ hb 0 l.length c (by rw [vI]; omega)
  rw [KZ, List.drop_zero, List.take_length, Nat.add_zero] at hw
  exact hw
theorem vV (o : KO) : 0 < (KQ o).length := by
  unfold KQ zI zS
  split <;> simp
theorem qq (x y : List UInt8) : ((⟨x.toArray⟩ : ByteArray).toList == (⟨y.toArray⟩ : ByteArray).toList) = decide (x = y) := by
  rw [str_beq, L_mk, L_mk]
theorem qr {l : List UInt8} {ps cs : List (List UInt8)} {au ms : ByteArray} {st a1 a2 a3 a4 a5 : Nat} {ok1 ok2 ok3 ok4 ok5 : Bool}
    (h1 : true = true → ∀ y r, kV 2 pId (l.drop 1) = some (y, r) → ps = y ∧ r = l.drop a1 ∧ ok1 = true)
    (h2 : ok1 = true → ∀ y r, kV 4096 pId (l.drop a1) = some (y, r) → cs = y ∧ r = l.drop a2 ∧ ok2 = true)
    (h3 : ok2 = true → ∀ y r, jL (l.drop a2) = some (y, r) → au = y ∧ r = l.drop a3 ∧ ok3 = true)
    (h4 : ok3 = true → ∀ y r, jL (l.drop a3) = some (y, r) → ms = y ∧ r = l.drop a4 ∧ ok4 = true)
    (h5 : ok4 = true → ∀ y r, zR (l.drop a4) = some (y, r) → st = y ∧ r = l.drop a5 ∧ ok5 = true)
    (hb : zX l = some (75, l.drop 1)) (o : KO) (ho : ji l = some o) : ok5 = true ∧ o = (2, kL, (ps, cs, au, ms, ((st : Nat) : Int))) := by
  rw [readS_cm hb] at ho
  rcases hp : zJ (l.drop 1) with _ | ⟨m, q⟩
  · rw [hp] at ho; cases ho
  ·
   rw [hp] at ho
   simp only at ho
   split at ho
   ·
    cases ho
    unfold zJ at hp
    obtain ⟨x1, r1, g1, hp⟩ := kp hp
    obtain ⟨x2, r2, g2, hp⟩ := kp hp
    obtain ⟨x3, r3, g3, hp⟩ := kp hp
    obtain ⟨x4, r4, g4, hp⟩ := kp hp
    obtain ⟨x5, r5, g5, hp⟩ := kp hp
    unfold Jk at g5
    obtain ⟨x6, r6, g6, g5⟩ := kp g5
    cases g5
    cases hp
    obtain ⟨rfl, rfl, k1⟩ := h1 rfl _ _ g1
    obtain ⟨rfl, rfl, k2⟩ := h2 k1 _ _ g2
    obtain ⟨rfl, rfl, k3⟩ := h3 k2 _ _ g3
    obtain ⟨rfl, rfl, k4⟩ := h4 k3 _ _ g4
    obtain ⟨rfl, rfl, k5⟩ := h5 k4 _ _ g6
    exact ⟨k5, rfl⟩
   · cases ho
end Go.Proofs.YthjaepmfkgejkaaGreatDoor
