/-
  What the document's reader reads: numbers, texts. Conditions: as RrAt says.
  What the document's reader reads: a ref. Conditions: as RrAt says.
-/
import Derived.Test.YthjaepmfkgejkaaGreatDoorRefLeb8
import Derived.Test.YthjaepmfkgejkaaGreatDoorMerged14
import Derived.Test.YthjaepmfkgejkaaGreatDoorMerged9
import Derived.Test.YthjaepmfkgejkaaGreatDoorObjReader3
import Derived.Test.YthjaepmfkgejkaaGreatDoorMerged19
set_option linter.unusedVariables false
set_option linter.unusedSimpArgs false
set_option maxHeartbeats 4000000
set_option maxRecDepth 100000
namespace Go.Proofs.YthjaepmfkgejkaaGreatDoor
open Lib (hid)
open Go.RowKit Go.Maps
structure RrAt (w : World) (g b off c : Nat) (l : List UInt8) (at' : Nat) (ok : Bool) : Prop where
  box : w.heap[g]? = some (.cells #[.slice (some ⟨b, off, none⟩) l.length c, .int .i64 (at' : Int), .bool ok] 63 (0, 0))
  le : at' ≤ l.length
  cap : l.length ≤ c
  low : b < g
  bytes : ∀ j (h : j < l.length), w.cell? ⟨b, off + j, none⟩ = some (.int .u8 ((l[j]).toNat : Int))
section
variable {g b off c at' at2 : Nat} {l : List UInt8} {ok : Bool} {w w' : World}
theorem RrAt.lt (h : RrAt w g b off c l at' ok) : g < w.heap.size := (Array.getElem?_eq_some_iff.1 h.box).1
theorem RrAt.but {X : Nat → Prop} (h : RrAt w g b off c l at' ok) (hb : But X w w') (hx : ∀ k, k ≤ g → ¬ X k) : RrAt w' g b off c l at' ok :=
  ⟨(hb.block g h.lt (hx g (Nat.le_refl _))).trans h.box, h.le, h.cap, h.low, fun j hj => (hb.cell (Nat.lt_trans h.low h.lt) (hx b (Nat.le_of_lt h.low))).trans (h.bytes j hj)⟩
theorem RrAt.keep (h : RrAt w g b off c l at' ok) (hb : Below w.heap.size w w') : RrAt w' g b off c l at' ok := h.but (X := NoB) (But.of_below hb) fun _ _ q => q
theorem RrAt.move (h : RrAt w g b off c l at' ok) (h2 : at2 ≤ l.length) : RrAt (w.setCell ⟨g, 1, none⟩ (.int .i64 (at2 : Int))) g b off c l at2 ok ∧ But (fun k => k = g) w (w.setCell ⟨g, 1, none⟩ (.int .i64 (at2 : Int))) := by
  have hb : But (fun k => k = g) w (w.setCell ⟨g, 1, none⟩ (.int .i64 (at2 : Int))) := But.setCell (X := fun k => k = g) (But.refl _ _) (p := ⟨g, 1, none⟩) (fun _ => rfl) _
  have hlow := h.low
  refine ⟨⟨?_, h2, h.cap, h.low, fun j hj => ?_⟩, hb⟩
  · have hbox := h.box
    simp [World.setCell, Array.getElem?_modify, hbox]
  · exact (hb.cell (Nat.lt_trans h.low h.lt) (by show ¬ b = g; omega)).trans (h.bytes j hj)
theorem RrAt.say (h : RrAt w g b off c l at' ok) (k : Bool) : RrAt (w.setCell ⟨g, 2, none⟩ (.bool k)) g b off c l at' k ∧ But (fun k => k = g) w (w.setCell ⟨g, 2, none⟩ (.bool k)) := by
  have hb : But (fun k => k = g) w (w.setCell ⟨g, 2, none⟩ (.bool k)) := But.setCell (X := fun k => k = g) (But.refl _ _) (p := ⟨g, 2, none⟩) (fun _ => rfl) _
  have hlow := h.low
  refine ⟨⟨?_, h.le, h.cap, h.low, fun j hj => ?_⟩, hb⟩
  · have hbox := h.box
    simp [World.setCell, Array.getElem?_modify, hbox]
  · exact (hb.cell (Nat.lt_trans h.low h.lt) (by show ¬ b = g; omega)).trans (h.bytes j hj)
theorem RrAt.frozen (h : RrAt w g b off c l at' ok) (j : Nat) : w.frozen? ⟨g, j, none⟩ = false := by
  have hbox := h.box
  simp [World.frozen?, hbox]
end
def RrGives (g b off c : Nat) (l : List UInt8) (at' : Nat) (ok : Bool) (w : World) {α : Type} (p : Ps α) (R : α → Value → World → Prop) (e : Ending) (w' : World) : Prop :=
  ∃ (x : α) (v : Value) (at2 : Nat) (ok2 : Bool), e = .returned v ∧ R x v w' ∧ RrAt w' g b off c l at2 ok2 ∧ But (fun k => k = g) w w' ∧ (ok = true → ∀ y r, p (l.drop at') = some (y, r) → x = y ∧ r = l.drop at2 ∧ ok2 = true)
theorem RrGives.bad {g b off c at' at2 : Nat} {l : List UInt8} {ok ok2 : Bool} {w w' : World} {α : Type} {p : Ps α} {R : α → Value → World → Prop} {e : Ending} {v : Value} (x : α) (h : ok = true → p (l.drop at') = none) (he : e = .returned v) (hR : R x v w') (h2 : RrAt w' g b off c l at2 ok2) (h3 : But (fun k => k = g) w w') : RrGives g b off c l at' ok w p R e w' :=
  ⟨x, v, at2, ok2, he, hR, h2, h3, fun ho y r hp => by rw [h ho] at hp; cases hp⟩
theorem RrGives.good {g b off c at' at2 : Nat} {l : List UInt8} {ok : Bool} {w w' : World} {α : Type} {p : Ps α} {R : α → Value → World → Prop} {e : Ending} {v : Value} {x : α} (h : p (l.drop at') = some (x, l.drop at2)) (he : e = .returned v) (hR : R x v w') (h2 : RrAt w' g b off c l at2 true) (h3 : But (fun k => k = g) w w') : RrGives g b off c l at' ok w p R e w' :=
  ⟨x, v, at2, true, he, hR, h2, h3, fun _ y r hp => by rw [h] at hp; cases hp; exact ⟨rfl, rfl, rfl⟩⟩
theorem Jc (g b off c : Nat) (l : List UInt8) (at' : Nat) (ok : Bool) (w : World) (hr : RrAt w g b off c l at' ok) (hl : l.length ≤ 1099511627776) :
    Calls Tryz.prog 25 #[.pointer (some ⟨g, 0, none⟩)] w (RrGives g b off c l at' ok w zR (fun n v _ => v = .int .i64 ((n : Nat) : Int) ∧ n < 9223372036854775808)) := by
  have HRD := hid hr
  rcases hp : KB (l.drop at') with _ | ⟨n, k⟩
  ·
   have HP := hid hp
   clear hp hr
   have hE1 : ∀ (u : World) (args : Array Value), (callFunc 58 args).run Tryz.prog u = .ok (.enter 58 args) u := fun u args => enters_of Tryz.func58 (by kernel_rfl) rfl args u
   go_enter Tryz.func25, Tryz.ntmps25
   go_upto_region 1 with fail
   refine kr 9 (fun u => u.cell? ⟨g, 0, none⟩ = some (.slice (some ⟨b, off, none⟩) l.length c) ∧ u.cell? ⟨g, 1, none⟩ = some (.int .i64 (at' : Int))) (by kernel_rfl) ?_
   have hF0 : (fun u => u.cell? ⟨g, 0, none⟩ = some (.slice (some ⟨b, off, none⟩) l.length c) ∧ u.cell? ⟨g, 1, none⟩ = some (.int .i64 (at' : Int))) w.drew := ⟨k6 (HRD.out.keep (Below.refl _ w).drew).box 0, k6 (HRD.out.keep (Below.refl _ w).drew).box 1⟩
   refine tw 0 (.pointer (some ⟨g, 0, none⟩)) ?_
   go_frame
   refine tw 1 (.pointer (some ⟨g, 0, none⟩)) ?_
   go_frame
   refine tw 2 (.pointer (some ⟨g, 0, none⟩)) ?_
   go_frame
   refine tkF 3 (.slice (some ⟨b, off, none⟩) l.length c) (by kernel_rfl) rfl (fun _ _ _ h => h) (by rfl) hF0 (fun w' hw' => ki 22 _ rfl (p := ⟨g, 0, none⟩) rfl Tryz.underlying22 rfl hw'.1) ?_
   go_frame
   refine tw 4 (.pointer (some ⟨g, 0, none⟩)) ?_
   go_frame
   refine tw 5 (.pointer (some ⟨g, 0, none⟩)) ?_
   go_frame
   refine tw 6 (.pointer (some ⟨g, 1, none⟩)) ?_
   go_frame
   refine tkF 7 (.int .i64 (at' : Int)) (by kernel_rfl) rfl (fun _ _ _ h => h) (by rfl) hF0 (fun w' hw' => ki 3 _ rfl (p := ⟨g, 1, none⟩) rfl Tryz.underlying3 rfl hw'.2) ?_
   go_frame
   refine ta 8 ?_
   refine kC _ rfl (by kernel_rfl) (kv (f := 58) (args := #[.slice (some ⟨b, off, none⟩) l.length c, .int .i64 (at' : Int)]) rfl rfl (fun args w => hE1 w args) (by simp only [List.map_toArray, List.map_cons, List.map_nil]; rfl)) ?_
   refine (vt l b off c at' w.drew hl HRD.out.cap HRD.out.le (HRD.out.keep (Below.refl _ w).drew).bytes).mono ?_
   rintro e w3 ⟨rfl, hg⟩
   rw [HP.out] at hg
   obtain rfl := hg
   refine ⟨_, rfl, fun _ h => h, ?_⟩
   go_frame
   refine tw 9 (.tuple #[.int .i64 0, .int .i64 0, .int .i64 6]) ?_
   go_frame
   refine tw 10 (.int .i64 0) ?_
   go_frame
   refine tw 11 (.int .i64 0) ?_
   go_frame
   refine tw 12 (.int .i64 6) ?_
   go_frame
   refine tw 13 (.int .i64 0) ?_
   go_frame
   refine tw 14 (.int .i64 0) ?_
   go_frame
   refine tw 15 (.int .i64 6) ?_
   go_frame
   refine kx (by kernel_rfl) ?_ _
   clear hE1 hF0
   obtain ⟨w2, hwd⟩ : ∃ u, w.drew = u := ⟨_, rfl⟩
   have HBD := hid (show Below w.heap.size w w2 by rw [← hwd]; exact (Below.refl _ _).drew)
   rw [hwd]
   clear hwd
   have HRD2 := hid (HRD.out.keep HBD.out); have HB2 := hid (But.of_below (X := fun k => k = g) HBD.out)
   have d2 : w2.cell? ⟨g, 2, none⟩ = some (.bool ok) := k6 HRD2.out.box 2
   have d1 : w2.cell? ⟨g, 1, none⟩ = some (.int .i64 (at' : Int)) := k6 HRD2.out.box 1
   have f1 := HRD2.out.frozen 1
   have f2 := HRD2.out.frozen 2
   obtain ⟨hm1, hm2⟩ := HRD2.out.say false
   have HM1 := hid hm1; have HM2 := hid hm2
   clear hm1 hm2
   go_wp2_with fail
   go_ret
   exact RrGives.bad 0 (fun _ => pNum_no HP.out) rfl ⟨rfl, by decide⟩ HM1.out (HB2.out.trans HM2.out fun _ _ q => q)
  ·
   have HP := hid hp
   have HNB := hid (Jz hp)
   have hle : at' + k ≤ l.length := by
     have h1 := (vX hp).2.1
     have h2 := hr.le
     rw [List.length_drop] at h1
     omega
   clear hp hr
   cases ok
   all_goals
     have hE1 : ∀ (u : World) (args : Array Value), (callFunc 58 args).run Tryz.prog u = .ok (.enter 58 args) u := fun u args => enters_of Tryz.func58 (by kernel_rfl) rfl args u
     go_enter Tryz.func25, Tryz.ntmps25
     go_upto_region 1 with fail
     refine kr 9 (fun u => u.cell? ⟨g, 0, none⟩ = some (.slice (some ⟨b, off, none⟩) l.length c) ∧ u.cell? ⟨g, 1, none⟩ = some (.int .i64 (at' : Int))) (by kernel_rfl) ?_
     have hF0 : (fun u => u.cell? ⟨g, 0, none⟩ = some (.slice (some ⟨b, off, none⟩) l.length c) ∧ u.cell? ⟨g, 1, none⟩ = some (.int .i64 (at' : Int))) w.drew := ⟨k6 (HRD.out.keep (Below.refl _ w).drew).box 0, k6 (HRD.out.keep (Below.refl _ w).drew).box 1⟩
     refine tw 0 (.pointer (some ⟨g, 0, none⟩)) ?_
     go_frame
     refine tw 1 (.pointer (some ⟨g, 0, none⟩)) ?_
     go_frame
     refine tw 2 (.pointer (some ⟨g, 0, none⟩)) ?_
     go_frame
     refine tkF 3 (.slice (some ⟨b, off, none⟩) l.length c) (by kernel_rfl) rfl (fun _ _ _ h => h) (by rfl) hF0 (fun w' hw' => ki 22 _ rfl (p := ⟨g, 0, none⟩) rfl Tryz.underlying22 rfl hw'.1) ?_
     go_frame
     refine tw 4 (.pointer (some ⟨g, 0, none⟩)) ?_
     go_frame
     refine tw 5 (.pointer (some ⟨g, 0, none⟩)) ?_
     go_frame
     refine tw 6 (.pointer (some ⟨g, 1, none⟩)) ?_
     go_frame
     refine tkF 7 (.int .i64 (at' : Int)) (by kernel_rfl) rfl (fun _ _ _ h => h) (by rfl) hF0 (fun w' hw' => ki 3 _ rfl (p := ⟨g, 1, none⟩) rfl Tryz.underlying3 rfl hw'.2) ?_
     go_frame
     refine ta 8 ?_
     refine kC _ rfl (by kernel_rfl) (kv (f := 58) (args := #[.slice (some ⟨b, off, none⟩) l.length c, .int .i64 (at' : Int)]) rfl rfl (fun args w => hE1 w args) (by simp only [List.map_toArray, List.map_cons, List.map_nil]; rfl)) ?_
     refine (vt l b off c at' w.drew hl HRD.out.cap HRD.out.le (HRD.out.keep (Below.refl _ w).drew).bytes).mono ?_
     rintro e w3 ⟨rfl, hg⟩
     rw [HP.out] at hg
     obtain rfl := hg
     refine ⟨_, rfl, fun _ h => h, ?_⟩
     go_frame
     refine tw 9 (.tuple #[.int .i64 (n : Int), .int .i64 ((at' + k : Nat) : Int), .int .i64 0]) ?_
     go_frame
     refine tw 10 (.int .i64 (n : Int)) ?_
     go_frame
     refine tw 11 (.int .i64 ((at' + k : Nat) : Int)) ?_
     go_frame
     refine tw 12 (.int .i64 0) ?_
     go_frame
     refine tw 13 (.int .i64 (n : Int)) ?_
     go_frame
     refine tw 14 (.int .i64 ((at' + k : Nat) : Int)) ?_
     go_frame
     refine tw 15 (.int .i64 0) ?_
     go_frame
     refine kx (by kernel_rfl) ?_ _
     clear hE1 hF0
     obtain ⟨w2, hwd⟩ : ∃ u, w.drew = u := ⟨_, rfl⟩
     have HBD := hid (show Below w.heap.size w w2 by rw [← hwd]; exact (Below.refl _ _).drew)
     rw [hwd]
     clear hwd
     have HRD2 := hid (HRD.out.keep HBD.out); have HB2 := hid (But.of_below (X := fun k => k = g) HBD.out)
   ·
    have d2 : w2.cell? ⟨g, 2, none⟩ = some (.bool false) := k6 HRD2.out.box 2
    have d1 : w2.cell? ⟨g, 1, none⟩ = some (.int .i64 (at' : Int)) := k6 HRD2.out.box 1
    have f1 := HRD2.out.frozen 1
    have f2 := HRD2.out.frozen 2
    obtain ⟨hm1, hm2⟩ := HRD2.out.say false
    have HM1 := hid hm1; have HM2 := hid hm2
    clear hm1 hm2
    go_wp2_with fail
    go_ret
    exact RrGives.bad 0 (fun h => by cases h) rfl ⟨rfl, by decide⟩ HM1.out (HB2.out.trans HM2.out fun _ _ q => q)
   ·
    have d2 : w2.cell? ⟨g, 2, none⟩ = some (.bool true) := k6 HRD2.out.box 2
    have d1 : w2.cell? ⟨g, 1, none⟩ = some (.int .i64 (at' : Int)) := k6 HRD2.out.box 1
    have f1 := HRD2.out.frozen 1
    have f2 := HRD2.out.frozen 2
    obtain ⟨hm1, hm2⟩ := HRD2.out.move (at2 := at' + k) hle
    have HM1 := hid hm1; have HM2 := hid hm2
    rw [Int.natCast_add] at HM1 HM2
    clear hm1 hm2
    go_wp2_with fail
    go_ret
    exact RrGives.good (pNum_at HP.out) rfl ⟨rfl, HNB.out⟩ HM1.out (HB2.out.trans HM2.out fun _ _ q => q)
theorem Jd (g b off c : Nat) (l : List UInt8) (at' : Nat) (ok : Bool) (w : World) (hr : RrAt w g b off c l at' ok) (hl : l.length ≤ 1099511627776) :
    Calls Tryz.prog 27 #[.pointer (some ⟨g, 0, none⟩)] w (RrGives g b off c l at' ok w jL (fun t v _ => v = .string t ∧ t.size ≤ 4096)) := by
  have HRD := hid hr
  rcases hp : jC (l.drop at') 4096 with _ | ⟨t, k⟩
  ·
   have HP := hid hp
   clear hp hr
   have hE1 : ∀ (u : World) (args : Array Value), (callFunc 60 args).run Tryz.prog u = .ok (.enter 60 args) u := fun u args => enters_of Tryz.func60 (by kernel_rfl) rfl args u
   go_enter Tryz.func27, Tryz.ntmps27
   go_upto_region 1 with fail
   refine kr 9 (fun u => u.cell? ⟨g, 0, none⟩ = some (.slice (some ⟨b, off, none⟩) l.length c) ∧ u.cell? ⟨g, 1, none⟩ = some (.int .i64 (at' : Int))) (by kernel_rfl) ?_
   have hF0 : (fun u => u.cell? ⟨g, 0, none⟩ = some (.slice (some ⟨b, off, none⟩) l.length c) ∧ u.cell? ⟨g, 1, none⟩ = some (.int .i64 (at' : Int))) w.drew := ⟨k6 (HRD.out.keep (Below.refl _ w).drew).box 0, k6 (HRD.out.keep (Below.refl _ w).drew).box 1⟩
   refine tw 0 (.pointer (some ⟨g, 0, none⟩)) ?_
   go_frame
   refine tw 1 (.pointer (some ⟨g, 0, none⟩)) ?_
   go_frame
   refine tw 2 (.pointer (some ⟨g, 0, none⟩)) ?_
   go_frame
   refine tkF 3 (.slice (some ⟨b, off, none⟩) l.length c) (by kernel_rfl) rfl (fun _ _ _ h => h) (by rfl) hF0 (fun w' hw' => ki 22 _ rfl (p := ⟨g, 0, none⟩) rfl Tryz.underlying22 rfl hw'.1) ?_
   go_frame
   refine tw 4 (.pointer (some ⟨g, 0, none⟩)) ?_
   go_frame
   refine tw 5 (.pointer (some ⟨g, 0, none⟩)) ?_
   go_frame
   refine tw 6 (.pointer (some ⟨g, 1, none⟩)) ?_
   go_frame
   refine tkF 7 (.int .i64 (at' : Int)) (by kernel_rfl) rfl (fun _ _ _ h => h) (by rfl) hF0 (fun w' hw' => ki 3 _ rfl (p := ⟨g, 1, none⟩) rfl Tryz.underlying3 rfl hw'.2) ?_
   go_frame
   refine ta 8 ?_
   refine kC _ rfl (by kernel_rfl) (kv (f := 60) (args := #[.slice (some ⟨b, off, none⟩) l.length c, .int .i64 (at' : Int), .int .i64 4096]) rfl rfl (fun args w => hE1 w args) (by simp only [List.map_toArray, List.map_cons, List.map_nil]; rfl)) ?_
   refine (ZQ l b off c at' 4096 w.drew hl HRD.out.cap HRD.out.le (HRD.out.keep (Below.refl _ w).drew).bytes).mono ?_
   rintro e w3 ⟨rfl, hg⟩
   rw [HP.out] at hg
   obtain ⟨er, hq, rfl⟩ := hg
   have eq0 : (er != 0) = true := by simpa [bne, beq_eq_false_iff_ne] using hq
   clear hq
   refine ⟨_, rfl, fun _ h => h, ?_⟩
   go_frame
   refine tw 9 (.tuple #[.string ⟨#[]⟩, .int .i64 0, .int .i64 er]) ?_
   go_frame
   refine tw 10 (.string ⟨#[]⟩) ?_
   go_frame
   refine tw 11 (.int .i64 0) ?_
   go_frame
   refine tw 12 (.int .i64 er) ?_
   go_frame
   refine tw 13 (.string ⟨#[]⟩) ?_
   go_frame
   refine tw 14 (.int .i64 0) ?_
   go_frame
   refine tw 15 (.int .i64 er) ?_
   go_frame
   refine kx (by kernel_rfl) ?_ _
   clear hE1 hF0
   obtain ⟨w2, hwd⟩ : ∃ u, w.drew = u := ⟨_, rfl⟩
   have HBD := hid (show Below w.heap.size w w2 by rw [← hwd]; exact (Below.refl _ _).drew)
   rw [hwd]
   clear hwd
   have HRD2 := hid (HRD.out.keep HBD.out); have HB2 := hid (But.of_below (X := fun k => k = g) HBD.out)
   have d2 : w2.cell? ⟨g, 2, none⟩ = some (.bool ok) := k6 HRD2.out.box 2
   have d1 : w2.cell? ⟨g, 1, none⟩ = some (.int .i64 (at' : Int)) := k6 HRD2.out.box 1
   have f1 := HRD2.out.frozen 1
   have f2 := HRD2.out.frozen 2
   obtain ⟨hm1, hm2⟩ := HRD2.out.say false
   have HM1 := hid hm1; have HM2 := hid hm2
   clear hm1 hm2
   go_wp2_with fail
   go_ret
   exact RrGives.bad k7 (fun _ => pText_no HP.out) rfl ⟨rfl, by decide⟩ HM1.out (HB2.out.trans HM2.out fun _ _ q => q)
  ·
   have HP := hid hp
   obtain ⟨_, h1, h3⟩ := JS hp
   have HNB := hid (show (⟨t.toArray⟩ : ByteArray).size ≤ 4096 by rw [vI]; exact h3)
   have hle : at' + k ≤ l.length := by
     have h2 := hr.le
     rw [List.length_drop] at h1
     omega
   clear hp hr h1 h3
   cases ok
   all_goals
     have hE1 : ∀ (u : World) (args : Array Value), (callFunc 60 args).run Tryz.prog u = .ok (.enter 60 args) u := fun u args => enters_of Tryz.func60 (by kernel_rfl) rfl args u
     go_enter Tryz.func27, Tryz.ntmps27
     go_upto_region 1 with fail
     refine kr 9 (fun u => u.cell? ⟨g, 0, none⟩ = some (.slice (some ⟨b, off, none⟩) l.length c) ∧ u.cell? ⟨g, 1, none⟩ = some (.int .i64 (at' : Int))) (by kernel_rfl) ?_
     have hF0 : (fun u => u.cell? ⟨g, 0, none⟩ = some (.slice (some ⟨b, off, none⟩) l.length c) ∧ u.cell? ⟨g, 1, none⟩ = some (.int .i64 (at' : Int))) w.drew := ⟨k6 (HRD.out.keep (Below.refl _ w).drew).box 0, k6 (HRD.out.keep (Below.refl _ w).drew).box 1⟩
     refine tw 0 (.pointer (some ⟨g, 0, none⟩)) ?_
     go_frame
     refine tw 1 (.pointer (some ⟨g, 0, none⟩)) ?_
     go_frame
     refine tw 2 (.pointer (some ⟨g, 0, none⟩)) ?_
     go_frame
     refine tkF 3 (.slice (some ⟨b, off, none⟩) l.length c) (by kernel_rfl) rfl (fun _ _ _ h => h) (by rfl) hF0 (fun w' hw' => ki 22 _ rfl (p := ⟨g, 0, none⟩) rfl Tryz.underlying22 rfl hw'.1) ?_
     go_frame
     refine tw 4 (.pointer (some ⟨g, 0, none⟩)) ?_
     go_frame
     refine tw 5 (.pointer (some ⟨g, 0, none⟩)) ?_
     go_frame
     refine tw 6 (.pointer (some ⟨g, 1, none⟩)) ?_
     go_frame
     refine tkF 7 (.int .i64 (at' : Int)) (by kernel_rfl) rfl (fun _ _ _ h => h) (by rfl) hF0 (fun w' hw' => ki 3 _ rfl (p := ⟨g, 1, none⟩) rfl Tryz.underlying3 rfl hw'.2) ?_
     go_frame
     refine ta 8 ?_
     refine kC _ rfl (by kernel_rfl) (kv (f := 60) (args := #[.slice (some ⟨b, off, none⟩) l.length c, .int .i64 (at' : Int), .int .i64 4096]) rfl rfl (fun args w => hE1 w args) (by simp only [List.map_toArray, List.map_cons, List.map_nil]; rfl)) ?_
     refine (ZQ l b off c at' 4096 w.drew hl HRD.out.cap HRD.out.le (HRD.out.keep (Below.refl _ w).drew).bytes).mono ?_
     rintro e w3 ⟨rfl, hg⟩
     rw [HP.out] at hg
     obtain rfl := hg
     refine ⟨_, rfl, fun _ h => h, ?_⟩
     go_frame
     refine tw 9 (.tuple #[.string ⟨t.toArray⟩, .int .i64 ((at' + k : Nat) : Int), .int .i64 0]) ?_
     go_frame
     refine tw 10 (.string ⟨t.toArray⟩) ?_
     go_frame
     refine tw 11 (.int .i64 ((at' + k : Nat) : Int)) ?_
     go_frame
     refine tw 12 (.int .i64 0) ?_
     go_frame
     refine tw 13 (.string ⟨t.toArray⟩) ?_
     go_frame
     refine tw 14 (.int .i64 ((at' + k : Nat) : Int)) ?_
     go_frame
     refine tw 15 (.int .i64 0) ?_
     go_frame
     refine kx (by kernel_rfl) ?_ _
     clear hE1 hF0
     obtain ⟨w2, hwd⟩ : ∃ u, w.drew = u := ⟨_, rfl⟩
     have HBD := hid (show Below w.heap.size w w2 by rw [← hwd]; exact (Below.refl _ _).drew)
     rw [hwd]
     clear hwd
     have HRD2 := hid (HRD.out.keep HBD.out); have HB2 := hid (But.of_below (X := fun k => k = g) HBD.out)
   ·
    have d2 : w2.cell? ⟨g, 2, none⟩ = some (.bool false) := k6 HRD2.out.box 2
    have d1 : w2.cell? ⟨g, 1, none⟩ = some (.int .i64 (at' : Int)) := k6 HRD2.out.box 1
    have f1 := HRD2.out.frozen 1
    have f2 := HRD2.out.frozen 2
    obtain ⟨hm1, hm2⟩ := HRD2.out.say false
    have HM1 := hid hm1; have HM2 := hid hm2
    clear hm1 hm2
    go_wp2_with fail
    go_ret
    exact RrGives.bad k7 (fun h => by cases h) rfl ⟨rfl, by decide⟩ HM1.out (HB2.out.trans HM2.out fun _ _ q => q)
   ·
    have d2 : w2.cell? ⟨g, 2, none⟩ = some (.bool true) := k6 HRD2.out.box 2
    have d1 : w2.cell? ⟨g, 1, none⟩ = some (.int .i64 (at' : Int)) := k6 HRD2.out.box 1
    have f1 := HRD2.out.frozen 1
    have f2 := HRD2.out.frozen 2
    obtain ⟨hm1, hm2⟩ := HRD2.out.move (at2 := at' + k) hle
    have HM1 := hid hm1; have HM2 := hid hm2
    rw [Int.natCast_add] at HM1 HM2
    clear hm1 hm2
    go_wp2_with fail
    go_ret
    exact RrGives.good (pText_at HP.out) rfl ⟨rfl, HNB.out⟩ HM1.out (HB2.out.trans HM2.out fun _ _ q => q)
end Go.Proofs.YthjaepmfkgejkaaGreatDoor
namespace Go.Proofs.YthjaepmfkgejkaaGreatDoor
open Lib (hid)
open Go.RowKit Go.Maps
theorem qo {n : Nat} (h : n < 9223372036854775808) : (Lit.int .i64 (n : Int)).wf = true := by
  simp only [Lit.wf, IntKind.min, IntKind.max, IntKind.signed, IntKind.bits, Bool.and_eq_true]
  simp
  omega
theorem refB_info : (Tryz.prog.info? 68).map (fun i => (i.zero, i.size, i.bytes)) = some (some (.agg (kf kc).toArray), 33, 40) := by kernel_rfl
theorem refB_built {x : List UInt8} (hx : Kw x) (i : Nat) (w : World) : (Instr.build 68 #[(0, .agg (idV x).toArray), (1, .int .i64 ((i : Nat) : Int))]).run Tryz.prog w = .ok (.agg (kf (x, ((i : Nat) : Int))).toArray) w := by
  obtain ⟨i0, hi, hz, _, _⟩ := info_parts refB_info
  have h := Zj (P := Tryz.prog) hi Tryz.underlying68 hz [idV zero32, [.int .i64 0]] rfl (places := [(0, 32), (32, 1)]) (by kernel_rfl) (by kernel_rfl) [(0, .agg (idV x).toArray), (1, .int .i64 ((i : Nat) : Int))] (by
    intro q hq
    simp only [List.mem_cons, List.not_mem_nil, or_false] at hq
    rcases hq with rfl | rfl
    · exact ⟨by show 0 < 2; omega, by show (idV x).toArray.size = 32; rw [List.size_toArray, km]; exact hx⟩
    · exact ⟨by show 1 < 2; omega, rfl⟩)
  have h2 := run_build (P := Tryz.prog) w 68 #[(0, .agg (idV x).toArray), (1, .int .i64 ((i : Nat) : Int))] _ h
  refine h2.trans ?_
  simp [kf, Value.cells]
theorem Je (g b off c : Nat) (l : List UInt8) (at' : Nat) (ok : Bool) (w : World) (hr : RrAt w g b off c l at' ok) (hl : l.length ≤ 1099511627776) (deps : List (List UInt8)) (Ad : Option Addr) (cd : Nat) (hdl : deps.length ≤ 1099511627776) (ho : IdsOk deps) (hd : Sl w w.heap.size Ad deps.length 32 (jf deps)) :
    Calls Tryz.prog 61 #[.pointer (some ⟨g, 0, none⟩), .slice Ad deps.length cd] w (RrGives g b off c l at' ok w (JD deps) (fun r v _ => v = .agg (kf r).toArray ∧ zb r)) := by
  have HO := hid ho; have HD := hid hd; have HRD := hid hr
  clear ho hd hr
  go_enter Tryz.func61, Tryz.ntmps61
  go_upto_region 1 with (first
    | (with_reducible refine kG ?_
       refine kE (by rfl) 68 rfl (kf kc) (by kernel_rfl) ?_
       intro W0 hb0 hz0 hs0
       have HB0 := hid hb0; have HZ0 := hid hz0
       clear hb0 hz0 hs0))
  have HRD0 := hid (HRD.out.keep HB0.out)
  obtain ⟨z4, hz4⟩ : ∃ z, w.heap.size = z := ⟨_, rfl⟩
  have HWZ := hid (show w.heap.size ≤ z4 by omega)
  have HGZ := hid (show g < z4 by rw [← hz4]; exact HRD.out.lt)
  have HL0 := hid (show z4 < W0.heap.size by rw [← hz4]; exact (Array.getElem?_eq_some_iff.1 HZ0.out).1)
  rw [hz4] at HZ0 ⊢
  try go_frame
  clear hz4
  go_upto_region 2 with (first
    | (go_at_call 25; refine (Jc g b off c l at' ok W0 HRD0.out hl).mono ?_; rintro e W1 ⟨n, v1, a1, ok1, rfl, ⟨rfl, hn1⟩, hrd1, hbt1, hp1⟩
       have HRD1 := hid hrd1; have HBT1 := hid hbt1; have HP1 := hid hp1
       clear hrd1 hbt1 hp1))
  go_upto_region 3 with (first
    | (go_at_call 25; refine (Jc g b off c l a1 ok1 W1 HRD1.out hl).mono ?_; rintro e W2 ⟨k, v2, a2, ok2, rfl, ⟨rfl, hn2⟩, hrd2, hbt2, hp2⟩
       have HRD2 := hid hrd2; have HBT2 := hid hbt2; have HP2 := hid hp2
       clear hrd2 hbt2 hp2))
  have HBT12 := hid (HBT1.out.trans HBT2.out fun _ _ q => q)
  have HBT := hid (show But (fun k => k = g) w W2 from (But.of_below (X := fun k => k = g) HB0.out).trans HBT12.out fun _ _ q => q)
  have HZ2 := hid ((HBT12.out.block z4 HL0.out (by have h9 := HGZ.out; omega)).trans HZ0.out)
  have HL2 := hid (Nat.lt_of_lt_of_le HL0.out HBT12.out.size)
  have HSL := hid (HD.out.small HBT.out (Nat.le_refl _) (by decide) (fun k hk => ⟨[.slice (some ⟨b, off, none⟩) l.length c, .int .i64 (at' : Int), .bool ok], 63, by have e : k = g := hk; subst e; exact HRD.out.box, by show 3 < 32; omega⟩))
  have HLST := hid (fun (h : ok = true) (y : za) (r : List UInt8) (hp : JD deps (l.drop at') = some (y, r)) => (show n ≤ deps.length ∧ y = (if n = 0 then zero32 else deps.getD (n - 1) zero32, (k : Int)) ∧ r = l.drop a2 ∧ ok2 = true from by
    unfold JD at hp
    obtain ⟨m, s, h1, h2⟩ := kp hp
    obtain ⟨rfl, rfl, ho1⟩ := HP1.out h m s h1
    unfold KS at h2
    split at h2
    ·
     rename_i hd
     obtain ⟨m2, s2, h3, h4⟩ := kp h2
     obtain ⟨rfl, rfl, ho2⟩ := HP2.out ho1 m2 s2 h3
     unfold Jo at h4
     cases h4
     exact ⟨by simpa using hd, rfl, rfl, ho2⟩
    · cases h2))
  by_cases hbig : deps.length < n
  ·
   have d1 : decide ((deps.length : Int) < (n : Int)) = true := decide_eq_true (by omega)
   have c2 : W2.cell? ⟨g, 2, none⟩ = some (.bool ok2) := k6 HRD2.out.box 2
   have f2 := HRD2.out.frozen 2
   obtain ⟨hm1, hm2⟩ := HRD2.out.say false
   have HM1 := hid hm1; have HM2 := hid hm2
   clear hm1 hm2
   go_upto_region 5 with fail
   obtain ⟨W3, hW3⟩ : ∃ u, W2.setCell ⟨g, 2, none⟩ (.bool false) = u := ⟨_, rfl⟩
   rw [hW3] at HM1 HM2 ⊢
   clear hW3
   have HZ3 := hid ((HM2.out.block z4 HL2.out (by have h9 := HGZ.out; omega)).trans HZ2.out)
   go_wp2_with (first
     | (with_reducible refine kQ ?_
        refine k9 (by rfl) (kF 68 #[] rfl (jF _)) ?_)
     | (with_reducible refine ko ?_
        refine kj (by rfl) 68 _ _ rfl z4 0 [] (kf kc) [] (kf kc) 68 _ rfl rfl rfl rfl (by simpa using HZ3.out) (by rw [k8 ku]; try rfl) (by rw [k8 ku]; exact kn) (jO _) ?_
        intro W9 hb9 hz9 hs9
        have HB9 := hid hb9
        have HZ9 : Hid (W9.heap[z4]? = some (.cells (kf kc).toArray 68 (0, 0))) := hid (by simpa using hz9)
        clear hb9 hz9 hs9))
   refine bodyPost_ret (jy Tryz.results61 _ _ rfl (run_loadVar_mid _ z4 0 68 (kf kc) _ (fun j u hj => by rw [Nat.zero_add]; exact (k6 HZ9.out j).trans hj) Tryz.underlying68 rfl (by rw [k8 ku]; exact kn))) rfl ?_
   refine ⟨kc, _, a2, false, rfl, ⟨rfl, ku⟩, HM1.out.but HB9.out (fun k hk e => by have h9 := HGZ.out; omega), (HBT.out.trans HM2.out fun _ _ q => q).trans HB9.out (fun k hk e => by have h9 := HWZ.out; omega), fun h y r hp => ?_⟩
   have h1 := (HLST.out h y r hp).1
   omega
  ·
   have d1 : decide ((deps.length : Int) < (n : Int)) = false := decide_eq_false (by omega)
   by_cases h0 : n = 0
   ·
    have d2 : ((n : Int) == 0) = true := by rw [h0]; rfl
    have HRO := hid (show zb (zero32, ((k : Nat) : Int)) from ⟨zM, qo hn2⟩)
    have HVAL := hid (show (zero32, ((k : Nat) : Int)) = ((if n = 0 then zero32 else deps.getD (n - 1) zero32, (k : Int)) : za) by rw [if_pos h0])
    clear h0
    go_wp2_with (first
      | (with_reducible refine kQ ?_
         refine k9 (by rfl) (kF 68 _ rfl (vn k _)) ?_)
      | (with_reducible refine ko ?_
         refine kj (by rfl) 68 _ _ rfl z4 0 [] (kf kc) [] (kf (zero32, ((k : Nat) : Int))) 68 _ rfl rfl rfl rfl (by simpa using HZ2.out) (by rw [k8 HRO.out]; try rfl) (by rw [k8 HRO.out]; exact kn) (jO _) ?_
         intro W9 hb9 hz9 hs9
         have HB9 := hid hb9
         have HZ9 : Hid (W9.heap[z4]? = some (.cells (kf (zero32, ((k : Nat) : Int))).toArray 68 (0, 0))) := hid (by simpa using hz9)
         clear hb9 hz9 hs9))
    refine bodyPost_ret (jy Tryz.results61 _ _ rfl (run_loadVar_mid _ z4 0 68 (kf (zero32, ((k : Nat) : Int))) _ (fun j u hj => by rw [Nat.zero_add]; exact (k6 HZ9.out j).trans hj) Tryz.underlying68 rfl (by rw [k8 HRO.out]; exact kn))) rfl ?_
    exact ⟨(zero32, ((k : Nat) : Int)), _, a2, ok2, rfl, ⟨rfl, HRO.out⟩, HRD2.out.but HB9.out (fun k hk e => by have h9 := HGZ.out; omega), HBT.out.trans HB9.out (fun k hk e => by have h9 := HWZ.out; omega), fun h y r hp => by
      obtain ⟨h1, h2, h3, h4⟩ := HLST.out h y r hp
      exact ⟨by rw [h2, HVAL.out], h3, h4⟩⟩
   ·
    have d2 : ((n : Int) == 0) = false := by rw [beq_eq_false_iff_ne]; omega
    have hn1 : n - 1 < deps.length := by omega
    obtain ⟨bd, od, rfl, hbl, hcl⟩ := HSL.out.2 (by omega)
    have hrow := Sl.id (B := 0) HO.out hcl (i := n - 1) hn1
    obtain ⟨x, hx⟩ : ∃ x, deps[n - 1] = x := ⟨_, rfl⟩
    have HX := hid (show Kw x by rw [← hx]; exact HO.out _ (List.getElem_mem hn1))
    rw [hx] at hrow
    have HROW := hid hrow
    have HRO := hid (show zb (x, ((k : Nat) : Int)) from ⟨HX.out, qo hn2⟩)
    have HVAL := hid (show (x, ((k : Nat) : Int)) = ((if n = 0 then zero32 else deps.getD (n - 1) zero32, (k : Int)) : za) by rw [if_neg h0, ← hx, List.getD_eq_getElem?_getD, List.getElem?_eq_getElem hn1]; rfl)
    have e1 : IntKind.i64.wrap ((n : Int) - 1) = ((n - 1 : Nat) : Int) := by rw [IntWalk.i64_in _ ⟨by omega, by omega⟩]; omega
    have e2 : ((n - 1 : Nat) : Int) < (deps.length : Int) := by omega
    have e3 : (0 : Int) ≤ ((n - 1 : Nat) : Int) := by omega
    clear hx hrow hcl
    go_wp2_with (first
      | (with_reducible refine ke ?_
         refine zF rfl 47 _ rfl bd _ rfl (idV x) _ HROW.out Tryz.underlying47 rfl (by rw [km, show x.length = 32 from HX.out]; exact kR) ?_)
      | (with_reducible refine kQ ?_
         refine k9 (by rfl) (kF 68 #[(0, .tmp 27), (1, .tmp 28)] rfl (by simp only [List.map_toArray, List.map_cons, List.map_nil]; exact refB_built HX.out k _)) ?_)
      | (with_reducible refine ko ?_
         refine kj (by rfl) 68 _ _ rfl z4 0 [] (kf kc) [] (kf (x, ((k : Nat) : Int))) 68 _ rfl rfl rfl rfl (by simpa using HZ2.out) (by rw [k8 HRO.out]; try rfl) (by rw [k8 HRO.out]; exact kn) (jO _) ?_
         intro W9 hb9 hz9 hs9
         have HB9 := hid hb9
         have HZ9 : Hid (W9.heap[z4]? = some (.cells (kf (x, ((k : Nat) : Int))).toArray 68 (0, 0))) := hid (by simpa using hz9)
         clear hb9 hz9 hs9))
    refine bodyPost_ret (jy Tryz.results61 _ _ rfl (run_loadVar_mid _ z4 0 68 (kf (x, ((k : Nat) : Int))) _ (fun j u hj => by rw [Nat.zero_add]; exact (k6 HZ9.out j).trans hj) Tryz.underlying68 rfl (by rw [k8 HRO.out]; exact kn))) rfl ?_
    exact ⟨(x, ((k : Nat) : Int)), _, a2, ok2, rfl, ⟨rfl, HRO.out⟩, HRD2.out.but HB9.out (fun k hk e => by have h9 := HGZ.out; omega), HBT.out.trans HB9.out (fun k hk e => by have h9 := HWZ.out; omega), fun h y r hp => by
      obtain ⟨h1, h2, h3, h4⟩ := HLST.out h y r hp
      exact ⟨by rw [h2, HVAL.out], h3, h4⟩⟩
end Go.Proofs.YthjaepmfkgejkaaGreatDoor
