/-
  What the document's reader reads: numbers, texts. Conditions: as RrAt says.
-/
import Derived.Test.YthjaepmfkgejkaaGreatDoorRefLeb8
import Derived.Test.YthjaepmfkgejkaaGreatDoorReaderMem
import Derived.Test.YthjaepmfkgejkaaGreatDoorHandN
import Derived.Test.YthjaepmfkgejkaaGreatDoorObjReader
namespace Go.Proofs.YthjaepmfkgejkaaGreatDoor
open Go.RowKit Go.Maps
set_option linter.unusedVariables false
set_option linter.unusedSimpArgs false

/-- The document's reader stands at a place of the bytes; all was right so far, or not. -/
structure RrAt (w : World) (g b off c : Nat) (l : List UInt8) (at' : Nat) (ok : Bool) : Prop where
  box : w.heap[g]? = some (.cells #[.slice (some ⟨b, off, none⟩) l.length c, .int .i64 (at' : Int), .bool ok] 63 (0, 0))
  le : at' ≤ l.length
  cap : l.length ≤ c
  low : b < g
  bytes : ∀ j (h : j < l.length), w.cell? ⟨b, off + j, none⟩ = some (.int .u8 ((l[j]).toNat : Int))
section
variable {g b off c at' at2 : Nat} {l : List UInt8} {ok : Bool} {w w' : World}
theorem RrAt.lt (h : RrAt w g b off c l at' ok) : g < w.heap.size := (Array.getElem?_eq_some_iff.1 h.box).1
theorem RrAt.but {X : Nat → Prop} (h : RrAt w g b off c l at' ok) (hb : But X w w') (hx : ∀ k, k ≤ g → ¬ X k) : RrAt w' g b off c l at' ok :=
  ⟨(hb.block g h.lt (hx g (Nat.le_refl _))).trans h.box, h.le, h.cap, h.low, fun j hj => (hb.cell (Nat.lt_trans h.low h.lt) (hx b (Nat.le_of_lt h.low))).trans (h.bytes j hj)⟩
theorem RrAt.keep (h : RrAt w g b off c l at' ok) (hb : Below w.heap.size w w') : RrAt w' g b off c l at' ok := h.but (X := NoB) (But.of_below hb) fun _ _ q => q
theorem RrAt.move (h : RrAt w g b off c l at' ok) (h2 : at2 ≤ l.length) : RrAt (w.setCell ⟨g, 1, none⟩ (.int .i64 (at2 : Int))) g b off c l at2 ok ∧ But (fun k => k = g) w (w.setCell ⟨g, 1, none⟩ (.int .i64 (at2 : Int))) := by
  have hb : But (fun k => k = g) w (w.setCell ⟨g, 1, none⟩ (.int .i64 (at2 : Int))) := But.setCell (X := fun k => k = g) (But.refl _ _) (p := ⟨g, 1, none⟩) (fun _ => rfl) _
  have hlow := h.low
  refine ⟨⟨?_, h2, h.cap, h.low, fun j hj => ?_⟩, hb⟩
  · have hbox := h.box
    simp [World.setCell, Array.getElem?_modify, hbox]
  · exact (hb.cell (Nat.lt_trans h.low h.lt) (by show ¬ b = g; omega)).trans (h.bytes j hj)
theorem RrAt.say (h : RrAt w g b off c l at' ok) (k : Bool) : RrAt (w.setCell ⟨g, 2, none⟩ (.bool k)) g b off c l at' k ∧ But (fun k => k = g) w (w.setCell ⟨g, 2, none⟩ (.bool k)) := by
  have hb : But (fun k => k = g) w (w.setCell ⟨g, 2, none⟩ (.bool k)) := But.setCell (X := fun k => k = g) (But.refl _ _) (p := ⟨g, 2, none⟩) (fun _ => rfl) _
  have hlow := h.low
  refine ⟨⟨?_, h.le, h.cap, h.low, fun j hj => ?_⟩, hb⟩
  · have hbox := h.box
    simp [World.setCell, Array.getElem?_modify, hbox]
  · exact (hb.cell (Nat.lt_trans h.low h.lt) (by show ¬ b = g; omega)).trans (h.bytes j hj)
theorem RrAt.frozen (h : RrAt w g b off c l at' ok) (j : Nat) : w.frozen? ⟨g, j, none⟩ = false := by
  have hbox := h.box
  simp [World.frozen?, hbox]
end
/-- What a reading of the document's gives: where all goes well, just what a parser gives; else something. -/
def RrGives (g b off c : Nat) (l : List UInt8) (at' : Nat) (ok : Bool) (w : World) {α : Type} (p : Ps α) (R : α → Value → World → Prop) (e : Ending) (w' : World) : Prop :=
  ∃ (x : α) (v : Value) (at2 : Nat) (ok2 : Bool), e = .returned v ∧ R x v w' ∧ RrAt w' g b off c l at2 ok2 ∧ But (fun k => k = g) w w' ∧ (ok = true → ∀ y r, p (l.drop at') = some (y, r) → x = y ∧ r = l.drop at2 ∧ ok2 = true)
theorem RrGives.bad {g b off c at' at2 : Nat} {l : List UInt8} {ok ok2 : Bool} {w w' : World} {α : Type} {p : Ps α} {R : α → Value → World → Prop} {e : Ending} {v : Value} (x : α) (h : ok = true → p (l.drop at') = none) (he : e = .returned v) (hR : R x v w') (h2 : RrAt w' g b off c l at2 ok2) (h3 : But (fun k => k = g) w w') : RrGives g b off c l at' ok w p R e w' :=
  ⟨x, v, at2, ok2, he, hR, h2, h3, fun ho y r hp => by rw [h ho] at hp; cases hp⟩
theorem RrGives.good {g b off c at' at2 : Nat} {l : List UInt8} {ok : Bool} {w w' : World} {α : Type} {p : Ps α} {R : α → Value → World → Prop} {e : Ending} {v : Value} {x : α} (h : p (l.drop at') = some (x, l.drop at2)) (he : e = .returned v) (hR : R x v w') (h2 : RrAt w' g b off c l at2 true) (h3 : But (fun k => k = g) w w') : RrGives g b off c l at' ok w p R e w' :=
  ⟨x, v, at2, true, he, hR, h2, h3, fun _ y r hp => by rw [h] at hp; cases hp; exact ⟨rfl, rfl, rfl⟩⟩
set_option maxHeartbeats 4000000 in
set_option maxRecDepth 100000 in
theorem rrNum_any (g b off c : Nat) (l : List UInt8) (at' : Nat) (ok : Bool) (w : World) (hr : RrAt w g b off c l at' ok) (hl : l.length ≤ 1099511627776) :
    Calls Tryz.prog 25 #[.pointer (some ⟨g, 0, none⟩)] w (RrGives g b off c l at' ok w pNum (fun n v _ => v = .int .i64 ((n : Nat) : Int) ∧ n < 9223372036854775808)) := by
  have HRD := Lib.hid hr
  rcases hp : getS (l.drop at') with _ | ⟨n, k⟩
  · have HP := Lib.hid hp
    clear hp hr
    have hE1 : ∀ (u : World) (args : Array Value), (callFunc 58 args).run Tryz.prog u = .ok (.enter 58 args) u := fun u args => enters_of Tryz.func58 (by kernel_rfl) rfl args u
    go_enter Tryz.func25, Tryz.ntmps25
    go_upto_region 1 with fail
    refine wp_region_N 9 (fun u => u.cell? ⟨g, 0, none⟩ = some (.slice (some ⟨b, off, none⟩) l.length c) ∧ u.cell? ⟨g, 1, none⟩ = some (.int .i64 (at' : Int))) (by kernel_rfl) ?_
    have hF0 : (fun u => u.cell? ⟨g, 0, none⟩ = some (.slice (some ⟨b, off, none⟩) l.length c) ∧ u.cell? ⟨g, 1, none⟩ = some (.int .i64 (at' : Int))) w.drew := ⟨cells_at0 (HRD.out.keep (Below.refl _ w).drew).box 0, cells_at0 (HRD.out.keep (Below.refl _ w).drew).box 1⟩
    refine tw 0 (.pointer (some ⟨g, 0, none⟩)) ?_
    go_frame
    refine tw 1 (.pointer (some ⟨g, 0, none⟩)) ?_
    go_frame
    refine tw 2 (.pointer (some ⟨g, 0, none⟩)) ?_
    go_frame
    refine tkF 3 (.slice (some ⟨b, off, none⟩) l.length c) (by kernel_rfl) rfl (fun _ _ _ h => h) (by rfl) hF0 (fun w' hw' => ex_load1 22 _ rfl (p := ⟨g, 0, none⟩) rfl Tryz.underlying22 rfl hw'.1) ?_
    go_frame
    refine tw 4 (.pointer (some ⟨g, 0, none⟩)) ?_
    go_frame
    refine tw 5 (.pointer (some ⟨g, 0, none⟩)) ?_
    go_frame
    refine tw 6 (.pointer (some ⟨g, 1, none⟩)) ?_
    go_frame
    refine tkF 7 (.int .i64 (at' : Int)) (by kernel_rfl) rfl (fun _ _ _ h => h) (by rfl) hF0 (fun w' hw' => ex_load1 3 _ rfl (p := ⟨g, 1, none⟩) rfl Tryz.underlying3 rfl hw'.2) ?_
    go_frame
    refine ta 8 ?_
    refine wpOp_call _ rfl (by kernel_rfl) (ex_callFn (f := 58) (args := #[.slice (some ⟨b, off, none⟩) l.length c, .int .i64 (at' : Int)]) rfl rfl (fun args w => hE1 w args) (by simp only [List.map_toArray, List.map_cons, List.map_nil]; rfl)) ?_
    refine (refGet_any l b off c at' w.drew hl HRD.out.cap HRD.out.le (HRD.out.keep (Below.refl _ w).drew).bytes).mono ?_
    rintro e w3 ⟨rfl, hg⟩
    rw [HP.out] at hg
    obtain rfl := hg
    refine ⟨_, rfl, fun _ h => h, ?_⟩
    go_frame
    refine tw 9 (.tuple #[.int .i64 0, .int .i64 0, .int .i64 6]) ?_
    go_frame
    refine tw 10 (.int .i64 0) ?_
    go_frame
    refine tw 11 (.int .i64 0) ?_
    go_frame
    refine tw 12 (.int .i64 6) ?_
    go_frame
    refine tw 13 (.int .i64 0) ?_
    go_frame
    refine tw 14 (.int .i64 0) ?_
    go_frame
    refine tw 15 (.int .i64 6) ?_
    go_frame
    refine wpAnyN_done (by kernel_rfl) ?_ _
    clear hE1 hF0
    obtain ⟨w2, hwd⟩ : ∃ u, w.drew = u := ⟨_, rfl⟩
    have HBD := Lib.hid (show Below w.heap.size w w2 by rw [← hwd]; exact (Below.refl _ _).drew)
    rw [hwd]
    clear hwd
    have HRD2 := Lib.hid (HRD.out.keep HBD.out); have HB2 := Lib.hid (But.of_below (X := fun k => k = g) HBD.out)
    have d2 : w2.cell? ⟨g, 2, none⟩ = some (.bool ok) := cells_at0 HRD2.out.box 2
    have d1 : w2.cell? ⟨g, 1, none⟩ = some (.int .i64 (at' : Int)) := cells_at0 HRD2.out.box 1
    have f1 := HRD2.out.frozen 1
    have f2 := HRD2.out.frozen 2
    obtain ⟨hm1, hm2⟩ := HRD2.out.say false
    have HM1 := Lib.hid hm1; have HM2 := Lib.hid hm2
    clear hm1 hm2
    go_wp2_with fail
    go_ret
    exact RrGives.bad 0 (fun _ => pNum_no HP.out) rfl ⟨rfl, by decide⟩ HM1.out (HB2.out.trans HM2.out fun _ _ q => q)
  · have HP := Lib.hid hp
    have HNB := Lib.hid (getS_bound hp)
    have hle : at' + k ≤ l.length := by
      have h1 := (getS_k hp).2.1
      have h2 := hr.le
      rw [List.length_drop] at h1
      omega
    clear hp hr
    cases ok
    all_goals
      have hE1 : ∀ (u : World) (args : Array Value), (callFunc 58 args).run Tryz.prog u = .ok (.enter 58 args) u := fun u args => enters_of Tryz.func58 (by kernel_rfl) rfl args u
      go_enter Tryz.func25, Tryz.ntmps25
      go_upto_region 1 with fail
      refine wp_region_N 9 (fun u => u.cell? ⟨g, 0, none⟩ = some (.slice (some ⟨b, off, none⟩) l.length c) ∧ u.cell? ⟨g, 1, none⟩ = some (.int .i64 (at' : Int))) (by kernel_rfl) ?_
      have hF0 : (fun u => u.cell? ⟨g, 0, none⟩ = some (.slice (some ⟨b, off, none⟩) l.length c) ∧ u.cell? ⟨g, 1, none⟩ = some (.int .i64 (at' : Int))) w.drew := ⟨cells_at0 (HRD.out.keep (Below.refl _ w).drew).box 0, cells_at0 (HRD.out.keep (Below.refl _ w).drew).box 1⟩
      refine tw 0 (.pointer (some ⟨g, 0, none⟩)) ?_
      go_frame
      refine tw 1 (.pointer (some ⟨g, 0, none⟩)) ?_
      go_frame
      refine tw 2 (.pointer (some ⟨g, 0, none⟩)) ?_
      go_frame
      refine tkF 3 (.slice (some ⟨b, off, none⟩) l.length c) (by kernel_rfl) rfl (fun _ _ _ h => h) (by rfl) hF0 (fun w' hw' => ex_load1 22 _ rfl (p := ⟨g, 0, none⟩) rfl Tryz.underlying22 rfl hw'.1) ?_
      go_frame
      refine tw 4 (.pointer (some ⟨g, 0, none⟩)) ?_
      go_frame
      refine tw 5 (.pointer (some ⟨g, 0, none⟩)) ?_
      go_frame
      refine tw 6 (.pointer (some ⟨g, 1, none⟩)) ?_
      go_frame
      refine tkF 7 (.int .i64 (at' : Int)) (by kernel_rfl) rfl (fun _ _ _ h => h) (by rfl) hF0 (fun w' hw' => ex_load1 3 _ rfl (p := ⟨g, 1, none⟩) rfl Tryz.underlying3 rfl hw'.2) ?_
      go_frame
      refine ta 8 ?_
      refine wpOp_call _ rfl (by kernel_rfl) (ex_callFn (f := 58) (args := #[.slice (some ⟨b, off, none⟩) l.length c, .int .i64 (at' : Int)]) rfl rfl (fun args w => hE1 w args) (by simp only [List.map_toArray, List.map_cons, List.map_nil]; rfl)) ?_
      refine (refGet_any l b off c at' w.drew hl HRD.out.cap HRD.out.le (HRD.out.keep (Below.refl _ w).drew).bytes).mono ?_
      rintro e w3 ⟨rfl, hg⟩
      rw [HP.out] at hg
      obtain rfl := hg
      refine ⟨_, rfl, fun _ h => h, ?_⟩
      go_frame
      refine tw 9 (.tuple #[.int .i64 (n : Int), .int .i64 ((at' + k : Nat) : Int), .int .i64 0]) ?_
      go_frame
      refine tw 10 (.int .i64 (n : Int)) ?_
      go_frame
      refine tw 11 (.int .i64 ((at' + k : Nat) : Int)) ?_
      go_frame
      refine tw 12 (.int .i64 0) ?_
      go_frame
      refine tw 13 (.int .i64 (n : Int)) ?_
      go_frame
      refine tw 14 (.int .i64 ((at' + k : Nat) : Int)) ?_
      go_frame
      refine tw 15 (.int .i64 0) ?_
      go_frame
      refine wpAnyN_done (by kernel_rfl) ?_ _
      clear hE1 hF0
      obtain ⟨w2, hwd⟩ : ∃ u, w.drew = u := ⟨_, rfl⟩
      have HBD := Lib.hid (show Below w.heap.size w w2 by rw [← hwd]; exact (Below.refl _ _).drew)
      rw [hwd]
      clear hwd
      have HRD2 := Lib.hid (HRD.out.keep HBD.out); have HB2 := Lib.hid (But.of_below (X := fun k => k = g) HBD.out)
    · have d2 : w2.cell? ⟨g, 2, none⟩ = some (.bool false) := cells_at0 HRD2.out.box 2
      have d1 : w2.cell? ⟨g, 1, none⟩ = some (.int .i64 (at' : Int)) := cells_at0 HRD2.out.box 1
      have f1 := HRD2.out.frozen 1
      have f2 := HRD2.out.frozen 2
      obtain ⟨hm1, hm2⟩ := HRD2.out.say false
      have HM1 := Lib.hid hm1; have HM2 := Lib.hid hm2
      clear hm1 hm2
      go_wp2_with fail
      go_ret
      exact RrGives.bad 0 (fun h => by cases h) rfl ⟨rfl, by decide⟩ HM1.out (HB2.out.trans HM2.out fun _ _ q => q)
    · have d2 : w2.cell? ⟨g, 2, none⟩ = some (.bool true) := cells_at0 HRD2.out.box 2
      have d1 : w2.cell? ⟨g, 1, none⟩ = some (.int .i64 (at' : Int)) := cells_at0 HRD2.out.box 1
      have f1 := HRD2.out.frozen 1
      have f2 := HRD2.out.frozen 2
      obtain ⟨hm1, hm2⟩ := HRD2.out.move (at2 := at' + k) hle
      have HM1 := Lib.hid hm1; have HM2 := Lib.hid hm2
      rw [Int.natCast_add] at HM1 HM2
      clear hm1 hm2
      go_wp2_with fail
      go_ret
      exact RrGives.good (pNum_at HP.out) rfl ⟨rfl, HNB.out⟩ HM1.out (HB2.out.trans HM2.out fun _ _ q => q)
set_option maxHeartbeats 4000000 in
set_option maxRecDepth 100000 in
theorem rrText_any (g b off c : Nat) (l : List UInt8) (at' : Nat) (ok : Bool) (w : World) (hr : RrAt w g b off c l at' ok) (hl : l.length ≤ 1099511627776) :
    Calls Tryz.prog 27 #[.pointer (some ⟨g, 0, none⟩)] w (RrGives g b off c l at' ok w pText (fun t v _ => v = .string t ∧ t.size ≤ 4096)) := by
  have HRD := Lib.hid hr
  rcases hp : getTextS (l.drop at') 4096 with _ | ⟨t, k⟩
  · have HP := Lib.hid hp
    clear hp hr
    have hE1 : ∀ (u : World) (args : Array Value), (callFunc 60 args).run Tryz.prog u = .ok (.enter 60 args) u := fun u args => enters_of Tryz.func60 (by kernel_rfl) rfl args u
    go_enter Tryz.func27, Tryz.ntmps27
    go_upto_region 1 with fail
    refine wp_region_N 9 (fun u => u.cell? ⟨g, 0, none⟩ = some (.slice (some ⟨b, off, none⟩) l.length c) ∧ u.cell? ⟨g, 1, none⟩ = some (.int .i64 (at' : Int))) (by kernel_rfl) ?_
    have hF0 : (fun u => u.cell? ⟨g, 0, none⟩ = some (.slice (some ⟨b, off, none⟩) l.length c) ∧ u.cell? ⟨g, 1, none⟩ = some (.int .i64 (at' : Int))) w.drew := ⟨cells_at0 (HRD.out.keep (Below.refl _ w).drew).box 0, cells_at0 (HRD.out.keep (Below.refl _ w).drew).box 1⟩
    refine tw 0 (.pointer (some ⟨g, 0, none⟩)) ?_
    go_frame
    refine tw 1 (.pointer (some ⟨g, 0, none⟩)) ?_
    go_frame
    refine tw 2 (.pointer (some ⟨g, 0, none⟩)) ?_
    go_frame
    refine tkF 3 (.slice (some ⟨b, off, none⟩) l.length c) (by kernel_rfl) rfl (fun _ _ _ h => h) (by rfl) hF0 (fun w' hw' => ex_load1 22 _ rfl (p := ⟨g, 0, none⟩) rfl Tryz.underlying22 rfl hw'.1) ?_
    go_frame
    refine tw 4 (.pointer (some ⟨g, 0, none⟩)) ?_
    go_frame
    refine tw 5 (.pointer (some ⟨g, 0, none⟩)) ?_
    go_frame
    refine tw 6 (.pointer (some ⟨g, 1, none⟩)) ?_
    go_frame
    refine tkF 7 (.int .i64 (at' : Int)) (by kernel_rfl) rfl (fun _ _ _ h => h) (by rfl) hF0 (fun w' hw' => ex_load1 3 _ rfl (p := ⟨g, 1, none⟩) rfl Tryz.underlying3 rfl hw'.2) ?_
    go_frame
    refine ta 8 ?_
    refine wpOp_call _ rfl (by kernel_rfl) (ex_callFn (f := 60) (args := #[.slice (some ⟨b, off, none⟩) l.length c, .int .i64 (at' : Int), .int .i64 4096]) rfl rfl (fun args w => hE1 w args) (by simp only [List.map_toArray, List.map_cons, List.map_nil]; rfl)) ?_
    refine (refGetText_any l b off c at' 4096 w.drew hl HRD.out.cap HRD.out.le (HRD.out.keep (Below.refl _ w).drew).bytes).mono ?_
    rintro e w3 ⟨rfl, hg⟩
    rw [HP.out] at hg
    obtain ⟨er, hq, rfl⟩ := hg
    have eq0 : (er != 0) = true := by simpa [bne, beq_eq_false_iff_ne] using hq
    clear hq
    refine ⟨_, rfl, fun _ h => h, ?_⟩
    go_frame
    refine tw 9 (.tuple #[.string ⟨#[]⟩, .int .i64 0, .int .i64 er]) ?_
    go_frame
    refine tw 10 (.string ⟨#[]⟩) ?_
    go_frame
    refine tw 11 (.int .i64 0) ?_
    go_frame
    refine tw 12 (.int .i64 er) ?_
    go_frame
    refine tw 13 (.string ⟨#[]⟩) ?_
    go_frame
    refine tw 14 (.int .i64 0) ?_
    go_frame
    refine tw 15 (.int .i64 er) ?_
    go_frame
    refine wpAnyN_done (by kernel_rfl) ?_ _
    clear hE1 hF0
    obtain ⟨w2, hwd⟩ : ∃ u, w.drew = u := ⟨_, rfl⟩
    have HBD := Lib.hid (show Below w.heap.size w w2 by rw [← hwd]; exact (Below.refl _ _).drew)
    rw [hwd]
    clear hwd
    have HRD2 := Lib.hid (HRD.out.keep HBD.out); have HB2 := Lib.hid (But.of_below (X := fun k => k = g) HBD.out)
    have d2 : w2.cell? ⟨g, 2, none⟩ = some (.bool ok) := cells_at0 HRD2.out.box 2
    have d1 : w2.cell? ⟨g, 1, none⟩ = some (.int .i64 (at' : Int)) := cells_at0 HRD2.out.box 1
    have f1 := HRD2.out.frozen 1
    have f2 := HRD2.out.frozen 2
    obtain ⟨hm1, hm2⟩ := HRD2.out.say false
    have HM1 := Lib.hid hm1; have HM2 := Lib.hid hm2
    clear hm1 hm2
    go_wp2_with fail
    go_ret
    exact RrGives.bad noneS (fun _ => pText_no HP.out) rfl ⟨rfl, by decide⟩ HM1.out (HB2.out.trans HM2.out fun _ _ q => q)
  · have HP := Lib.hid hp
    obtain ⟨_, h1, h3⟩ := text_getTextS hp
    have HNB := Lib.hid (show (⟨t.toArray⟩ : ByteArray).size ≤ 4096 by rw [size_mk]; exact h3)
    have hle : at' + k ≤ l.length := by
      have h2 := hr.le
      rw [List.length_drop] at h1
      omega
    clear hp hr h1 h3
    cases ok
    all_goals
      have hE1 : ∀ (u : World) (args : Array Value), (callFunc 60 args).run Tryz.prog u = .ok (.enter 60 args) u := fun u args => enters_of Tryz.func60 (by kernel_rfl) rfl args u
      go_enter Tryz.func27, Tryz.ntmps27
      go_upto_region 1 with fail
      refine wp_region_N 9 (fun u => u.cell? ⟨g, 0, none⟩ = some (.slice (some ⟨b, off, none⟩) l.length c) ∧ u.cell? ⟨g, 1, none⟩ = some (.int .i64 (at' : Int))) (by kernel_rfl) ?_
      have hF0 : (fun u => u.cell? ⟨g, 0, none⟩ = some (.slice (some ⟨b, off, none⟩) l.length c) ∧ u.cell? ⟨g, 1, none⟩ = some (.int .i64 (at' : Int))) w.drew := ⟨cells_at0 (HRD.out.keep (Below.refl _ w).drew).box 0, cells_at0 (HRD.out.keep (Below.refl _ w).drew).box 1⟩
      refine tw 0 (.pointer (some ⟨g, 0, none⟩)) ?_
      go_frame
      refine tw 1 (.pointer (some ⟨g, 0, none⟩)) ?_
      go_frame
      refine tw 2 (.pointer (some ⟨g, 0, none⟩)) ?_
      go_frame
      refine tkF 3 (.slice (some ⟨b, off, none⟩) l.length c) (by kernel_rfl) rfl (fun _ _ _ h => h) (by rfl) hF0 (fun w' hw' => ex_load1 22 _ rfl (p := ⟨g, 0, none⟩) rfl Tryz.underlying22 rfl hw'.1) ?_
      go_frame
      refine tw 4 (.pointer (some ⟨g, 0, none⟩)) ?_
      go_frame
      refine tw 5 (.pointer (some ⟨g, 0, none⟩)) ?_
      go_frame
      refine tw 6 (.pointer (some ⟨g, 1, none⟩)) ?_
      go_frame
      refine tkF 7 (.int .i64 (at' : Int)) (by kernel_rfl) rfl (fun _ _ _ h => h) (by rfl) hF0 (fun w' hw' => ex_load1 3 _ rfl (p := ⟨g, 1, none⟩) rfl Tryz.underlying3 rfl hw'.2) ?_
      go_frame
      refine ta 8 ?_
      refine wpOp_call _ rfl (by kernel_rfl) (ex_callFn (f := 60) (args := #[.slice (some ⟨b, off, none⟩) l.length c, .int .i64 (at' : Int), .int .i64 4096]) rfl rfl (fun args w => hE1 w args) (by simp only [List.map_toArray, List.map_cons, List.map_nil]; rfl)) ?_
      refine (refGetText_any l b off c at' 4096 w.drew hl HRD.out.cap HRD.out.le (HRD.out.keep (Below.refl _ w).drew).bytes).mono ?_
      rintro e w3 ⟨rfl, hg⟩
      rw [HP.out] at hg
      obtain rfl := hg
      refine ⟨_, rfl, fun _ h => h, ?_⟩
      go_frame
      refine tw 9 (.tuple #[.string ⟨t.toArray⟩, .int .i64 ((at' + k : Nat) : Int), .int .i64 0]) ?_
      go_frame
      refine tw 10 (.string ⟨t.toArray⟩) ?_
      go_frame
      refine tw 11 (.int .i64 ((at' + k : Nat) : Int)) ?_
      go_frame
      refine tw 12 (.int .i64 0) ?_
      go_frame
      refine tw 13 (.string ⟨t.toArray⟩) ?_
      go_frame
      refine tw 14 (.int .i64 ((at' + k : Nat) : Int)) ?_
      go_frame
      refine tw 15 (.int .i64 0) ?_
      go_frame
      refine wpAnyN_done (by kernel_rfl) ?_ _
      clear hE1 hF0
      obtain ⟨w2, hwd⟩ : ∃ u, w.drew = u := ⟨_, rfl⟩
      have HBD := Lib.hid (show Below w.heap.size w w2 by rw [← hwd]; exact (Below.refl _ _).drew)
      rw [hwd]
      clear hwd
      have HRD2 := Lib.hid (HRD.out.keep HBD.out); have HB2 := Lib.hid (But.of_below (X := fun k => k = g) HBD.out)
    · have d2 : w2.cell? ⟨g, 2, none⟩ = some (.bool false) := cells_at0 HRD2.out.box 2
      have d1 : w2.cell? ⟨g, 1, none⟩ = some (.int .i64 (at' : Int)) := cells_at0 HRD2.out.box 1
      have f1 := HRD2.out.frozen 1
      have f2 := HRD2.out.frozen 2
      obtain ⟨hm1, hm2⟩ := HRD2.out.say false
      have HM1 := Lib.hid hm1; have HM2 := Lib.hid hm2
      clear hm1 hm2
      go_wp2_with fail
      go_ret
      exact RrGives.bad noneS (fun h => by cases h) rfl ⟨rfl, by decide⟩ HM1.out (HB2.out.trans HM2.out fun _ _ q => q)
    · have d2 : w2.cell? ⟨g, 2, none⟩ = some (.bool true) := cells_at0 HRD2.out.box 2
      have d1 : w2.cell? ⟨g, 1, none⟩ = some (.int .i64 (at' : Int)) := cells_at0 HRD2.out.box 1
      have f1 := HRD2.out.frozen 1
      have f2 := HRD2.out.frozen 2
      obtain ⟨hm1, hm2⟩ := HRD2.out.move (at2 := at' + k) hle
      have HM1 := Lib.hid hm1; have HM2 := Lib.hid hm2
      rw [Int.natCast_add] at HM1 HM2
      clear hm1 hm2
      go_wp2_with fail
      go_ret
      exact RrGives.good (pText_at HP.out) rfl ⟨rfl, HNB.out⟩ HM1.out (HB2.out.trans HM2.out fun _ _ q => q)
end Go.Proofs.YthjaepmfkgejkaaGreatDoor
