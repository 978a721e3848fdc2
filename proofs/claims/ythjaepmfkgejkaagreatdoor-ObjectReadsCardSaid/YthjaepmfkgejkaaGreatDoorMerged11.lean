/-
  What the writer's ids writes. Conditions: ids of 32 bytes; few.
  What object.ids gives. Conditions: ids of 32 bytes; at most 2^40 ids.
  A region that draws its order: ahead operations that only read, but for calls that stay in a class of worlds; behind them a row of operations, each waiting for the one ahead of it. One walk in the text's order serves every order. Over any program; conditions as each says.
  A slice of a slice as one step of a walk, its value named. Over any program; conditions as each says.
  A region that draws its order, in the worlds that only drew and grew. Conditions: as the law says.
-/
import Derived.Test.YthjaepmfkgejkaaGreatDoorMerged10
import Derived.Deep.MidRow
import Derived.Test.YthjaepmfkgejkaaGreatDoorMerged7
import Derived.Test.YthjaepmfkgejkaaGreatDoorMerged3
import Derived.StillTail
import Derived.Test.YthjaepmfkgejkaaGreatDoorMerged6
import Derived.Laws.Slices
set_option linter.unusedVariables false
set_option linter.unusedSimpArgs false
set_option maxHeartbeats 4000000
set_option maxRecDepth 100000
namespace Go.Proofs.YthjaepmfkgejkaaGreatDoor
open Lib (hid)
open Go.RowKit Go.Maps
theorem Uc (g : Nat) (l : List (List UInt8)) (xs : List UInt8) (A : Option Addr) (c : Nat) (w : World) (hw : WrAt w g xs) (ho : IdsOk l) (hx : xs.length + 32 * l.length + 10 ≤ 1099511627776) (hsl : Sl w g A l.length 32 (jf l)) :
    Calls Tryz.prog 67 #[.pointer (some ⟨g, 0, none⟩), .slice A l.length c] w fun e w' => e = .returned (.tuple #[]) ∧ WrAt w' g (xs ++ jP l) ∧ WrGo g w w' := by
  have HWA := hid hw; have HO := hid ho; have HSL := hid hsl
  have hlen := je (n := l.length) (by omega)
  have hflat : ∀ i, ((l.take i).flatten).length ≤ 32 * l.length := fun i => by
    have h1 : ∀ m : List (List UInt8), IdsOk m → m.flatten.length = 32 * m.length := fun m => by
      induction m with
      | nil => intro _; rfl
      | cons a m ih =>
        intro hm
        have := hm a (by simp)
        rw [List.flatten_cons, List.length_append, ih (fun b hb => hm b (by simp [hb])), List.length_cons, show a.length = 32 from this]; omega
    rw [h1 _ (fun a ha => ho a (List.mem_of_mem_take ha)), List.length_take]; omega
  have HFL := hid hflat
  clear hw ho hsl hflat
  go_enter Tryz.func67, Tryz.ntmps67
  go_wp2_with (go_at_call 66; refine (KU g l.length xs w HWA.out (by omega) (by omega)).mono ?_; rintro e w1 ⟨rfl, hat1, hgo1⟩; have HAT1 := hid hat1; have HGO1 := hid hgo1; clear hat1 hgo1)
  go_loopw [12] (fun t wr => ∃ i ys, i ≤ l.length ∧ t = .int .i64 ((i : Nat) : Int) ∧ Hid (ys = xs ++ kZ l.length ++ (l.take i).flatten) ∧ Hid (WrAt wr g ys) ∧ Hid (WrGo g w wr)) (fun t _ => l.length - (intOf t).toNat)
  case atStart => exact ⟨0, _, Nat.zero_le _, rfl, hid rfl, by simpa using HAT1, HGO1⟩
  case round =>
    obtain ⟨i, ys, hi, rfl, HY, HAT, HGO⟩ := hrel
    by_cases hlt : i < l.length
    ·
     have i0 : (0 : Int) ≤ (i : Int) := by omega
     have i1 : (i : Int) < (l.length : Int) := by omega
     obtain ⟨b, off, rfl, hbl, hcl⟩ := (HSL.out.keep (HGO.out.belowG HWA.out)).2 (by omega)
     have HROW := hid (Sl.id (B := 0) HO.out hcl (i := i) hlt)
     have HX := hid (show (l[i]).length = 32 from HO.out _ (List.getElem_mem hlt))
     have HTK := hid (show (l.take (i + 1)).flatten = (l.take i).flatten ++ l[i] by rw [List.take_succ_eq_append_getElem hlt, List.flatten_append, List.flatten_singleton])
     have hyl : ys.length ≤ xs.length + 10 + 32 * l.length := by
       have h1 := HFL.out i
       rw [HY.out, List.length_append, List.length_append]
       omega
     clear hcl
     generalize l[i] = x at *
     go_upto_region 4 with (first
       | (refine zF rfl 47 _ rfl b _ rfl (idV x) _ HROW.out Tryz.underlying47 rfl (by rw [km, show x.length = 32 from HX.out]; exact kR) ?_)
       | (refine u0 (B := wr.heap.size) (w0 := wr) rfl 47 _ _ rfl wr.heap.size (idV x).toArray rfl rfl 47 _ (heap_alloc_new _ _) (by rw [List.size_toArray]; exact (by rw [km, show x.length = 32 from HX.out]; exact kR)) (by rw [show (idV x).toArray.size = 32 by rw [List.size_toArray, km, show x.length = 32 from HX.out]]; rfl) (by simpa using kT x) ((Below.refl _ _).alloc (Nat.le_refl _) _) (Nat.le_refl _) ?_; intro W2 hbW2 hW2 _))
     obtain ⟨z, hz⟩ : ∃ z, wr.heap.size = z := ⟨_, rfl⟩
     rw [hz] at hW2 ⊢
     have HNW := hid (show ∀ j u, (idV x)[j]? = some u → W2.drew.cell? ((⟨z, 0, none⟩ : Addr).add j) = some u from fun j u hj => by
       have e1 : (⟨z, 0, none⟩ : Addr).add j = ⟨z, j, none⟩ := by unfold Addr.add; split <;> simp_all
       rw [e1]
       exact (k6 hW2 j).trans hj)
     have hat2 := HAT.out.keep hbW2
     have HLT2 := hid hat2.lt
     obtain ⟨v, hhg, how⟩ := hat2
     have HHG2 := hid hhg
     have HOW2 := hid ((But.of_below (X := NoB) ((Below.refl W2.heap.size W2).drew)).own how fun _ _ q => q)
     have HCV := hid (show W2.cell? ⟨g, 0, none⟩ = some v from k6 hhg 0)
     have HGO2 := hid (HGO.out.trans (WrGo.below HAT.out.lt hbW2))
     clear hhg how hbW2 hW2 hz
     refine kr 9 (fun u => u.cell? ⟨g, 0, none⟩ = some v) (by kernel_rfl) ?_
     have hF0 : (fun u => u.cell? ⟨g, 0, none⟩ = some v) W2.drew := HCV.out
     refine tw 0 (.pointer (some ⟨g, 0, none⟩)) ?_
     go_frame
     refine tw 1 (.pointer (some ⟨g, 0, none⟩)) ?_
     go_frame
     refine tw 2 (.pointer (some ⟨g, 0, none⟩)) ?_
     go_frame
     refine tw 3 (.pointer (some ⟨g, 0, none⟩)) ?_
     go_frame
     refine tkF 4 (v) (by kernel_rfl) rfl (fun _ _ _ h => h) (by rfl) hF0 (fun w' hw' => ki 22 _ rfl (p := ⟨g, 0, none⟩) rfl Tryz.underlying22 rfl hw') ?_
     go_frame
     refine tw 5 (.slice (some ⟨z, 0, none⟩) 32 32) ?_
     go_frame
     refine ta 6 ?_
     refine Zi _ rfl (by kernel_rfl) ?_
     refine ZU _ _ 22 rfl (g + 1) 5 (.int .u8 0) 1 1 Tryz.underlying22 ja rfl (by decide) v ys.length (idV ys) rfl HOW2.out ⟨z, 0, none⟩ 32 32 (idV x) rfl (by rw [km, Nat.mul_one]; exact HX.out) HNW.out (kT _) (by unfold maxLen; omega) (by omega) (by have := HLT2.out; exact this) ?_
     intro v9 w9 ho9 hg9 hw9
     obtain ⟨A9, c9, rfl⟩ := kB ho9
     have ho8 : w9.ownsRow (g + 1) 5 1 (.slice A9 (ys.length + 32) c9) (ys.length + x.length) (idV ys ++ idV x) := by rw [show x.length = 32 from HX.out]; exact ho9
     obtain ⟨cg, cf, hat, hgo⟩ := WrAt.put HHG2.out HOW2.out (Below.refl _ _).drew ho8 hg9 hw9
     have HAT := hid hat; have HGO9 := hid hgo
     clear ho8
     clear ho9 hg9 hw9 hat hgo
     refine ⟨fun _ _ => cg, ?_⟩
     go_frame
     refine tw 7 (.pointer (some ⟨g, 0, none⟩)) ?_
     go_frame
     refine tw 8 (.pointer (some ⟨g, 0, none⟩)) ?_
     go_frame
     refine ta 9 ?_
     refine z6 _ rfl (by kernel_rfl) (J2 22 _ _ rfl g 0 (.slice A9 (ys.length + 32) c9) rfl rfl rfl rfl (by kernel_rfl) cg cf) ?_
     refine ⟨fun h => absurd h (by decide), ?_⟩
     go_frame
     refine kx (by kernel_rfl) ?_ _
     have HGON := hid (HGO2.out.trans HGO9.out)
     go_wp2_with fail
     go_roundw
     case rel => exact ⟨i + 1, ys ++ x, by omega, by go_num, hid (by rw [HY.out, HTK.out]; simp), HAT, HGON⟩
     case measure => (simp [intOf]) <;> omega
    ·
     have i1 : ¬ (i : Int) < (l.length : Int) := by omega
     have hie : i = l.length := by omega
     have HF : Hid (ys = xs ++ jP l) := hid (by rw [HY.out, hie, List.take_length]; unfold jP; rw [jw, List.append_assoc])
     clear hie
     go_wp2_with fail
     go_end0
     exact ⟨rfl, by rw [← HF.out]; exact HAT.out, HGO.out⟩
end Go.Proofs.YthjaepmfkgejkaaGreatDoor
namespace Go.Proofs.YthjaepmfkgejkaaGreatDoor
open Lib (hid)
open Go.RowKit
theorem jX (w : World) : (Instr.build 47 #[]).run Tryz.prog w = .ok (.agg (idV zero32).toArray) w := by kernel_rfl
theorem jF (w : World) : (Instr.build 68 #[]).run Tryz.prog w = .ok (.agg (kf kc).toArray) w := by kernel_rfl
theorem kn : (Tryz.prog.info? 68).map (·.size) = some 33 := by kernel_rfl
theorem zU (l : List (List UInt8)) (A : Option Addr) (c most : Nat) (w : World) (hn : l.length ≤ 1099511627776) (hm : most ≤ 1099511627776) (ho : IdsOk l) (hsl : Sl w w.heap.size A l.length 32 (jf l)) :
    Calls Tryz.prog 74 #[.slice A l.length c, .int .i64 most] w fun e w' => Below w.heap.size w w' ∧ e = .returned (.bool (Kk l most)) := by
  have HSL := hid hsl; clear hsl
  have HO := hid ho; clear ho
  by_cases h1 : l.length ≤ most
  ·
   have hd1 : decide (((l.length : Nat) : Int) ≤ (most : Int)) = true := by simpa using h1
   cases hs : kY l
   ·
    have HE : Hid (Kk l most = false) := hid (by unfold Kk; rw [hs]; simp)
    have HS := hid hs; clear hs
    go_enter Tryz.func74, Tryz.ntmps74
    go_wp2_with (go_at_call 96; refine (ZV l A c _ hn HO.out HSL.out).mono ?_; rw [HS.out]; rintro e w1 ⟨hb1, rfl⟩)
    go_ret
    exact ⟨hb1, by rw [HE.out]; rfl⟩
   ·
    rcases Nat.eq_zero_or_pos l.length with h0 | hpos
    ·
     obtain rfl := List.eq_nil_of_length_eq_zero h0
     have HE : Hid (Kk [] most = true) := hid (by unfold Kk; rw [hs]; simp)
     have HS := hid hs; clear hs
     go_enter Tryz.func74, Tryz.ntmps74
     go_wp2_with (go_at_call 96; refine (ZV [] A c _ hn HO.out HSL.out).mono ?_; rw [HS.out]; rintro e w1 ⟨hb1, rfl⟩)
     go_ret
     exact ⟨hb1, by rw [HE.out]; rfl⟩
    ·
     have hne : l ≠ [] := List.ne_nil_of_length_pos hpos
     have hhd : l.headD [] = l[0] := by cases l with
       | nil => cases hpos
       | cons a t => rfl
     have HE : Hid (Kk l most = !decide (l[0] = zero32)) := hid (by unfold Kk; rw [hs, hhd]; simp [h1, hne])
     have hx := HO.out _ (List.getElem_mem hpos)
     have HS := hid hs; clear hs
     have hd2 : (((l.length : Nat) : Int) == 0) = false := by simp; omega
     have i0 : (0 : Int) < (l.length : Int) := by omega
     have EQ := hid (fun (u : World) => zV hx zM u)
     have ZB := hid jX
     have hxl : (Tryz.prog.info? 47).map (·.size) = some (idV l[0]).length := by rw [km, show l[0].length = 32 from hx]; exact kR
     have HXL := hid hxl
     have HRD : Hid (∀ u : World, Below w.heap.size w u → ∃ b off, A = some ⟨b, off, none⟩ ∧ u.rangeAt b off (idV l[0])) := hid (fun u hu => by
       obtain ⟨b, off, hA, hbl, hcl⟩ := (HSL.out.keep hu).2 hpos
       refine ⟨b, off, hA, ?_⟩
       have h2 := Sl.id (B := 0) HO.out hcl (i := 0) hpos
       exact fun j v hj => by simpa using h2 j v hj)
     clear hhd hx hxl hne
     go_enter Tryz.func74, Tryz.ntmps74
     generalize l[0] = x at *
     go_wp2_with (first
       | (go_at_call 96; refine (ZV l A c _ hn HO.out HSL.out).mono ?_; rw [HS.out]; rintro e w1 ⟨hb1, rfl⟩
          obtain ⟨b, off, rfl, hcl⟩ := HRD.out w1 hb1
          have C1 := hid hcl
          clear hcl)
       | (refine k9 (by rfl) (kd 47 _ rfl (p := ⟨b, off, none⟩) rfl (run_loadVar_mid _ _ _ _ _ _ C1.out Tryz.underlying47 rfl HXL.out)) ?_)
       | (refine k9 (by rfl) (kF 47 #[] rfl (ZB.out _)) ?_)
       | (refine k9 (by rfl) (jc 47 _ _ _ rfl (xs := (idV x).toArray) (ys := (idV zero32).toArray) rfl rfl (r := decide (x = zero32)) eqId.noGuard (EQ.out _)) ?_))
     go_ret
     exact ⟨hb1, by rw [HE.out]; rfl⟩
  ·
   have hd1 : decide (((l.length : Nat) : Int) ≤ (most : Int)) = false := by simp; omega
   have HE : Hid (Kk l most = false) := hid (by unfold Kk; simp [h1])
   go_enter Tryz.func74, Tryz.ntmps74
   go_wp2_with fail
   go_ret
   exact ⟨Below.refl _ _, by rw [HE.out]; rfl⟩
end Go.Proofs.YthjaepmfkgejkaaGreatDoor
namespace Go.Proofs.YthjaepmfkgejkaaGreatDoor
open Go.RowKit
section
variable {P : Program} {md : Region.Mode} {H ops : Array Oper} {C : World → Prop}
structure Agree (H ops : Array Oper) (done listed : Array Bool) : Prop where
  size : done.size = H.size
  same : ∀ j b, j < H.size → done.getD j b = listed.getD j b
theorem Agree.set {done listed : Array Bool} (h : Agree H ops done listed) {i : Nat} (hl : H.size ≤ listed.size) : Agree H ops (done.setIfInBounds i true) (listed.setIfInBounds i true) := by
  refine ⟨by simpa using h.size, fun j b hj => ?_⟩
  by_cases e : i = j
  ·
   subst e
   have h1 : i < done.size := by rw [h.size]; exact hj
   have h2 : i < listed.size := by omega
   simp [h1, h2]
  · rw [getD_set_ne b e, getD_set_ne b e]
    exact h.same j b hj
end
def Wg (w : World) : Type := { w' : World // Gr w w' }
instance (w : World) : Nonempty (Wg w) := ⟨⟨w, Gr.refl _⟩⟩
theorem Wg.cell {w : World} {b o : Nat} {v : Value} (hc : w.cell? ⟨b, o, none⟩ = some v) (hb : b < w.heap.size) : ∀ n : Wg w, n.val.cell? ⟨b, o, none⟩ = some v := fun n => (n.2.below.cell (p := ⟨b, o, none⟩) hb).trans hc
theorem Wg.row {w : World} {b o : Nat} {cs : List Value} (hc : ∀ j u, cs[j]? = some u → w.cell? ⟨b, o + j, none⟩ = some u) (hb : b < w.heap.size) : ∀ w', (∃ n : Wg w, w' = n.val) → ∀ j u, cs[j]? = some u → w'.cell? ⟨b, o + j, none⟩ = some u := by
  rintro w' ⟨n, rfl⟩ j u hu
  exact Wg.cell (hc j u hu) hb n
theorem Wg.call {w : World} {P : Program} {f : FuncId} {args : Array Value} {v : Value} (h : ∀ w', Calls P f args w' fun e w'' => Gr w' w'' ∧ e = .returned v) (n : Wg w) :
    Calls P f args n.val fun e w'' => e = .returned v ∧ ∃ m : Wg w, w'' = m.val :=
  (h n.val).mono fun e w'' ⟨hb, he⟩ => ⟨he, ⟨w'', n.2.trans hb⟩, rfl⟩
end Go.Proofs.YthjaepmfkgejkaaGreatDoor
namespace Go.Proofs.YthjaepmfkgejkaaGreatDoor
open Go.RowKit
section
variable {P : Program} {ρ : Operand → Value} {o : Oper} {w : World}
theorem sizeOf_run {e : TypeId} {size : Nat} (hs : (P.info? e).map (·.size) = some size) (w : World) : (sizeOf e).run P w = .ok size w := by
  cases hq : P.info? e with
  | none => simp [hq] at hs
  | some i =>
    have : i.size = size := by simpa [hq] using hs
    simp [sizeOf, typeInfo, hq, this]
theorem ex_slice_lh (t : TypeId) (x lo hi : Operand) (ho : o.op = .slice t x (some lo) (some hi) none) {A : Option Addr} {n c l h : Nat} {kl kh : IntKind} (hx : ρ x = .slice A n c) (hl : ρ lo = .int kl (l : Int)) (hh : ρ hi = .int kh (h : Int))
    (ht : P.underlying t = some (.slice (P.elem t))) {size : Nat} (hs : (P.info? (P.elem t)).map (·.size) = some size) (h1 : l ≤ h) (h2 : h ≤ c) {V : Value} (hV : sliced A l h c size = V) :
    (execOp ρ o).run P w = .ok (.value V) w := by
  subst hV
  have hr := run_slice_lh w t A n c ht kl kh (l : Int) (h : Int) (by omega) (by omega) (by omega)
  rw [sizeOf_run hs] at hr
  simp only [Result.andThen, Int.toNat_natCast] at hr
  have ha := run_sliceAt_slice w t (.slice A n c) (some (.int kl (l : Int))) (some (.int kh (h : Int))) none ht
  rw [hr] at ha
  unfold execOp
  simp only [ho, hx, hl, hh, Option.map_some, Option.map_none, Sem.run_bind, ha, Result.andThen_ok, Sem.run_pure]
end
end Go.Proofs.YthjaepmfkgejkaaGreatDoor
namespace Go.Proofs.YthjaepmfkgejkaaGreatDoor
open Go.RowKit
theorem jv {P : Program} {id : Nat} {Q : Exit → Act → World → Prop} {a : Act} {w : World} {l : List Oper} (hm : P.follows .mixedOrders = true) (hB : Region.lexB .any l.toArray = true)
    (h : wpQuiet P l.toArray (fun w' => ∃ n : Wg w, w' = n.val) (fun a' => ∀ w', (∃ n : Wg w, w' = n.val) → Q .normal a' w') l a) : (Code.region id l.toArray true).wp P Q a w :=
  wp_region_quiet (C := fun w' => ∃ n : Wg w, w' = n.val) hm hB ⟨⟨_, (Gr.refl w).drew⟩, rfl⟩ (by simpa using h)
end Go.Proofs.YthjaepmfkgejkaaGreatDoor
