/-
  What the writer's ids writes. Conditions: ids of 32 bytes; few.
  What object.ids gives. Conditions: ids of 32 bytes; at most 2^40 ids.
  A region that draws its order: ahead operations that only read, but for calls that stay in a class of worlds; behind them a row of operations, each waiting for the one ahead of it. One walk in the text's order serves every order. Over any program; conditions as each says.
-/
import Derived.Test.YthjaepmfkgejkaaGreatDoorMerged4
import Derived.Test.YthjaepmfkgejkaaGreatDoorMerged8
import Derived.Test.YthjaepmfkgejkaaGreatDoorMerged9
import Derived.Deep.MidRow
import Derived.Test.YthjaepmfkgejkaaGreatDoorMerged7
import Derived.Test.YthjaepmfkgejkaaGreatDoorMerged2
import Derived.StillTail
set_option linter.unusedVariables false
set_option linter.unusedSimpArgs false
set_option maxHeartbeats 4000000
set_option maxRecDepth 100000
namespace Go.Proofs.YthjaepmfkgejkaaGreatDoor
open Lib (hid)
open Go.RowKit Go.Maps
theorem UR (g : Nat) (l : List (List UInt8)) (xs : List UInt8) (A : Option Addr) (c : Nat) (w : World) (hw : WrAt w g xs) (ho : IdsOk l) (hx : xs.length + 32 * l.length + 10 ≤ 1099511627776) (hsl : Sl w g A l.length 32 (kr l)) :
    Calls Tryz.prog 67 #[.pointer (some ⟨g, 0, none⟩), .slice A l.length c] w fun e w' => e = .returned (.tuple #[]) ∧ WrAt w' g (xs ++ jR l) ∧ WrGo g w w' := by
  have HWA := hid hw; have HO := hid ho; have HSL := hid hsl
  have hlen := kU (n := l.length) (by omega)
  have hflat : ∀ i, ((l.take i).flatten).length ≤ 32 * l.length := fun i => by
    have h1 : ∀ m : List (List UInt8), IdsOk m → m.flatten.length = 32 * m.length := fun m => by
      induction m with
      | nil => intro _; rfl
      | cons a m ih =>
        intro hm
        have := hm a (by simp)
        rw [List.flatten_cons, List.length_append, ih (fun b hb => hm b (by simp [hb])), List.length_cons, show a.length = 32 from this]; omega
    rw [h1 _ (fun a ha => ho a (List.mem_of_mem_take ha)), List.length_take]; omega
  have HFL := hid hflat
  clear hw ho hsl hflat
  go_enter Tryz.func67, Tryz.ntmps67
  go_wp2_with (go_at_call 66; refine (KX g l.length xs w HWA.out (by omega) (by omega)).mono ?_; rintro e w1 ⟨rfl, hat1, hgo1⟩; have HAT1 := hid hat1; have HGO1 := hid hgo1; clear hat1 hgo1)
  go_loopw [12] (fun t wr => ∃ i ys, i ≤ l.length ∧ t = .int .i64 ((i : Nat) : Int) ∧ Hid (ys = xs ++ kS l.length ++ (l.take i).flatten) ∧ Hid (WrAt wr g ys) ∧ Hid (WrGo g w wr)) (fun t _ => l.length - (intOf t).toNat)
  case atStart => exact ⟨0, _, Nat.zero_le _, rfl, hid rfl, by simpa using HAT1, HGO1⟩
  case round =>
    obtain ⟨i, ys, hi, rfl, HY, HAT, HGO⟩ := hrel
    by_cases hlt : i < l.length
    ·
     have i0 : (0 : Int) ≤ (i : Int) := by omega
     have i1 : (i : Int) < (l.length : Int) := by omega
     obtain ⟨b, off, rfl, hbl, hcl⟩ := (HSL.out.keep (HGO.out.belowG HWA.out)).2 (by omega)
     have HROW := hid (Sl.id (B := 0) HO.out hcl (i := i) hlt)
     have HX := hid (show (l[i]).length = 32 from HO.out _ (List.getElem_mem hlt))
     have HTK := hid (show (l.take (i + 1)).flatten = (l.take i).flatten ++ l[i] by rw [List.take_succ_eq_append_getElem hlt, List.flatten_append, List.flatten_singleton])
     have hyl : ys.length ≤ xs.length + 10 + 32 * l.length := by
       have h1 := HFL.out i
       rw [HY.out, List.length_append, List.length_append]
       omega
     clear hcl
     generalize l[i] = x at *
     go_upto_region 4 with (first
       | (refine zE rfl 47 _ rfl b _ rfl (idV x) _ HROW.out Tryz.underlying47 rfl (by rw [k8, show x.length = 32 from HX.out]; exact kt) ?_)
       | (refine uN (B := wr.heap.size) (w0 := wr) rfl 47 _ _ rfl wr.heap.size (idV x).toArray rfl rfl 47 _ (heap_alloc_new _ _) (by rw [List.size_toArray]; exact (by rw [k8, show x.length = 32 from HX.out]; exact kt)) (by rw [show (idV x).toArray.size = 32 by rw [List.size_toArray, k8, show x.length = 32 from HX.out]]; rfl) (by simpa using ky x) ((Below.refl _ _).alloc (Nat.le_refl _) _) (Nat.le_refl _) ?_; intro W2 hbW2 hW2 _))
     obtain ⟨z, hz⟩ : ∃ z, wr.heap.size = z := ⟨_, rfl⟩
     rw [hz] at hW2 ⊢
     have HNW := hid (show ∀ j u, (idV x)[j]? = some u → W2.drew.cell? ((⟨z, 0, none⟩ : Addr).add j) = some u from fun j u hj => by
       have e1 : (⟨z, 0, none⟩ : Addr).add j = ⟨z, j, none⟩ := by unfold Addr.add; split <;> simp_all
       rw [e1]
       exact (k5 hW2 j).trans hj)
     have hat2 := HAT.out.keep hbW2
     have HLT2 := hid hat2.lt
     obtain ⟨v, hhg, how⟩ := hat2
     have HHG2 := hid hhg
     have HOW2 := hid ((But.of_below (X := NoB) ((Below.refl W2.heap.size W2).drew)).own how fun _ _ q => q)
     have HCV := hid (show W2.cell? ⟨g, 0, none⟩ = some v from k5 hhg 0)
     have HGO2 := hid (HGO.out.trans (WrGo.below HAT.out.lt hbW2))
     clear hhg how hbW2 hW2 hz
     refine rN 9 (fun u => u.cell? ⟨g, 0, none⟩ = some v) (HCV.out) fun hF0 => ?_
     refine tw 0 (.pointer (some ⟨g, 0, none⟩)) ?_
     go_frame
     refine tw 1 (.pointer (some ⟨g, 0, none⟩)) ?_
     go_frame
     refine tw 2 (.pointer (some ⟨g, 0, none⟩)) ?_
     go_frame
     refine tw 3 (.pointer (some ⟨g, 0, none⟩)) ?_
     go_frame
     refine tl 4 (v) rfl hF0 (fun w' hw' => l1 Tryz.underlying22 hw') ?_
     go_frame
     refine tw 5 (.slice (some ⟨z, 0, none⟩) 32 32) ?_
     go_frame
     refine ta 6 ?_
     refine Jz _ rfl (by kernel_rfl) ?_
     refine Z6 _ _ 22 rfl (g + 1) 5 (.int .u8 0) 1 1 Tryz.underlying22 kH rfl (by decide) v ys.length (idV ys) rfl HOW2.out ⟨z, 0, none⟩ 32 32 (idV x) rfl (by rw [k8, Nat.mul_one]; exact HX.out) HNW.out (ky _) (by unfold maxLen; omega) (by omega) (by have := HLT2.out; exact this) ?_
     intro v9 w9 ho9 hg9 hw9
     obtain ⟨A9, c9, rfl⟩ := kg ho9
     have ho8 : w9.ownsRow (g + 1) 5 1 (.slice A9 (ys.length + 32) c9) (ys.length + x.length) (idV ys ++ idV x) := by rw [show x.length = 32 from HX.out]; exact ho9
     obtain ⟨cg, cf, hat, hgo⟩ := WrAt.put HHG2.out HOW2.out (Below.refl _ _).drew ho8 hg9 hw9
     have HAT := hid hat; have HGO9 := hid hgo
     clear ho8
     clear ho9 hg9 hw9 hat hgo
     refine ⟨fun _ _ => cg, ?_⟩
     go_frame
     refine tw 7 (.pointer (some ⟨g, 0, none⟩)) ?_
     go_frame
     refine tw 8 (.pointer (some ⟨g, 0, none⟩)) ?_
     go_frame
     refine ta 9 ?_
     refine zD _ rfl (by kernel_rfl) (Jb 22 _ _ rfl g 0 (.slice A9 (ys.length + 32) c9) rfl rfl rfl rfl (by kernel_rfl) cg cf) ?_
     refine ⟨fun h => absurd h (by decide), ?_⟩
     go_frame
     refine kv (by kernel_rfl) ?_ _
     have HGON := hid (HGO2.out.trans HGO9.out)
     go_wp2_with fail
     go_roundw
     case rel => exact ⟨i + 1, ys ++ x, by omega, by go_num, hid (by rw [HY.out, HTK.out]; simp), HAT, HGON⟩
     case measure => (simp [intOf]) <;> omega
    ·
     have i1 : ¬ (i : Int) < (l.length : Int) := by omega
     have hie : i = l.length := by omega
     have HF : Hid (ys = xs ++ jR l) := hid (by rw [HY.out, hie, List.take_length]; unfold jR; rw [jx, List.append_assoc])
     clear hie
     go_wp2_with fail
     go_end0
     exact ⟨rfl, by rw [← HF.out]; exact HAT.out, HGO.out⟩
end Go.Proofs.YthjaepmfkgejkaaGreatDoor
namespace Go.Proofs.YthjaepmfkgejkaaGreatDoor
open Lib (hid)
open Go.RowKit
theorem jI (w : World) : (Instr.build 47 #[]).run Tryz.prog w = .ok (.agg (idV zero32).toArray) w := by kernel_rfl
theorem jy (w : World) : (Instr.build 68 #[]).run Tryz.prog w = .ok (.agg (ke kd).toArray) w := by kernel_rfl
theorem kW : (Tryz.prog.info? 68).map (·.size) = some 33 := by kernel_rfl
theorem zM (l : List (List UInt8)) (A : Option Addr) (c most : Nat) (w : World) (hn : l.length ≤ 1099511627776) (hm : most ≤ 1099511627776) (ho : IdsOk l) (hsl : Sl w w.heap.size A l.length 32 (kr l)) :
    Calls Tryz.prog 74 #[.slice A l.length c, .int .i64 most] w fun e w' => Below w.heap.size w w' ∧ e = .returned (.bool (KA l most)) := by
  have HSL := hid hsl; clear hsl
  have HO := hid ho; clear ho
  by_cases h1 : l.length ≤ most
  ·
   have hd1 : decide (((l.length : Nat) : Int) ≤ (most : Int)) = true := by simpa using h1
   cases hs : kI l
   ·
    have HE : Hid (KA l most = false) := hid (by unfold KA; rw [hs]; simp)
    have HS := hid hs; clear hs
    go_enter Tryz.func74, Tryz.ntmps74
    go_wp2_with (go_at_call 96; refine (vy l A c _ hn HO.out HSL.out).mono ?_; rw [HS.out]; rintro e w1 ⟨hb1, rfl⟩)
    go_ret
    exact ⟨hb1, by rw [HE.out]; rfl⟩
   ·
    rcases Nat.eq_zero_or_pos l.length with h0 | hpos
    ·
     obtain rfl := List.eq_nil_of_length_eq_zero h0
     have HE : Hid (KA [] most = true) := hid (by unfold KA; rw [hs]; simp)
     have HS := hid hs; clear hs
     go_enter Tryz.func74, Tryz.ntmps74
     go_wp2_with (go_at_call 96; refine (vy [] A c _ hn HO.out HSL.out).mono ?_; rw [HS.out]; rintro e w1 ⟨hb1, rfl⟩)
     go_ret
     exact ⟨hb1, by rw [HE.out]; rfl⟩
    ·
     have hne : l ≠ [] := List.ne_nil_of_length_pos hpos
     have hhd : l.headD [] = l[0] := by cases l with
       | nil => cases hpos
       | cons a t => rfl
     have HE : Hid (KA l most = !decide (l[0] = zero32)) := hid (by unfold KA; rw [hs, hhd]; simp [h1, hne])
     have hx := HO.out _ (List.getElem_mem hpos)
     have HS := hid hs; clear hs
     have hd2 : (((l.length : Nat) : Int) == 0) = false := by simp; omega
     have i0 : (0 : Int) < (l.length : Int) := by omega
     have EQ := hid (fun (u : World) => jX hx zP u)
     have ZB := hid jI
     have hxl : (Tryz.prog.info? 47).map (·.size) = some (idV l[0]).length := by rw [k8, show l[0].length = 32 from hx]; exact kt
     have HXL := hid hxl
     have HRD : Hid (∀ u : World, Below w.heap.size w u → ∃ b off, A = some ⟨b, off, none⟩ ∧ u.rangeAt b off (idV l[0])) := hid (fun u hu => by
       obtain ⟨b, off, hA, hbl, hcl⟩ := (HSL.out.keep hu).2 hpos
       refine ⟨b, off, hA, ?_⟩
       have h2 := Sl.id (B := 0) HO.out hcl (i := 0) hpos
       exact fun j v hj => by simpa using h2 j v hj)
     clear hhd hx hxl hne
     go_enter Tryz.func74, Tryz.ntmps74
     generalize l[0] = x at *
     go_wp2_with (first
       | (go_at_call 96; refine (vy l A c _ hn HO.out HSL.out).mono ?_; rw [HS.out]; rintro e w1 ⟨hb1, rfl⟩
          obtain ⟨b, off, rfl, hcl⟩ := HRD.out w1 hb1
          have C1 := hid hcl
          clear hcl)
       | (refine k6 (by rfl) (k9 47 _ rfl (p := ⟨b, off, none⟩) rfl (run_loadVar_mid _ _ _ _ _ _ C1.out Tryz.underlying47 rfl HXL.out)) ?_)
       | (refine k6 (by rfl) (kB 47 #[] rfl (ZB.out _)) ?_)
       | (refine k6 (by rfl) (kN 47 _ _ _ rfl (xs := (idV x).toArray) (ys := (idV zero32).toArray) rfl rfl (r := decide (x = zero32)) eqId.noGuard (EQ.out _)) ?_))
     go_ret
     exact ⟨hb1, by rw [HE.out]; rfl⟩
  ·
   have hd1 : decide (((l.length : Nat) : Int) ≤ (most : Int)) = false := by simp; omega
   have HE : Hid (KA l most = false) := hid (by unfold KA; simp [h1])
   go_enter Tryz.func74, Tryz.ntmps74
   go_wp2_with fail
   go_ret
   exact ⟨Below.refl _ _, by rw [HE.out]; rfl⟩
end Go.Proofs.YthjaepmfkgejkaaGreatDoor
namespace Go.Proofs.YthjaepmfkgejkaaGreatDoor
open Go.RowKit
def Kw (listed : Array Bool) : Nat → Nat
  | 0 => 0
  | k + 1 => Kw listed k + (if listed.getD k true = false then 1 else 0)
theorem ZY {listed : Array Bool} : ∀ {k : Nat}, Kw listed k = 0 → ∀ j, j < k → listed.getD j true = true
  | 0, _, _, h => by omega
  | k + 1, h, j, hj => by
    unfold Kw at h
    by_cases hk : listed.getD k true = false
    · rw [if_pos hk] at h; omega
    ·
     rw [if_neg hk] at h
     rcases (by omega : j < k ∨ j = k) with q | rfl
     · exact ZY (by omega) j q
     · simpa using hk
theorem uw {listed : Array Bool} : ∀ {k : Nat}, Kw listed k ≠ 0 → ∃ j, j < k ∧ listed.getD j true = false ∧ ∀ i, i < j → listed.getD i true = true
  | 0, h => absurd rfl h
  | k + 1, h => by
    by_cases h0 : Kw listed k = 0
    ·
     refine ⟨k, by omega, ?_, ZY h0⟩
     unfold Kw at h
     by_cases hk : listed.getD k true = false
     · exact hk
     · rw [if_neg hk, h0] at h; exact absurd rfl h
    · obtain ⟨j, hj, h1, h2⟩ := uw h0
      exact ⟨j, by omega, h1, h2⟩
theorem vK {listed : Array Bool} {i : Nat} : ∀ {k : Nat}, k ≤ i → Kw (listed.setIfInBounds i true) k = Kw listed k
  | 0, _ => rfl
  | k + 1, h => by
    unfold Kw
    rw [vK (by omega), getD_set_ne true (by omega)]
theorem US {listed : Array Bool} {i : Nat} (hi : listed.getD i true = false) : ∀ {k : Nat}, i < k → Kw (listed.setIfInBounds i true) k + 1 = Kw listed k
  | 0, h => by omega
  | k + 1, h => by
    rcases (by omega : i < k ∨ i = k) with q | rfl
    ·
     have := US hi q
     unfold Kw
     rw [getD_set_ne true (by omega)]
     omega
    ·
     unfold Kw
     rw [vK (Nat.le_refl _), if_pos hi]
     have : (listed.setIfInBounds i true).getD i true = true := by
       have hlt : i < listed.size := by
         rcases Nat.lt_or_ge i listed.size with q | q
         · exact q
         · simp [Array.getElem?_eq_none q] at hi
       simp [hlt]
     rw [if_neg (by rw [this]; simp)]
theorem UT {m j : Nat} (b : Bool) (h : j < m) : (Array.replicate m false).getD j b = false := by simp [h]
theorem UU (n : Nat) : ∀ k, k ≤ n → Kw (Array.replicate n false) k = k
  | 0, _ => rfl
  | k + 1, h => by
    unfold Kw
    rw [UU n k (by omega), if_pos (UT true (by omega))]
def backB (md : Region.Mode) (H : Array Oper) : Bool :=
  (List.range H.size).all fun j => match H[j]? with
    | some o => (o.after.all fun e => !Region.binds md e || decide (e.on < j)) && (match o.guard with | some (k, _) => decide (k < H.size) | none => true)
    | none => true
theorem vT {md : Region.Mode} {H : Array Oper} (h : backB md H = true) {j : Nat} {o : Oper} (ho : H[j]? = some o) : (∀ e ∈ o.after, Region.binds md e = true → e.on < j) ∧ ∀ k b, o.guard = some (k, b) → k < H.size := by
  have hj := (Array.getElem?_eq_some_iff.1 ho).1
  have h1 := List.all_eq_true.1 h j (List.mem_range.2 hj)
  simp only [ho, Bool.and_eq_true] at h1
  refine ⟨fun e he hb => ?_, fun k b hg => ?_⟩
  · have := Array.all_eq_true'.1 h1.1 e he
    simpa [hb] using this
  · have := h1.2
    rw [hg] at this
    simpa using this
section
variable {P : Program} {md : Region.Mode} {H ops : Array Oper} {C : World → Prop}
structure Agree (H ops : Array Oper) (done listed : Array Bool) : Prop where
  size : done.size = H.size
  same : ∀ j b, j < H.size → done.getD j b = listed.getD j b
theorem Agree.set {done listed : Array Bool} (h : Agree H ops done listed) {i : Nat} (hl : H.size ≤ listed.size) : Agree H ops (done.setIfInBounds i true) (listed.setIfInBounds i true) := by
  refine ⟨by simpa using h.size, fun j b hj => ?_⟩
  by_cases e : i = j
  ·
   subst e
   have h1 : i < done.size := by rw [h.size]; exact hj
   have h2 : i < listed.size := by omega
   simp [h1, h2]
  · rw [getD_set_ne b e, getD_set_ne b e]
    exact h.same j b hj
theorem Qy (hH : ∀ j, j < H.size → H[j]? = ops[j]?) (hb : backB md H = true) {j : Nat} {o : Oper} (ho : H[j]? = some o) (tmps : Array Value) : Region.wanted o (yielded H tmps) = Region.wanted o (yielded ops tmps) := by
  have hg := (vT hb ho).2
  unfold Region.wanted
  cases hgd : o.guard with
  | none => rfl
  | some g =>
    obtain ⟨k, b⟩ := g
    have hk := hg k b hgd
    have : yielded H tmps k = yielded ops tmps k := by unfold yielded; rw [hH k hk]
    simp only [this]
theorem Ua {n g : Nat} {Q : Act → Prop} {Q' : Exit → Act → World → Prop} (hn : n < ops.size) (hHn : H.size = n) (hH : ∀ j, j < H.size → H[j]? = ops[j]?) (hb : backB md H = true) (hs : Region.sinkB md ops n = true) (hc : Region.chainB md ops n = true)
    (hT : ∀ (listed : Array Bool) (a : Act) (w : World), HeadInv md ops n listed → (∀ j, j < n → listed.getD j true = true) → Q a → C w → wpAny P md ops Q' g listed a w) :
    ∀ (f : Nat) (done listed : Array Bool) (a : Act) (w : World), Kw listed n = f → HeadInv md ops n listed → Agree H ops done listed → C w → wpAnyQ P md H C Q f done a → wpAny P md ops Q' (f + g) listed a w
  | 0, done, listed, a, w, hf, inv, ag, hw, h => by
    rw [Nat.zero_add]
    exact hT listed a w inv (ZY hf) h.2 hw
  | f + 1, done, listed, a, w, hf, inv, ag, hw, h => by
    obtain ⟨j0, hj0, hu0, hl0⟩ := uw (listed := listed) (k := n) (by omega)
    have hready : ∀ j, j < n → (j ∈ Region.ready md H done ↔ j ∈ Region.ready md ops listed) := by
      intro j hj
      rw [mem_ready, mem_ready, hH j (by omega), ag.same j true (by omega)]
      refine and_congr Iff.rfl (exists_congr fun o => and_congr_right fun ho => ?_)
      have hbk := (vT hb ((hH j (by omega)).trans ho)).1
      refine forall_congr' fun e => forall_congr' fun he => forall_congr' fun hbd => ?_
      rw [ag.same e.on false (by have := hbk e he hbd; omega)]
    have hne : Region.ready md ops listed ≠ [] := by
      intro h0
      obtain ⟨o, ho⟩ : ∃ o, ops[j0]? = some o := ⟨_, Array.getElem?_eq_getElem (by omega)⟩
      have : j0 ∈ Region.ready md ops listed := mem_ready.2 ⟨hu0, o, ho, fun e he hbd => by
        have hlt := (vT hb ((hH j0 (by omega)).trans ho)).1 e he hbd
        have h1 := hl0 e.on hlt
        have hsz : e.on < listed.size := by rw [inv.size]; omega
        simpa [hsz] using h1⟩
      rw [h0] at this
      cases this
    rw [show f + 1 + g = (f + g) + 1 by omega]
    refine ⟨fun h0 => absurd h0 hne, fun i hi => ?_⟩
    have hin : i < n := by
      rcases Nat.lt_or_ge i n with q | q
      · exact q
      · exact absurd hi (tail_waits hs hc hn inv _ j0 rfl hj0 hu0 i q)
    have hiu := (mem_ready.1 hi).1
    have hq := h.2 i ((hready i hin).2 hi)
    obtain ⟨o, ho⟩ : ∃ o, ops[i]? = some o := ⟨_, Array.getElem?_eq_getElem (by omega)⟩
    have hoH : H[i]? = some o := (hH i (by omega)).trans ho
    have go : ∀ (a' : Act) (w' : World), C w' → wpAnyQ P md H C Q f (done.setIfInBounds i true) a' → wpAny P md ops Q' (f + g) (listed.setIfInBounds i true) a' w' := fun a' w' hw' hk =>
      Ua hn hHn hH hb hs hc hT f _ _ a' w' (by have := US hiu hin; omega) (inv.set hi hin) (ag.set (by rw [inv.size]; omega)) hw' hk
    unfold qOp at hq
    simp only [hoH] at hq
    rw [Qy hH hb hoH] at hq
    unfold wpOp
    simp only [ho]
    split
    · rename_i hwd
      rw [if_pos hwd] at hq
      exact .inl (Oper.wp_of_quiet hw go hq)
    · rename_i hwd
      rw [if_neg hwd] at hq
      exact go _ _ hw hq
end
theorem ZZ {P : Program} {id : Nat} {Q : Exit → Act → World → Prop} {a : Act} {w : World} {l : List Oper} (n : Nat) (C : World → Prop) (hC : C w.drew) (hm : P.follows .mixedOrders = true)
    (h1 : Region.lexB .any (l.take n).toArray = true) (h2 : backB .any (l.take n).toArray = true) (h3 : (decide (n < l.length) && Region.sinkB .any l.toArray n && Region.chainB .any l.toArray n) = true)
    (h4 : Region.seqB .any l.toArray (l.length - n) n (Array.replicate n true ++ Array.replicate (l.length - n) false) = true)
    (h : wpQuiet P (l.take n).toArray C (fun a' => ∀ w', C w' → wpList P l.toArray Q (l.drop n) a' w') (l.take n) a) : (Code.region id l.toArray true).wp P Q a w := by
  simp only [Bool.and_eq_true, decide_eq_true_eq] at h3
  obtain ⟨⟨hn, hs⟩, hc⟩ := h3
  have htl : (l.take n).length = n := by simp; omega
  refine wp_region_any hm ?_
  have inv0 : HeadInv .any l.toArray n (Array.replicate l.toArray.size false) :=
    ⟨by simp, fun j oj _ hl => (by rw [getD_replicate_false] at hl; cases hl), fun t _ ht => getD_in (by simpa using ht) (getD_replicate_false _ _)⟩
  simp only [Region.lexB, Bool.and_eq_true] at h1
  have hQ := wpAnyQ_lex (P := P) (C := C) (md := .any) (Q := fun a' => ∀ w', C w' → wpList P l.toArray Q (l.drop n) a' w') h1.1 (l.take n) 0 (Array.replicate (l.take n).toArray.size false) a (by simp) (by simpa using h1.2) h
  have := Ua (P := P) (md := .any) (H := (l.take n).toArray) (ops := l.toArray) (C := C) (n := n) (g := l.length - n) (Q := fun a' => ∀ w', C w' → wpList P l.toArray Q (l.drop n) a' w') (Q' := Q) (by simpa using hn) (by simpa using htl)
    (fun j hj => by
      have hj' : j < n := by simp at hj; omega
      simp [hj'])
    h2 hs hc
    (fun listed a' w' inv hall hq hw' => by
      have hL : listed = Array.replicate n true ++ Array.replicate (l.length - n) false := by
        apply Array.ext_getElem?
        intro j
        have hsz : listed.size = l.length := by simpa using inv.size
        by_cases hj : j < n
        ·
         have := hall j hj
         have hjs : j < listed.size := by omega
         rw [Array.getElem?_append_left (by simpa using hj)]
         simp [hjs, hj] at this ⊢
         exact this
        ·
         by_cases hj2 : j < l.length
         ·
          have := inv.tail j (by omega) (by simpa using hj2)
          have hjs : j < listed.size := by omega
          have hv : listed[j]? = some false := by
            rw [Array.getElem?_eq_getElem hjs]
            simpa [hjs] using this
          have hk : j - (Array.replicate n true).size < l.length - n := by rw [Array.size_replicate]; omega
          rw [hv, Array.getElem?_append_right (by rw [Array.size_replicate]; omega), Array.getElem?_replicate, if_pos hk]
         · rw [Array.getElem?_eq_none (by omega), Array.getElem?_eq_none (by simp; omega)]
      have hdl : (l.drop n).length = l.length - n := by simp
      have := wpAny_of_seq (md := .any) (Q' := Q) (l.drop n) n listed a' w' (fun j => by simp [List.getElem?_drop]) (by rw [hdl, hL]; exact h4) (hq w' hw')
      rwa [hdl] at this)
    (l.take n).length (Array.replicate (l.take n).toArray.size false) (Array.replicate l.toArray.size false) a w.drew (by rw [htl]; exact UU _ _ (by simp; omega)) inv0
    ⟨by simp, fun j b hj => by
      have h2 : j < l.toArray.size := by
        have hj' : j < (l.take n).length := hj
        rw [List.size_toArray]
        omega
      rw [UT b hj, UT b h2]⟩ hC hQ
  rw [htl, show n + (l.length - n) = l.toArray.size by simp; omega] at this
  exact this
def Wg (w : World) : Type := { w' : World // Gr w w' }
instance (w : World) : Nonempty (Wg w) := ⟨⟨w, Gr.refl _⟩⟩
theorem Wg.cell {w : World} {b o : Nat} {v : Value} (hc : w.cell? ⟨b, o, none⟩ = some v) (hb : b < w.heap.size) : ∀ n : Wg w, n.val.cell? ⟨b, o, none⟩ = some v := fun n => (n.2.below.cell (p := ⟨b, o, none⟩) hb).trans hc
theorem Wg.row {w : World} {b o : Nat} {cs : List Value} (hc : ∀ j u, cs[j]? = some u → w.cell? ⟨b, o + j, none⟩ = some u) (hb : b < w.heap.size) : ∀ w', (∃ n : Wg w, w' = n.val) → ∀ j u, cs[j]? = some u → w'.cell? ⟨b, o + j, none⟩ = some u := by
  rintro w' ⟨n, rfl⟩ j u hu
  exact Wg.cell (hc j u hu) hb n
theorem Wg.call {w : World} {P : Program} {f : FuncId} {args : Array Value} {v : Value} (h : ∀ w', Calls P f args w' fun e w'' => Gr w' w'' ∧ e = .returned v) (n : Wg w) :
    Calls P f args n.val fun e w'' => e = .returned v ∧ ∃ m : Wg w, w'' = m.val :=
  (h n.val).mono fun e w'' ⟨hb, he⟩ => ⟨he, ⟨w'', n.2.trans hb⟩, rfl⟩
theorem zl {P : Program} {id : Nat} {Q : Exit → Act → World → Prop} {a : Act} {w : World} {l : List Oper} (n : Nat) (hm : P.follows .mixedOrders = true)
    (h1 : Region.lexB .any (l.take n).toArray = true) (h2 : backB .any (l.take n).toArray = true) (h3 : (decide (n < l.length) && Region.sinkB .any l.toArray n && Region.chainB .any l.toArray n) = true)
    (h4 : Region.seqB .any l.toArray (l.length - n) n (Array.replicate n true ++ Array.replicate (l.length - n) false) = true)
    (h : wpQuiet P (l.take n).toArray (fun w' => ∃ k : Wg w, w' = k.val) (fun a' => ∀ w', (∃ k : Wg w, w' = k.val) → wpList P l.toArray Q (l.drop n) a' w') (l.take n) a) : (Code.region id l.toArray true).wp P Q a w :=
  ZZ n (fun w' => ∃ k : Wg w, w' = k.val) ⟨⟨_, (Gr.refl w).drew⟩, rfl⟩ hm h1 h2 h3 h4 h
end Go.Proofs.YthjaepmfkgejkaaGreatDoor
