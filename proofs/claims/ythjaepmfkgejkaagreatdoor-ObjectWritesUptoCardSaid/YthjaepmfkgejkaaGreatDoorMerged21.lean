/-
  What the document's Light tells. Conditions: few operations.
  The document's Same, of objects that are alike. Conditions: well formed; lists of at most 2^40.
  Merging two sorted lists of ids, and striking doubles out of a sorted one, step by step. No conditions; no program runs here.
  'x[:h]' as one step of a walk; what a part of a slice reads as. Over any program; conditions as each says.
-/
import Derived.Test.YthjaepmfkgejkaaGreatDoorMerged1
import Derived.Test.YthjaepmfkgejkaaGreatDoorObjReadOp
import Derived.Test.YthjaepmfkgejkaaGreatDoorMerged12
import Derived.Test.YthjaepmfkgejkaaGreatDoorMerged4
import Derived.Test.YthjaepmfkgejkaaGreatDoorMerged7
import Derived.Test.YthjaepmfkgejkaaGreatDoorMerged9
import Derived.Test.YthjaepmfkgejkaaGreatDoorMerged3
import Derived.Test.YthjaepmfkgejkaaGreatDoorMerged11
import Derived.Test.YthjaepmfkgejkaaGreatDoorMerged18
import Derived.Test.YthjaepmfkgejkaaGreatDoorMerged2
set_option linter.unusedVariables false
set_option linter.unusedSimpArgs false
set_option maxHeartbeats 4000000
set_option maxRecDepth 100000
namespace Go.Proofs.YthjaepmfkgejkaaGreatDoor
open Lib (hid)
open Go.RowKit Go.Maps
def vW (x : OpD) : Bool := !(decide (300 < x.2.2.2.1.size) && decide (x.2.2.2.1.size ≤ 4096))
def Zb (o : zR) : Bool := decide (o.2.1.2.2.2.length ≤ 60) && decide (o.2.1.2.1.length ≤ 100) && decide (o.2.2.1.length ≤ 100) && decide (o.2.2.2.1.length ≤ 200) && o.2.1.2.2.2.all vW
theorem Ue {o : zR} (h : Zb o = true) : o.2.1.2.2.2.length ≤ 60 ∧ o.2.1.2.1.length ≤ 100 ∧ o.2.2.1.length ≤ 100 ∧ o.2.2.2.1.length ≤ 200 := by
  unfold Zb at h
  simp only [Bool.and_eq_true, decide_eq_true_eq] at h
  exact ⟨h.1.1.1.1, h.1.1.1.2, h.1.1.2, h.1.2⟩
theorem vB {o : zR} (h : ¬ (o.2.1.2.2.2.length ≤ 60 ∧ o.2.1.2.1.length ≤ 100 ∧ o.2.2.1.length ≤ 100 ∧ o.2.2.2.1.length ≤ 200)) : Zb o = false := by
  rcases Bool.eq_false_or_eq_true (Zb o) with q | q
  · exact absurd (Ue q) h
  · exact q
theorem all_next {α : Type} {p : α → Bool} {l : List α} {i : Nat} (h : i < l.length) : (l.take (i + 1)).all p = ((l.take i).all p && p l[i]) := by
  rw [List.take_succ_eq_append_getElem h, List.all_append]
  simp
theorem all_stop {α : Type} {p : α → Bool} {l : List α} {i : Nat} (h : i < l.length) (hp : p l[i] = false) : l.all p = false := by
  rcases Bool.eq_false_or_eq_true (l.all p) with q | q
  · have := List.all_eq_true.1 q _ (List.getElem_mem h)
    rw [hp] at this; cases this
  · exact q
theorem Q5 (o : zR) (v : Value) (w : World) (h : ObjIn w w.heap.size v o) :
    Calls Tryz.prog 10 #[v] w fun e w' => Below w.heap.size w w' ∧ e = .returned (.bool (Zb o)) := by
  obtain ⟨ok, hop, ha, ha2, hm, Ad, cd, Ao, co, Ap, cp, Ac, cc, rfl, sd, so, sp, sc⟩ := h
  obtain ⟨k, ⟨n, ds, au, os⟩, ⟨ps, cs, a2, ms, st⟩⟩ := o
  dsimp only at *
  have HSO := hid so; have HOP := hid hop
  clear ok hop ha ha2 hm sd so sp sc
  go_enter Tryz.func10, Tryz.ntmps10
  go_upto_region 1 with (first
    | (with_reducible refine kz ?_
       refine ko (by rfl) 30 _ rfl [.int .u8 (k.toNat : Int), .int .i64 n, .slice Ad ds.length cd, .string au, .slice Ao os.length co, .slice Ap ps.length cp, .slice Ac cs.length cc, .string a2, .string ms, .int .i64 st] _ rfl rfl (by kernel_rfl) ?_
       intro W0 hb0 hy0 hs0
       have HB0 := hid hb0; have HY0 := hid hy0
       clear hb0 hy0 hs0))
  have hx0 := (qX HY0.out)
  have c4 : W0.cell? ⟨w.heap.size, 4, none⟩ = some (.slice Ao os.length co) := k5 HY0.out 4
  have c2 : W0.cell? ⟨w.heap.size, 2, none⟩ = some (.slice Ad ds.length cd) := k5 HY0.out 2
  have c5 : W0.cell? ⟨w.heap.size, 5, none⟩ = some (.slice Ap ps.length cp) := k5 HY0.out 5
  have c6 : W0.cell? ⟨w.heap.size, 6, none⟩ = some (.slice Ac cs.length cc) := k5 HY0.out 6
  try go_frame
  clear HY0
  by_cases h0 : 60 < os.length
  ·
   have d0 : decide ((60 : Int) < (os.length : Int)) = true := dT (by omega)
   have d0' : decide (60 < os.length) = true := dT (by omega)
   go_wp2_with fail
   go_ret
   exact ⟨HB0.out, by rw [vB (by intro q; have q1 := q.1; have q2 := q.2.1; have q3 := q.2.2.1; have q4 := q.2.2.2; dsimp only at q1 q2 q3 q4; omega)]; rfl⟩
  have d0 : decide ((60 : Int) < (os.length : Int)) = false := dF (by omega)
  have d0' : decide (60 < os.length) = false := dF (by omega)
  by_cases h1 : 100 < ds.length
  ·
   have d1 : decide ((100 : Int) < (ds.length : Int)) = true := dT (by omega)
   have d1' : decide (100 < ds.length) = true := dT (by omega)
   go_wp2_with fail
   go_ret
   exact ⟨HB0.out, by rw [vB (by intro q; have q1 := q.1; have q2 := q.2.1; have q3 := q.2.2.1; have q4 := q.2.2.2; dsimp only at q1 q2 q3 q4; omega)]; rfl⟩
  have d1 : decide ((100 : Int) < (ds.length : Int)) = false := dF (by omega)
  have d1' : decide (100 < ds.length) = false := dF (by omega)
  by_cases h2 : 100 < ps.length
  ·
   have d2 : decide ((100 : Int) < (ps.length : Int)) = true := dT (by omega)
   have d2' : decide (100 < ps.length) = true := dT (by omega)
   go_wp2_with fail
   go_ret
   exact ⟨HB0.out, by rw [vB (by intro q; have q1 := q.1; have q2 := q.2.1; have q3 := q.2.2.1; have q4 := q.2.2.2; dsimp only at q1 q2 q3 q4; omega)]; rfl⟩
  have d2 : decide ((100 : Int) < (ps.length : Int)) = false := dF (by omega)
  have d2' : decide (100 < ps.length) = false := dF (by omega)
  by_cases h3 : 200 < cs.length
  ·
   have d3 : decide ((200 : Int) < (cs.length : Int)) = true := dT (by omega)
   have d3' : decide (200 < cs.length) = true := dT (by omega)
   go_wp2_with fail
   go_ret
   exact ⟨HB0.out, by rw [vB (by intro q; have q1 := q.1; have q2 := q.2.1; have q3 := q.2.2.1; have q4 := q.2.2.2; dsimp only at q1 q2 q3 q4; omega)]; rfl⟩
  have d3 : decide ((200 : Int) < (cs.length : Int)) = false := dF (by omega)
  have d3' : decide (200 < cs.length) = false := dF (by omega)
  have c4' := c4
  have HC4 := hid (fun (u : World) (hu : Below W0.heap.size W0 u) => (hu.cell (p := ⟨w.heap.size, 4, none⟩) hx0).trans c4')
  go_upto_region 4 with fail
  clear c4 c2 c5 c6 c4'
  go_loopw [3] (fun t wr => ∃ i : Nat, i ≤ os.length ∧ t = .int .i64 i ∧ Hid ((os.take i).all vW = true) ∧ Hid (Below W0.heap.size W0 wr)) (fun t _ => os.length - (intOf t).toNat)
  case atStart => exact ⟨0, by omega, rfl, hid rfl, hid (qB _ _)⟩
  case round =>
    obtain ⟨i, hi, rfl, HAL, HBR⟩ := hrel
    have HBT := hid (HB0.out.trans (HBR.out.mono (Nat.le_of_lt hx0)))
    have e4 := HC4.out wr HBR.out
    by_cases hlt : i < os.length
    ·
     obtain ⟨b, off, rfl, hbl, hcl⟩ := (HSO.out.keep HBT.out).2 (by omega)
     have i0 : (0 : Int) ≤ (i : Int) := by omega
     have i1 : (i : Int) < (os.length : Int) := by omega
     have hrow := Sl.row (fun x hx => kq (HOP.out x hx)) hcl hlt
     have HX := hid (HOP.out _ (List.getElem_mem hlt))
     have HNX := hid (all_next (p := vW) hlt)
     have HST := hid (fun h => all_stop (p := vW) hlt h)
     generalize os[i] = x at *
     have HOC := hid (kn HX.out)
     have e67 : wr.cell? ⟨b, off + i * 70 + (3 + 64), none⟩ = some (.string x.2.2.2.1) := hrow 67 _ HOC.out.2.2.2.1
     have HTB : Hid (vW x = !(decide (300 < x.2.2.2.1.size) && decide (x.2.2.2.1.size ≤ 4096))) := hid rfl
     generalize x.2.2.2.1 = s at *
     clear hcl hbl hrow
     by_cases hs1 : 300 < s.size
     ·
      have g1 : decide ((300 : Int) < (s.size : Int)) = true := dT (by omega)
      have g1' : decide (300 < s.size) = true := dT (by omega)
      by_cases hs2 : s.size ≤ 4096
      ·
       have g2 : decide ((s.size : Int) ≤ 4096) = true := dT (by omega)
       have g2' : decide (s.size ≤ 4096) = true := dT (by omega)
       have HLN : Hid (Zb (k, (n, ds, au, os), (ps, cs, a2, ms, st)) = false) := hid (by unfold Zb; dsimp only; rw [HST.out (by rw [HTB.out, g1', g2']; rfl), Bool.and_false])
       go_wp2_with fail
       go_ret
       exact ⟨HBT.out, by rw [HLN.out]; rfl⟩
      ·
       have g2 : decide ((s.size : Int) ≤ 4096) = false := dF (by omega)
       have g2' : decide (s.size ≤ 4096) = false := dF (by omega)
       have HAN := hid (show (os.take (i + 1)).all vW = true by rw [HNX.out, HAL.out, HTB.out, g1', g2']; rfl)
       go_wp2_with fail
       go_roundw
       case rel => exact ⟨i + 1, by omega, by go_num, HAN, HBR⟩
       case measure => simp [intOf]; omega
     ·
      have g1 : decide ((300 : Int) < (s.size : Int)) = false := dF (by omega)
      have g1' : decide (300 < s.size) = false := dF (by omega)
      have HAN := hid (show (os.take (i + 1)).all vW = true by rw [HNX.out, HAL.out, HTB.out, g1']; rfl)
      go_wp2_with fail
      go_roundw
      case rel => exact ⟨i + 1, by omega, by go_num, HAN, HBR⟩
      case measure => simp [intOf]; omega
    ·
     have i1 : ¬ (i : Int) < (os.length : Int) := by omega
     have HLY : Hid (Zb (k, (n, ds, au, os), (ps, cs, a2, ms, st)) = true) := hid (by
       have h := HAL.out
       rw [List.take_of_length_le (by omega)] at h
       unfold Zb; dsimp only
       rw [h, dT (show os.length ≤ 60 by omega), dT (show ds.length ≤ 100 by omega), dT (show ps.length ≤ 100 by omega), dT (show cs.length ≤ 200 by omega)]; rfl)
     go_wp2_with fail
     go_ret
     exact ⟨HBT.out, by rw [HLY.out]; rfl⟩
end Go.Proofs.YthjaepmfkgejkaaGreatDoor
namespace Go.Proofs.YthjaepmfkgejkaaGreatDoor
open Lib (hid)
open Go.RowKit Go.Maps
theorem idsSame_any (l : List (List UInt8)) (A1 A2 : Option Addr) (c1 c2 : Nat) (w : World) (hn : l.length ≤ 1099511627776) (ho : IdsOk l) (h1 : Sl w w.heap.size A1 l.length 32 (kr l)) (h2 : Sl w w.heap.size A2 l.length 32 (kr l)) :
    Calls Tryz.prog 20 #[.slice A1 l.length c1, .slice A2 l.length c2] w fun e w' => Below w.heap.size w w' ∧ e = .returned (.bool true) := by
  have H1 := hid h1; have H2 := hid h2; have HO := hid ho
  clear h1 h2 ho
  go_enter Tryz.func20, Tryz.ntmps20
  go_wp2_with fail
  go_loopw [5] (fun t wr => ∃ i : Nat, i ≤ l.length ∧ t = .int .i64 i ∧ Hid (Below w.heap.size w wr)) (fun t _ => l.length - (intOf t).toNat)
  case atStart => exact ⟨0, by omega, rfl, hid (qB _ _)⟩
  case round =>
    obtain ⟨i, hi, rfl, HBR⟩ := hrel
    by_cases hlt : i < l.length
    ·
     obtain ⟨b1, o1, rfl, hbl1, hc1⟩ := (H1.out.keep HBR.out).2 (by omega)
     obtain ⟨b2, o2, rfl, hbl2, hc2⟩ := (H2.out.keep HBR.out).2 (by omega)
     have i0 : (0 : Int) ≤ (i : Int) := by omega
     have i1 : (i : Int) < (l.length : Int) := by omega
     have R1 := hid (Wd.row (base := wr.heap.size) (Sl.id (B := 0) HO.out hc1 (i := i) hlt) (qL hbl1 HBR.out.size))
     have R2 := hid (Wd.row (base := wr.heap.size) (Sl.id (B := 0) HO.out hc2 (i := i) hlt) (qL hbl2 HBR.out.size))
     have HX := hid (show Ke l[i] from HO.out _ (List.getElem_mem hlt))
     have HEQ : Hid (∀ u : World, (Op.equalIn 10000 47 (.agg (idV l[i]).toArray) (.agg (idV l[i]).toArray)).run Tryz.prog u = .ok true u) := hid (fun u => (jX HX.out HX.out u).trans (by simp))
     clear hc1 hc2 hbl1 hbl2
     generalize l[i] = x at *
     go_wp2_with fail
     refine jl (base := wr.heap.size) wr (qB _ _) (by kernel_rfl) (by kernel_rfl) ?_
     repeat (first
       | go_big_quiet_skip
       | (go_big_quiet_want
          first
            | (refine kG (fun w' hw' => k9 47 _ rfl (p := ⟨b1, o1 + i * 32, none⟩) rfl (qV w' _ _ _ (idV x) _ (R1.out w' hw') Tryz.underlying47 rfl (by rw [k8, show x.length = 32 from HX.out]; exact kt))) ?_
               go_big_quiet_on
               go_frame)
            | (refine kG (fun w' hw' => k9 47 _ rfl (p := ⟨b2, o2 + i * 32, none⟩) rfl (qV w' _ _ _ (idV x) _ (R2.out w' hw') Tryz.underlying47 rfl (by rw [k8, show x.length = 32 from HX.out]; exact kt))) ?_
               go_big_quiet_on
               go_frame)
            | (refine kG (fun w' hw' => kN 47 _ _ _ rfl (xs := ((idV x)).toArray) (ys := ((idV x)).toArray) rfl rfl (r := true) eqId.noGuard (HEQ.out w')) ?_
               go_big_quiet_on
               simp only [Act.put, List.setIfInBounds_toArray, List.set_cons_zero, List.set_cons_succ, Bool.not_true])
            | (go_big_quiet_op
               go_big_quiet_on)))
     refine wpQuiet_nil ?_
     rintro w' ⟨k, rfl⟩
     have hk := k.2
     generalize k.val = w9 at *
     clear k
     have HBN := hid (HBR.out.trans (hk.mono HBR.out.size))
     clear hk
     go_wp2_with fail
     go_roundw
     case rel => exact ⟨i + 1, by omega, by go_num, HBN⟩
     case measure => simp [intOf]; omega
    ·
     have i1 : ¬ (i : Int) < (l.length : Int) := by omega
     go_wp2_with fail
     go_ret
     exact ⟨HBR.out, rfl⟩
theorem qa (w : World) : (zeroValue 28).run Tryz.prog w = .ok (.agg ([.slice none 0 0, .slice none 0 0, .string kc, .string kc, .int .i64 0] : List Value).toArray) w := by kernel_rfl
end Go.Proofs.YthjaepmfkgejkaaGreatDoor
namespace Go.Proofs.YthjaepmfkgejkaaGreatDoor
def zZ (l : List (List UInt8)) : Prop := l.Pairwise fun a b => kX a b ≤ 0
theorem qb {a b c : List UInt8} (h1 : kX a b ≤ 0) (h2 : kX b c ≤ 0) : kX a c ≤ 0 := by
  rcases (by omega : kX a b < 0 ∨ kX a b = 0) with q | q
  · rcases (by omega : kX b c < 0 ∨ kX b c = 0) with r | r
    · have := Kf q r; omega
    · rw [← K6.1 r]; exact h1
  · rw [K6.1 q]; exact h2
structure Mg (a b out ra rb : List (List UInt8)) : Prop where
  perm : (out ++ ra ++ rb).Perm (a ++ b)
  sorted : zZ out
  le : ∀ x ∈ out, ∀ y ∈ ra ++ rb, kX x y ≤ 0
  sra : zZ ra
  srb : zZ rb
theorem Mg.start {a b : List (List UInt8)} (ha : zZ a) (hb : zZ b) : Mg a b [] a b := ⟨List.Perm.refl _, List.Pairwise.nil, fun x hx => absurd hx (by simp), ha, hb⟩
section
variable {a b out ra rb : List (List UInt8)} {x : List UInt8}
theorem Mg.left (h : Mg a b out (x :: ra) rb) (hc : ∀ y t, rb = y :: t → kX x y ≤ 0) : Mg a b (out ++ [x]) ra rb := by
  have hs := List.pairwise_cons.1 h.sra
  refine ⟨by rw [show out ++ [x] ++ ra ++ rb = out ++ (x :: ra) ++ rb by simp]; exact h.perm, List.pairwise_append.2 ⟨h.sorted, List.pairwise_singleton _ _, fun p hp q hq => ?_⟩, fun p hp q hq => ?_, hs.2, h.srb⟩
  · obtain rfl : q = x := by simpa using hq
    exact h.le p hp _ (by simp)
  ·
   rcases List.mem_append.1 hp with hp | hp
   ·
    refine h.le p hp q ?_
    rcases List.mem_append.1 hq with hq | hq
    · simp [hq]
    · simp [hq]
   ·
    obtain rfl : p = x := by simpa using hp
    rcases List.mem_append.1 hq with hq | hq
    · exact hs.1 q hq
    ·
     cases rb with
     | nil => cases hq
     | cons y t =>
       have h1 := hc y t rfl
       rcases List.mem_cons.1 hq with rfl | hq
       · exact h1
       · exact qb h1 ((List.pairwise_cons.1 h.srb).1 q hq)
theorem Mg.swap (h : Mg a b out ra rb) : Mg b a out rb ra :=
  ⟨by
    rw [List.append_assoc]
    refine (List.Perm.append_left out List.perm_append_comm).trans ?_
    rw [← List.append_assoc]
    exact h.perm.trans List.perm_append_comm, h.sorted, fun p hp q hq => h.le p hp q (by simp only [List.mem_append] at hq ⊢; exact hq.symm), h.srb, h.sra⟩
theorem Mg.right (h : Mg a b out ra (x :: rb)) (hc : ∀ y t, ra = y :: t → kX x y ≤ 0) : Mg a b (out ++ [x]) ra rb := (h.swap.left hc).swap
theorem Mg.done (h : Mg a b out ra rb) (he : ra = [] ∨ rb = []) : zZ (out ++ ra ++ rb) ∧ (out ++ ra ++ rb).Perm (a ++ b) := by
  refine ⟨?_, h.perm⟩
  rw [List.append_assoc]
  refine List.pairwise_append.2 ⟨h.sorted, ?_, h.le⟩
  rcases he with rfl | rfl
  · exact h.srb
  · rw [List.append_nil]; exact h.sra
end
structure Dd (s out : List (List UInt8)) (k : Nat) : Prop where
  set : out.Pairwise fun a b => kX a b < 0
  mem : ∀ x, x ∈ out ↔ x ∈ s.take k
theorem Dd.start (s : List (List UInt8)) : Dd s [] 0 := ⟨List.Pairwise.nil, fun x => by simp⟩
section
variable {s out : List (List UInt8)} {k : Nat}
theorem Dd.add (h : Dd s out k) (hs : zZ s) (hk : k < s.length) (hn : ∀ ho : 0 < out.length, out[out.length - 1] ≠ s[k]) : Dd s (out ++ [s[k]]) (k + 1) := by
  refine ⟨List.pairwise_append.2 ⟨h.set, List.pairwise_singleton _ _, fun x hx y hy => ?_⟩, fun x => ?_⟩
  ·
   obtain rfl : y = s[k] := by simpa using hy
   obtain ⟨q, hq, rfl⟩ := List.getElem_of_mem hx
   have ho : 0 < out.length := by omega
   have hl : out[out.length - 1] ∈ s.take k := (h.mem _).1 (List.getElem_mem _)
   obtain ⟨p, hp, ep⟩ := List.getElem_of_mem hl
   rw [List.length_take] at hp
   rw [List.getElem_take] at ep
   have h1 : kX out[out.length - 1] s[k] ≤ 0 := by
     rw [← ep]
     exact (List.pairwise_iff_getElem.1 hs) p k (by omega) hk (by omega)
   have h2 : kX out[out.length - 1] s[k] ≠ 0 := fun e => hn ho (K6.1 e)
   rcases (by omega : q = out.length - 1 ∨ q < out.length - 1) with r | r
   · subst r; omega
   · exact Kf ((List.pairwise_iff_getElem.1 h.set) q (out.length - 1) hq (by omega) r) (by omega)
  · rw [List.take_succ_eq_append_getElem hk, List.mem_append, List.mem_append, h.mem]
theorem Dd.skip (h : Dd s out k) (hk : k < s.length) (ho : 0 < out.length) (he : out[out.length - 1] = s[k]) : Dd s out (k + 1) := by
  refine ⟨h.set, fun x => ?_⟩
  rw [List.take_succ_eq_append_getElem hk, List.mem_append, ← h.mem]
  constructor
  · exact .inl
  ·
   rintro (q | q)
   · exact q
   · obtain rfl : x = s[k] := by simpa using q
     rw [← he]; exact List.getElem_mem _
theorem Dd.done (h : Dd s out k) (hk : s.length ≤ k) : kI out = true ∧ ∀ x, x ∈ out ↔ x ∈ s := ⟨KV h.set, fun x => by rw [h.mem, List.take_of_length_le hk]⟩
end
theorem nodup_le {α : Type} [BEq α] [LawfulBEq α] : ∀ {a l : List α}, a.Nodup → (∀ x, x ∈ a → x ∈ l) → a.length ≤ l.length
  | [], l, _, _ => Nat.zero_le _
  | x :: t, l, hn, hm => by
    rw [List.nodup_cons] at hn
    have hx := hm x List.mem_cons_self
    have h := nodup_le (l := l.erase x) hn.2 fun y hy => (List.mem_erase_of_ne (fun e : y = x => hn.1 (by rw [← e]; exact hy))).2 (hm y (List.mem_cons_of_mem _ hy))
    rw [List.length_erase_of_mem hx] at h
    have := List.length_pos_of_mem hx
    simp only [List.length_cons]
    omega
theorem qv {out l : List (List UInt8)} (hs : kI out = true) (hm : ∀ x, x ∈ out → x ∈ l) : out.length ≤ l.length := by
  have hn : out.Nodup := (Kg hs).imp fun {a b} h e => by rw [e, Kp] at h; omega
  exact nodup_le hn hm
theorem set_unique : ∀ {a b : List (List UInt8)}, kI a = true → kI b = true → (∀ x, x ∈ a ↔ x ∈ b) → a = b := by
  intro a
  induction a with
  | nil => intro b ha hb h; cases b with
    | nil => rfl
    | cons y t => exact absurd ((h y).2 List.mem_cons_self) (by simp)
  | cons x s ih =>
    intro b ha hb h
    cases b with
    | nil => exact absurd ((h x).1 List.mem_cons_self) (by simp)
    | cons y t =>
      have pa := List.pairwise_cons.1 (Kg ha)
      have pb := List.pairwise_cons.1 (Kg hb)
      have exy : x = y := by
        rcases List.mem_cons.1 ((h x).1 List.mem_cons_self) with q | q
        · exact q
        ·
         rcases List.mem_cons.1 ((h y).2 List.mem_cons_self) with r | r
         · exact r.symm
         ·
          have h1 := pb.1 x q
          have h2 := pa.1 y r
          have := Kf h1 h2
          rw [Kp] at this; omega
      subst exy
      rw [ih (KV pa.2) (KV pb.2) fun z => ⟨fun hz => ?_, fun hz => ?_⟩]
      ·
       rcases List.mem_cons.1 ((h z).1 (List.mem_cons_of_mem _ hz)) with q | q
       · subst q
         have := pa.1 _ hz
         rw [Kp] at this; omega
       · exact q
      ·
       rcases List.mem_cons.1 ((h z).2 (List.mem_cons_of_mem _ hz)) with q | q
       · subst q
         have := pb.1 _ hz
         rw [Kp] at this; omega
       · exact q
end Go.Proofs.YthjaepmfkgejkaaGreatDoor
namespace Go.Proofs.YthjaepmfkgejkaaGreatDoor
open Go.RowKit
section
variable {P : Program} {ρ : Operand → Value} {o : Oper} {w : World}
theorem ex_slice_h (t : TypeId) (x hi : Operand) (ho : o.op = .slice t x none (some hi) none) {A : Option Addr} {n c h : Nat} {kh : IntKind} (hx : ρ x = .slice A n c) (hh : ρ hi = .int kh (h : Int))
    (ht : P.underlying t = some (.slice (P.elem t))) {size : Nat} (hs : (P.info? (P.elem t)).map (·.size) = some size) (h2 : h ≤ c) {V : Value} (hV : sliced A 0 h c size = V) :
    (execOp ρ o).run P w = .ok (.value V) w := by
  subst hV
  have hr := run_slice_h w t A n c ht kh (h : Int) (by omega) (by omega)
  rw [JS hs] at hr
  simp only [Result.andThen, Int.toNat_natCast] at hr
  have ha := run_sliceAt_slice w t (.slice A n c) none (some (.int kh (h : Int))) none ht
  rw [hr] at ha
  unfold execOp
  simp only [ho, hx, hh, Option.map_some, Option.map_none, Sem.run_bind, ha, Result.andThen_ok, Sem.run_pure]
end
section
variable {w : World} {B n c sz : Nat} {A : Option Addr} {xs : List Value}
theorem Sl.slice_h (h : Sl w B A n sz xs) {m : Nat} (hm : m ≤ n) : ∃ A', sliced A 0 m c sz = .slice A' m c ∧ Sl w B A' m sz (xs.take (m * sz)) := by
  refine ⟨_, by unfold sliced; rw [Nat.sub_zero, Nat.sub_zero], ?_, fun hp => ?_⟩
  · rw [List.length_take, h.1]
    exact Nat.min_eq_left (Nat.mul_le_mul_right _ hm)
  ·
   obtain ⟨b, off, rfl, hb, hc⟩ := h.2 (by omega)
   refine ⟨b, off, ?_, hb, fun j u hj => ?_⟩
   · split
     · rfl
     · simp [Addr.add]
   ·
    rw [List.getElem?_take] at hj
    split at hj
    · exact hc j u hj
    · cases hj
theorem Sl.slice_l (h : Sl w B A n sz xs) {l : Nat} (hl : l ≤ n) (hc : n ≤ c) : ∃ A', sliced A l n c sz = .slice A' (n - l) (c - l) ∧ Sl w B A' (n - l) sz (xs.drop (l * sz)) := by
  refine ⟨_, rfl, ?_, fun hp => ?_⟩
  · rw [List.length_drop, h.1, Nat.sub_mul]
  ·
   obtain ⟨b, off, rfl, hb, hcl⟩ := h.2 (by omega)
   refine ⟨b, off + l * sz, ?_, hb, fun j u hj => ?_⟩
   · rw [if_neg (by omega)]
     simp [Addr.add]
   · rw [List.getElem?_drop] at hj
     rw [Nat.add_assoc]
     exact hcl _ u hj
end
theorem Q6 : ∀ {l : List (List UInt8)}, IdsOk l → ∀ k, (kr l).take (k * 32) = kr (l.take k)
  | [], _, k => by simp [kr]
  | a :: l, h, 0 => by simp [kr]
  | a :: l, h, k + 1 => by
    have h1 : (idV a).length = 32 := by rw [k8]; exact h a (by simp)
    have h2 := Q6 h.tail k
    simp only [kr, List.flatMap_cons, List.take_succ_cons] at h2 ⊢
    rw [show (k + 1) * 32 = (idV a).length + k * 32 by rw [h1]; omega, List.take_length_add_append, h2]
theorem Q7 : ∀ {l : List (List UInt8)}, IdsOk l → ∀ k, (kr l).drop (k * 32) = kr (l.drop k)
  | [], _, k => by simp [kr]
  | a :: l, h, 0 => by simp [kr]
  | a :: l, h, k + 1 => by
    have h1 : (idV a).length = 32 := by rw [k8]; exact h a (by simp)
    have h2 := Q7 h.tail k
    simp only [kr, List.flatMap_cons, List.drop_succ_cons] at h2 ⊢
    rw [show (k + 1) * 32 = (idV a).length + k * 32 by rw [h1]; omega, List.drop_length_add_append, h2]
theorem ids_slice_h {w : World} {B c : Nat} {A : Option Addr} {l : List (List UInt8)} (ho : IdsOk l) (h : Sl w B A l.length 32 (kr l)) {m : Nat} (hm : m ≤ l.length) : ∃ A', sliced A 0 m c 32 = .slice A' m c ∧ Sl w B A' m 32 (kr (l.take m)) := by
  obtain ⟨A', h1, h2⟩ := Sl.slice_h (c := c) h hm
  exact ⟨A', h1, by rw [← Q6 ho]; exact h2⟩
theorem ids_slice_l {w : World} {B c : Nat} {A : Option Addr} {l : List (List UInt8)} (ho : IdsOk l) (h : Sl w B A l.length 32 (kr l)) {m : Nat} (hm : m ≤ l.length) (hc : l.length ≤ c) : ∃ A', sliced A m l.length c 32 = .slice A' (l.length - m) (c - m) ∧ Sl w B A' (l.length - m) 32 (kr (l.drop m)) := by
  obtain ⟨A', h1, h2⟩ := Sl.slice_l (c := c) h hm hc
  exact ⟨A', h1, by rw [← Q7 ho]; exact h2⟩
end Go.Proofs.YthjaepmfkgejkaaGreatDoor
