/-
  The document's list and ref give a list's bytes, a ref's. Conditions: as each says.
  The document's Bytes of a commit. Conditions: the commit may be.
-/
import Derived.Test.YthjaepmfkgejkaaGreatDoorMerged1
import Derived.Test.YthjaepmfkgejkaaGreatDoorMerged4
import Derived.Test.YthjaepmfkgejkaaGreatDoorMerged22
import Derived.Test.YthjaepmfkgejkaaGreatDoorMerged5
import Derived.Test.YthjaepmfkgejkaaGreatDoorMerged17
import Derived.Test.YthjaepmfkgejkaaGreatDoorMerged3
import Derived.Test.YthjaepmfkgejkaaGreatDoorMerged7
import Derived.Test.YthjaepmfkgejkaaGreatDoorObjReader3
import Derived.Test.YthjaepmfkgejkaaGreatDoorOrdMerge
import Derived.Test.YthjaepmfkgejkaaGreatDoorMerged18
import Derived.Test.YthjaepmfkgejkaaGreatDoorMerged21
import Derived.Test.YthjaepmfkgejkaaGreatDoorMerged8
import Derived.Test.YthjaepmfkgejkaaGreatDoorMerged11
import Derived.Test.YthjaepmfkgejkaaGreatDoorMerged12
set_option linter.unusedVariables false
set_option linter.unusedSimpArgs false
set_option maxHeartbeats 4000000
set_option maxRecDepth 100000
namespace Go.Proofs.YthjaepmfkgejkaaGreatDoor
open Lib (hid)
open Go.RowKit Go.Maps
theorem idsE_take {l : List (List UInt8)} {i : Nat} (h : i < l.length) : (l.take (i + 1)).flatten = (l.take i).flatten ++ l[i] := by
  rw [List.take_succ_eq_append_getElem h, List.flatten_append]
  simp
theorem Qa {l : List (List UInt8)} (h : IdsOk l) : l.flatten.length = l.length * 32 := by
  induction l with
  | nil => rfl
  | cons a t ih =>
    have h1 : a.length = 32 := h a (by simp)
    have h2 := ih h.tail
    simp only [List.flatten_cons, List.length_append, List.length_cons, h1, h2]
    omega
theorem vo (l : List (List UInt8)) (A : Option Addr) (c : Nat) (w : World) (hn : l.length ≤ 1099511627776) (ho : IdsOk l) (hs : Sl w w.heap.size A l.length 32 (kr l)) :
    Calls Tryz.prog 62 #[.slice A l.length c] w (JX (jR l) w) := by
  have HO := hid ho; have HS := hid hs
  have HNL := hid (kU (n := l.length) (by omega))
  have HE := hid (show jR l = kS l.length ++ l.flatten by unfold jR; rw [jx])
  clear ho hs
  go_enter Tryz.func62, Tryz.ntmps62
  go_upto_region 2 with (first
    | (go_at_call 64; refine (zt l.length (by omega) w).mono ?_; rintro e w1 ⟨hb1, A1, c1, rfl, ho1⟩
       have HB1 := hid hb1; have HO1 := hid ho1
       clear hb1 ho1))
  go_wp2_with fail
  go_loopw [3, 4] (fun t3 t4 wr => ∃ (i : Nat) (Ao : Option Addr) (co no : Nat), i ≤ l.length ∧ t4 = .int .i64 (i : Int) ∧ t3 = .slice Ao no co ∧ Hid ((kS l.length ++ (l.take i).flatten).length = no) ∧ Hid (Below w.heap.size w wr) ∧ Hid (wr.ownsRow w.heap.size 5 1 (.slice Ao no co) no (idV (kS l.length ++ (l.take i).flatten)))) (fun _ t4 _ => l.length - (intOf t4).toNat)
  case atStart => exact ⟨0, A1, c1, _, Nat.zero_le _, rfl, rfl, hid (by simp), HB1, hid (by rw [List.take_zero, List.flatten_nil, List.append_nil]; exact HO1.out)⟩
  case round =>
    obtain ⟨i, Ao, co, no, hi, rfl, rfl, HNO, HBR, HOW⟩ := hrel
    by_cases hlt : i < l.length
    ·
     have i0 : (0 : Int) ≤ (i : Int) := by omega
     have i1 : (i : Int) < (l.length : Int) := by omega
     obtain ⟨b, off, rfl, hbl, hcl⟩ := (HS.out.keep HBR.out).2 (by omega)
     have hrow := Sl.id (B := 0) HO.out hcl (i := i) hlt
     obtain ⟨x, hx⟩ : ∃ x, l[i] = x := ⟨_, rfl⟩
     have HX := hid (show x.length = 32 by rw [← hx]; exact HO.out _ (List.getElem_mem hlt))
     rw [hx] at hrow
     have HTK := hid (show (l.take (i + 1)).flatten = (l.take i).flatten ++ x by rw [idsE_take hlt, hx])
     have hnb : no ≤ 10 + i * 32 := by
       rw [← HNO.out, List.length_append, Qa (HO.out.sub fun y hy => List.mem_of_mem_take hy), List.length_take]
       have := HNL.out
       have : min i l.length ≤ i := Nat.min_le_left _ _
       omega
     have HNW := hid (show ∀ j u, (idV x)[j]? = some u → wr.cell? ((⟨b, off + i * 32, none⟩ : Addr).add j) = some u from fun j u hj => by
       have e1 : (⟨b, off + i * 32, none⟩ : Addr).add j = ⟨b, off + i * 32 + j, none⟩ := by unfold Addr.add; split <;> simp_all
       rw [e1]
       exact hrow j u hj)
     clear hx hrow hcl
     go_wp2_with (first
       | (at_builtin; refine Jd (by rfl) _ _ 22 rfl w.heap.size 5 (.int .u8 0) 1 1 Tryz.underlying22 kH rfl (by decide) (.slice Ao no co) no (idV (kS l.length ++ (l.take i).flatten)) rfl HOW.out ⟨b, off + i * 32, none⟩ 32 32 (idV x) rfl (by rw [k8, HX.out]) HNW.out (ky _) (by unfold maxLen; omega) (by omega) HBR.out.size ?_
          intro v9 w9 ho9 hg9 hw9
          obtain ⟨A9, c9, rfl⟩ := kg ho9
          have HO9 := hid ho9
          have HB9 := hid (HBR.out.grown hg9 HBR.out.size (fun k e => (HOW.out.lt k e).1))
          clear ho9 hg9 hw9))
     go_roundw
     case rel => exact ⟨i + 1, A9, c9, no + 32, by omega, by go_num, rfl, hid (by rw [HTK.out, ← List.append_assoc, List.length_append, HNO.out, HX.out]), HB9, hid (by rw [HTK.out, ← List.append_assoc, ZC]; exact HO9.out)⟩
     case measure => (simp [intOf]) <;> omega
    ·
     have i1 : ¬ (i : Int) < (l.length : Int) := by omega
     have HFE := hid (show kS l.length ++ (l.take i).flatten = jR l by rw [HE.out, List.take_of_length_le (by omega)])
     go_wp2_with fail
     go_ret
     exact ⟨HBR.out, Ao, co, by rw [← HFE.out, HNO.out]; rfl, by rw [← HFE.out, HNO.out]; exact HOW.out⟩
theorem Ji (deps : List (List UInt8)) (rc : List UInt8) (ri : Nat) (A : Option Addr) (c : Nat) (w : World) (hn : deps.length ≤ 1099511627776) (ho : IdsOk deps) (hset : kI deps = true) (hz : zero32 ∉ deps) (hr : jN (rc, ((ri : Nat) : Int))) (hin : rc = zero32 ∨ rc ∈ deps) (hri : ri < 9223372036854775808) (hs : Sl w w.heap.size A deps.length 32 (kr deps)) :
    Calls Tryz.prog 65 #[.slice A deps.length c, .agg (ke (rc, ((ri : Nat) : Int))).toArray] w (JX (jz deps (rc, ((ri : Nat) : Int))) w) := by
  have HO := hid ho; have HS := hid hs; have HR := hid hr
  have HZR := hid hz; have HSET := hid hset; have HIN := hid hin
  clear ho hs hr hz hset hin
  have hE1 := enE Tryz.func64 rfl
  go_enter Tryz.func65, Tryz.ntmps65
  go_upto_region 1 with (first
    | (with_reducible refine kz ?_
       refine ko (by rfl) 68 _ rfl (ke (rc, ((ri : Nat) : Int))) _ rfl rfl (by rw [kf HR.out]; exact kW) ?_
       intro W0 hb0 hz0 hs0
       have HB0 := hid hb0; have HZ0 := hid hz0
       clear hb0 hz0 hs0))
  obtain ⟨z3, hz3⟩ : ∃ z, w.heap.size = z := ⟨_, rfl⟩
  have HZL := hid (show z3 < W0.heap.size by rw [← hz3]; exact (qX HZ0.out))
  rw [hz3] at HZ0 ⊢
  try go_frame
  clear hz3
  have HC32 := hid (fun (u : World) (hu : Below W0.heap.size W0 u) => (show u.cell? ⟨z3, 32, none⟩ = some (.int .i64 ((ri : Nat) : Int)) from (hu.cell (p := ⟨z3, 32, none⟩) HZL.out).trans ((k5 HZ0.out 32).trans (kA HR.out).2)))
  go_wp2_with fail
  go_loopw [5, 6] (fun t5 t6 wr => ∃ (i n : Nat), i ≤ deps.length ∧ t6 = .int .i64 (i : Int) ∧ t5 = .int .i64 (n : Int) ∧ n ≤ i ∧ Hid (Below W0.heap.size W0 wr) ∧ Hid ((n = 0 ∧ rc ∉ deps.take i) ∨ (0 < n ∧ deps[n - 1]? = some rc))) (fun _ t6 _ => deps.length - (intOf t6).toNat)
  case atStart => exact ⟨0, 0, Nat.zero_le _, rfl, rfl, qR _, hid (qB _ _), hid (.inl ⟨rfl, by simp⟩)⟩
  case round =>
    obtain ⟨i, n, hi, rfl, rfl, hni, HBR, HN⟩ := hrel
    by_cases hlt : i < deps.length
    ·
     have i0 : (0 : Int) ≤ (i : Int) := by omega
     have i1 : (i : Int) < (deps.length : Int) := by omega
     have hbw := HB0.out.trans (HBR.out.mono HB0.out.size)
     obtain ⟨b, off, rfl, hbl, hcl⟩ := (HS.out.keep hbw).2 (by omega)
     have R1 := hid (Wd.row (base := wr.heap.size) (Sl.id (B := 0) HO.out hcl (i := i) hlt) (qL hbl hbw.size))
     have R2 := hid (Wd.row (base := wr.heap.size) (o := 0) (cs := idV rc) (b := z3) (fun j u hj => by rw [qZ]; exact ((HBR.out.cell (p := ⟨z3, j, none⟩) HZL.out).trans (k5 HZ0.out j)).trans ((kA HR.out).1 j u hj)) (qL HZL.out HBR.out.size))
     have HY := hid (show Ke deps[i] from HO.out _ (List.getElem_mem hlt))
     obtain ⟨y, hy⟩ : ∃ y, deps[i] = y := ⟨_, rfl⟩
     rw [hy] at R1 HY
     have HTK := hid (show deps.take (i + 1) = deps.take i ++ [y] by rw [List.take_succ_eq_append_getElem hlt, hy])
     have HGE := hid (show deps[i]? = some y by rw [List.getElem?_eq_getElem hlt, hy])
     clear hcl hbl hbw hy
     by_cases he : y = rc
     ·
      have HN2 := hid (show (i + 1 = 0 ∧ rc ∉ deps.take (i + 1)) ∨ (0 < i + 1 ∧ deps[i + 1 - 1]? = some rc) from .inr ⟨by omega, by rw [Nat.add_sub_cancel, HGE.out, he]⟩)
      have HEQ : Hid (∀ u : World, (Op.equalIn 10000 47 (.agg (idV y).toArray) (.agg (idV rc).toArray)).run Tryz.prog u = .ok true u) := hid (fun u => (jX HY.out HR.out.1 u).trans (by rw [dT he]))
      clear he
      go_wp2_with fail
      refine jl (base := wr.heap.size) wr (qB _ _) (by kernel_rfl) (by kernel_rfl) ?_
      repeat (first
        | go_big_quiet_skip
        | (go_big_quiet_want
           first
             | (refine kG (fun w' hw' => k9 47 _ rfl (p := ⟨b, off + i * 32, none⟩) rfl (qV w' _ _ _ (idV y) _ (R1.out w' hw') Tryz.underlying47 rfl (by rw [k8, show y.length = 32 from HY.out]; exact kt))) ?_
                go_big_quiet_on
                go_frame; try simp only [nTF])
             | (refine kG (fun w' hw' => k9 47 _ rfl (p := ⟨z3, 0, none⟩) rfl (qV w' _ _ _ (idV rc) _ (R2.out w' hw') Tryz.underlying47 rfl (by rw [k8, show rc.length = 32 from HR.out.1]; exact kt))) ?_
                go_big_quiet_on
                go_frame; try simp only [nTF])
             | (refine kG (fun w' hw' => K8 47 _ _ _ rfl (xs := (idV y).toArray) (ys := (idV rc).toArray) rfl rfl (r := true) eqId.noGuard (HEQ.out w')) ?_
                go_big_quiet_on
                go_frame; try simp only [nTF])
             | (go_big_quiet_op
                go_big_quiet_on)))
      refine wpQuiet_nil ?_
      rintro w' ⟨kk, rfl⟩
      have hk9 := kk.2
      generalize kk.val = w9 at *
      clear kk
      have HBN := hid (HBR.out.trans (hk9.mono HBR.out.size))
      clear hk9
      go_wp2_with fail
      go_roundw
      case rel => exact ⟨i + 1, i + 1, by omega, by go_num, by go_num, qR _, HBN, HN2⟩
      case measure => (simp [intOf]) <;> omega
     ·
      have HN2 := hid (show (n = 0 ∧ rc ∉ deps.take (i + 1)) ∨ (0 < n ∧ deps[n - 1]? = some rc) from by
        rcases HN.out with ⟨q1, q2⟩ | q
        · exact .inl ⟨q1, by rw [HTK.out]; simp only [List.mem_append, List.mem_singleton, not_or]; exact ⟨q2, fun h => he h.symm⟩⟩
        · exact .inr q)
      have HEQ : Hid (∀ u : World, (Op.equalIn 10000 47 (.agg (idV y).toArray) (.agg (idV rc).toArray)).run Tryz.prog u = .ok false u) := hid (fun u => (jX HY.out HR.out.1 u).trans (by rw [dF he]))
      clear he
      go_wp2_with fail
      refine jl (base := wr.heap.size) wr (qB _ _) (by kernel_rfl) (by kernel_rfl) ?_
      repeat (first
        | go_big_quiet_skip
        | (go_big_quiet_want
           first
             | (refine kG (fun w' hw' => k9 47 _ rfl (p := ⟨b, off + i * 32, none⟩) rfl (qV w' _ _ _ (idV y) _ (R1.out w' hw') Tryz.underlying47 rfl (by rw [k8, show y.length = 32 from HY.out]; exact kt))) ?_
                go_big_quiet_on
                go_frame; try simp only [nTF])
             | (refine kG (fun w' hw' => k9 47 _ rfl (p := ⟨z3, 0, none⟩) rfl (qV w' _ _ _ (idV rc) _ (R2.out w' hw') Tryz.underlying47 rfl (by rw [k8, show rc.length = 32 from HR.out.1]; exact kt))) ?_
                go_big_quiet_on
                go_frame; try simp only [nTF])
             | (refine kG (fun w' hw' => K8 47 _ _ _ rfl (xs := (idV y).toArray) (ys := (idV rc).toArray) rfl rfl (r := false) eqId.noGuard (HEQ.out w')) ?_
                go_big_quiet_on
                go_frame; try simp only [nTF])
             | (go_big_quiet_op
                go_big_quiet_on)))
      refine wpQuiet_nil ?_
      rintro w' ⟨kk, rfl⟩
      have hk9 := kk.2
      generalize kk.val = w9 at *
      clear kk
      have HBN := hid (HBR.out.trans (hk9.mono HBR.out.size))
      clear hk9
      go_wp2_with fail
      go_roundw
      case rel => exact ⟨i + 1, n, by omega, by go_num, rfl, by omega, HBN, HN2⟩
      case measure => (simp [intOf]) <;> omega
    ·
     have i1 : ¬ (i : Int) < (deps.length : Int) := by omega
     have HRE := hid (show jz deps (rc, ((ri : Nat) : Int)) = kS n ++ kS ri from by
       unfold jz
       simp only
       rcases HN.out with ⟨q1, q2⟩ | ⟨q1, q2⟩
       ·
        rw [List.take_of_length_le (by omega)] at q2
        have hz := HIN.out.resolve_right q2
        rw [if_neg (by simp [hz]), q1]
        exact (congrArg (· ++ vR (ri : Int)) (jx 0)).trans (by rw [jx])
       ·
        obtain ⟨g1, g2⟩ := List.getElem?_eq_some_iff.1 q2
        have hne : rc ≠ zero32 := fun e => HZR.out (by rw [← e, ← g2]; exact List.getElem_mem g1)
        have hix := idxOf_at HSET.out (n - 1) g1
        rw [g2] at hix
        rw [if_pos hne, hix, show (((n - 1 : Nat) : Int) + 1) = ((n : Nat) : Int) by omega, jx, jx])
     have hnb : n < 9223372036854775808 := by omega
     have hl1 := kU (n := n) (by omega)
     have hl2 := kU (n := ri) (by omega)
     go_upto_region 7 with fail
     obtain ⟨w1, hw1⟩ : ∃ u, wr.drew = u := ⟨_, rfl⟩
     have HB1W := hid (show Below W0.heap.size W0 w1 by rw [← hw1]; exact HBR.out.drew)
     have HF7 := hid (HC32.out w1 HB1W.out)
     refine rN 4 (fun u => u.cell? ⟨z3, 32, none⟩ = some (.int .i64 ((ri : Nat) : Int))) (by rw [hw1]; exact HF7.out) fun hF0 => ?_
     rw [hw1] at hF0 ⊢
     refine tw 0 (.int .i64 (n : Int)) ?_
     go_frame
     refine tw 2 (.pointer (some ⟨z3, 32, none⟩)) ?_
     go_frame
     refine tl 3 (.int .i64 ((ri : Nat) : Int)) rfl hF0 (fun w' hw' => l1 Tryz.underlying3 hw') ?_
     go_frame
     refine ta 1 ?_
     refine tc #[.int .i64 (n : Int)] hE1 rfl ?_
     refine (zt n hnb w1).mono ?_
     rintro e w2 ⟨hb2, A2, c2, rfl, ho2⟩
     have HB2 := hid hb2; have HO2 := hid ho2
     have hF2 := HC32.out w2 (HB1W.out.trans (hb2.mono HB1W.out.size))
     clear hb2 ho2
     refine ⟨_, rfl, fun _ _ => hF2, ?_⟩
     go_frame
     refine ta 4 ?_
     refine tc #[.int .i64 ((ri : Nat) : Int)] hE1 rfl ?_
     refine (zt ri hri w2).mono ?_
     rintro e w3 ⟨hb3, A3, c3, rfl, ho3⟩
     have HB3 := hid hb3; have HO3 := hid ho3
     clear hb3 ho3
     refine ⟨_, rfl, fun h => absurd h (by decide), ?_⟩
     go_frame
     refine ta 5 ?_
     refine Jz _ rfl (by kernel_rfl) ?_
     obtain ⟨im, hmi, hm0, hm1, hm2⟩ := info_parts kH
     refine ub _ _ 22 rfl w1.heap.size 5 im (.int .u8 0) 1 1 Tryz.underlying22 hmi hm0 hm1 hm2 rfl (by decide) (.slice A2 (kS n).length c2) (kS n).length (idV (kS n)) rfl ((But.of_below (X := NoB) HB3.out).own HO2.out fun _ _ q => q) A3 (kS ri).length c3 w3.heap.size (idV (kS ri)) rfl (Sl.of_own HO3.out) (ky _) (by unfold maxLen; omega) (by omega) (qT HB2.out.size HB3.out.size) ?_
     intro v9 w9 ho9 hg9
     obtain ⟨A9, c9, rfl⟩ := kg ho9
     have HO9 := hid ho9
     have HB9 := hid (show Below w1.heap.size w1 w9 from (HB2.out.trans (HB3.out.mono HB2.out.size)).grown hg9 (qT HB2.out.size HB3.out.size) (fun k e => (HO2.out.lt k e).1))
     clear ho9 hg9
     refine ⟨fun h => absurd h (by decide), ?_⟩
     go_frame
     refine tw 6 (.slice A9 ((kS n).length + (kS ri).length) c9) ?_
     go_frame
     refine kv (by kernel_rfl) ?_ _
     go_wp2_with fail
     go_ret
     have e1 : (jz deps (rc, ((ri : Nat) : Int))).length = (kS n).length + (kS ri).length := by rw [HRE.out, List.length_append]
     have hww : w.heap.size ≤ w1.heap.size := qT HB0.out.size HB1W.out.size
     exact ⟨(HB0.out.trans (HB1W.out.mono HB0.out.size)).trans (HB9.out.mono hww), A9, c9, by rw [e1]; rfl, by rw [e1, HRE.out, ZC]; exact Zu HO9.out hww⟩
end Go.Proofs.YthjaepmfkgejkaaGreatDoor
namespace Go.Proofs.YthjaepmfkgejkaaGreatDoor
open Lib (hid)
open Go.RowKit Go.Maps
structure BySt (w : World) (L : List (Nat × List Value × TypeId)) (ys : List UInt8) (A : Option Addr) (n c : Nat) (wx : World) : Prop where
  bel : Below w.heap.size w wx
  own : wx.ownsRow w.heap.size 5 1 (.slice A n c) n (idV ys)
  len : ys.length = n
  boxes : ∀ t ∈ L, wx.heap[t.1]? = some (.cells t.2.1.toArray t.2.2 (0, 0)) ∧ t.2.2 ≠ 5
section
variable {w wx wy : World} {L : List (Nat × List Value × TypeId)} {ys X : List UInt8} {A A9 : Option Addr} {n c m c9 : Nat}
theorem BySt.call (h : BySt w L ys A n c wx) (hb : Below wx.heap.size wx wy) : BySt w L ys A n c wy :=
  ⟨h.bel.trans (hb.mono h.bel.size), (But.of_below (X := NoB) hb).own h.own (fun _ _ q => q), h.len, fun t ht => ⟨(hb.block t.1 (qX (h.boxes t ht).1)).trans (h.boxes t ht).1, (h.boxes t ht).2⟩⟩
theorem BySt.app' (h : BySt w L ys A n c wx) (ho : wy.ownsRow w.heap.size 5 1 (.slice A9 (n + m) c9) (n + m) (idV ys ++ idV X)) (hX : X.length = m) (hB : Below w.heap.size w wy) (hg : ∀ k, k < wx.heap.size → (Value.slice A n c).ownBlock ≠ some k → wy.heap[k]? = wx.heap[k]?) : BySt w L (ys ++ X) A9 (n + m) c9 wy :=
  ⟨hB, by rw [ZC]; exact ho, by rw [List.length_append, h.len, hX], fun t ht => by
    obtain ⟨h1, h2⟩ := h.boxes t ht
    exact ⟨(hg t.1 (qX h1) (jt h.own h1 (fun e => h2 e.symm))).trans h1, h2⟩⟩
theorem BySt.app (h : BySt w L ys A n c wx) (ho : wy.ownsRow w.heap.size 5 1 (.slice A9 (n + m) c9) (n + m) (idV ys ++ idV X)) (hX : X.length = m) (hg : wx.grownBy wy (Value.slice A n c).ownBlock) : BySt w L (ys ++ X) A9 (n + m) c9 wy :=
  h.app' ho hX (h.bel.grown hg h.bel.size fun k e => (h.own.lt k e).1) fun k hk hne => hg.block k hk (fun e => hne e.symm)
theorem BySt.cellAt (h : BySt w L ys A n c wx) {z : Nat} {cs : List Value} {T : TypeId} (ht : (z, cs, T) ∈ L) (j : Nat) : wx.cell? ⟨z, j, none⟩ = cs[j]? := k5 (h.boxes _ ht).1 j
theorem BySt.add (h : BySt w L ys A n c wx) {z : Nat} {cs : List Value} {T : TypeId} (hz : wx.heap[z]? = some (.cells cs.toArray T (0, 0))) (hT : T ≠ 5) : BySt w ((z, cs, T) :: L) ys A n c wx :=
  ⟨h.bel, h.own, h.len, fun t ht => by
    rcases List.mem_cons.1 ht with rfl | ht
    · exact ⟨hz, hT⟩
    · exact h.boxes t ht⟩
end
theorem uW {l : List (List UInt8)} (ho : IdsOk l) (h : l.length ≤ 1099511627776) : (jR l).length ≤ 10 + l.length * 32 := by
  unfold jR
  rw [jx, List.length_append, Qa ho]
  have := kU (n := l.length) (by omega)
  omega
theorem Jj {s : ByteArray} (h : s.size ≤ 1099511627776) : (kJ (L s)).length ≤ 10 + s.size := by
  unfold kJ
  rw [List.length_append, jW]
  have := kU (n := s.size) (by omega)
  omega
theorem qd (w0 w : World) (v : Value) (hb : w0.heap.size ≤ w.heap.size) : (w.alloc (.cells [v].toArray 5)).ownsRow w0.heap.size 5 1 (.slice (some ⟨w.heap.size, 0, none⟩) 1 1) 1 [v] :=
  ⟨rfl, .inr ⟨w.heap.size, 1, #[v], rfl, hb, heap_alloc_new _ _, qR _, by decide, by simp, by simp⟩⟩
theorem JL {deps : List (List UInt8)} {rc : List UInt8} {ri : Nat} (hd : deps.length ≤ 1099511627776) (hr : ri < 9223372036854775808) : (jz deps (rc, ((ri : Nat) : Int))).length ≤ 20 := by
  have h2 := kU (n := ri) (by omega)
  have h3 : deps.idxOf rc ≤ deps.length := List.idxOf_le_length
  unfold jz
  simp only
  split
  · rw [show ((deps.idxOf rc : Int) + 1) = ((deps.idxOf rc + 1 : Nat) : Int) by omega, jx, jx, List.length_append]
    have h1 := kU (n := deps.idxOf rc + 1) (by omega)
    omega
  · rw [show vR 0 = kS 0 from jx 0, jx, List.length_append]
    have h1 := kU (n := 0) (by omega)
    omega
theorem qe (k : UInt8) (n : Int) (ds : List (List UInt8)) (au : ByteArray) (os : List OpD) (ps cs : List (List UInt8)) (a2 ms : ByteArray) (st : Int) (v : Value) (w : World) (h : ObjIn w w.heap.size v (k, (n, ds, au, os), (ps, cs, a2, ms, st))) (hk : k = 2) (hr : kO (ps, cs, a2, ms, st) = true) :
    Calls Tryz.prog 29 #[v] w (JX (KH (ps, cs, a2, ms, st)) w) := by
  obtain ⟨ok, hop, ha, hh2, hm, Ad, cd, Ao, co, Ap, cp, Ac, cc, rfl, sd, so, sp, sc⟩ := h
  dsimp only at *
  have HSP := hid sp; have HSC := hid sc; have HIP := hid ok.2.1; have HIC := hid ok.2.2.1
  simp only [kO, KA, Bool.and_eq_true, decide_eq_true_eq] at hr
  obtain ⟨⟨⟨⟨⟨⟨⟨g1, _⟩, _⟩, ⟨⟨g2, _⟩, _⟩⟩, g3⟩, g4⟩, g5⟩, g6⟩ := hr
  have hau := JC g3
  have hno := UG g4
  obtain ⟨sn, rfl⟩ : ∃ sn : Nat, st = (sn : Int) := ⟨st.toNat, by omega⟩
  have hlp : ps.length ≤ 1099511627776 := by omega
  have hlc : cs.length ≤ 1099511627776 := by omega
  have ha2 : a2.size ≤ 1099511627776 := by omega
  have hms : ms.size ≤ 1099511627776 := by omega
  have hst : sn < 9223372036854775808 := by omega
  have b1 := uW ok.2.1 hlp
  have b2 := uW ok.2.2.1 hlc
  have b3 := Jj ha2
  have b4 := Jj hms
  have b5 := kU (n := sn) (by omega)
  have HE := hid (show KH (ps, cs, a2, ms, (sn : Int)) = [75] ++ jR ps ++ jR cs ++ kJ (L a2) ++ kJ (L ms) ++ kS sn by unfold KH; simp only [jx]; simp)
  have ek : ((k.toNat : Int) == 2) = true := by rw [hk]; rfl
  clear ok hop ha hh2 hm sd so sp sc g3 g4 hk
  go_enter Tryz.func29, Tryz.ntmps29
  go_upto_region 1 with (first
    | (with_reducible refine kz ?_
       refine ko (by rfl) 30 _ rfl [.int .u8 (k.toNat : Int), .int .i64 n, .slice Ad ds.length cd, .string au, .slice Ao os.length co, .slice Ap ps.length cp, .slice Ac cs.length cc, .string a2, .string ms, .int .i64 (sn : Int)] _ rfl rfl (by kernel_rfl) ?_
       intro W0 hb0 hz0 hs0
       have HB0 := hid hb0; have HZ0 := hid hz0
       clear hb0 hz0 hs0))
  obtain ⟨z, hz⟩ : ∃ z, w.heap.size = z := ⟨_, rfl⟩
  rw [hz] at HZ0 ⊢
  have c0 : W0.cell? ⟨z, 0, none⟩ = some (.int .u8 (k.toNat : Int)) := k5 HZ0.out 0
  try go_frame
  go_upto_region 3 with (first
    | (with_reducible refine k7 ?_
       refine k6 (by rfl) (k9 28 _ rfl (p := ⟨z, 5, none⟩) rfl (qV _ _ _ _ [.slice Ap ps.length cp, .slice Ac cs.length cc, .string a2, .string ms, .int .i64 (sn : Int)] _ (fun j u hj => (k5 HZ0.out (5 + j)).trans (uU hj)) Tryz.underlying28 rfl (by kernel_rfl))) ?_)
    | (with_reducible refine kw ?_
       refine ku (by rfl) 28 rfl [.slice none 0 0, .slice none 0 0, .string kc, .string kc, .int .i64 0] (qa _) ?_
       intro Wa hba hya hsa
       have HBa := hid hba; have HYa := hid hya
       clear hba hya hsa)
    | (with_reducible refine ks ?_
       refine km (by rfl) 28 _ _ rfl W0.heap.size 0 [] [.slice none 0 0, .slice none 0 0, .string kc, .string kc, .int .i64 0] [] [.slice Ap ps.length cp, .slice Ac cs.length cc, .string a2, .string ms, .int .i64 (sn : Int)] 28 _ rfl rfl rfl rfl (by simpa using HYa.out) rfl (by kernel_rfl) (by intro u hu; simp only [List.mem_cons, List.not_mem_nil, or_false] at hu; rcases hu with rfl | rfl | rfl | rfl | rfl <;> rfl) ?_
       intro W2 hbb hyb hsb
       have HB1 := hid (HBa.out.trans (hbb.below HBa.out.size (fun k hk e => by have e' : k = W0.heap.size := e; omega)))
       have HZ2 : Hid (W2.heap[W0.heap.size]? = some (.cells ([.slice Ap ps.length cp, .slice Ac cs.length cc, .string a2, .string ms, .int .i64 (sn : Int)] : List Value).toArray 28 (0, 0))) := hid (by simpa using hyb)
       clear hbb hyb hsb))
  have HB2 := hid (HB0.out.trans (HB1.out.mono HB0.out.size))
  obtain ⟨z2, hz2⟩ : ∃ z, W0.heap.size = z := ⟨_, rfl⟩
  rw [hz2] at HZ2 ⊢
  try go_frame
  clear hz2 HBa HYa HB1
  go_upto_region 4 with (first
    | (with_reducible refine k7 ?_
       obtain ⟨wb, hwb⟩ : ∃ u, (World.alloc W2 (.cells #[.int .u8 75] 5)) = u := ⟨_, rfl⟩
       have HS : Hid (BySt w [(z2, [.slice Ap ps.length cp, .slice Ac cs.length cc, .string a2, .string ms, .int .i64 (sn : Int)], 28)] [75] (some ⟨W2.heap.size, 0, none⟩) 1 1 wb) := hid (by
         have hba : Below W2.heap.size W2 wb := by rw [← hwb]; exact (qB _ _).alloc (qR _) _
         exact ⟨HB2.out.trans (hba.mono HB2.out.size), by rw [← hwb]; exact qd w W2 _ HB2.out.size, rfl, fun t ht => by
           obtain rfl := List.mem_singleton.1 ht
           exact ⟨(hba.block z2 (qX HZ2.out)).trans HZ2.out, (show (28 : TypeId) ≠ 5 by decide)⟩⟩)
       rw [hwb]
       clear hwb
       refine k6 (by rfl) (jm 23 _ rfl (p := ⟨z2, 0, none⟩) rfl Tryz.underlying23 rfl (HS.out.cellAt (z := z2) (cs := [.slice Ap ps.length cp, .slice Ac cs.length cc, .string a2, .string ms, .int .i64 (sn : Int)]) (T := 28) (by simp) 0)) ?_)
    | (go_at_call 62; refine (vo ps Ap cp _ hlp HIP.out ((HSP.out.keep HS.out.bel).more HS.out.bel.size)).mono ?_; rintro e u1 ⟨hb1, Ax1, cx1, rfl, ho1⟩
       have HS := hid (HS.out.call hb1)
       have HBU := hid (hb1)
       have HX1 := hid (Sl.of_own ho1)
       clear hb1 ho1)
    | (at_builtin; refine kT (by rfl) _ _ 22 rfl w.heap.size 5 (.int .u8 0) 1 1 Tryz.underlying22 kH rfl (by decide) (.slice (some ⟨W2.heap.size, 0, none⟩) (1) 1) (1) (idV ([75])) rfl HS.out.own Ax1 (jR ps).length cx1 u1.heap.size (idV (jR ps)) rfl HX1.out (ky _) (by have hl1 := b1; have hl2 := b2; have hl3 := b3; have hl4 := b4; have hl5 := b5; unfold maxLen; omega) (by have hl1 := b1; have hl2 := b2; have hl3 := b3; have hl4 := b4; have hl5 := b5; omega) HS.out.bel.size ?_
       intro v1 w1x ho9 hg9
       obtain ⟨A1, c1, rfl⟩ := kg ho9
       have HS := hid (HS.out.app ho9 rfl hg9)
       clear ho9 hg9))
  go_upto_region 5 with (first
    | (with_reducible refine k7 ?_
       refine k6 (by rfl) (jm 23 _ rfl (p := ⟨z2, 1, none⟩) rfl Tryz.underlying23 rfl (HS.out.cellAt (z := z2) (cs := [.slice Ap ps.length cp, .slice Ac cs.length cc, .string a2, .string ms, .int .i64 (sn : Int)]) (T := 28) (by simp) 1)) ?_)
    | (go_at_call 62; refine (vo cs Ac cc _ hlc HIC.out ((HSC.out.keep HS.out.bel).more HS.out.bel.size)).mono ?_; rintro e u2 ⟨hb2, Ax2, cx2, rfl, ho2⟩
       have HS := hid (HS.out.call hb2)
       have HBU := hid (hb2)
       have HX2 := hid (Sl.of_own ho2)
       clear hb2 ho2)
    | (at_builtin; refine kT (by rfl) _ _ 22 rfl w.heap.size 5 (.int .u8 0) 1 1 Tryz.underlying22 kH rfl (by decide) (.slice A1 (1 + (jR ps).length) c1) (1 + (jR ps).length) (idV ([75] ++ jR ps)) rfl HS.out.own Ax2 (jR cs).length cx2 u2.heap.size (idV (jR cs)) rfl HX2.out (ky _) (by have hl1 := b1; have hl2 := b2; have hl3 := b3; have hl4 := b4; have hl5 := b5; unfold maxLen; omega) (by have hl1 := b1; have hl2 := b2; have hl3 := b3; have hl4 := b4; have hl5 := b5; omega) HS.out.bel.size ?_
       intro v2 w2x ho9 hg9
       obtain ⟨A2, c2, rfl⟩ := kg ho9
       have HS := hid (HS.out.app ho9 rfl hg9)
       clear ho9 hg9))
  go_upto_region 6 with (first
    | (with_reducible refine k7 ?_
       refine k6 (by rfl) (jm 9 _ rfl (p := ⟨z2, 2, none⟩) rfl Tryz.underlying9 rfl (HS.out.cellAt (z := z2) (cs := [.slice Ap ps.length cp, .slice Ac cs.length cc, .string a2, .string ms, .int .i64 (sn : Int)]) (T := 28) (by simp) 2)) ?_)
    | (go_at_call 63; refine (KR a2 ha2 _).mono ?_; rintro e u3 ⟨hb3, Ax3, cx3, rfl, ho3⟩
       have HS := hid (HS.out.call hb3)
       have HBU := hid (hb3)
       have HX3 := hid (Sl.of_own ho3)
       clear hb3 ho3)
    | (at_builtin; refine kT (by rfl) _ _ 22 rfl w.heap.size 5 (.int .u8 0) 1 1 Tryz.underlying22 kH rfl (by decide) (.slice A2 (1 + (jR ps).length + (jR cs).length) c2) (1 + (jR ps).length + (jR cs).length) (idV ([75] ++ jR ps ++ jR cs)) rfl HS.out.own Ax3 (kJ (L a2)).length cx3 u3.heap.size (idV (kJ (L a2))) rfl HX3.out (ky _) (by have hl1 := b1; have hl2 := b2; have hl3 := b3; have hl4 := b4; have hl5 := b5; unfold maxLen; omega) (by have hl1 := b1; have hl2 := b2; have hl3 := b3; have hl4 := b4; have hl5 := b5; omega) HS.out.bel.size ?_
       intro v3 w3x ho9 hg9
       obtain ⟨A3, c3, rfl⟩ := kg ho9
       have HS := hid (HS.out.app ho9 rfl hg9)
       clear ho9 hg9))
  go_upto_region 7 with (first
    | (with_reducible refine k7 ?_
       refine k6 (by rfl) (jm 9 _ rfl (p := ⟨z2, 3, none⟩) rfl Tryz.underlying9 rfl (HS.out.cellAt (z := z2) (cs := [.slice Ap ps.length cp, .slice Ac cs.length cc, .string a2, .string ms, .int .i64 (sn : Int)]) (T := 28) (by simp) 3)) ?_)
    | (go_at_call 63; refine (KR ms hms _).mono ?_; rintro e u4 ⟨hb4, Ax4, cx4, rfl, ho4⟩
       have HS := hid (HS.out.call hb4)
       have HBU := hid (hb4)
       have HX4 := hid (Sl.of_own ho4)
       clear hb4 ho4)
    | (at_builtin; refine kT (by rfl) _ _ 22 rfl w.heap.size 5 (.int .u8 0) 1 1 Tryz.underlying22 kH rfl (by decide) (.slice A3 (1 + (jR ps).length + (jR cs).length + (kJ (L a2)).length) c3) (1 + (jR ps).length + (jR cs).length + (kJ (L a2)).length) (idV ([75] ++ jR ps ++ jR cs ++ kJ (L a2))) rfl HS.out.own Ax4 (kJ (L ms)).length cx4 u4.heap.size (idV (kJ (L ms))) rfl HX4.out (ky _) (by have hl1 := b1; have hl2 := b2; have hl3 := b3; have hl4 := b4; have hl5 := b5; unfold maxLen; omega) (by have hl1 := b1; have hl2 := b2; have hl3 := b3; have hl4 := b4; have hl5 := b5; omega) HS.out.bel.size ?_
       intro v4 w4x ho9 hg9
       obtain ⟨A4, c4, rfl⟩ := kg ho9
       have HS := hid (HS.out.app ho9 rfl hg9)
       clear ho9 hg9))
  go_wp2_with (first
    | (with_reducible refine k7 ?_
       refine k6 (by rfl) (jm 3 _ rfl (p := ⟨z2, 4, none⟩) rfl Tryz.underlying3 rfl (HS.out.cellAt (z := z2) (cs := [.slice Ap ps.length cp, .slice Ac cs.length cc, .string a2, .string ms, .int .i64 (sn : Int)]) (T := 28) (by simp) 4)) ?_)
    | (go_at_call 64; refine (zt sn hst _).mono ?_; rintro e u5 ⟨hb5, Ax5, cx5, rfl, ho5⟩
       have HS := hid (HS.out.call hb5)
       have HBU := hid (hb5)
       have HX5 := hid (Sl.of_own ho5)
       clear hb5 ho5)
    | (at_builtin; refine kT (by rfl) _ _ 22 rfl w.heap.size 5 (.int .u8 0) 1 1 Tryz.underlying22 kH rfl (by decide) (.slice A4 (1 + (jR ps).length + (jR cs).length + (kJ (L a2)).length + (kJ (L ms)).length) c4) (1 + (jR ps).length + (jR cs).length + (kJ (L a2)).length + (kJ (L ms)).length) (idV ([75] ++ jR ps ++ jR cs ++ kJ (L a2) ++ kJ (L ms))) rfl HS.out.own Ax5 (kS sn).length cx5 u5.heap.size (idV (kS sn)) rfl HX5.out (ky _) (by have hl1 := b1; have hl2 := b2; have hl3 := b3; have hl4 := b4; have hl5 := b5; unfold maxLen; omega) (by have hl1 := b1; have hl2 := b2; have hl3 := b3; have hl4 := b4; have hl5 := b5; omega) HS.out.bel.size ?_
       intro v5 w5x ho9 hg9
       obtain ⟨A5, c5, rfl⟩ := kg ho9
       have HS := hid (HS.out.app ho9 rfl hg9)
       clear ho9 hg9))
  go_wp2_with fail
  go_ret
  have hlen := HS.out.len
  exact ⟨HS.out.bel, A5, c5, by rw [HE.out, hlen]; rfl, by rw [HE.out, hlen]; exact HS.out.own⟩
end Go.Proofs.YthjaepmfkgejkaaGreatDoor
