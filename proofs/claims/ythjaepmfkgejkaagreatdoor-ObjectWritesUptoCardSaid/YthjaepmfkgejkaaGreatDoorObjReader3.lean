/-
  What the reader's ref reads. Conditions: bytes that lie in memory; at most 2^40.
-/
import Derived.Test.YthjaepmfkgejkaaGreatDoorMerged1
import Derived.Test.YthjaepmfkgejkaaGreatDoorMerged13
import Derived.Test.YthjaepmfkgejkaaGreatDoorMerged12
import Derived.Test.YthjaepmfkgejkaaGreatDoorMerged10
set_option linter.unusedVariables false
set_option linter.unusedSimpArgs false
set_option maxHeartbeats 4000000
set_option maxRecDepth 100000
namespace Go.Proofs.YthjaepmfkgejkaaGreatDoor
open Lib (hid)
open Go.RowKit Go.Maps
theorem Km (w : World) : (zeroValue 68).run Tryz.prog w = .ok (.agg (ke kd).toArray) w := by kernel_rfl
theorem UW (i : Nat) (w : World) : (Instr.build 68 #[(1, .int .i64 ((i : Nat) : Int))]).run Tryz.prog w = .ok (.agg (ke (zero32, ((i : Nat) : Int))).toArray) w := by kernel_rfl
theorem uy (g b off c : Nat) (l : List UInt8) (at' : Nat) (w : World) (hr : RdAt w g b off c l at') (hl : l.length ≤ 1099511627776) (deps : List (List UInt8)) (Ad : Option Addr) (cd : Nat) (hdl : deps.length ≤ 1099511627776) (ho : IdsOk deps) (hd : w.ownsRow (g + 1) 47 32 (.slice Ad deps.length cd) deps.length (kr deps)) :
    Calls Tryz.prog 91 #[.pointer (some ⟨g, 0, none⟩), .slice Ad deps.length cd] w (RdGives g b off c l at' w (ZS deps) (fun r v _ => v = .agg (ke r).toArray ∧ jN r)) := by
  have HRD := hid hr; have HO := hid ho; have HD := hid hd
  clear hr ho hd
  go_enter Tryz.func91, Tryz.ntmps91
  rcases hp1 : Kj (l.drop at') with _ | ⟨n, r1⟩
  ·
   have HP : Hid (ZS deps (l.drop at') = none) := hid (by unfold ZS kP; rw [hp1])
   have HP1 := hid hp1
   clear hp1
   go_wp2_with (first
     | (with_reducible refine kw ?_
        refine ku (by rfl) 68 rfl (ke kd) (Km _) ?_
        intro W0 hb0 hz0 hs0
        have HZ0 := hid hz0
        have HB0 := hid (But.of_below (X := fun k => k = g) hb0)
        have HRD0 := hid (HRD.out.keep hb0)
        have hlt0 : w.heap.size < W0.heap.size := by omega
        have HG0 := hid (show w.heap.size ≠ g from fun e => absurd HRD.out.lt (by omega))
        clear hb0 hz0 hs0)
     | (go_at_call 51; refine (jC g b off c l at' W0 HRD0.out hl).mono ?_; rintro e w1 hgv
        obtain ⟨rfl, hbt⟩ := hgv.bad HP1.out))
   exact ⟨rfl, RdGives.no HP.out rfl (HB0.out.trans hbt fun _ _ q => q)⟩
  ·
   have hn63 : n < 9223372036854775808 := (JB hp1).2
   have HP1 := hid hp1
   by_cases hnd : n ≤ deps.length
   ·
    have dn : decide ((n : Int) ≤ (deps.length : Int)) = true := by simp; omega
    obtain ⟨k1, rfl⟩ : ∃ k1, r1 = l.drop k1 := by
      unfold Kj at hp1
      split at hp1
      · cases hp1; rw [List.drop_drop]; exact ⟨_, rfl⟩
      · cases hp1
    rcases hp2 : Kj (l.drop k1) with _ | ⟨i, r2⟩
    ·
     have HP : Hid (ZS deps (l.drop at') = none) := hid (by unfold ZS; rw [kF HP1.out]; unfold vJ; rw [if_pos (by simpa using hnd)]; unfold kP; rw [hp2])
     have HP2 := hid hp2
     have HR1 := hid (fun (a : Nat) (h : l.drop k1 = l.drop a) => (show Kj (l.drop a) = none by rw [← h]; exact hp2))
     clear hp1 hp2
     go_upto_region 2 with (first
       | (with_reducible refine kw ?_
          refine ku (by rfl) 68 rfl (ke kd) (Km _) ?_
          intro W0 hb0 hz0 hs0
          have HZ0 := hid hz0
          have HB0 := hid (But.of_below (X := fun k => k = g) hb0)
          have HRD0 := hid (HRD.out.keep hb0)
          have hlt0 : w.heap.size < W0.heap.size := by omega
          have HG0 := hid (show w.heap.size ≠ g from fun e => absurd HRD.out.lt (by omega))
          clear hb0 hz0 hs0)
       | (go_at_call 51; refine (jC g b off c l at' W0 HRD0.out hl).mono ?_; rintro e w1 hgv
          obtain ⟨v, at2, rfl, hle, hr1, hrd1, hbt, rfl⟩ := hgv.ok HP1.out
          have HRD1 := hid hrd1; have HB1 := hid (HB0.out.trans hbt fun _ _ q => q); have HLE1 := hid hle
          have HZ1 := hid ((hbt.block w.heap.size hlt0 HG0.out).trans HZ0.out)
          have hlt1 := qL hlt0 hbt.size
          have HQ2 := hid (HR1.out at2 hr1)
          clear hrd1 hbt hle hr1
          clear hgv))
     go_wp2_with (first
       | (go_at_call 57; refine (K5 _).mono ?_; rintro e w2 ⟨rfl, rfl⟩)
       | (go_at_call 51; refine (jC g b off c l at2 w2 HRD1.out hl).mono ?_; rintro e w3 hgv
          obtain ⟨rfl, hbt⟩ := hgv.bad HQ2.out))
     exact ⟨rfl, RdGives.no HP.out rfl (HB1.out.trans hbt fun _ _ q => q)⟩
    ·
     have hi63 : i < 9223372036854775808 := (JB hp2).2
     have HRI : Hid (jN (zero32, ((i : Nat) : Int))) := hid ⟨zP, by simp only [Lit.wf, IntKind.min, IntKind.max, IntKind.signed, IntKind.bits, Bool.and_eq_true]; simp; omega⟩
     have HPR : Hid (ZS deps (l.drop at') = some ((if n = 0 then zero32 else deps.getD (n - 1) zero32, ((i : Nat) : Int)), r2)) := hid (by unfold ZS; rw [kF HP1.out]; unfold vJ; rw [if_pos (by simpa using hnd), kF hp2]; rfl)
     have HR1 := hid (fun (a : Nat) (h : l.drop k1 = l.drop a) => (show Kj (l.drop a) = some (i, r2) by rw [← h]; exact hp2))
     have HR2 := hid (fun (a : Nat) (h : r2 = l.drop a) => h)
     clear hp1 hp2
     by_cases hn0 : n = 0
     ·
      have HP : Hid (ZS deps (l.drop at') = some ((zero32, ((i : Nat) : Int)), r2)) := hid (by rw [HPR.out, if_pos hn0])
      have d0 : decide ((0 : Int) < (n : Int)) = false := by simp; omega
      have d0' : ¬ (0 : Int) < (n : Int) := by omega
      clear hn0
      go_upto_region 2 with (first
        | (with_reducible refine kw ?_
           refine ku (by rfl) 68 rfl (ke kd) (Km _) ?_
           intro W0 hb0 hz0 hs0
           have HZ0 := hid hz0
           have HB0 := hid (But.of_below (X := fun k => k = g) hb0)
           have HRD0 := hid (HRD.out.keep hb0)
           have hlt0 : w.heap.size < W0.heap.size := by omega
           have HG0 := hid (show w.heap.size ≠ g from fun e => absurd HRD.out.lt (by omega))
           clear hb0 hz0 hs0)
        | (go_at_call 51; refine (jC g b off c l at' W0 HRD0.out hl).mono ?_; rintro e w1 hgv
           obtain ⟨v, at2, rfl, hle, hr1, hrd1, hbt, rfl⟩ := hgv.ok HP1.out
           have HRD1 := hid hrd1; have HB1 := hid (HB0.out.trans hbt fun _ _ q => q); have HLE1 := hid hle
           have HZ1 := hid ((hbt.block w.heap.size hlt0 HG0.out).trans HZ0.out)
           have hlt1 := qL hlt0 hbt.size
           have HQ2 := hid (HR1.out at2 hr1)
           clear hrd1 hbt hle hr1
           clear hgv))
      go_upto_region 4 with (first
        | (go_at_call 57; refine (K5 _).mono ?_; rintro e w2 ⟨rfl, rfl⟩)
        | (go_at_call 51; refine (jC g b off c l at2 w2 HRD1.out hl).mono ?_; rintro e w3 hgv
           obtain ⟨v, at3, rfl, hle, hr1, hrd1, hbt, rfl⟩ := hgv.ok HQ2.out
           have HRD3 := hid hrd1; have HB3 := hid (HB1.out.trans hbt fun _ _ q => q)
           have HZ3 := hid ((hbt.block w.heap.size hlt1 HG0.out).trans HZ1.out)
           have hlt3 := qL hlt1 hbt.size
           have HL3 := hid hle
           obtain rfl := HR2.out at3 hr1
           have hgw := HRD.out.lt
           clear hrd1 hbt hle hr1
           clear hgv)
        | (with_reducible refine kQ ?_
           refine k6 (by rfl) (kB 68 _ rfl (UW i _)) ?_)
        | (with_reducible refine kw ?_
           refine ku (by rfl) 68 rfl (ke kd) (Km _) ?_
           intro W4 hb4 hz4 hs4
           have HRD4 := hid (HRD3.out.keep hb4)
           have HB4 := hid (HB3.out.trans (But.of_below (X := fun k => k = g) hb4) fun _ _ q => q)
           have HZ4 := hid ((hb4.block w.heap.size hlt3).trans HZ3.out)
           have HY4 := hid hz4
           have hs4' : w3.heap.size + 1 = W4.heap.size := hs4.symm
           clear hb4 hz4 hs4)
        | (with_reducible refine ks ?_
           refine km (by rfl) 68 _ _ rfl w3.heap.size 0 [] (ke kd) [] (ke (zero32, ((i : Nat) : Int))) 68 _ rfl rfl rfl rfl (by simpa using HY4.out) (by rw [kf kp, kf HRI.out]) (by rw [kf HRI.out]; exact kW) (Kz _) ?_
           intro W5 hb5 hy5 hs5
           have HRD5 := hid (HRD4.out.but hb5 fun k hk => by omega)
           have HB5 := hid (HB4.out.trans hb5 fun j hj q => by omega)
           have HZ5 := hid ((hb5.block w.heap.size (by omega) (by omega)).trans HZ4.out)
           have HY5 : Hid (W5.heap[w3.heap.size]? = some (.cells (ke (zero32, ((i : Nat) : Int))).toArray 68 (0, 0))) := hid (by simpa using hy5)
           have hs5' : W4.heap.size = W5.heap.size := hs5.symm
           clear hb5 hy5 hs5))
      go_wp2_with (first
        | (with_reducible refine k7 ?_
           refine k6 (by rfl) (k9 68 _ rfl (p := ⟨w3.heap.size, 0, none⟩) rfl (qV _ _ _ _ (ke (zero32, ((i : Nat) : Int))) _ (fun j u hj => by rw [qZ]; exact (k5 HY5.out j).trans hj) Tryz.underlying68 rfl (by rw [kf HRI.out]; exact kW))) ?_)
        | (with_reducible refine ks ?_
           refine km (by rfl) 68 _ _ rfl w.heap.size 0 [] (ke kd) [] (ke (zero32, ((i : Nat) : Int))) 68 _ rfl rfl rfl rfl (by simpa using HZ5.out) (by rw [kf kp, kf HRI.out]) (by rw [kf HRI.out]; exact kW) (Kz _) ?_
           intro W9 hb9 hy9 hs9
           have HRD9 := hid (HRD5.out.but hb9 fun k hk => by omega)
           have HB9 := hid (HB5.out.trans hb9 fun j hj q => by omega)
           have HY9 : Hid (W9.heap[w.heap.size]? = some (.cells (ke (zero32, ((i : Nat) : Int))).toArray 68 (0, 0))) := hid (by simpa using hy9)
           clear hb9 hy9 hs9))
      refine bodyPost_end (jL Tryz.results91 _ _ rfl (qV _ _ _ 68 (ke (zero32, ((i : Nat) : Int))) _ (fun j u hj => by rw [qZ]; exact (k5 HY9.out j).trans hj) Tryz.underlying68 rfl (by rw [kf HRI.out]; exact kW))) rfl ?_
      exact RdGives.yes HP.out rfl (qT HLE1.out HL3.out) rfl HRD9.out HB9.out ⟨rfl, HRI.out⟩
     ·
      obtain ⟨q, hnq⟩ : ∃ q, n = q + 1 := ⟨n - 1, by omega⟩
      have hql : q < deps.length := by omega
      have HP : Hid (ZS deps (l.drop at') = some ((deps[q], ((i : Nat) : Int)), r2)) := hid (by rw [HPR.out, if_neg (by omega), hnq, Nat.add_sub_cancel, List.getD_eq_getElem?_getD, List.getElem?_eq_getElem hql]; rfl)
      have HX := hid (show (deps[q]).length = 32 from HO.out _ (List.getElem_mem hql))
      have HRX : Hid (jN (deps[q], ((i : Nat) : Int))) := hid ⟨HX.out, HRI.out.2⟩
      have HRW := hid (fun (u : World) (hu : But (fun k => k = g) w u) => (show ∃ gd od, Ad = some ⟨gd, od, none⟩ ∧ ∀ j v, (idV deps[q])[j]? = some v → u.cell? ⟨gd, od + q * 32 + j, none⟩ = some v by
        have h1 := hu.own HD.out (fun k hk e => by have := (HD.out.lt k hk).1; omega)
        obtain ⟨gd, od, e1, _, hc⟩ := (Sl.of_own h1).2 (by omega)
        exact ⟨gd, od, e1, Sl.id (B := 0) HO.out hc (i := q) hql⟩))
      have d0 : decide ((0 : Int) < (n : Int)) = true := by simp; omega
      have d0' : (0 : Int) < (n : Int) := by omega
      have e1 : IntKind.i64.wrap ((n : Int) - 1) = (q : Int) := by rw [IntWalk.i64_in _ (by omega)]; omega
      have e2 : (n : Int) - 1 = (q : Int) := by omega
      have q0 : (0 : Int) ≤ (q : Int) := by omega
      have q1 : (q : Int) < (deps.length : Int) := by omega
      clear hn0 hnq
      generalize deps[q] = x at *
      go_upto_region 2 with (first
        | (with_reducible refine kw ?_
           refine ku (by rfl) 68 rfl (ke kd) (Km _) ?_
           intro W0 hb0 hz0 hs0
           have HZ0 := hid hz0
           have HB0 := hid (But.of_below (X := fun k => k = g) hb0)
           have HRD0 := hid (HRD.out.keep hb0)
           have hlt0 : w.heap.size < W0.heap.size := by omega
           have HG0 := hid (show w.heap.size ≠ g from fun e => absurd HRD.out.lt (by omega))
           clear hb0 hz0 hs0)
        | (go_at_call 51; refine (jC g b off c l at' W0 HRD0.out hl).mono ?_; rintro e w1 hgv
           obtain ⟨v, at2, rfl, hle, hr1, hrd1, hbt, rfl⟩ := hgv.ok HP1.out
           have HRD1 := hid hrd1; have HB1 := hid (HB0.out.trans hbt fun _ _ q => q); have HLE1 := hid hle
           have HZ1 := hid ((hbt.block w.heap.size hlt0 HG0.out).trans HZ0.out)
           have hlt1 := qL hlt0 hbt.size
           have HQ2 := hid (HR1.out at2 hr1)
           clear hrd1 hbt hle hr1
           clear hgv))
      go_upto_region 4 with (first
        | (go_at_call 57; refine (K5 _).mono ?_; rintro e w2 ⟨rfl, rfl⟩)
        | (go_at_call 51; refine (jC g b off c l at2 w2 HRD1.out hl).mono ?_; rintro e w3 hgv
           obtain ⟨v, at3, rfl, hle, hr1, hrd1, hbt, rfl⟩ := hgv.ok HQ2.out
           have HRD3 := hid hrd1; have HB3 := hid (HB1.out.trans hbt fun _ _ q => q)
           have HZ3 := hid ((hbt.block w.heap.size hlt1 HG0.out).trans HZ1.out)
           have hlt3 := qL hlt1 hbt.size
           have HL3 := hid hle
           obtain rfl := HR2.out at3 hr1
           have hgw := HRD.out.lt
           clear hrd1 hbt hle hr1
           clear hgv)
        | (with_reducible refine kQ ?_
           refine k6 (by rfl) (kB 68 _ rfl (UW i _)) ?_)
        | (with_reducible refine kw ?_
           refine ku (by rfl) 68 rfl (ke kd) (Km _) ?_
           intro W4 hb4 hz4 hs4
           have HRD4 := hid (HRD3.out.keep hb4)
           have HB4 := hid (HB3.out.trans (But.of_below (X := fun k => k = g) hb4) fun _ _ q => q)
           have HZ4 := hid ((hb4.block w.heap.size hlt3).trans HZ3.out)
           have HY4 := hid hz4
           have hs4' : w3.heap.size + 1 = W4.heap.size := hs4.symm
           clear hb4 hz4 hs4)
        | (with_reducible refine ks ?_
           refine km (by rfl) 68 _ _ rfl w3.heap.size 0 [] (ke kd) [] (ke (zero32, ((i : Nat) : Int))) 68 _ rfl rfl rfl rfl (by simpa using HY4.out) (by rw [kf kp, kf HRI.out]) (by rw [kf HRI.out]; exact kW) (Kz _) ?_
           intro W5 hb5 hy5 hs5
           have HRD5 := hid (HRD4.out.but hb5 fun k hk => by omega)
           have HB5 := hid (HB4.out.trans hb5 fun j hj q => by omega)
           have HZ5 := hid ((hb5.block w.heap.size (by omega) (by omega)).trans HZ4.out)
           have HY5 : Hid (W5.heap[w3.heap.size]? = some (.cells (ke (zero32, ((i : Nat) : Int))).toArray 68 (0, 0))) := hid (by simpa using hy5)
           have hs5' : W4.heap.size = W5.heap.size := hs5.symm
           clear hb5 hy5 hs5))
      obtain ⟨gd, od, rfl, hrow⟩ := HRW.out W5 HB5.out
      have HROW := hid hrow
      clear hrow
      go_upto_region 6 with (first
        | (with_reducible refine k7 ?_
           refine zE (by rfl) 47 _ rfl gd _ rfl (idV x) _ HROW.out Tryz.underlying47 rfl (by rw [k8, show x.length = 32 from HX.out]; exact kt) ?_)
        | (with_reducible refine ks ?_
           refine km (by rfl) 47 _ _ rfl w3.heap.size 0 [] (idV zero32) [.int .i64 ((i : Nat) : Int)] (idV x) 68 _ rfl rfl rfl rfl HY5.out (by rw [k8, k8, show x.length = 32 from HX.out]; rfl) (by rw [k8, show x.length = 32 from HX.out]; exact kt) (ky _) ?_
           intro W6 hb6 hy6 hs6
           have HRD6 := hid (HRD5.out.but hb6 fun k hk => by omega)
           have HB6 := hid (HB5.out.trans hb6 fun j hj q => by omega)
           have HZ6 := hid ((hb6.block w.heap.size (by omega) (by omega)).trans HZ5.out)
           have HY6 : Hid (W6.heap[w3.heap.size]? = some (.cells (ke (x, ((i : Nat) : Int))).toArray 68 (0, 0))) := hy6
           have hs6' : W5.heap.size = W6.heap.size := hs6.symm
           clear hb6 hy6 hs6))
      go_wp2_with (first
        | (with_reducible refine k7 ?_
           refine k6 (by rfl) (k9 68 _ rfl (p := ⟨w3.heap.size, 0, none⟩) rfl (qV _ _ _ _ (ke (x, ((i : Nat) : Int))) _ (fun j u hj => by rw [qZ]; exact (k5 HY6.out j).trans hj) Tryz.underlying68 rfl (by rw [kf HRX.out]; exact kW))) ?_)
        | (with_reducible refine ks ?_
           refine km (by rfl) 68 _ _ rfl w.heap.size 0 [] (ke kd) [] (ke (x, ((i : Nat) : Int))) 68 _ rfl rfl rfl rfl (by simpa using HZ6.out) (by rw [kf kp, kf HRX.out]) (by rw [kf HRX.out]; exact kW) (Kz _) ?_
           intro W9 hb9 hy9 hs9
           have HRD9 := hid (HRD6.out.but hb9 fun k hk => by omega)
           have HB9 := hid (HB6.out.trans hb9 fun j hj q => by omega)
           have HY9 : Hid (W9.heap[w.heap.size]? = some (.cells (ke (x, ((i : Nat) : Int))).toArray 68 (0, 0))) := hid (by simpa using hy9)
           clear hb9 hy9 hs9))
      refine bodyPost_end (jL Tryz.results91 _ _ rfl (qV _ _ _ 68 (ke (x, ((i : Nat) : Int))) _ (fun j u hj => by rw [qZ]; exact (k5 HY9.out j).trans hj) Tryz.underlying68 rfl (by rw [kf HRX.out]; exact kW))) rfl ?_
      exact RdGives.yes HP.out rfl (qT HLE1.out HL3.out) rfl HRD9.out HB9.out ⟨rfl, HRX.out⟩
   ·
    have HP : Hid (ZS deps (l.drop at') = none) := hid (by unfold ZS kP; rw [hp1]; unfold vJ; simp [hnd])
    have dn : decide ((n : Int) ≤ (deps.length : Int)) = false := by simp; omega
    clear hp1
    go_wp2_with (first
      | (with_reducible refine kw ?_
         refine ku (by rfl) 68 rfl (ke kd) (Km _) ?_
         intro W0 hb0 hz0 hs0
         have HZ0 := hid hz0
         have HB0 := hid (But.of_below (X := fun k => k = g) hb0)
         have HRD0 := hid (HRD.out.keep hb0)
         have hlt0 : w.heap.size < W0.heap.size := by omega
         have HG0 := hid (show w.heap.size ≠ g from fun e => absurd HRD.out.lt (by omega))
         clear hb0 hz0 hs0)
      | (go_at_call 51; refine (jC g b off c l at' W0 HRD0.out hl).mono ?_; rintro e w1 hgv
         obtain ⟨v, at2, rfl, hle, hr1, hrd1, hbt, rfl⟩ := hgv.ok HP1.out
         have HB1 := hid (HB0.out.trans hbt fun _ _ q => q)
         clear hrd1 hbt
         clear hgv)
      | (go_at_call 57; refine (Ks _).mono ?_; rintro e w2 ⟨rfl, rfl⟩))
    exact ⟨rfl, RdGives.no HP.out rfl (HB1.out)⟩
end Go.Proofs.YthjaepmfkgejkaaGreatDoor
