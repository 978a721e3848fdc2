/-
  What the document's op gives. Conditions: ids of 32 bytes; at most 2^40 of them; the changes hung on are a set; what was made lies in a row of the call's own.
-/
import Derived.Test.YthjaepmfkgejkaaGreatDoorMerged1
import Derived.Test.YthjaepmfkgejkaaGreatDoorMerged4
import Derived.Test.YthjaepmfkgejkaaGreatDoorMerged13
import Derived.Test.YthjaepmfkgejkaaGreatDoorRefDoc8
import Derived.Test.YthjaepmfkgejkaaGreatDoorMerged22
import Derived.Test.YthjaepmfkgejkaaGreatDoorObjAbsent
import Derived.Test.YthjaepmfkgejkaaGreatDoorMerged24
import Derived.Test.YthjaepmfkgejkaaGreatDoorMerged16
import Derived.Test.YthjaepmfkgejkaaGreatDoorMerged8
import Derived.Test.YthjaepmfkgejkaaGreatDoorMerged14
import Derived.Test.YthjaepmfkgejkaaGreatDoorObjRight1
set_option linter.unusedVariables false
set_option linter.unusedSimpArgs false
set_option maxHeartbeats 4000000
set_option maxRecDepth 100000
namespace Go.Proofs.YthjaepmfkgejkaaGreatDoor
open Lib (hid)
open Go.RowKit Go.Maps
theorem QD (w : World) : (zeroValue 68).run Tryz.prog w = .ok (.agg (ke kd).toArray) w := by kernel_rfl
theorem qf (w : World) : (Instr.build 68 #[]).run Tryz.prog w = .ok (.agg (ke kd).toArray) w := by kernel_rfl
theorem Jk : (Tryz.prog.info? 166).map (fun i => (i.zero, i.size, i.bytes)) = some (some (.agg (kE (false, kd)).toArray), 34, 48) := by kernel_rfl
theorem qg (w : World) : (Instr.build 166 #[(0, .bool true)]).run Tryz.prog w = .ok (.agg (kE (true, kd)).toArray) w := by kernel_rfl
theorem Ug {d : jQ} (hd : jN d) (w : World) : (Instr.build 166 #[(1, .agg (ke d).toArray)]).run Tryz.prog w = .ok (.agg (kE (false, d)).toArray) w := by
  obtain ⟨i, hi, hz, _, _⟩ := info_parts Jk
  have hk : (ke kd).length = 33 := rfl
  have h := uu (P := Tryz.prog) hi Tryz.underlying166 hz [[.bool false], ke kd] rfl (places := [(0, 1), (1, 33)]) (by kernel_rfl) (by kernel_rfl) [(1, .agg (ke d).toArray)] (by
    intro q hq
    simp only [List.mem_cons, List.not_mem_nil, or_false] at hq
    subst hq
    exact ⟨by show 1 < 2; omega, by show (ke d).toArray.size = 33; rw [List.size_toArray, kf hd]⟩)
  have h2 := run_build (P := Tryz.prog) w 166 #[(1, .agg (ke d).toArray)] _ h
  refine h2.trans ?_
  simp [kE, Value.cells]
theorem Qb {t : ByteArray} (h : Ki t = true) : zS t = 0 := by
  unfold Ki at h
  simp only [Bool.and_eq_true, decide_eq_true_eq] at h
  unfold zS
  rw [if_neg (by omega), if_pos h.2]
theorem Qc {t : ByteArray} (h : Ki t = false) : ∃ fb, zS t = fb ∧ fb ≠ 0 := by
  refine ⟨_, rfl, ?_⟩
  unfold Ki at h
  unfold zS
  split
  · decide
  ·
   rename_i hs
   rw [dT (show t.size ≤ 4096 by omega), Bool.true_and] at h
   rw [if_neg (by rw [h]; decide)]
   decide
theorem runes_ok {t : ByteArray} (h : Ki t = true) : zU t ≠ none := by
  unfold Ki at h
  simp only [Bool.and_eq_true] at h
  intro hn
  have h2 := h.2
  unfold zG at h2
  rw [hn] at h2
  exact absurd h2 (by simp)
def OpGives (base : Nat) (deps : List (List UInt8)) (mk : List jw) (x : OpD) (w : World) (e : Ending) (w' : World) : Prop :=
  Below base w w' ∧ (opB deps mk x = false → ∃ v, e = .returned (.tuple #[v, .bool false])) ∧
  (opB deps mk x = true → ∃ A c, e = .returned (.tuple #[.slice A (mk.length + (zj x).length) c, .bool true]) ∧ w'.ownsRow base 166 34 (.slice A (mk.length + (zj x).length) c) (mk.length + (zj x).length) (jb kE (mk ++ zj x)))
theorem refOp_all (base : Nat) (deps : List (List UInt8)) (mk : List jw) (k : UInt8) (d a : jQ) (t : ByteArray) (n : Int) (q : ByteArray) (A : Option Addr) (c : Nat) (Am : Option Addr) (cm : Nat) (w : World) (hn : deps.length ≤ 1099511627776) (hmn : mk.length ≤ 1000000000) (ho : IdsOk deps) (hm : ∀ m ∈ mk, Z9 m) (hx : Je (k, d, a, t, n, q)) (hset : kI deps = true) (hs : Sl w w.heap.size A deps.length 32 (kr deps)) (how : w.ownsRow base 166 34 (.slice Am mk.length cm) mk.length (jb kE mk)) (hbs : base ≤ w.heap.size) :
    Calls Tryz.prog 80 #[.slice A deps.length c, .slice Am mk.length cm, .agg (opV (k, d, a, t, n, q)).toArray] w (OpGives base deps mk (k, d, a, t, n, q) w) := by
  have HO := hid ho; have HS := hid hs; have HM := hid hm; have HX := hid hx; have HOW := hid how; have HSM := hid (Sl.of_own how)
  have hmn : mk.length ≤ 1099511627776 := by omega
  clear ho hs hm hx how
  go_enter Tryz.func80, Tryz.ntmps80
  go_upto_region 2 with (first
    | (with_reducible refine kz ?_
       refine ko (by rfl) 70 _ rfl (opV (k, d, a, t, n, q)) _ rfl rfl (by rw [kq HX.out]; exact js) ?_
       intro W0 hb0 hy0 hs0
       have HB0 := hid hb0; have HY0 := hid hy0
       clear hb0 hy0 hs0)
    | (with_reducible refine kQ ?_
       refine k6 (by rfl) (kB 68 #[] rfl (qf _)) ?_)
    | (with_reducible refine kw ?_
       refine ku (by rfl) 68 rfl (ke kd) (QD _) ?_
       intro Wa hba hya hsa
       have HBa := hid hba; have HYa := hid hya
       clear hba hya hsa)
    | (with_reducible refine ks ?_
       refine km (by rfl) 68 _ _ rfl W0.heap.size 0 [] (ke kd) [] (ke kd) 68 _ rfl rfl rfl rfl (by simpa using HYa.out) rfl (by kernel_rfl) (Kz _) ?_
       intro W1 hbb hyb hsb
       have HB1 := hid (HBa.out.trans (hbb.below HBa.out.size (fun k hk e => by have e' : k = W0.heap.size := e; omega)))
       have HY1 : Hid (W1.heap[W0.heap.size]? = some (.cells (ke kd).toArray 68 (0, 0))) := hid (by simpa using hyb)
       clear hbb hyb hsb))
  obtain ⟨zx, hzx⟩ : ∃ z, w.heap.size = z := ⟨_, rfl⟩
  obtain ⟨z8, hz8⟩ : ∃ z, W0.heap.size = z := ⟨_, rfl⟩
  have l0 := (qX HY0.out)
  have HYX := hid ((HB1.out.block _ l0).trans HY0.out)
  have HLX := hid (show zx < W1.heap.size by rw [← hzx]; exact qL l0 HB1.out.size)
  have HL8 := hid (show z8 < W1.heap.size by rw [← hz8]; exact (qX HY1.out))
  have HBW := hid (HB0.out.trans (HB1.out.mono HB0.out.size))
  rw [hzx] at HYX ⊢
  rw [hz8] at HY1 ⊢
  try go_frame
  have hzxw : Hid (w.heap.size = zx) := hid hzx
  clear hzx hz8 l0 HY0 HB0 HB1 HBa HYa
  have HCELL := hid (fun (u : World) (hu : Below W1.heap.size W1 u) => (show u.cell? ⟨zx, 0, none⟩ = some (.int .u8 (k.toNat : Int)) ∧ u.cell? ⟨zx, 67, none⟩ = some (.string t) ∧ u.cell? ⟨zx, 68, none⟩ = some (.int .i64 n) ∧ u.cell? ⟨zx, 69, none⟩ = some (.string q) from
    ⟨(hu.cell (p := ⟨zx, 0, none⟩) HLX.out).trans (k5 HYX.out 0), (hu.cell (p := ⟨zx, 67, none⟩) HLX.out).trans ((k5 HYX.out 67).trans (kn HX.out).2.2.2.1), (hu.cell (p := ⟨zx, 68, none⟩) HLX.out).trans ((k5 HYX.out 68).trans (kn HX.out).2.2.2.2.1), (hu.cell (p := ⟨zx, 69, none⟩) HLX.out).trans ((k5 HYX.out 69).trans (kn HX.out).2.2.2.2.2)⟩))
  have HD1 := hid (fun (u : World) (hu : Below W1.heap.size W1 u) => (show u.rangeAt zx 1 (ke d) from fun j v hj => (hu.cell (p := ⟨zx, 1 + j, none⟩) HLX.out).trans ((k5 HYX.out (1 + j)).trans ((kn HX.out).2.1 j v hj))))
  have HA34 := hid (fun (u : World) (hu : Below W1.heap.size W1 u) => (show u.rangeAt zx 34 (ke a) from fun j v hj => (hu.cell (p := ⟨zx, 34 + j, none⟩) HLX.out).trans ((k5 HYX.out (34 + j)).trans ((kn HX.out).2.2.1 j v hj))))
  have HZ8 := hid (fun (u : World) (hu : Below W1.heap.size W1 u) => (show u.rangeAt z8 0 (ke kd) from fun j v hj => by rw [qZ]; exact ((hu.cell (p := ⟨z8, j, none⟩) HL8.out).trans (k5 HY1.out j)).trans hj))
  have HSD := hid (fun (u : World) (hu : Below W1.heap.size W1 u) => (HS.out.keep (HBW.out.trans (hu.mono HBW.out.size))).more (qT HBW.out.size hu.size))
  have HSK := hid (fun (u : World) (hu : Below W1.heap.size W1 u) => (HSM.out.keep (HBW.out.trans (hu.mono HBW.out.size))).more (qT HBW.out.size hu.size))
  have HC := hid (qB W1.heap.size W1)
  obtain ⟨y0, y3, y4, y5⟩ := HCELL.out _ HC.out
  clear HYX HY1
  by_cases h5 : k = 5
  ·
   subst h5
   have HCELL : Hid (∀ (u : World), Below W1.heap.size W1 u → (u.cell? ⟨zx, 0, none⟩ = some (.int .u8 (5 : Int)) ∧ u.cell? ⟨zx, 67, none⟩ = some (.string t) ∧ u.cell? ⟨zx, 68, none⟩ = some (.int .i64 n) ∧ u.cell? ⟨zx, 69, none⟩ = some (.string q))) := hid HCELL.out
   obtain ⟨y0, y3, y4, y5⟩ := HCELL.out _ HC.out
   by_cases hdoc : KU deps mk d = true
   rotate_left
   focus
     have HDOC := hid (Bool.eq_false_iff.2 hdoc)
     have HE : Hid (opB deps mk (5, d, a, t, n, q) = false) := hid (by unfold opB; rw [show kj (5 : UInt8) = some (true, false, false, false, false) from rfl]; simp [ki, hdoc])
     clear hdoc
   rotate_right
   have HDOC := hid hdoc
   by_cases ht : t = kc
   rotate_left
   focus
     have et : t.toList.isEmpty = false := by rw [kx]; exact dF ht
     have HE : Hid (opB deps mk (5, d, a, t, n, q) = false) := hid (by unfold opB; rw [show kj (5 : UInt8) = some (true, false, false, false, false) from rfl]; simp [ki, hdoc, ht])
     clear hdoc ht
   rotate_right
   have et : t.toList.isEmpty = true := by rw [kx]; exact dT ht
   by_cases hc : n = 0
   rotate_left
   focus
     have ec : (n != 0) = true := by simpa [bne, beq_eq_false_iff_ne] using hc
     have HE : Hid (opB deps mk (5, d, a, t, n, q) = false) := hid (by unfold opB; rw [show kj (5 : UInt8) = some (true, false, false, false, false) from rfl]; simp [ki, hdoc, ht, hc])
     clear hdoc ht hc
   rotate_right
   have ec : (n != 0) = false := by rw [hc]; rfl
   by_cases haz : a = kd
   rotate_left
   focus
     have EQA := hid (fun (u : World) => (kR HX.out.1.2.1 kp u).trans (by rw [dF haz]))
     have HE : Hid (opB deps mk (5, d, a, t, n, q) = false) := hid (by unfold opB; rw [show kj (5 : UInt8) = some (true, false, false, false, false) from rfl]; simp [ki, hdoc, ht, hc, haz])
     clear hdoc ht hc haz
   rotate_right
   have EQA := hid (fun (u : World) => (kR HX.out.1.2.1 kp u).trans (by rw [dT haz]))
   by_cases hq : q = kc
   rotate_left
   focus
     have eq : q.toList.isEmpty = false := by rw [kx]; exact dF hq
     have HE : Hid (opB deps mk (5, d, a, t, n, q) = false) := hid (by unfold opB; rw [show kj (5 : UInt8) = some (true, false, false, false, false) from rfl]; simp [ki, hdoc, ht, hc, haz, hq])
     clear hdoc ht hc haz hq
   rotate_right
   have eq : q.toList.isEmpty = true := by rw [kx]; exact dT hq
   ·
    have HE : Hid (opB deps mk (5, d, a, t, n, q) = true) := hid (by unfold opB; rw [show kj (5 : UInt8) = some (true, false, false, false, false) from rfl]; simp [ki, hdoc, ht, hc, haz, hq])
    clear hdoc ht hc haz hq
    go_upto_region 22 with (first
      | (with_reducible refine k7 ?_
         refine k6 (by rfl) (ldR HX.out.1.1 (HD1.out _ HC.out)) ?_)
      | (with_reducible refine k7 ?_
         refine k6 (by rfl) (ldR HX.out.1.2.1 (HA34.out _ HC.out)) ?_)
      | (with_reducible refine k7 ?_
         refine k6 (by rfl) (ldR kp (HZ8.out _ HC.out)) ?_)
      | (go_at_call 107; refine (jk deps mk d A c Am cm _ hn hmn HO.out HM.out HX.out.1.1 hset (HSD.out _ HC.out) (HSK.out _ HC.out)).mono ?_; rintro e w2 ⟨hb2, rfl⟩
         rw [HDOC.out]
         have HC := hid (HC.out.trans (hb2.mono HC.out.size))
         obtain ⟨y0, y3, y4, y5⟩ := HCELL.out _ HC.out
         clear hb2)
      | (with_reducible refine kC ?_
         refine k6 (by rfl) (kN 68 _ _ _ rfl (xs := (ke a).toArray) (ys := (ke kd).toArray) rfl rfl (r := true) eqRef.noGuard (EQA.out _)) ?_
         go_frame; try simp only [nTF]))
    have y0w := Wg.cell y0 (qL HLX.out HC.out.size)
    clear y0 y3 y4 y5
    try go_frame
    refine kL (by kernel_rfl) (by kernel_rfl) ?_
    repeat (first
      | go_big_quiet_skip
      | (go_big_quiet_want
         first
           | (go_big_quiet_op
              first
                | go_big_quiet_on
                | go_big_quiet_call (first | (fail)))))
    refine wpQuiet_nil ?_
    rintro w' ⟨kk, rfl⟩
    have hk9 := kk.2
    generalize kk.val = w9 at *
    clear kk
    have HC := hid (HC.out.trans (hk9.below.mono HC.out.size))
    clear hk9
    go_wp2_with fail
    go_ret2
    have HMLN : Hid (zj (5, d, a, t, n, q) = []) := hid rfl
    have HML : Hid (mk.length + (zj (5, d, a, t, n, q)).length = mk.length) := hid rfl
    exact ⟨(HBW.out.mono hbs).trans (HC.out.mono (qT hbs HBW.out.size)), fun h => absurd (HE.out.symm.trans h) (by decide), fun _ => ⟨Am, cm, by rw [HML.out]; rfl, by rw [HML.out, HMLN.out, List.append_nil]; exact (But.of_below (X := NoB) (HBW.out.trans (HC.out.mono HBW.out.size))).own HOW.out fun _ _ q => q⟩⟩
   all_goals
     go_wp2_with (first
       | (with_reducible refine k7 ?_
          refine k6 (by rfl) (ldR HX.out.1.1 (HD1.out _ HC.out)) ?_)
       | (with_reducible refine k7 ?_
          refine k6 (by rfl) (ldR HX.out.1.2.1 (HA34.out _ HC.out)) ?_)
       | (with_reducible refine k7 ?_
          refine k6 (by rfl) (ldR kp (HZ8.out _ HC.out)) ?_)
       | (go_at_call 107; refine (jk deps mk d A c Am cm _ hn hmn HO.out HM.out HX.out.1.1 hset (HSD.out _ HC.out) (HSK.out _ HC.out)).mono ?_; rintro e w2 ⟨hb2, rfl⟩
          rw [HDOC.out]
          have HC := hid (HC.out.trans (hb2.mono HC.out.size))
          obtain ⟨y0, y3, y4, y5⟩ := HCELL.out _ HC.out
          clear hb2)
       | (with_reducible refine kC ?_
          refine k6 (by rfl) (kN 68 _ _ _ rfl (xs := (ke a).toArray) (ys := (ke kd).toArray) rfl rfl (r := _) eqRef.noGuard (EQA.out _)) ?_
          go_frame; try simp only [nTF]))
     go_ret2
     exact ⟨(HBW.out.mono hbs).trans (HC.out.mono (qT hbs HBW.out.size)), fun _ => ⟨_, rfl⟩, fun h => absurd (HE.out.symm.trans h) (by decide)⟩
  by_cases h4 : k = 4
  ·
   subst h4
   have HCELL : Hid (∀ (u : World), Below W1.heap.size W1 u → (u.cell? ⟨zx, 0, none⟩ = some (.int .u8 (4 : Int)) ∧ u.cell? ⟨zx, 67, none⟩ = some (.string t) ∧ u.cell? ⟨zx, 68, none⟩ = some (.int .i64 n) ∧ u.cell? ⟨zx, 69, none⟩ = some (.string q))) := hid HCELL.out
   obtain ⟨y0, y3, y4, y5⟩ := HCELL.out _ HC.out
   by_cases hdoc : KU deps mk d = true
   rotate_left
   focus
     have HDOC := hid (Bool.eq_false_iff.2 hdoc)
     have HE : Hid (opB deps mk (4, d, a, t, n, q) = false) := hid (by unfold opB; rw [show kj (4 : UInt8) = some (true, false, false, false, true) from rfl]; simp [ki, hdoc])
     clear hdoc
   rotate_right
   have HDOC := hid hdoc
   by_cases ht : t = kc
   rotate_left
   focus
     have et : t.toList.isEmpty = false := by rw [kx]; exact dF ht
     have HE : Hid (opB deps mk (4, d, a, t, n, q) = false) := hid (by unfold opB; rw [show kj (4 : UInt8) = some (true, false, false, false, true) from rfl]; simp [ki, hdoc, ht])
     clear hdoc ht
   rotate_right
   have et : t.toList.isEmpty = true := by rw [kx]; exact dT ht
   by_cases hc : n = 0
   rotate_left
   focus
     have ec : (n != 0) = true := by simpa [bne, beq_eq_false_iff_ne] using hc
     have HE : Hid (opB deps mk (4, d, a, t, n, q) = false) := hid (by unfold opB; rw [show kj (4 : UInt8) = some (true, false, false, false, true) from rfl]; simp [ki, hdoc, ht, hc])
     clear hdoc ht hc
   rotate_right
   have ec : (n != 0) = false := by rw [hc]; rfl
   by_cases haz : a = kd
   rotate_left
   focus
     have EQA := hid (fun (u : World) => (kR HX.out.1.2.1 kp u).trans (by rw [dF haz]))
     have HE : Hid (opB deps mk (4, d, a, t, n, q) = false) := hid (by unfold opB; rw [show kj (4 : UInt8) = some (true, false, false, false, true) from rfl]; simp [ki, hdoc, ht, hc, haz])
     clear hdoc ht hc haz
   rotate_right
   have EQA := hid (fun (u : World) => (kR HX.out.1.2.1 kp u).trans (by rw [dT haz]))
   by_cases hpath : jK q = true
   rotate_left
   focus
     have HPATH := hid (Bool.eq_false_iff.2 hpath)
     have HE : Hid (opB deps mk (4, d, a, t, n, q) = false) := hid (by unfold opB; rw [show kj (4 : UInt8) = some (true, false, false, false, true) from rfl]; simp [ki, hdoc, ht, hc, haz, hpath])
     clear hdoc ht hc haz hpath
   rotate_right
   have HPATH := hid hpath
   ·
    have HE : Hid (opB deps mk (4, d, a, t, n, q) = true) := hid (by unfold opB; rw [show kj (4 : UInt8) = some (true, false, false, false, true) from rfl]; simp [ki, hdoc, ht, hc, haz, hpath])
    clear hdoc ht hc haz hpath
    go_upto_region 22 with (first
      | (with_reducible refine k7 ?_
         refine k6 (by rfl) (ldR HX.out.1.1 (HD1.out _ HC.out)) ?_)
      | (with_reducible refine k7 ?_
         refine k6 (by rfl) (ldR HX.out.1.2.1 (HA34.out _ HC.out)) ?_)
      | (with_reducible refine k7 ?_
         refine k6 (by rfl) (ldR kp (HZ8.out _ HC.out)) ?_)
      | (go_at_call 107; refine (jk deps mk d A c Am cm _ hn hmn HO.out HM.out HX.out.1.1 hset (HSD.out _ HC.out) (HSK.out _ HC.out)).mono ?_; rintro e w2 ⟨hb2, rfl⟩
         rw [HDOC.out]
         have HC := hid (HC.out.trans (hb2.mono HC.out.size))
         obtain ⟨y0, y3, y4, y5⟩ := HCELL.out _ HC.out
         clear hb2)
      | (with_reducible refine kC ?_
         refine k6 (by rfl) (kN 68 _ _ _ rfl (xs := (ke a).toArray) (ys := (ke kd).toArray) rfl rfl (r := true) eqRef.noGuard (EQA.out _)) ?_
         go_frame; try simp only [nTF])
      | (go_at_call 108; refine (Z7 q _ HX.out.2.2).mono ?_; rintro e w4 ⟨hb4, rfl⟩
         rw [HPATH.out]
         have HC := hid (HC.out.trans (hb4.mono HC.out.size))
         obtain ⟨y0, y3, y4, y5⟩ := HCELL.out _ HC.out
         clear hb4))
    have y0w := Wg.cell y0 (qL HLX.out HC.out.size)
    clear y0 y3 y4 y5
    try go_frame
    refine kL (by kernel_rfl) (by kernel_rfl) ?_
    repeat (first
      | go_big_quiet_skip
      | (go_big_quiet_want
         first
           | (go_big_quiet_op
              first
                | go_big_quiet_on
                | go_big_quiet_call (first | (fail)))))
    refine wpQuiet_nil ?_
    rintro w' ⟨kk, rfl⟩
    have hk9 := kk.2
    generalize kk.val = w9 at *
    clear kk
    have HC := hid (HC.out.trans (hk9.below.mono HC.out.size))
    clear hk9
    go_wp2_with fail
    go_ret2
    have HMLN : Hid (zj (4, d, a, t, n, q) = []) := hid rfl
    have HML : Hid (mk.length + (zj (4, d, a, t, n, q)).length = mk.length) := hid rfl
    exact ⟨(HBW.out.mono hbs).trans (HC.out.mono (qT hbs HBW.out.size)), fun h => absurd (HE.out.symm.trans h) (by decide), fun _ => ⟨Am, cm, by rw [HML.out]; rfl, by rw [HML.out, HMLN.out, List.append_nil]; exact (But.of_below (X := NoB) (HBW.out.trans (HC.out.mono HBW.out.size))).own HOW.out fun _ _ q => q⟩⟩
   all_goals
     go_wp2_with (first
       | (with_reducible refine k7 ?_
          refine k6 (by rfl) (ldR HX.out.1.1 (HD1.out _ HC.out)) ?_)
       | (with_reducible refine k7 ?_
          refine k6 (by rfl) (ldR HX.out.1.2.1 (HA34.out _ HC.out)) ?_)
       | (with_reducible refine k7 ?_
          refine k6 (by rfl) (ldR kp (HZ8.out _ HC.out)) ?_)
       | (go_at_call 107; refine (jk deps mk d A c Am cm _ hn hmn HO.out HM.out HX.out.1.1 hset (HSD.out _ HC.out) (HSK.out _ HC.out)).mono ?_; rintro e w2 ⟨hb2, rfl⟩
          rw [HDOC.out]
          have HC := hid (HC.out.trans (hb2.mono HC.out.size))
          obtain ⟨y0, y3, y4, y5⟩ := HCELL.out _ HC.out
          clear hb2)
       | (with_reducible refine kC ?_
          refine k6 (by rfl) (kN 68 _ _ _ rfl (xs := (ke a).toArray) (ys := (ke kd).toArray) rfl rfl (r := _) eqRef.noGuard (EQA.out _)) ?_
          go_frame; try simp only [nTF])
       | (go_at_call 108; refine (Z7 q _ HX.out.2.2).mono ?_; rintro e w4 ⟨hb4, rfl⟩
          rw [HPATH.out]
          have HC := hid (HC.out.trans (hb4.mono HC.out.size))
          obtain ⟨y0, y3, y4, y5⟩ := HCELL.out _ HC.out
          clear hb4))
     go_ret2
     exact ⟨(HBW.out.mono hbs).trans (HC.out.mono (qT hbs HBW.out.size)), fun _ => ⟨_, rfl⟩, fun h => absurd (HE.out.symm.trans h) (by decide)⟩
  by_cases h3 : k = 3
  ·
   subst h3
   have HCELL : Hid (∀ (u : World), Below W1.heap.size W1 u → (u.cell? ⟨zx, 0, none⟩ = some (.int .u8 (3 : Int)) ∧ u.cell? ⟨zx, 67, none⟩ = some (.string t) ∧ u.cell? ⟨zx, 68, none⟩ = some (.int .i64 n) ∧ u.cell? ⟨zx, 69, none⟩ = some (.string q))) := hid HCELL.out
   obtain ⟨y0, y3, y4, y5⟩ := HCELL.out _ HC.out
   by_cases hdz : d = kd
   rotate_left
   focus
     have EQD := hid (fun (u : World) => (kR HX.out.1.1 kp u).trans (by rw [dF hdz]))
     have HE : Hid (opB deps mk (3, d, a, t, n, q) = false) := hid (by unfold opB; rw [show kj (3 : UInt8) = some (false, false, false, false, true) from rfl]; simp [ki, hdz])
     clear hdz
   rotate_right
   have EQD := hid (fun (u : World) => (kR HX.out.1.1 kp u).trans (by rw [dT hdz]))
   by_cases ht : t = kc
   rotate_left
   focus
     have et : t.toList.isEmpty = false := by rw [kx]; exact dF ht
     have HE : Hid (opB deps mk (3, d, a, t, n, q) = false) := hid (by unfold opB; rw [show kj (3 : UInt8) = some (false, false, false, false, true) from rfl]; simp [ki, hdz, ht])
     clear hdz ht
   rotate_right
   have et : t.toList.isEmpty = true := by rw [kx]; exact dT ht
   by_cases hc : n = 0
   rotate_left
   focus
     have ec : (n != 0) = true := by simpa [bne, beq_eq_false_iff_ne] using hc
     have HE : Hid (opB deps mk (3, d, a, t, n, q) = false) := hid (by unfold opB; rw [show kj (3 : UInt8) = some (false, false, false, false, true) from rfl]; simp [ki, hdz, ht, hc])
     clear hdz ht hc
   rotate_right
   have ec : (n != 0) = false := by rw [hc]; rfl
   by_cases haz : a = kd
   rotate_left
   focus
     have EQA := hid (fun (u : World) => (kR HX.out.1.2.1 kp u).trans (by rw [dF haz]))
     have HE : Hid (opB deps mk (3, d, a, t, n, q) = false) := hid (by unfold opB; rw [show kj (3 : UInt8) = some (false, false, false, false, true) from rfl]; simp [ki, hdz, ht, hc, haz])
     clear hdz ht hc haz
   rotate_right
   have EQA := hid (fun (u : World) => (kR HX.out.1.2.1 kp u).trans (by rw [dT haz]))
   by_cases hpath : jK q = true
   rotate_left
   focus
     have HPATH := hid (Bool.eq_false_iff.2 hpath)
     have HE : Hid (opB deps mk (3, d, a, t, n, q) = false) := hid (by unfold opB; rw [show kj (3 : UInt8) = some (false, false, false, false, true) from rfl]; simp [ki, hdz, ht, hc, haz, hpath])
     clear hdz ht hc haz hpath
   rotate_right
   have HPATH := hid hpath
   ·
    have HE : Hid (opB deps mk (3, d, a, t, n, q) = true) := hid (by unfold opB; rw [show kj (3 : UInt8) = some (false, false, false, false, true) from rfl]; simp [ki, hdz, ht, hc, haz, hpath])
    clear hdz ht hc haz hpath
    go_wp2_with (first
      | (with_reducible refine k7 ?_
         refine k6 (by rfl) (ldR HX.out.1.1 (HD1.out _ HC.out)) ?_)
      | (with_reducible refine k7 ?_
         refine k6 (by rfl) (ldR HX.out.1.2.1 (HA34.out _ HC.out)) ?_)
      | (with_reducible refine k7 ?_
         refine k6 (by rfl) (ldR kp (HZ8.out _ HC.out)) ?_)
      | (with_reducible refine kC ?_
         refine k6 (by rfl) (kN 68 _ _ _ rfl (xs := (ke d).toArray) (ys := (ke kd).toArray) rfl rfl (r := true) eqRef.noGuard (EQD.out _)) ?_
         go_frame; try simp only [nTF])
      | (with_reducible refine kC ?_
         refine k6 (by rfl) (kN 68 _ _ _ rfl (xs := (ke a).toArray) (ys := (ke kd).toArray) rfl rfl (r := true) eqRef.noGuard (EQA.out _)) ?_
         go_frame; try simp only [nTF])
      | (go_at_call 108; refine (Z7 q _ HX.out.2.2).mono ?_; rintro e w4 ⟨hb4, rfl⟩
         rw [HPATH.out]
         have HC := hid (HC.out.trans (hb4.mono HC.out.size))
         obtain ⟨y0, y3, y4, y5⟩ := HCELL.out _ HC.out
         clear hb4)
      | (with_reducible refine kQ ?_
         refine k6 (by rfl) (kB 166 #[(0, .const (.bool true))] rfl (qg _)) ?_)
      | (refine za (by rfl) 131 _ rfl 166 Tryz.underlying131 (.agg (kE (false, kd)).toArray) 34 48 Jk rfl (by decide) (by decide) (kE (true, kd)) rfl rfl ?_)
      | (at_builtin; refine ua rfl _ _ 131 rfl base 166 (.agg (kE (false, kd)).toArray) 34 48 Tryz.underlying131 Jk rfl (by decide) (.slice Am mk.length cm) mk.length (jb kE mk) rfl ((But.of_below (X := NoB) (HBW.out.trans (HC.out.mono HBW.out.size))).own HOW.out fun _ _ q => q) (kE (true, kd)) 166 rfl rfl (Jf _) (by unfold maxLen; omega) (by omega) (qT hbs (qT HBW.out.size HC.out.size)) ?_
         intro v9 w9 ho9 hgr9
         obtain ⟨A9, c9, rfl⟩ := kg ho9
         have HO9 := hid ho9
         have HB9 := hid (hgr9 base w (qR _) ((HBW.out.mono hbs).trans (HC.out.mono (qT hbs HBW.out.size))))
         clear ho9 hgr9))
    go_ret2
    exact ⟨HB9.out, fun h => absurd (HE.out.symm.trans h) (by decide), fun _ => ⟨A9, c9, rfl, by
      rw [show zj (3, d, a, t, n, q) = [(true, kd)] from rfl, Zk]
      exact HO9.out⟩⟩
   all_goals
     go_wp2_with (first
       | (with_reducible refine k7 ?_
          refine k6 (by rfl) (ldR HX.out.1.1 (HD1.out _ HC.out)) ?_)
       | (with_reducible refine k7 ?_
          refine k6 (by rfl) (ldR HX.out.1.2.1 (HA34.out _ HC.out)) ?_)
       | (with_reducible refine k7 ?_
          refine k6 (by rfl) (ldR kp (HZ8.out _ HC.out)) ?_)
       | (with_reducible refine kC ?_
          refine k6 (by rfl) (kN 68 _ _ _ rfl (xs := (ke d).toArray) (ys := (ke kd).toArray) rfl rfl (r := _) eqRef.noGuard (EQD.out _)) ?_
          go_frame; try simp only [nTF])
       | (with_reducible refine kC ?_
          refine k6 (by rfl) (kN 68 _ _ _ rfl (xs := (ke a).toArray) (ys := (ke kd).toArray) rfl rfl (r := _) eqRef.noGuard (EQA.out _)) ?_
          go_frame; try simp only [nTF])
       | (go_at_call 108; refine (Z7 q _ HX.out.2.2).mono ?_; rintro e w4 ⟨hb4, rfl⟩
          rw [HPATH.out]
          have HC := hid (HC.out.trans (hb4.mono HC.out.size))
          obtain ⟨y0, y3, y4, y5⟩ := HCELL.out _ HC.out
          clear hb4))
     go_ret2
     exact ⟨(HBW.out.mono hbs).trans (HC.out.mono (qT hbs HBW.out.size)), fun _ => ⟨_, rfl⟩, fun h => absurd (HE.out.symm.trans h) (by decide)⟩
  by_cases h2 : k = 2
  ·
   subst h2
   have HCELL : Hid (∀ (u : World), Below W1.heap.size W1 u → (u.cell? ⟨zx, 0, none⟩ = some (.int .u8 (2 : Int)) ∧ u.cell? ⟨zx, 67, none⟩ = some (.string t) ∧ u.cell? ⟨zx, 68, none⟩ = some (.int .i64 n) ∧ u.cell? ⟨zx, 69, none⟩ = some (.string q))) := hid HCELL.out
   obtain ⟨y0, y3, y4, y5⟩ := HCELL.out _ HC.out
   by_cases hdoc : KU deps mk d = true
   rotate_left
   focus
     have HDOC := hid (Bool.eq_false_iff.2 hdoc)
     have HE : Hid (opB deps mk (2, d, a, t, n, q) = false) := hid (by unfold opB; rw [show kj (2 : UInt8) = some (true, true, false, true, false) from rfl]; simp [ki, hdoc])
     clear hdoc
   rotate_right
   have HDOC := hid hdoc
   by_cases ht : t = kc
   rotate_left
   focus
     have et : t.toList.isEmpty = false := by rw [kx]; exact dF ht
     have HE : Hid (opB deps mk (2, d, a, t, n, q) = false) := hid (by unfold opB; rw [show kj (2 : UInt8) = some (true, true, false, true, false) from rfl]; simp [ki, hdoc, ht])
     clear hdoc ht
   rotate_right
   have et : t.toList.isEmpty = true := by rw [kx]; exact dT ht
   by_cases hq : q = kc
   rotate_left
   focus
     have eq : q.toList.isEmpty = false := by rw [kx]; exact dF hq
     have HE : Hid (opB deps mk (2, d, a, t, n, q) = false) := hid (by unfold opB; rw [show kj (2 : UInt8) = some (true, true, false, true, false) from rfl]; simp [ki, hdoc, ht, hq])
     clear hdoc ht hq
   rotate_right
   have eq : q.toList.isEmpty = true := by rw [kx]; exact dT hq
   by_cases hc1 : 1 ≤ n
   rotate_left
   focus
     have ec1 : decide (1 ≤ n) = false := dF hc1
     have HE : Hid (opB deps mk (2, d, a, t, n, q) = false) := hid (by unfold opB; rw [show kj (2 : UInt8) = some (true, true, false, true, false) from rfl]; simp [ki, hdoc, ht, hq, hc1])
     clear hdoc ht hq hc1
   rotate_right
   have ec1 : decide (1 ≤ n) = true := dT hc1
   by_cases hc2 : n ≤ 4096
   rotate_left
   focus
     have ec2 : decide (n ≤ 4096) = false := dF hc2
     have HE : Hid (opB deps mk (2, d, a, t, n, q) = false) := hid (by unfold opB; rw [show kj (2 : UInt8) = some (true, true, false, true, false) from rfl]; simp [ki, hdoc, ht, hq, hc1, hc2])
     clear hdoc ht hq hc1 hc2
   rotate_right
   have ec2 : decide (n ≤ 4096) = true := dT hc2
   by_cases hel : jh deps mk a d n = true
   rotate_left
   focus
     have HEL := hid (Bool.eq_false_iff.2 hel)
     have HELC := hid (fun (u : World) (g1 : Sl u u.heap.size A deps.length 32 (kr deps)) (g2 : Sl u u.heap.size Am mk.length 34 (jb kE mk)) => (show Calls Tryz.prog 109 #[.slice A deps.length c, .slice Am mk.length cm, .agg (ke a).toArray, .agg (ke d).toArray, .int .i64 n] u fun e w' => Below u.heap.size u w' ∧ e = .returned (.bool (jh deps mk a d n)) from by
       obtain ⟨n', hnn⟩ : ∃ n' : Nat, n = (n' : Int) := ⟨n.toNat, by omega⟩
       rw [hnn]
       exact ZH deps mk a d n' A c Am cm u (by omega) (by omega) hn hmn HO.out HM.out HX.out.1.2.1 HX.out.1.1 hset g1 g2))
     have HE : Hid (opB deps mk (2, d, a, t, n, q) = false) := hid (by unfold opB; rw [show kj (2 : UInt8) = some (true, true, false, true, false) from rfl]; simp [ki, hdoc, ht, hq, hc1, hc2, hel])
     clear hdoc ht hq hc1 hc2 hel
   rotate_right
   have HEL := hid hel
   ·
    have HE : Hid (opB deps mk (2, d, a, t, n, q) = true) := hid (by unfold opB; rw [show kj (2 : UInt8) = some (true, true, false, true, false) from rfl]; simp [ki, hdoc, ht, hq, hc1, hc2, hel])
    have HELC := hid (fun (u : World) (g1 : Sl u u.heap.size A deps.length 32 (kr deps)) (g2 : Sl u u.heap.size Am mk.length 34 (jb kE mk)) => (show Calls Tryz.prog 109 #[.slice A deps.length c, .slice Am mk.length cm, .agg (ke a).toArray, .agg (ke d).toArray, .int .i64 n] u fun e w' => Below u.heap.size u w' ∧ e = .returned (.bool (jh deps mk a d n)) from by
      obtain ⟨n', hnn⟩ : ∃ n' : Nat, n = (n' : Int) := ⟨n.toNat, by omega⟩
      rw [hnn]
      exact ZH deps mk a d n' A c Am cm u (by omega) (by omega) hn hmn HO.out HM.out HX.out.1.2.1 HX.out.1.1 hset g1 g2))
    clear hdoc ht hq hc1 hc2 hel
    go_wp2_with (first
      | (with_reducible refine k7 ?_
         refine k6 (by rfl) (ldR HX.out.1.1 (HD1.out _ HC.out)) ?_)
      | (with_reducible refine k7 ?_
         refine k6 (by rfl) (ldR HX.out.1.2.1 (HA34.out _ HC.out)) ?_)
      | (with_reducible refine k7 ?_
         refine k6 (by rfl) (ldR kp (HZ8.out _ HC.out)) ?_)
      | (go_at_call 107; refine (jk deps mk d A c Am cm _ hn hmn HO.out HM.out HX.out.1.1 hset (HSD.out _ HC.out) (HSK.out _ HC.out)).mono ?_; rintro e w2 ⟨hb2, rfl⟩
         rw [HDOC.out]
         have HC := hid (HC.out.trans (hb2.mono HC.out.size))
         obtain ⟨y0, y3, y4, y5⟩ := HCELL.out _ HC.out
         clear hb2)
      | (go_at_call 109; refine (HELC.out _ (HSD.out _ HC.out) (HSK.out _ HC.out)).mono ?_; rintro e w3 ⟨hb3, rfl⟩
         rw [HEL.out]
         have HC := hid (HC.out.trans (hb3.mono HC.out.size))
         obtain ⟨y0, y3, y4, y5⟩ := HCELL.out _ HC.out
         clear hb3))
    go_ret2
    have HMLN : Hid (zj (2, d, a, t, n, q) = []) := hid rfl
    have HML : Hid (mk.length + (zj (2, d, a, t, n, q)).length = mk.length) := hid rfl
    exact ⟨(HBW.out.mono hbs).trans (HC.out.mono (qT hbs HBW.out.size)), fun h => absurd (HE.out.symm.trans h) (by decide), fun _ => ⟨Am, cm, by rw [HML.out]; rfl, by rw [HML.out, HMLN.out, List.append_nil]; exact (But.of_below (X := NoB) (HBW.out.trans (HC.out.mono HBW.out.size))).own HOW.out fun _ _ q => q⟩⟩
   all_goals
     go_wp2_with (first
       | (with_reducible refine k7 ?_
          refine k6 (by rfl) (ldR HX.out.1.1 (HD1.out _ HC.out)) ?_)
       | (with_reducible refine k7 ?_
          refine k6 (by rfl) (ldR HX.out.1.2.1 (HA34.out _ HC.out)) ?_)
       | (with_reducible refine k7 ?_
          refine k6 (by rfl) (ldR kp (HZ8.out _ HC.out)) ?_)
       | (go_at_call 107; refine (jk deps mk d A c Am cm _ hn hmn HO.out HM.out HX.out.1.1 hset (HSD.out _ HC.out) (HSK.out _ HC.out)).mono ?_; rintro e w2 ⟨hb2, rfl⟩
          rw [HDOC.out]
          have HC := hid (HC.out.trans (hb2.mono HC.out.size))
          obtain ⟨y0, y3, y4, y5⟩ := HCELL.out _ HC.out
          clear hb2)
       | (go_at_call 109; refine (HELC.out _ (HSD.out _ HC.out) (HSK.out _ HC.out)).mono ?_; rintro e w3 ⟨hb3, rfl⟩
          rw [HEL.out]
          have HC := hid (HC.out.trans (hb3.mono HC.out.size))
          obtain ⟨y0, y3, y4, y5⟩ := HCELL.out _ HC.out
          clear hb3))
     go_ret2
     exact ⟨(HBW.out.mono hbs).trans (HC.out.mono (qT hbs HBW.out.size)), fun _ => ⟨_, rfl⟩, fun h => absurd (HE.out.symm.trans h) (by decide)⟩
  by_cases h1 : k = 1
  ·
   subst h1
   have HCELL : Hid (∀ (u : World), Below W1.heap.size W1 u → (u.cell? ⟨zx, 0, none⟩ = some (.int .u8 (1 : Int)) ∧ u.cell? ⟨zx, 67, none⟩ = some (.string t) ∧ u.cell? ⟨zx, 68, none⟩ = some (.int .i64 n) ∧ u.cell? ⟨zx, 69, none⟩ = some (.string q))) := hid HCELL.out
   obtain ⟨y0, y3, y4, y5⟩ := HCELL.out _ HC.out
   by_cases hdoc : KU deps mk d = true
   ·
    by_cases hc : n = 0
    ·
     have HDOC := hid hdoc
     have ec : (n != 0) = false := by rw [hc]; rfl
     by_cases hq : q = kc
     ·
      have eq : q.toList.isEmpty = true := by rw [kx]; exact dT hq
      by_cases had : a = d
      ·
       have EQAD := hid (fun (u : World) => (kR HX.out.1.2.1 HX.out.1.1 u).trans (by rw [dT had]))
       by_cases ht : t = kc
       ·
        have et : t.toList.isEmpty = true := by rw [kx]; exact dT ht
        have HE : Hid (opB deps mk (1, d, a, t, n, q) = false) := hid (by unfold opB; rw [show kj (1 : UInt8) = some (true, true, true, false, false) from rfl]; simp [ki, hdoc, hc, hq, had, ht])
        clear hdoc hc hq had ht
        go_wp2_with (first
          | (with_reducible refine k7 ?_
             refine k6 (by rfl) (ldR HX.out.1.1 (HD1.out _ HC.out)) ?_)
          | (with_reducible refine k7 ?_
             refine k6 (by rfl) (ldR HX.out.1.2.1 (HA34.out _ HC.out)) ?_)
          | (with_reducible refine k7 ?_
             refine k6 (by rfl) (ldR kp (HZ8.out _ HC.out)) ?_)
          | (go_at_call 107; refine (jk deps mk d A c Am cm _ hn hmn HO.out HM.out HX.out.1.1 hset (HSD.out _ HC.out) (HSK.out _ HC.out)).mono ?_; rintro e w2 ⟨hb2, rfl⟩
             rw [HDOC.out]
             have HC := hid (HC.out.trans (hb2.mono HC.out.size))
             obtain ⟨y0, y3, y4, y5⟩ := HCELL.out _ HC.out
             clear hb2)
          | (with_reducible refine kC ?_
             refine k6 (by rfl) (kN 68 _ _ _ rfl (xs := (ke a).toArray) (ys := (ke d).toArray) rfl rfl (r := true) eqRef.noGuard (EQAD.out _)) ?_
             go_frame; try simp only [nTF]))
        go_ret2
        exact ⟨(HBW.out.mono hbs).trans (HC.out.mono (qT hbs HBW.out.size)), fun _ => ⟨_, rfl⟩, fun h => absurd (HE.out.symm.trans h) (by decide)⟩
       ·
        have et : t.toList.isEmpty = false := by rw [kx]; exact dF ht
        by_cases hfile : Ki t = true
        ·
         have HFILE := hid (Qb hfile)
         have hts : t.size ≤ 1099511627776 := by have := KK hfile; omega
         have HRN := hid (show zU t ≠ none from runes_ok hfile)
         have HRZ := hid (KK hfile)
         have HE : Hid (opB deps mk (1, d, a, t, n, q) = true) := hid (by unfold opB; rw [show kj (1 : UInt8) = some (true, true, true, false, false) from rfl]; simp [ki, hdoc, hc, hq, had, ht, hfile])
         clear hdoc hc hq had ht hfile
         go_upto_region 13 with (first
           | (with_reducible refine k7 ?_
              refine k6 (by rfl) (ldR HX.out.1.1 (HD1.out _ HC.out)) ?_)
           | (with_reducible refine k7 ?_
              refine k6 (by rfl) (ldR HX.out.1.2.1 (HA34.out _ HC.out)) ?_)
           | (with_reducible refine k7 ?_
              refine k6 (by rfl) (ldR kp (HZ8.out _ HC.out)) ?_)
           | (go_at_call 107; refine (jk deps mk d A c Am cm _ hn hmn HO.out HM.out HX.out.1.1 hset (HSD.out _ HC.out) (HSK.out _ HC.out)).mono ?_; rintro e w2 ⟨hb2, rfl⟩
              rw [HDOC.out]
              have HC := hid (HC.out.trans (hb2.mono HC.out.size))
              obtain ⟨y0, y3, y4, y5⟩ := HCELL.out _ HC.out
              clear hb2)
           | (with_reducible refine kC ?_
              refine k6 (by rfl) (kN 68 _ _ _ rfl (xs := (ke a).toArray) (ys := (ke d).toArray) rfl rfl (r := true) eqRef.noGuard (EQAD.out _)) ?_
              go_frame; try simp only [nTF])
           | (go_at_call 110; refine (Kt t _).mono ?_; rintro e w5 ⟨hb5, rfl⟩
              rw [HFILE.out]
              have HC := hid (HC.out.trans (hb5.mono HC.out.size))
              obtain ⟨y0, y3, y4, y5⟩ := HCELL.out _ HC.out
              clear hb5)
           | (go_at_call 45; refine (Zr t _ hts).mono ?_; rintro e w6 ⟨hb6, hr6⟩
              rcases hr6 with ⟨rl, Ar, cr, hr6, rfl, -⟩ | ⟨hr6, -⟩
              rotate_left
              · exact absurd hr6 HRN.out
              have HRL := hid hr6
              clear hr6
              have HC := hid (HC.out.trans (hb6.mono HC.out.size))
              obtain ⟨y0, y3, y4, y5⟩ := HCELL.out _ HC.out
              clear hb6))
         have HRLN := hid (show rl.length = zH t by unfold zH; rw [HRL.out])
         have hrl : rl.length ≤ 4096 := by have := JJ t; have := HRLN.out; have := HRZ.out; omega
         have HZXW := hzxw
         go_wp2_with fail
         go_loopw [1, 12] (fun t1 t12 wr => ∃ (i : Nat) (Ai : Option Addr) (ci : Nat), i ≤ rl.length ∧ t12 = .int .i64 (i : Int) ∧ t1 = .slice Ai (mk.length + i) ci ∧ Hid (wr.ownsRow base 166 34 (.slice Ai (mk.length + i) ci) (mk.length + i) (jb kE (mk ++ List.replicate i (false, d)))) ∧ Hid (Below base w wr) ∧ Hid (wr.rangeAt zx 1 (ke d)) ∧ Hid (∀ b, (Value.slice Ai (mk.length + i) ci).ownBlock = some b → b ≠ zx) ∧ Hid (zx < wr.heap.size)) (fun _ t12 _ => rl.length - (intOf t12).toNat)
         case atStart =>
           refine ⟨0, Am, cm, Nat.zero_le _, rfl, rfl, hid ?_, hid ((HBW.out.mono hbs).trans (HC.out.mono (qT hbs HBW.out.size))), hid (HD1.out _ HC.out), hid (fun b e h => by have h9 := (HOW.out.lt b e).2; rw [h, ← HZXW.out] at h9; omega), hid (qL HLX.out HC.out.size)⟩
           rw [List.replicate_zero, List.append_nil]
           exact (But.of_below (X := NoB) (HBW.out.trans (HC.out.mono HBW.out.size))).own HOW.out fun _ _ q => q
         case round =>
           obtain ⟨i, Ai, ci, hi, rfl, rfl, HOI, HBI, HDI, HNI, HLI⟩ := hrel
           by_cases hlt : i < rl.length
           ·
            have i1 : (i : Int) < (rl.length : Int) := by omega
            have HBAL := hid (show Below wr.heap.size wr (wr.alloc (.cells (kE (false, d)).toArray 166)) from (qB _ _).alloc (qR _) _)
            have HOA := hid ((But.of_below (X := NoB) HBAL.out).own HOI.out fun _ _ q => q)
            have HBZ := hid (show base ≤ (wr.alloc (.cells (kE (false, d)).toArray 166)).heap.size from qT hbs (qT (qT (show w.heap.size ≤ wr.heap.size from HBI.out.size) (qR _)) HBAL.out.size))
            have HNW := hid (show ∀ j u, (kE (false, d))[j]? = some u → (wr.alloc (.cells (kE (false, d)).toArray 166)).cell? ((⟨wr.heap.size, 0, none⟩ : Addr).add j) = some u from fun j u hj => by
              have e1 : (⟨wr.heap.size, 0, none⟩ : Addr).add j = ⟨wr.heap.size, j, none⟩ := by unfold Addr.add; split <;> simp_all
              rw [e1]
              exact (k5 (heap_alloc_new _ _) j).trans hj)
            go_wp2_with (first
              | (with_reducible refine k7 ?_
                 refine k6 (by rfl) (ldR HX.out.1.1 HDI.out) ?_)
              | (with_reducible refine kQ ?_
                 refine k6 (by rfl) (kB 166 #[(1, .tmp 148)] rfl (by simp only [List.map_toArray, List.map_cons, List.map_nil]; exact Ug (d := d) HX.out.1.1 _)) ?_)
              | (refine za (by rfl) 131 _ rfl 166 Tryz.underlying131 (.agg (kE (false, kd)).toArray) 34 48 Jk rfl (by decide) (by decide) (kE (false, d)) (kV (m := (false, d)) HX.out.1.1) rfl ?_)
              | (at_builtin; refine Jd (by rfl) _ _ 131 rfl base 166 (.agg (kE (false, kd)).toArray) 34 48 Tryz.underlying131 Jk rfl (by decide) (.slice Ai (mk.length + i) ci) (mk.length + i) (jb kE (mk ++ List.replicate i (false, d))) rfl (HOA.out) ⟨wr.heap.size, 0, none⟩ 1 1 (kE (false, d)) rfl (by rw [Nat.one_mul]; exact kV (m := (false, d)) HX.out.1.1) HNW.out (Jf _) (by unfold maxLen; omega) (by omega) HBZ.out ?_
                 intro v9 w9 ho9 hg9 hw9
                 obtain ⟨A9, c9, rfl⟩ := kg ho9
                 have HO9 := hid ho9
                 have HG9 := hid hg9; have HW9 := hid hw9
                 clear ho9 hg9 hw9))
            have HN9 := hid (show ∀ b, (Value.slice A9 (mk.length + i + 1) c9).ownBlock = some b → b ≠ zx from fun b e h => by
              rcases HW9.out with q | ⟨g, q, hz⟩
              · exact HNI.out b (by rw [← q]; exact e) h
              ·
               rw [q] at e
               have h2 : g = b := Option.some.inj e
               have h3 := HLI.out
               have h4 := HBAL.out.size
               omega)
            have HD9 := hid (show w9.rangeAt zx 1 (ke d) from fun j v hj => by
              have h1 := HDI.out j v hj
              have h2 := (HBAL.out.cell (p := ⟨zx, 1 + j, none⟩) HLI.out).trans h1
              unfold World.cell? at h2 ⊢
              rw [HG9.out.block zx (qL HLI.out HBAL.out.size) (fun e => HNI.out zx e.symm rfl)]
              exact h2)
            have HB9 := hid (show Below base w w9 from (HBI.out.trans (HBAL.out.mono (qT hbs HBI.out.size))).grown HG9.out (qT hbs (qT HBI.out.size HBAL.out.size)) (fun k e => (HOI.out.lt k e).1))
            have HL9 := hid (show zx < w9.heap.size from qL HLI.out (qT HBAL.out.size HG9.out.size))
            go_roundw
            case rel => exact ⟨i + 1, A9, c9, by omega, by go_num, rfl, hid (by rw [List.replicate_succ', ← List.append_assoc, Zk, ← Nat.add_assoc]; simpa [jb] using HO9.out), HB9, HD9, HN9, HL9⟩
            case measure => (simp [intOf]) <;> omega
           ·
            have i1 : ¬ (i : Int) < (rl.length : Int) := by omega
            have HIL := hid (show i = zH t by rw [← HRLN.out]; omega)
            have HMB := hid (show zj (1, d, a, t, n, q) = List.replicate (zH t) (false, d) from rfl)
            go_wp2_with fail
            go_ret2
            exact ⟨HBI.out, fun h => absurd (HE.out.symm.trans h) (by decide), fun _ => ⟨Ai, ci, by rw [HMB.out, List.length_replicate, ← HIL.out]; rfl, by rw [HMB.out, List.length_replicate, ← HIL.out]; exact HOI.out⟩⟩
        ·
         obtain ⟨fb, hfb, hfn⟩ := Qc (Bool.eq_false_iff.2 hfile)
         have HFILE := hid hfb
         have efb : (fb != 0) = true := by simpa [bne, beq_eq_false_iff_ne] using hfn
         clear hfb hfn
         have HE : Hid (opB deps mk (1, d, a, t, n, q) = false) := hid (by unfold opB; rw [show kj (1 : UInt8) = some (true, true, true, false, false) from rfl]; simp [ki, hdoc, hc, hq, had, ht, hfile])
         clear hdoc hc hq had ht hfile
         go_wp2_with (first
           | (with_reducible refine k7 ?_
              refine k6 (by rfl) (ldR HX.out.1.1 (HD1.out _ HC.out)) ?_)
           | (with_reducible refine k7 ?_
              refine k6 (by rfl) (ldR HX.out.1.2.1 (HA34.out _ HC.out)) ?_)
           | (with_reducible refine k7 ?_
              refine k6 (by rfl) (ldR kp (HZ8.out _ HC.out)) ?_)
           | (go_at_call 107; refine (jk deps mk d A c Am cm _ hn hmn HO.out HM.out HX.out.1.1 hset (HSD.out _ HC.out) (HSK.out _ HC.out)).mono ?_; rintro e w2 ⟨hb2, rfl⟩
              rw [HDOC.out]
              have HC := hid (HC.out.trans (hb2.mono HC.out.size))
              obtain ⟨y0, y3, y4, y5⟩ := HCELL.out _ HC.out
              clear hb2)
           | (with_reducible refine kC ?_
              refine k6 (by rfl) (kN 68 _ _ _ rfl (xs := (ke a).toArray) (ys := (ke d).toArray) rfl rfl (r := true) eqRef.noGuard (EQAD.out _)) ?_
              go_frame; try simp only [nTF])
           | (go_at_call 110; refine (Kt t _).mono ?_; rintro e w5 ⟨hb5, rfl⟩
              rw [HFILE.out]
              have HC := hid (HC.out.trans (hb5.mono HC.out.size))
              obtain ⟨y0, y3, y4, y5⟩ := HCELL.out _ HC.out
              clear hb5))
         go_ret2
         exact ⟨(HBW.out.mono hbs).trans (HC.out.mono (qT hbs HBW.out.size)), fun _ => ⟨_, rfl⟩, fun h => absurd (HE.out.symm.trans h) (by decide)⟩
      ·
       have EQAD := hid (fun (u : World) => (kR HX.out.1.2.1 HX.out.1.1 u).trans (by rw [dF had]))
       have HELC := hid (fun (u : World) (g1 : Sl u u.heap.size A deps.length 32 (kr deps)) (g2 : Sl u u.heap.size Am mk.length 34 (jb kE mk)) => (show Calls Tryz.prog 109 #[.slice A deps.length c, .slice Am mk.length cm, .agg (ke a).toArray, .agg (ke d).toArray, .int .i64 1] u fun e w' => Below u.heap.size u w' ∧ e = .returned (.bool (jh deps mk a d 1)) from
         ZH deps mk a d 1 A c Am cm u (by omega) (by omega) hn hmn HO.out HM.out HX.out.1.2.1 HX.out.1.1 hset g1 g2))
       by_cases hel1 : jh deps mk a d 1 = true
       ·
        have HEL := hid hel1
        by_cases ht : t = kc
        ·
         have et : t.toList.isEmpty = true := by rw [kx]; exact dT ht
         have HE : Hid (opB deps mk (1, d, a, t, n, q) = false) := hid (by unfold opB; rw [show kj (1 : UInt8) = some (true, true, true, false, false) from rfl]; simp [ki, hdoc, hc, hq, had, hel1, ht])
         clear hdoc hc hq had hel1 ht
         go_wp2_with (first
           | (with_reducible refine k7 ?_
              refine k6 (by rfl) (ldR HX.out.1.1 (HD1.out _ HC.out)) ?_)
           | (with_reducible refine k7 ?_
              refine k6 (by rfl) (ldR HX.out.1.2.1 (HA34.out _ HC.out)) ?_)
           | (with_reducible refine k7 ?_
              refine k6 (by rfl) (ldR kp (HZ8.out _ HC.out)) ?_)
           | (go_at_call 107; refine (jk deps mk d A c Am cm _ hn hmn HO.out HM.out HX.out.1.1 hset (HSD.out _ HC.out) (HSK.out _ HC.out)).mono ?_; rintro e w2 ⟨hb2, rfl⟩
              rw [HDOC.out]
              have HC := hid (HC.out.trans (hb2.mono HC.out.size))
              obtain ⟨y0, y3, y4, y5⟩ := HCELL.out _ HC.out
              clear hb2)
           | (with_reducible refine kC ?_
              refine k6 (by rfl) (kN 68 _ _ _ rfl (xs := (ke a).toArray) (ys := (ke d).toArray) rfl rfl (r := false) eqRef.noGuard (EQAD.out _)) ?_
              go_frame; try simp only [nTF])
           | (go_at_call 109; refine (HELC.out _ (HSD.out _ HC.out) (HSK.out _ HC.out)).mono ?_; rintro e w3 ⟨hb3, rfl⟩
              rw [HEL.out]
              have HC := hid (HC.out.trans (hb3.mono HC.out.size))
              obtain ⟨y0, y3, y4, y5⟩ := HCELL.out _ HC.out
              clear hb3))
         go_ret2
         exact ⟨(HBW.out.mono hbs).trans (HC.out.mono (qT hbs HBW.out.size)), fun _ => ⟨_, rfl⟩, fun h => absurd (HE.out.symm.trans h) (by decide)⟩
        ·
         have et : t.toList.isEmpty = false := by rw [kx]; exact dF ht
         by_cases hfile : Ki t = true
         ·
          have HFILE := hid (Qb hfile)
          have hts : t.size ≤ 1099511627776 := by have := KK hfile; omega
          have HRN := hid (show zU t ≠ none from runes_ok hfile)
          have HRZ := hid (KK hfile)
          have HE : Hid (opB deps mk (1, d, a, t, n, q) = true) := hid (by unfold opB; rw [show kj (1 : UInt8) = some (true, true, true, false, false) from rfl]; simp [ki, hdoc, hc, hq, had, hel1, ht, hfile])
          clear hdoc hc hq had hel1 ht hfile
          go_upto_region 13 with (first
            | (with_reducible refine k7 ?_
               refine k6 (by rfl) (ldR HX.out.1.1 (HD1.out _ HC.out)) ?_)
            | (with_reducible refine k7 ?_
               refine k6 (by rfl) (ldR HX.out.1.2.1 (HA34.out _ HC.out)) ?_)
            | (with_reducible refine k7 ?_
               refine k6 (by rfl) (ldR kp (HZ8.out _ HC.out)) ?_)
            | (go_at_call 107; refine (jk deps mk d A c Am cm _ hn hmn HO.out HM.out HX.out.1.1 hset (HSD.out _ HC.out) (HSK.out _ HC.out)).mono ?_; rintro e w2 ⟨hb2, rfl⟩
               rw [HDOC.out]
               have HC := hid (HC.out.trans (hb2.mono HC.out.size))
               obtain ⟨y0, y3, y4, y5⟩ := HCELL.out _ HC.out
               clear hb2)
            | (with_reducible refine kC ?_
               refine k6 (by rfl) (kN 68 _ _ _ rfl (xs := (ke a).toArray) (ys := (ke d).toArray) rfl rfl (r := false) eqRef.noGuard (EQAD.out _)) ?_
               go_frame; try simp only [nTF])
            | (go_at_call 109; refine (HELC.out _ (HSD.out _ HC.out) (HSK.out _ HC.out)).mono ?_; rintro e w3 ⟨hb3, rfl⟩
               rw [HEL.out]
               have HC := hid (HC.out.trans (hb3.mono HC.out.size))
               obtain ⟨y0, y3, y4, y5⟩ := HCELL.out _ HC.out
               clear hb3)
            | (go_at_call 110; refine (Kt t _).mono ?_; rintro e w5 ⟨hb5, rfl⟩
               rw [HFILE.out]
               have HC := hid (HC.out.trans (hb5.mono HC.out.size))
               obtain ⟨y0, y3, y4, y5⟩ := HCELL.out _ HC.out
               clear hb5)
            | (go_at_call 45; refine (Zr t _ hts).mono ?_; rintro e w6 ⟨hb6, hr6⟩
               rcases hr6 with ⟨rl, Ar, cr, hr6, rfl, -⟩ | ⟨hr6, -⟩
               rotate_left
               · exact absurd hr6 HRN.out
               have HRL := hid hr6
               clear hr6
               have HC := hid (HC.out.trans (hb6.mono HC.out.size))
               obtain ⟨y0, y3, y4, y5⟩ := HCELL.out _ HC.out
               clear hb6))
          have HRLN := hid (show rl.length = zH t by unfold zH; rw [HRL.out])
          have hrl : rl.length ≤ 4096 := by have := JJ t; have := HRLN.out; have := HRZ.out; omega
          have HZXW := hzxw
          go_wp2_with fail
          go_loopw [1, 12] (fun t1 t12 wr => ∃ (i : Nat) (Ai : Option Addr) (ci : Nat), i ≤ rl.length ∧ t12 = .int .i64 (i : Int) ∧ t1 = .slice Ai (mk.length + i) ci ∧ Hid (wr.ownsRow base 166 34 (.slice Ai (mk.length + i) ci) (mk.length + i) (jb kE (mk ++ List.replicate i (false, d)))) ∧ Hid (Below base w wr) ∧ Hid (wr.rangeAt zx 1 (ke d)) ∧ Hid (∀ b, (Value.slice Ai (mk.length + i) ci).ownBlock = some b → b ≠ zx) ∧ Hid (zx < wr.heap.size)) (fun _ t12 _ => rl.length - (intOf t12).toNat)
          case atStart =>
            refine ⟨0, Am, cm, Nat.zero_le _, rfl, rfl, hid ?_, hid ((HBW.out.mono hbs).trans (HC.out.mono (qT hbs HBW.out.size))), hid (HD1.out _ HC.out), hid (fun b e h => by have h9 := (HOW.out.lt b e).2; rw [h, ← HZXW.out] at h9; omega), hid (qL HLX.out HC.out.size)⟩
            rw [List.replicate_zero, List.append_nil]
            exact (But.of_below (X := NoB) (HBW.out.trans (HC.out.mono HBW.out.size))).own HOW.out fun _ _ q => q
          case round =>
            obtain ⟨i, Ai, ci, hi, rfl, rfl, HOI, HBI, HDI, HNI, HLI⟩ := hrel
            by_cases hlt : i < rl.length
            ·
             have i1 : (i : Int) < (rl.length : Int) := by omega
             have HBAL := hid (show Below wr.heap.size wr (wr.alloc (.cells (kE (false, d)).toArray 166)) from (qB _ _).alloc (qR _) _)
             have HOA := hid ((But.of_below (X := NoB) HBAL.out).own HOI.out fun _ _ q => q)
             have HBZ := hid (show base ≤ (wr.alloc (.cells (kE (false, d)).toArray 166)).heap.size from qT hbs (qT (qT (show w.heap.size ≤ wr.heap.size from HBI.out.size) (qR _)) HBAL.out.size))
             have HNW := hid (show ∀ j u, (kE (false, d))[j]? = some u → (wr.alloc (.cells (kE (false, d)).toArray 166)).cell? ((⟨wr.heap.size, 0, none⟩ : Addr).add j) = some u from fun j u hj => by
               have e1 : (⟨wr.heap.size, 0, none⟩ : Addr).add j = ⟨wr.heap.size, j, none⟩ := by unfold Addr.add; split <;> simp_all
               rw [e1]
               exact (k5 (heap_alloc_new _ _) j).trans hj)
             go_wp2_with (first
               | (with_reducible refine k7 ?_
                  refine k6 (by rfl) (ldR HX.out.1.1 HDI.out) ?_)
               | (with_reducible refine kQ ?_
                  refine k6 (by rfl) (kB 166 #[(1, .tmp 148)] rfl (by simp only [List.map_toArray, List.map_cons, List.map_nil]; exact Ug (d := d) HX.out.1.1 _)) ?_)
               | (refine za (by rfl) 131 _ rfl 166 Tryz.underlying131 (.agg (kE (false, kd)).toArray) 34 48 Jk rfl (by decide) (by decide) (kE (false, d)) (kV (m := (false, d)) HX.out.1.1) rfl ?_)
               | (at_builtin; refine Jd (by rfl) _ _ 131 rfl base 166 (.agg (kE (false, kd)).toArray) 34 48 Tryz.underlying131 Jk rfl (by decide) (.slice Ai (mk.length + i) ci) (mk.length + i) (jb kE (mk ++ List.replicate i (false, d))) rfl (HOA.out) ⟨wr.heap.size, 0, none⟩ 1 1 (kE (false, d)) rfl (by rw [Nat.one_mul]; exact kV (m := (false, d)) HX.out.1.1) HNW.out (Jf _) (by unfold maxLen; omega) (by omega) HBZ.out ?_
                  intro v9 w9 ho9 hg9 hw9
                  obtain ⟨A9, c9, rfl⟩ := kg ho9
                  have HO9 := hid ho9
                  have HG9 := hid hg9; have HW9 := hid hw9
                  clear ho9 hg9 hw9))
             have HN9 := hid (show ∀ b, (Value.slice A9 (mk.length + i + 1) c9).ownBlock = some b → b ≠ zx from fun b e h => by
               rcases HW9.out with q | ⟨g, q, hz⟩
               · exact HNI.out b (by rw [← q]; exact e) h
               ·
                rw [q] at e
                have h2 : g = b := Option.some.inj e
                have h3 := HLI.out
                have h4 := HBAL.out.size
                omega)
             have HD9 := hid (show w9.rangeAt zx 1 (ke d) from fun j v hj => by
               have h1 := HDI.out j v hj
               have h2 := (HBAL.out.cell (p := ⟨zx, 1 + j, none⟩) HLI.out).trans h1
               unfold World.cell? at h2 ⊢
               rw [HG9.out.block zx (qL HLI.out HBAL.out.size) (fun e => HNI.out zx e.symm rfl)]
               exact h2)
             have HB9 := hid (show Below base w w9 from (HBI.out.trans (HBAL.out.mono (qT hbs HBI.out.size))).grown HG9.out (qT hbs (qT HBI.out.size HBAL.out.size)) (fun k e => (HOI.out.lt k e).1))
             have HL9 := hid (show zx < w9.heap.size from qL HLI.out (qT HBAL.out.size HG9.out.size))
             go_roundw
             case rel => exact ⟨i + 1, A9, c9, by omega, by go_num, rfl, hid (by rw [List.replicate_succ', ← List.append_assoc, Zk, ← Nat.add_assoc]; simpa [jb] using HO9.out), HB9, HD9, HN9, HL9⟩
             case measure => (simp [intOf]) <;> omega
            ·
             have i1 : ¬ (i : Int) < (rl.length : Int) := by omega
             have HIL := hid (show i = zH t by rw [← HRLN.out]; omega)
             have HMB := hid (show zj (1, d, a, t, n, q) = List.replicate (zH t) (false, d) from rfl)
             go_wp2_with fail
             go_ret2
             exact ⟨HBI.out, fun h => absurd (HE.out.symm.trans h) (by decide), fun _ => ⟨Ai, ci, by rw [HMB.out, List.length_replicate, ← HIL.out]; rfl, by rw [HMB.out, List.length_replicate, ← HIL.out]; exact HOI.out⟩⟩
         ·
          obtain ⟨fb, hfb, hfn⟩ := Qc (Bool.eq_false_iff.2 hfile)
          have HFILE := hid hfb
          have efb : (fb != 0) = true := by simpa [bne, beq_eq_false_iff_ne] using hfn
          clear hfb hfn
          have HE : Hid (opB deps mk (1, d, a, t, n, q) = false) := hid (by unfold opB; rw [show kj (1 : UInt8) = some (true, true, true, false, false) from rfl]; simp [ki, hdoc, hc, hq, had, hel1, ht, hfile])
          clear hdoc hc hq had hel1 ht hfile
          go_wp2_with (first
            | (with_reducible refine k7 ?_
               refine k6 (by rfl) (ldR HX.out.1.1 (HD1.out _ HC.out)) ?_)
            | (with_reducible refine k7 ?_
               refine k6 (by rfl) (ldR HX.out.1.2.1 (HA34.out _ HC.out)) ?_)
            | (with_reducible refine k7 ?_
               refine k6 (by rfl) (ldR kp (HZ8.out _ HC.out)) ?_)
            | (go_at_call 107; refine (jk deps mk d A c Am cm _ hn hmn HO.out HM.out HX.out.1.1 hset (HSD.out _ HC.out) (HSK.out _ HC.out)).mono ?_; rintro e w2 ⟨hb2, rfl⟩
               rw [HDOC.out]
               have HC := hid (HC.out.trans (hb2.mono HC.out.size))
               obtain ⟨y0, y3, y4, y5⟩ := HCELL.out _ HC.out
               clear hb2)
            | (with_reducible refine kC ?_
               refine k6 (by rfl) (kN 68 _ _ _ rfl (xs := (ke a).toArray) (ys := (ke d).toArray) rfl rfl (r := false) eqRef.noGuard (EQAD.out _)) ?_
               go_frame; try simp only [nTF])
            | (go_at_call 109; refine (HELC.out _ (HSD.out _ HC.out) (HSK.out _ HC.out)).mono ?_; rintro e w3 ⟨hb3, rfl⟩
               rw [HEL.out]
               have HC := hid (HC.out.trans (hb3.mono HC.out.size))
               obtain ⟨y0, y3, y4, y5⟩ := HCELL.out _ HC.out
               clear hb3)
            | (go_at_call 110; refine (Kt t _).mono ?_; rintro e w5 ⟨hb5, rfl⟩
               rw [HFILE.out]
               have HC := hid (HC.out.trans (hb5.mono HC.out.size))
               obtain ⟨y0, y3, y4, y5⟩ := HCELL.out _ HC.out
               clear hb5))
          go_ret2
          exact ⟨(HBW.out.mono hbs).trans (HC.out.mono (qT hbs HBW.out.size)), fun _ => ⟨_, rfl⟩, fun h => absurd (HE.out.symm.trans h) (by decide)⟩
       ·
        have HEL := hid (Bool.eq_false_iff.2 hel1)
        have HE : Hid (opB deps mk (1, d, a, t, n, q) = false) := hid (by unfold opB; rw [show kj (1 : UInt8) = some (true, true, true, false, false) from rfl]; simp [ki, hdoc, hc, hq, had, hel1])
        clear hdoc hc hq had hel1
        go_wp2_with (first
          | (with_reducible refine k7 ?_
             refine k6 (by rfl) (ldR HX.out.1.1 (HD1.out _ HC.out)) ?_)
          | (with_reducible refine k7 ?_
             refine k6 (by rfl) (ldR HX.out.1.2.1 (HA34.out _ HC.out)) ?_)
          | (with_reducible refine k7 ?_
             refine k6 (by rfl) (ldR kp (HZ8.out _ HC.out)) ?_)
          | (go_at_call 107; refine (jk deps mk d A c Am cm _ hn hmn HO.out HM.out HX.out.1.1 hset (HSD.out _ HC.out) (HSK.out _ HC.out)).mono ?_; rintro e w2 ⟨hb2, rfl⟩
             rw [HDOC.out]
             have HC := hid (HC.out.trans (hb2.mono HC.out.size))
             obtain ⟨y0, y3, y4, y5⟩ := HCELL.out _ HC.out
             clear hb2)
          | (with_reducible refine kC ?_
             refine k6 (by rfl) (kN 68 _ _ _ rfl (xs := (ke a).toArray) (ys := (ke d).toArray) rfl rfl (r := false) eqRef.noGuard (EQAD.out _)) ?_
             go_frame; try simp only [nTF])
          | (go_at_call 109; refine (HELC.out _ (HSD.out _ HC.out) (HSK.out _ HC.out)).mono ?_; rintro e w3 ⟨hb3, rfl⟩
             rw [HEL.out]
             have HC := hid (HC.out.trans (hb3.mono HC.out.size))
             obtain ⟨y0, y3, y4, y5⟩ := HCELL.out _ HC.out
             clear hb3))
        go_ret2
        exact ⟨(HBW.out.mono hbs).trans (HC.out.mono (qT hbs HBW.out.size)), fun _ => ⟨_, rfl⟩, fun h => absurd (HE.out.symm.trans h) (by decide)⟩
     ·
      have eq : q.toList.isEmpty = false := by rw [kx]; exact dF hq
      have HE : Hid (opB deps mk (1, d, a, t, n, q) = false) := hid (by unfold opB; rw [show kj (1 : UInt8) = some (true, true, true, false, false) from rfl]; simp [ki, hdoc, hc, hq])
      clear hdoc hc hq
      go_wp2_with (first
        | (with_reducible refine k7 ?_
           refine k6 (by rfl) (ldR HX.out.1.1 (HD1.out _ HC.out)) ?_)
        | (with_reducible refine k7 ?_
           refine k6 (by rfl) (ldR HX.out.1.2.1 (HA34.out _ HC.out)) ?_)
        | (with_reducible refine k7 ?_
           refine k6 (by rfl) (ldR kp (HZ8.out _ HC.out)) ?_)
        | (go_at_call 107; refine (jk deps mk d A c Am cm _ hn hmn HO.out HM.out HX.out.1.1 hset (HSD.out _ HC.out) (HSK.out _ HC.out)).mono ?_; rintro e w2 ⟨hb2, rfl⟩
           rw [HDOC.out]
           have HC := hid (HC.out.trans (hb2.mono HC.out.size))
           obtain ⟨y0, y3, y4, y5⟩ := HCELL.out _ HC.out
           clear hb2))
      go_ret2
      exact ⟨(HBW.out.mono hbs).trans (HC.out.mono (qT hbs HBW.out.size)), fun _ => ⟨_, rfl⟩, fun h => absurd (HE.out.symm.trans h) (by decide)⟩
    ·
     have HDOC := hid hdoc
     have ec : (n != 0) = true := by simpa [bne, beq_eq_false_iff_ne] using hc
     have HE : Hid (opB deps mk (1, d, a, t, n, q) = false) := hid (by unfold opB; rw [show kj (1 : UInt8) = some (true, true, true, false, false) from rfl]; simp [ki, hdoc, hc])
     clear hdoc hc
     go_wp2_with (first
       | (with_reducible refine k7 ?_
          refine k6 (by rfl) (ldR HX.out.1.1 (HD1.out _ HC.out)) ?_)
       | (with_reducible refine k7 ?_
          refine k6 (by rfl) (ldR HX.out.1.2.1 (HA34.out _ HC.out)) ?_)
       | (with_reducible refine k7 ?_
          refine k6 (by rfl) (ldR kp (HZ8.out _ HC.out)) ?_)
       | (go_at_call 107; refine (jk deps mk d A c Am cm _ hn hmn HO.out HM.out HX.out.1.1 hset (HSD.out _ HC.out) (HSK.out _ HC.out)).mono ?_; rintro e w2 ⟨hb2, rfl⟩
          rw [HDOC.out]
          have HC := hid (HC.out.trans (hb2.mono HC.out.size))
          obtain ⟨y0, y3, y4, y5⟩ := HCELL.out _ HC.out
          clear hb2))
     go_ret2
     exact ⟨(HBW.out.mono hbs).trans (HC.out.mono (qT hbs HBW.out.size)), fun _ => ⟨_, rfl⟩, fun h => absurd (HE.out.symm.trans h) (by decide)⟩
   ·
    have HDOC := hid (Bool.eq_false_iff.2 hdoc)
    have HE : Hid (opB deps mk (1, d, a, t, n, q) = false) := hid (by unfold opB; rw [show kj (1 : UInt8) = some (true, true, true, false, false) from rfl]; simp [ki, hdoc])
    clear hdoc
    go_wp2_with (first
      | (with_reducible refine k7 ?_
         refine k6 (by rfl) (ldR HX.out.1.1 (HD1.out _ HC.out)) ?_)
      | (with_reducible refine k7 ?_
         refine k6 (by rfl) (ldR HX.out.1.2.1 (HA34.out _ HC.out)) ?_)
      | (with_reducible refine k7 ?_
         refine k6 (by rfl) (ldR kp (HZ8.out _ HC.out)) ?_)
      | (go_at_call 107; refine (jk deps mk d A c Am cm _ hn hmn HO.out HM.out HX.out.1.1 hset (HSD.out _ HC.out) (HSK.out _ HC.out)).mono ?_; rintro e w2 ⟨hb2, rfl⟩
         rw [HDOC.out]
         have HC := hid (HC.out.trans (hb2.mono HC.out.size))
         obtain ⟨y0, y3, y4, y5⟩ := HCELL.out _ HC.out
         clear hb2))
    go_ret2
    exact ⟨(HBW.out.mono hbs).trans (HC.out.mono (qT hbs HBW.out.size)), fun _ => ⟨_, rfl⟩, fun h => absurd (HE.out.symm.trans h) (by decide)⟩
  have HPN := hid (show kj k = none by unfold kj; simp [h1, h2, h3, h4, h5])
  have ek1 : ((k.toNat : Int) == 1) = false := by rw [beq_eq_false_iff_ne]; intro h; exact h1 (by apply UInt8.toNat_inj.1; show k.toNat = 1; omega)
  have en1 : ((k.toNat : Int) != 1) = true := by simp only [bne, ek1, Bool.not_false]
  have ek2 : ((k.toNat : Int) == 2) = false := by rw [beq_eq_false_iff_ne]; intro h; exact h2 (by apply UInt8.toNat_inj.1; show k.toNat = 2; omega)
  have en2 : ((k.toNat : Int) != 2) = true := by simp only [bne, ek2, Bool.not_false]
  have ek3 : ((k.toNat : Int) == 3) = false := by rw [beq_eq_false_iff_ne]; intro h; exact h3 (by apply UInt8.toNat_inj.1; show k.toNat = 3; omega)
  have en3 : ((k.toNat : Int) != 3) = true := by simp only [bne, ek3, Bool.not_false]
  have ek4 : ((k.toNat : Int) == 4) = false := by rw [beq_eq_false_iff_ne]; intro h; exact h4 (by apply UInt8.toNat_inj.1; show k.toNat = 4; omega)
  have en4 : ((k.toNat : Int) != 4) = true := by simp only [bne, ek4, Bool.not_false]
  have ek5 : ((k.toNat : Int) == 5) = false := by rw [beq_eq_false_iff_ne]; intro h; exact h5 (by apply UInt8.toNat_inj.1; show k.toNat = 5; omega)
  have en5 : ((k.toNat : Int) != 5) = true := by simp only [bne, ek5, Bool.not_false]
  clear h1 h2 h3 h4 h5
  by_cases hdoc : KU deps mk d = true
  rotate_left
  focus
    have HDOC := hid (Bool.eq_false_iff.2 hdoc)
    have HE : Hid (opB deps mk (k, d, a, t, n, q) = false) := hid (by unfold opB; rw [HPN.out])
    clear hdoc
  rotate_right
  have HDOC := hid hdoc
  by_cases ht : t = kc
  rotate_left
  focus
    have et : t.toList.isEmpty = false := by rw [kx]; exact dF ht
    have HE : Hid (opB deps mk (k, d, a, t, n, q) = false) := hid (by unfold opB; rw [HPN.out])
    clear hdoc ht
  rotate_right
  have et : t.toList.isEmpty = true := by rw [kx]; exact dT ht
  by_cases hc : n = 0
  rotate_left
  focus
    have ec : (n != 0) = true := by simpa [bne, beq_eq_false_iff_ne] using hc
    have HE : Hid (opB deps mk (k, d, a, t, n, q) = false) := hid (by unfold opB; rw [HPN.out])
    clear hdoc ht hc
  rotate_right
  have ec : (n != 0) = false := by rw [hc]; rfl
  by_cases haz : a = kd
  rotate_left
  focus
    have EQA := hid (fun (u : World) => (kR HX.out.1.2.1 kp u).trans (by rw [dF haz]))
    have HE : Hid (opB deps mk (k, d, a, t, n, q) = false) := hid (by unfold opB; rw [HPN.out])
    clear hdoc ht hc haz
  rotate_right
  have EQA := hid (fun (u : World) => (kR HX.out.1.2.1 kp u).trans (by rw [dT haz]))
  by_cases hq : q = kc
  rotate_left
  focus
    have eq : q.toList.isEmpty = false := by rw [kx]; exact dF hq
    have HE : Hid (opB deps mk (k, d, a, t, n, q) = false) := hid (by unfold opB; rw [HPN.out])
    clear hdoc ht hc haz hq
  rotate_right
  have eq : q.toList.isEmpty = true := by rw [kx]; exact dT hq
  ·
   have HE : Hid (opB deps mk (k, d, a, t, n, q) = false) := hid (by unfold opB; rw [HPN.out])
   clear hdoc ht hc haz hq
   go_upto_region 22 with (first
     | (with_reducible refine k7 ?_
        refine k6 (by rfl) (ldR HX.out.1.1 (HD1.out _ HC.out)) ?_)
     | (with_reducible refine k7 ?_
        refine k6 (by rfl) (ldR HX.out.1.2.1 (HA34.out _ HC.out)) ?_)
     | (with_reducible refine k7 ?_
        refine k6 (by rfl) (ldR kp (HZ8.out _ HC.out)) ?_)
     | (go_at_call 107; refine (jk deps mk d A c Am cm _ hn hmn HO.out HM.out HX.out.1.1 hset (HSD.out _ HC.out) (HSK.out _ HC.out)).mono ?_; rintro e w2 ⟨hb2, rfl⟩
        rw [HDOC.out]
        have HC := hid (HC.out.trans (hb2.mono HC.out.size))
        obtain ⟨y0, y3, y4, y5⟩ := HCELL.out _ HC.out
        clear hb2)
     | (with_reducible refine kC ?_
        refine k6 (by rfl) (kN 68 _ _ _ rfl (xs := (ke a).toArray) (ys := (ke kd).toArray) rfl rfl (r := true) eqRef.noGuard (EQA.out _)) ?_
        go_frame; try simp only [nTF]))
   have y0w := Wg.cell y0 (qL HLX.out HC.out.size)
   clear y0 y3 y4 y5
   try go_frame
   refine kL (by kernel_rfl) (by kernel_rfl) ?_
   repeat (first
     | go_big_quiet_skip
     | (go_big_quiet_want
        first
          | (go_big_quiet_op
             first
               | go_big_quiet_on
               | go_big_quiet_call (first | (fail)))))
   refine wpQuiet_nil ?_
   rintro w' ⟨kk, rfl⟩
   have hk9 := kk.2
   generalize kk.val = w9 at *
   clear kk
   have HC := hid (HC.out.trans (hk9.below.mono HC.out.size))
   clear hk9
   go_wp2_with fail
   go_ret2
   exact ⟨(HBW.out.mono hbs).trans (HC.out.mono (qT hbs HBW.out.size)), fun _ => ⟨_, rfl⟩, fun h => absurd (HE.out.symm.trans h) (by decide)⟩
  all_goals
    go_wp2_with (first
      | (with_reducible refine k7 ?_
         refine k6 (by rfl) (ldR HX.out.1.1 (HD1.out _ HC.out)) ?_)
      | (with_reducible refine k7 ?_
         refine k6 (by rfl) (ldR HX.out.1.2.1 (HA34.out _ HC.out)) ?_)
      | (with_reducible refine k7 ?_
         refine k6 (by rfl) (ldR kp (HZ8.out _ HC.out)) ?_)
      | (go_at_call 107; refine (jk deps mk d A c Am cm _ hn hmn HO.out HM.out HX.out.1.1 hset (HSD.out _ HC.out) (HSK.out _ HC.out)).mono ?_; rintro e w2 ⟨hb2, rfl⟩
         rw [HDOC.out]
         have HC := hid (HC.out.trans (hb2.mono HC.out.size))
         obtain ⟨y0, y3, y4, y5⟩ := HCELL.out _ HC.out
         clear hb2)
      | (with_reducible refine kC ?_
         refine k6 (by rfl) (kN 68 _ _ _ rfl (xs := (ke a).toArray) (ys := (ke kd).toArray) rfl rfl (r := _) eqRef.noGuard (EQA.out _)) ?_
         go_frame; try simp only [nTF]))
    go_ret2
    exact ⟨(HBW.out.mono hbs).trans (HC.out.mono (qT hbs HBW.out.size)), fun _ => ⟨_, rfl⟩, fun h => absurd (HE.out.symm.trans h) (by decide)⟩
theorem refOp_any (base : Nat) (deps : List (List UInt8)) (mk : List jw) (x : OpD) (A : Option Addr) (c : Nat) (Am : Option Addr) (cm : Nat) (w : World) (hn : deps.length ≤ 1099511627776) (hmn : mk.length ≤ 1000000000) (ho : IdsOk deps) (hm : ∀ m ∈ mk, Z9 m) (hx : Je x) (hset : kI deps = true) (hs : Sl w w.heap.size A deps.length 32 (kr deps)) (how : w.ownsRow base 166 34 (.slice Am mk.length cm) mk.length (jb kE mk)) (hbs : base ≤ w.heap.size) :
    Calls Tryz.prog 80 #[.slice A deps.length c, .slice Am mk.length cm, .agg (opV x).toArray] w (OpGives base deps mk x w) := by
  obtain ⟨k, d, a, t, n, q⟩ := x
  exact refOp_all base deps mk k d a t n q A c Am cm w hn hmn ho hm hx hset hs how hbs
end Go.Proofs.YthjaepmfkgejkaaGreatDoor
