/-
  What Decode gives. Conditions: the bytes' slice is one (its length at most its capacity); at most 2^40 bytes; the library's variable MaxLen holds a number.
  What Encode gives. Conditions: lists of at most 2^40; the library's variable MaxLen holds a number.
-/
import Derived.Test.YthjaepmfkgejkaaGreatDoorMerged18
import Derived.Test.YthjaepmfkgejkaaGreatDoorObjRead1
import Derived.Test.YthjaepmfkgejkaaGreatDoorMerged15
set_option linter.unusedVariables false
set_option linter.unusedSimpArgs false
set_option maxHeartbeats 4000000
set_option maxRecDepth 100000
namespace Go.Proofs.YthjaepmfkgejkaaGreatDoor
open Lib (hid)
open Go.RowKit Go.Maps
theorem Kr (w : World) (B : Nat) : ObjIn w B (.agg objZ.toArray) (0, kL, kO) := by
  refine ⟨⟨⟨(by decide : (Lit.int .i64 0).wf = true), ?_, ?_⟩, ?_, ?_, (by decide : (Lit.int .i64 0).wf = true)⟩, ?_, ?_, ?_, ?_, none, 0, none, 0, none, 0, none, 0, rfl, Sl.nil, Sl.nil, Sl.nil, Sl.nil⟩
  · intro x hx; cases hx
  · intro x hx; cases hx
  · intro x hx; cases hx
  · intro x hx; cases hx
  · intro x hx; cases hx
  · show (0 : Nat) ≤ maxLen
    omega
  · show (0 : Nat) ≤ maxLen
    omega
  · show (0 : Nat) ≤ maxLen
    omega
theorem ObjIn.ten {w : World} {B : Nat} {v : Value} {o : KO} (h : ObjIn w B v o) : ∃ cs : List Value, v = .agg cs.toArray ∧ cs.length = 10 ∧ ∀ u ∈ cs, u.oneCell' = true := by
  obtain ⟨_, _, _, _, _, Ad, cd, Ao, co, Ap, cp, Ac, cc, rfl, _⟩ := h
  refine ⟨[.int .u8 (o.1.toNat : Int), .int .i64 o.2.1.1, .slice Ad o.2.1.2.1.length cd, .string o.2.1.2.2.1, .slice Ao o.2.1.2.2.2.length co, .slice Ap o.2.2.1.length cp, .slice Ac o.2.2.2.1.length cc, .string o.2.2.2.2.1, .string o.2.2.2.2.2.1, .int .i64 o.2.2.2.2.2.2], rfl, rfl, ?_⟩
  intro u hu
  simp only [List.mem_cons, List.not_mem_nil, or_false] at hu
  rcases hu with rfl | rfl | rfl | rfl | rfl | rfl | rfl | rfl | rfl | rfl <;> rfl
theorem Sl.small {X : Nat → Prop} {w w' : World} {B n sz : Nat} {A : Option Addr} {xs : List Value} (h : Sl w B A n sz xs) (hb : But X w w') (hB : B ≤ w.heap.size) (hsz : 32 ≤ sz) (hx : ∀ k, X k → ∃ (cs : List Value) (T : TypeId), w.heap[k]? = some (.cells cs.toArray T (0, 0)) ∧ cs.length < 32) : Sl w' B A n sz xs := by
  refine ⟨h.1, fun hn => ?_⟩
  obtain ⟨b, off, e, hlt, hc⟩ := h.2 hn
  refine ⟨b, off, e, hlt, fun j u hj => ?_⟩
  have hX : ¬ X b := fun q => by
    obtain ⟨cs, T, hk, hl⟩ := hx b q
    have h31 : 31 < xs.length := by rw [h.1]; exact Nat.lt_of_lt_of_le (by omega) (Nat.le_trans hsz (Nat.le_mul_of_pos_left sz hn))
    have := hc 31 _ (List.getElem?_eq_getElem h31)
    rw [k6 hk] at this
    have := (List.getElem?_eq_some_iff.1 this).1
    omega
  exact (hb.cell (Nat.lt_of_lt_of_le hlt hB) hX).trans (hc j u hj)
theorem ObjIn.small {X : Nat → Prop} {w w' : World} {B : Nat} {v : Value} {o : KO} (h : ObjIn w B v o) (hb : But X w w') (hB : B ≤ w.heap.size) (hx : ∀ k, X k → ∃ (cs : List Value) (T : TypeId), w.heap[k]? = some (.cells cs.toArray T (0, 0)) ∧ cs.length < 32) : ObjIn w' B v o := by
  obtain ⟨h1, h2, h3, h4, h5, Ad, cd, Ao, co, Ap, cp, Ac, cc, hv, s1, s2, s3, s4⟩ := h
  exact ⟨h1, h2, h3, h4, h5, Ad, cd, Ao, co, Ap, cp, Ac, cc, hv, s1.small hb hB (by decide) hx, s2.small hb hB (by decide) hx, s3.small hb hB (by decide) hx, s4.small hb hB (by decide) hx⟩
theorem robj_no (g n c : Nat) (A : Option Addr) (w : World) (hb : w.heap[g]? = some (.cells #[.slice A n c, .int .i64 ((0 : Nat) : Int)] 59 (0, 0))) (hn : n = 0) :
    Calls Tryz.prog 24 #[.pointer (some ⟨g, 0, none⟩)] w (ObjGives g [] w) := by
  subst hn
  have HB := hid hb
  have HLT := hid (Array.getElem?_eq_some_iff.1 hb).1
  clear hb
  go_enter Tryz.func24, Tryz.ntmps24
  go_upto_region 1 with (first
    | (with_reducible refine kH ?_
       refine kA (by rfl) 57 _ rfl [.pointer (some ⟨g, 0, none⟩)] _ rfl rfl (by kernel_rfl) ?_
       intro W0 hb0 hz0 hs0
       have HB0 := hid hb0; have HZ0 := hid hz0
       clear hb0 hz0)
    | (with_reducible refine kG ?_
       refine kE (by rfl) 30 rfl [.int .u8 0, .int .i64 0, .slice none 0 0, .string k7, .slice none 0 0, .slice none 0 0, .slice none 0 0, .string k7, .string k7, .int .i64 0] (jt _) ?_
       intro W1 hb1 hz1 hs1
       have HB1 := hid hb1
       clear hb1 hz1))
  have HBX := hid ((HB1.out.block g (Nat.lt_of_lt_of_le HLT.out HB0.out.size)).trans ((HB0.out.block g HLT.out).trans HB.out))
  have c0 : W1.cell? ⟨w.heap.size, 0, none⟩ = some (.pointer (some ⟨g, 0, none⟩)) := k6 ((HB1.out.block w.heap.size (by omega)).trans HZ0.out) 0
  clear hs0 hs1
  go_wp2_with (first
    | (go_at_call 50; refine (rbyte_no g 0 c 0 A W1 HBX.out (Nat.le_refl _)).mono ?_; rintro e W2 ⟨rfl, rfl⟩))
  exact ⟨rfl, ObjGives.no (Uh rfl) rfl (((But.of_below (X := fun k => k = g) HB0.out).andBelow HB1.out).andBelow ((Below.refl _ _).drew))⟩
def ObjDec (l : List UInt8) (w : World) (e : Ending) (w' : World) : Prop :=
  Below w.heap.size w w' ∧ ∃ v, e = .returned (.tuple #[v, .int .i64 (Kd l).2]) ∧ ObjIn w' w'.heap.size v (Kd l).1
theorem JQ {l : List UInt8} (h : 262144 < l.length) : Kd l = ((0, kL, kO), 2) := by unfold Kd; rw [if_pos h]
theorem jx {l : List UInt8} (h : ¬ 262144 < l.length) (hr : ji l = none) : Kd l = ((0, kL, kO), 6) := by unfold Kd; rw [if_neg h, hr]
theorem KF {l : List UInt8} {o : KO} (h : ¬ 262144 < l.length) (hr : ji l = some o) : Kd l = (o, 0) := by unfold Kd; rw [if_neg h, hr]
theorem zq {w : World} {zo : Nat} {cs : List Value} (h : w.heap[zo]? = some (.cells cs.toArray 30 (0, 0))) (hl : cs.length = 10) : (loadVar 30 ⟨zo, 0, none⟩).run Tryz.prog w = .ok (.agg cs.toArray) w :=
  run_loadVar_mid _ zo 0 30 cs _ (fun j u hj => by rw [Nat.zero_add]; exact (k6 h j).trans hj) Tryz.underlying30 rfl (by rw [hl]; kernel_rfl)
theorem Uj {w : World} {zo : Nat} {v : Value} (h : w.heap[zo]? = some (.cells [v].toArray 31 (0, 0))) : (loadVar 31 ⟨zo, 0, none⟩).run Tryz.prog w = .ok v w := by
  have hc : w.cell? ⟨zo, 0, none⟩ = some v := k6 h 0
  unfold loadVar isAgg
  simp only [Sem.run_bind, run_underlying Tryz.underlying31, Result.andThen_ok]
  simp [Result.andThen, hc]
theorem JV (l : List UInt8) (A : Option Addr) (c : Nat) (w : World) (hs : Sl w w.heap.size A l.length 1 (idV l)) (hc : l.length ≤ c) (hl : l.length ≤ 1099511627776) (hg : Glob w) :
    Calls Tryz.prog 5 #[.slice A l.length c] w (ObjDec l w) := by
  have HS := hid hs; have HG := hid hg
  have hmf : ∀ (fn : Fn) (first cap : Array Value) (w : World), (Instr.makeFunc fn first cap).run Tryz.prog w = .ok (.func fn first cap) w := fun _ _ _ _ => rfl
  clear hs hg
  have HW := HG.out.lt
  by_cases hlong : 262144 < l.length
  ·
   have i1 : (262144 : Int) < (l.length : Int) := by omega
   go_enter_defers Tryz.func5, Tryz.ntmps5
   go_upto_region 1 with (first
     | (with_reducible refine kG ?_
        refine kE (by rfl) 30 rfl objZ (jt _) ?_
        intro W0 hb0 hz0 hs0
        have HB0 := hid hb0; have HZ0 := hid hz0
        clear hb0 hz0)
     | (with_reducible refine kG ?_
        refine Zl (by rfl) 31 rfl (.int .i64 0) rfl (fun _ => by kernel_rfl) ?_
        intro W1 hb1 hz1 hs1
        have HB1 := hid hb1; have HE := hid hz1
        clear hb1 hz1))
   have HO := hid ((HB1.out.block w.heap.size (by omega)).trans HZ0.out)
   have HB := hid (HB0.out.trans (HB1.out.mono HB0.out.size))
   obtain ⟨zo, hzo⟩ : ∃ zo, w.heap.size = zo := ⟨_, rfl⟩
   obtain ⟨ze, hze⟩ : ∃ ze, W0.heap.size = ze := ⟨_, rfl⟩
   rw [hzo] at HO ⊢
   rw [hze] at HE ⊢
   have HNE := hid (show zo ≠ ze by omega)
   have HWZ := hid (show w.heap.size ≤ zo by omega)
   have HWE := hid (show w.heap.size ≤ ze by omega)
   have HZE1 := hid (show zo < W1.heap.size ∧ ze < W1.heap.size by omega)
   clear HB0 HZ0 HB1 hs0 hs1 hzo hze
   go_frame
   go_wp2_with (first
     | (with_reducible refine kQ ?_
        refine k9 (by rfl) (kF 30 _ rfl (zy _)) ?_)
     | (with_reducible refine ko ?_
        refine kj (by rfl) 30 _ _ rfl zo 0 [] objZ [] objZ 30 (.agg (objZ).toArray) rfl rfl rfl rfl (by simpa using HO.out) rfl (by kernel_rfl) (by unfold objZ; intro u hu; simp only [List.mem_cons, List.not_mem_nil, or_false] at hu; rcases hu with rfl | rfl | rfl | rfl | rfl | rfl | rfl | rfl | rfl | rfl <;> rfl) ?_
        intro W2 hb2 hy2 hs2
        have HO2 : Hid (W2.heap[zo]? = some (.cells (objZ).toArray 30 (0, 0))) := hid (by simpa using hy2)
        have HE2 := hid ((hb2.block ze HZE1.out.2 (fun e => HNE.out e.symm)).trans HE.out); have HB2 := hid (hb2.below (B := w.heap.size) HB.out.size (fun k hk e => by have := HWZ.out; omega))
        clear hb2 hy2 hs2)
     | (with_reducible refine ko ?_
        go_loud (refine kj (by rfl) 31 _ _ rfl ze 0 [] [.int .i64 0] [] [.int .i64 2] 31 (.int .i64 2) rfl rfl rfl rfl (by simpa using HE2.out) rfl (by kernel_rfl) (by intro u hu; simp only [List.mem_singleton] at hu; subst hu; rfl) ?_)
        intro W3 hb3 hy3 hs3
        have HE3 : Hid (W3.heap[ze]? = some (.cells [.int .i64 2].toArray 31 (0, 0))) := hid (by simpa using hy3)
        have HO3 := hid ((hb3.block zo (Array.getElem?_eq_some_iff.1 HO2.out).1 HNE.out).trans HO2.out); have HB3 := hid (hb3.below (B := w.heap.size) (Nat.le_trans HB.out.size HB2.out.size) (fun k hk e => by have := HWE.out; omega))
        clear hb3 hy3 hs3))
   exact ⟨_, ZD Tryz.results5 _ _ rfl rfl (zq HO3.out rfl) (Uj HE3.out), HB.out.trans (HB2.out.trans HB3.out), _, by rw [JQ hlong], by rw [JQ hlong]; exact Kr _ _⟩
  ·
   have i1 : ¬ (262144 : Int) < (l.length : Int) := by omega
   have HOBJ : Hid (∀ W1 W2 : World, Below w.heap.size w W1 → Below W1.heap.size W1 W2 → W2.heap[W1.heap.size]? = some (.cells [.slice A l.length c, .int .i64 ((0 : Nat) : Int)].toArray 59 (0, 0)) → Calls Tryz.prog 24 #[.pointer (some ⟨W1.heap.size, 0, none⟩)] W2 (ObjGives W1.heap.size l W2)) := hid (fun W1 W2 hb1 hb2 hg => by
     have hb := hb1.trans (hb2.mono hb1.size)
     have hsz := hb1.size
     by_cases hn : l = []
     · subst hn
       exact robj_no W1.heap.size _ c A W2 hg rfl
     ·
      have hpos : 0 < l.length := List.length_pos_iff.2 hn
      obtain ⟨b, off, rfl, hlt, hcl⟩ := (HS.out.keep hb).2 hpos
      refine robj_any W1.heap.size b off c l W2 ⟨hg, Nat.zero_le _, hc, by omega, fun j hj => hcl j _ ((by unfold idV; rw [List.getElem?_map, List.getElem?_eq_getElem hj]; rfl))⟩ hl (HG.out.keep hb HG.out.lt) ?_
      have := HG.out.lt
      omega)
   rcases hrd : ji l with _ | o
   all_goals
     have HRD := hid hrd
     clear hrd
     go_enter_defers Tryz.func5, Tryz.ntmps5
     go_upto_region 1 with (first
       | (with_reducible refine kG ?_
          refine kE (by rfl) 30 rfl objZ (jt _) ?_
          intro W0 hb0 hz0 hs0
          have HB0 := hid hb0; have HZ0 := hid hz0
          clear hb0 hz0)
       | (with_reducible refine kG ?_
          refine Zl (by rfl) 31 rfl (.int .i64 0) rfl (fun _ => by kernel_rfl) ?_
          intro W1 hb1 hz1 hs1
          have HB1 := hid hb1; have HE := hid hz1
          clear hb1 hz1))
     have HO := hid ((HB1.out.block w.heap.size (by omega)).trans HZ0.out)
     have HB := hid (HB0.out.trans (HB1.out.mono HB0.out.size))
     obtain ⟨zo, hzo⟩ : ∃ zo, w.heap.size = zo := ⟨_, rfl⟩
     obtain ⟨ze, hze⟩ : ∃ ze, W0.heap.size = ze := ⟨_, rfl⟩
     rw [hzo] at HO ⊢
     rw [hze] at HE ⊢
     have HNE := hid (show zo ≠ ze by omega)
     have HWZ := hid (show w.heap.size ≤ zo by omega)
     have HWE := hid (show w.heap.size ≤ ze by omega)
     have HZE1 := hid (show zo < W1.heap.size ∧ ze < W1.heap.size by omega)
     clear HB0 HZ0 HB1 hs0 hs1 hzo hze
     go_frame
   ·
    go_wp2_with (first
      | (with_reducible refine kH ?_
         refine kA (by rfl) 59 _ rfl [.slice A l.length c, .int .i64 ((0 : Nat) : Int)] _ rfl rfl (by kernel_rfl) ?_
         intro W2 hb2 hz2 hs2
         have HGV := hid (HOBJ.out W1 W2 HB.out hb2 hz2)
         have HO2 := hid ((hb2.block zo HZE1.out.1).trans HO.out)
         have HE2 := hid ((hb2.block ze HZE1.out.2).trans HE.out)
         have HB2 := hid hb2
         clear hb2 hz2 hs2)
      | (go_at_call 24; go_loud (refine HGV.out.mono ?_); rintro e W3 hgv
         unfold ObjGives at hgv
         rw [HRD.out] at hgv
         go_loud (obtain ⟨rfl, hbt⟩ := hgv)
         have HB3 := hid hbt
         clear hbt))
    have HO3 := (HB3.out.block zo (Array.getElem?_eq_some_iff.1 HO2.out).1 (by have := HZE1.out.1; omega)).trans HO2.out
    have HE3 := (HB3.out.block ze (Array.getElem?_eq_some_iff.1 HE2.out).1 (by have := HZE1.out.2; omega)).trans HE2.out
    refine leaves_cons (f := 23) (args := #[.pointer (some ⟨zo, 0, none⟩), .pointer (some ⟨ze, 0, none⟩)]) (by simp) (by simp [go_sem]) ?_
    refine (dec_wrong zo ze _ _ _ HO3 rfl HE3 rfl HNE.out).mono ?_
    rintro e u' w9 ⟨rfl, hset, ho9, he9, hb9⟩
    simp only [hset]
    refine ⟨_, ZD Tryz.results5 _ _ rfl rfl (zq ho9 rfl) (Uj he9), ?_, _, by rw [jx hlong HRD.out], by rw [jx hlong HRD.out]; exact Kr _ _⟩
    have e1 := HB.out.trans (HB2.out.mono HB.out.size)
    have h1 := HB.out.size; have h2 := HWZ.out; have h3 := HWE.out
    have e2 := HB3.out.below (B := w.heap.size) e1.size (fun k hk e => by have e' : k = W1.heap.size := e; omega)
    exact (e1.trans e2).trans (hb9.below (B := w.heap.size) (e1.trans e2).size (fun k hk e => by rcases e with e | e <;> omega))
   ·
    go_wp2_with (first
      | (with_reducible refine kH ?_
         refine kA (by rfl) 59 _ rfl [.slice A l.length c, .int .i64 ((0 : Nat) : Int)] _ rfl rfl (by kernel_rfl) ?_
         intro W2 hb2 hz2 hs2
         have HGV := hid (HOBJ.out W1 W2 HB.out hb2 hz2)
         have HO2 := hid ((hb2.block zo HZE1.out.1).trans HO.out)
         have HE2 := hid ((hb2.block ze HZE1.out.2).trans HE.out)
         have HB2 := hid hb2
         clear hb2 hz2 hs2)
      | (go_at_call 24; refine HGV.out.mono ?_; rintro e W3 hgv
         unfold ObjGives at hgv
         rw [HRD.out] at hgv
         obtain ⟨v, rfl, hbt, hin⟩ := hgv
         have HB3 := hid hbt
         obtain ⟨cs, rfl, hcs, h1s⟩ := hin.ten
         have HO3 := hid ((hbt.block zo (Array.getElem?_eq_some_iff.1 HO2.out).1 (by have := HZE1.out.1; omega)).trans HO2.out)
         have HE3 := hid ((hbt.block ze (Array.getElem?_eq_some_iff.1 HE2.out).1 (by have := HZE1.out.2; omega)).trans HE2.out)
         have HIN := hid hin
         clear hbt hin HO2 HE2)
      | (with_reducible refine ko ?_
         refine kj (by rfl) 30 _ _ rfl zo 0 [] objZ [] cs 30 (.agg cs.toArray) rfl rfl rfl rfl (by simpa using HO3.out) hcs.symm (by rw [hcs]; kernel_rfl) h1s ?_
         intro W4 hb4 hy4 hs4
         have HO4 : Hid (W4.heap[zo]? = some (.cells (cs).toArray 30 (0, 0))) := hid (by simpa using hy4)
         have HE4 := hid ((hb4.block ze (Array.getElem?_eq_some_iff.1 HE3.out).1 (fun e => HNE.out e.symm)).trans HE3.out); have HB4 := hid hb4
         clear hb4 hy4 hs4)
      | (with_reducible refine ko ?_
         go_loud (refine kj (by rfl) 31 _ _ rfl ze 0 [] [.int .i64 0] [] [.int .i64 0] 31 (.int .i64 0) rfl rfl rfl rfl (by simpa using HE4.out) rfl (by kernel_rfl) (by intro u hu; simp only [List.mem_singleton] at hu; subst hu; rfl) ?_)
         intro W5 hb5 hy5 hs5
         have HE5 : Hid (W5.heap[ze]? = some (.cells [.int .i64 0].toArray 31 (0, 0))) := hid (by simpa using hy5)
         have HO5 := hid ((hb5.block zo (Array.getElem?_eq_some_iff.1 HO4.out).1 HNE.out).trans HO4.out); have HB5 := hid hb5
         clear hb5 hy5 hs5))
    refine leaves_cons (f := 23) (args := #[.pointer (some ⟨zo, 0, none⟩), .pointer (some ⟨ze, 0, none⟩)]) (by simp) (by simp [go_sem]) ?_
    refine (dec_idle ⟨zo, 0, none⟩ ⟨ze, 0, none⟩ _).mono ?_
    rintro e u' w9 ⟨rfl, rfl, rfl⟩
    have e1 := HB.out.trans (HB2.out.mono HB.out.size)
    have h1 := HB.out.size; have h2 := HWZ.out; have h3 := HWE.out
    have e2 := HB3.out.below (B := w.heap.size) e1.size (fun k hk e => by have e' : k = W1.heap.size := e; omega)
    have e3 := e1.trans e2
    have e4 := e3.trans (HB4.out.below (B := w.heap.size) e3.size (fun k hk e => by have e' : k = zo := e; omega))
    have e5 := e4.trans (HB5.out.below (B := w.heap.size) e4.size (fun k hk e => by have e' : k = ze := e; omega))
    refine ⟨_, ZD Tryz.results5 _ _ rfl rfl (zq HO5.out hcs) (Uj HE5.out), e5, _, by rw [KF hlong HRD.out], ?_⟩
    rw [KF hlong HRD.out]
    have k3 : Hid (W3.heap[zo]? = some (.cells objZ.toArray 30 (0, 0))) := HO3
    have hq : ObjIn W4 W3.heap.size (.agg cs.toArray) o := HIN.out.small HB4.out (Nat.le_refl _) (fun k e => by have e' : k = zo := e; subst e'; exact ⟨_, _, k3.out, by decide⟩)
    have hq2 : ObjIn _ W3.heap.size (.agg cs.toArray) o := hq.small HB5.out HB4.out.size (fun k e => by have e' : k = ze := e; subst e'; exact ⟨[.int .i64 0], _, HE4.out, by decide⟩)
    exact hq2.more (Nat.le_trans HB4.out.size HB5.out.size)
end Go.Proofs.YthjaepmfkgejkaaGreatDoor
namespace Go.Proofs.YthjaepmfkgejkaaGreatDoor
open Lib (hid)
open Go.RowKit Go.Maps
theorem ql {w : World} {base n sz : Nat} {e : TypeId} {A : Option Addr} {m c : Nat} {xs : List Value} (h : w.ownsRow base e sz (.slice A m c) n xs) : n ≤ c := by
  rcases h.2 with ⟨h0, h1⟩ | ⟨g, cap, cur, h0, _, _, h1, _⟩
  · omega
  · injection h0 with _ _ h2
    omega
def vq (o : KO) (e : Ending) (w' : World) : Prop :=
  if kJ o = true then (if 262144 < (KQ o).length then e = .returned (.tuple #[.slice none 0 0, .int .i64 2]) else ∃ A c, e = .returned (.tuple #[.slice A (KQ o).length c, .int .i64 0]) ∧ Sl w' w'.heap.size A (KQ o).length 1 (idV (KQ o)) ∧ (KQ o).length ≤ c)
  else e = .returned (.tuple #[.slice none 0 0, .int .i64 1])
theorem Uu (o : KO) (v : Value) (w : World) (h : ObjIn w w.heap.size v o) (hl1 : o.2.1.2.1.length ≤ 1099511627776) (hl2 : o.2.1.2.2.2.length ≤ 1099511627776) (hl3 : o.2.2.1.length ≤ 1099511627776) (hl4 : o.2.2.2.1.length ≤ 1099511627776) (hg : Glob w) :
    Calls Tryz.prog 11 #[v] w fun e w' => Below w.heap.size w w' ∧ vq o e w' := by
  have HIN := hid h
  obtain ⟨ok, hop, ha, ha2, hm, Ad, cd, Ao, co, Ap, cp, Ac, cc, rfl, sd, so, sp, sc⟩ := h
  obtain ⟨k, ⟨n, ds, au, os⟩, ⟨ps, cs, a2, ms, st⟩⟩ := o
  dsimp only at *
  have HG := hid hg
  have HCI : Hid (ChIn w w.heap.size (.agg [.int .i64 n, .slice Ad ds.length cd, .string au, .slice Ao os.length co].toArray) (n, ds, au, os)) := hid ⟨ok.1, hop, ha, Ad, cd, Ao, co, rfl, sd, so⟩
  have HMI : Hid (CmIn w w.heap.size (.agg [.slice Ap ps.length cp, .slice Ac cs.length cc, .string a2, .string ms, .int .i64 st].toArray) (ps, cs, a2, ms, st)) := hid ⟨ok.2, ha2, hm, Ap, cp, Ac, cc, rfl, sp, sc⟩
  have h1 := hl1; have h2 := hl2; have h3 := hl3; have h4 := hl4
  have hwz := (jM ok.2.2.2).2
  clear ok hop ha ha2 hm sd so sp sc hg hl1 hl2 hl3 hl4
  rcases Bool.eq_false_or_eq_true (kJ (k, (n, ds, au, os), (ps, cs, a2, ms, st))) with hr | hr
  ·
   have HR := hid hr
   by_cases hk : k = 1
   ·
    subst hk
    have HCB : Hid (kU (n, ds, au, os) = true) := hid (by unfold kJ at hr; rw [if_pos rfl, Bool.and_eq_true] at hr; exact hr.2)
    have HOE : Hid (KQ (1, (n, ds, au, os), (ps, cs, a2, ms, st)) = zI (n, ds, au, os)) := hid (by unfold KQ; rw [if_pos rfl])
    clear hr
    go_enter Tryz.func11, Tryz.ntmps11
    go_upto_region 1 with (first
      | (with_reducible refine kH ?_
         refine kA (by rfl) 30 _ rfl [.int .u8 ((1 : UInt8).toNat : Int), .int .i64 n, .slice Ad ds.length cd, .string au, .slice Ao os.length co, .slice Ap ps.length cp, .slice Ac cs.length cc, .string a2, .string ms, .int .i64 st] _ rfl rfl (by kernel_rfl) ?_
         intro W1 hb1 hz1 hs1
         have HB1 := hid hb1; have HZ1 := hid hz1; have HS1 := hid hs1
         clear hb1 hz1 hs1))
    have HZL0 := hid (show w.heap.size < W1.heap.size by have := HS1.out; omega)
    obtain ⟨zo, hzo⟩ : ∃ zo, w.heap.size = zo := ⟨_, rfl⟩
    have HZL := HZL0
    rw [hzo] at HZ1 HZL ⊢
    have HZO := hid hzo
    clear hzo HS1
    go_upto_region 3 with (first
      | (with_reducible refine ke ?_
         refine k9 (by rfl) (kd 30 _ rfl (p := ⟨zo, 0, none⟩) rfl (run_loadVar_mid _ _ _ _ [.int .u8 ((1 : UInt8).toNat : Int), .int .i64 n, .slice Ad ds.length cd, .string au, .slice Ao os.length co, .slice Ap ps.length cp, .slice Ac cs.length cc, .string a2, .string ms, .int .i64 st] _ (fun j u hj => (k6 HZ1.out (0 + j)).trans (by rw [Nat.zero_add]; exact hj)) Tryz.underlying30 rfl (by kernel_rfl))) ?_)
      | (go_at_call 15; refine (J4 ((1 : UInt8), (n, ds, au, os), (ps, cs, a2, ms, st)) _ w.heap.size W1 (HIN.out.keep HB1.out) HB1.out.size h1 h2 h3 h4 (HG.out.next HB1.out)).mono ?_; rintro e W2 ⟨hb2, rfl⟩
         have HZ2 := hid ((hb2.block zo HZL.out).trans HZ1.out)
         have HB2 := hid hb2
         rw [HR.out]
         clear hb2))
    go_upto_region 4 with (first
      | (with_reducible refine kH ?_
         refine kA (by rfl) 76 _ rfl [.slice none 0 0] _ rfl rfl (by kernel_rfl) ?_
         intro W3 hb3 hz3 hs3
         have HAT3 : Hid (WrAt W3 W2.heap.size []) := hid ⟨_, hz3, World.ownsRow_nil _ _ _ _⟩
         have HZ3 := hid ((hb3.block zo (Array.getElem?_eq_some_iff.1 HZ2.out).1).trans HZ2.out)
         have HB3 := hid hb3
         clear hb3 hz3 hs3))
    have HBW : Hid (Below w.heap.size w W2) := hid (HB1.out.trans (HB2.out.mono HB1.out.size))
    have HBX : Hid (Below w.heap.size w W3) := hid (HBW.out.trans (HB3.out.mono HBW.out.size))
    have hws : w.heap.size ≤ W2.heap.size := HBW.out.size
    have ck3 : W3.cell? ⟨zo, 0, none⟩ = some (.int .u8 1) := (k6 HZ3.out 0).trans rfl
    go_upto_region 7 with (first
      | (with_reducible refine ke ?_
         refine k9 (by rfl) (kd 26 _ rfl (p := ⟨zo, 1, none⟩) rfl (run_loadVar_mid _ _ _ _ [.int .i64 n, .slice Ad ds.length cd, .string au, .slice Ao os.length co] _ (fun j u hj => (k6 HZ3.out (1 + j)).trans (ZL hj)) Tryz.underlying26 rfl (by kernel_rfl))) ?_)
      | (go_at_call 31; refine (wchange_any W2.heap.size (n, ds, au, os) _ W3 HAT3.out ((HCI.out.keep HBX.out).more hws) HCB.out).mono ?_; rintro e W4 ⟨rfl, hat, hgo⟩
         have HB4 := hid ((hgo.belowG HAT3.out))
         obtain ⟨v, hhg, how⟩ := hat
         obtain ⟨Ab, cb, rfl⟩ := kB how
         have cb4 : W4.cell? ⟨W2.heap.size, 0, none⟩ = some (.slice Ab _ cb) := k6 hhg 0
         have HOW := hid how; have HHG := hid hhg
         clear hgo hhg how))
    by_cases hlong : 262144 < (zI (n, ds, au, os)).length
    ·
     have i2 : (262144 : Int) < ((zI (n, ds, au, os)).length : Int) := by omega
     go_wp2_with fail
     go_ret2
     exact ⟨HBX.out.trans (HB4.out.mono hws), by unfold vq; rw [if_pos HR.out, HOE.out, if_pos hlong]; rfl⟩
    ·
     have i2 : ¬ (262144 : Int) < ((zI (n, ds, au, os)).length : Int) := by omega
     go_wp2_with fail
     go_ret2
     exact ⟨HBX.out.trans (HB4.out.mono hws), by unfold vq; rw [if_pos HR.out, HOE.out, if_neg hlong]; exact ⟨Ab, cb, rfl, Sl.of_own HOW.out, ql HOW.out⟩⟩
   ·
    obtain rfl : k = 2 := by
      unfold kJ at hr
      rw [if_neg hk] at hr
      by_cases h2 : k = 2
      · exact h2
      · rw [if_neg h2] at hr; cases hr
    have hcb : kW (ps, cs, a2, ms, st) = true := by unfold kJ at hr; rw [if_neg hk, if_pos rfl, Bool.and_eq_true] at hr; exact hr.2
    have HOE : Hid (KQ (2, (n, ds, au, os), (ps, cs, a2, ms, st)) = zS (ps, cs, a2, ms, st)) := hid (by unfold KQ; rw [if_neg (show ¬ (2 : UInt8) = 1 by decide)])
    unfold kW at hcb
    simp only [Bool.and_eq_true, decide_eq_true_eq] at hcb
    obtain ⟨⟨⟨⟨⟨q1, q2⟩, q3⟩, q4⟩, q5⟩, q6⟩ := hcb
    have hm1 : ps.length ≤ 1048576 := by unfold Kk at q1; simp only [Bool.and_eq_true, decide_eq_true_eq] at q1; omega
    have hm2 : cs.length ≤ 1048576 := by unfold Kk at q2; simp only [Bool.and_eq_true, decide_eq_true_eq] at q2; omega
    have hm3 := q5
    have hm4 : a2.size ≤ 1048576 := Nat.le_trans (Km q3) (by decide)
    have hm5 : ms.size ≤ 1048576 := Nat.le_trans (vj q4) (by decide)
    clear hr hk q1 q2 q3 q4 q5 q6
    go_enter Tryz.func11, Tryz.ntmps11
    go_upto_region 1 with (first
      | (with_reducible refine kH ?_
         refine kA (by rfl) 30 _ rfl [.int .u8 ((2 : UInt8).toNat : Int), .int .i64 n, .slice Ad ds.length cd, .string au, .slice Ao os.length co, .slice Ap ps.length cp, .slice Ac cs.length cc, .string a2, .string ms, .int .i64 st] _ rfl rfl (by kernel_rfl) ?_
         intro W1 hb1 hz1 hs1
         have HB1 := hid hb1; have HZ1 := hid hz1; have HS1 := hid hs1
         clear hb1 hz1 hs1))
    have HZL0 := hid (show w.heap.size < W1.heap.size by have := HS1.out; omega)
    obtain ⟨zo, hzo⟩ : ∃ zo, w.heap.size = zo := ⟨_, rfl⟩
    have HZL := HZL0
    rw [hzo] at HZ1 HZL ⊢
    have HZO := hid hzo
    clear hzo HS1
    go_upto_region 3 with (first
      | (with_reducible refine ke ?_
         refine k9 (by rfl) (kd 30 _ rfl (p := ⟨zo, 0, none⟩) rfl (run_loadVar_mid _ _ _ _ [.int .u8 ((2 : UInt8).toNat : Int), .int .i64 n, .slice Ad ds.length cd, .string au, .slice Ao os.length co, .slice Ap ps.length cp, .slice Ac cs.length cc, .string a2, .string ms, .int .i64 st] _ (fun j u hj => (k6 HZ1.out (0 + j)).trans (by rw [Nat.zero_add]; exact hj)) Tryz.underlying30 rfl (by kernel_rfl))) ?_)
      | (go_at_call 15; refine (J4 ((2 : UInt8), (n, ds, au, os), (ps, cs, a2, ms, st)) _ w.heap.size W1 (HIN.out.keep HB1.out) HB1.out.size h1 h2 h3 h4 (HG.out.next HB1.out)).mono ?_; rintro e W2 ⟨hb2, rfl⟩
         have HZ2 := hid ((hb2.block zo HZL.out).trans HZ1.out)
         have HB2 := hid hb2
         rw [HR.out]
         clear hb2))
    go_upto_region 4 with (first
      | (with_reducible refine kH ?_
         refine kA (by rfl) 76 _ rfl [.slice none 0 0] _ rfl rfl (by kernel_rfl) ?_
         intro W3 hb3 hz3 hs3
         have HAT3 : Hid (WrAt W3 W2.heap.size []) := hid ⟨_, hz3, World.ownsRow_nil _ _ _ _⟩
         have HZ3 := hid ((hb3.block zo (Array.getElem?_eq_some_iff.1 HZ2.out).1).trans HZ2.out)
         have HB3 := hid hb3
         clear hb3 hz3 hs3))
    have HBW : Hid (Below w.heap.size w W2) := hid (HB1.out.trans (HB2.out.mono HB1.out.size))
    have HBX : Hid (Below w.heap.size w W3) := hid (HBW.out.trans (HB3.out.mono HBW.out.size))
    have hws : w.heap.size ≤ W2.heap.size := HBW.out.size
    have ck3 : W3.cell? ⟨zo, 0, none⟩ = some (.int .u8 2) := (k6 HZ3.out 0).trans rfl
    go_upto_region 7 with (first
      | (with_reducible refine ke ?_
         refine k9 (by rfl) (kd 28 _ rfl (p := ⟨zo, 5, none⟩) rfl (run_loadVar_mid _ _ _ _ [.slice Ap ps.length cp, .slice Ac cs.length cc, .string a2, .string ms, .int .i64 st] _ (fun j u hj => (k6 HZ3.out (5 + j)).trans (vp hj)) Tryz.underlying28 rfl (by kernel_rfl))) ?_)
      | (go_at_call 32; refine (wcommit_any W2.heap.size (ps, cs, a2, ms, st) _ W3 HAT3.out ((HMI.out.keep HBX.out).more hws) hm1 hm2 hm3 hm4 hm5).mono ?_; rintro e W4 ⟨rfl, hat, hgo⟩
         have HB4 := hid ((hgo.belowG HAT3.out))
         obtain ⟨v, hhg, how⟩ := hat
         obtain ⟨Ab, cb, rfl⟩ := kB how
         have cb4 : W4.cell? ⟨W2.heap.size, 0, none⟩ = some (.slice Ab _ cb) := k6 hhg 0
         have HOW := hid how; have HHG := hid hhg
         clear hgo hhg how))
    by_cases hlong : 262144 < (zS (ps, cs, a2, ms, st)).length
    ·
     have i2 : (262144 : Int) < ((zS (ps, cs, a2, ms, st)).length : Int) := by omega
     go_wp2_with fail
     go_ret2
     exact ⟨HBX.out.trans (HB4.out.mono hws), by unfold vq; rw [if_pos HR.out, HOE.out, if_pos hlong]; rfl⟩
    ·
     have i2 : ¬ (262144 : Int) < ((zS (ps, cs, a2, ms, st)).length : Int) := by omega
     go_wp2_with fail
     go_ret2
     exact ⟨HBX.out.trans (HB4.out.mono hws), by unfold vq; rw [if_pos HR.out, HOE.out, if_neg hlong]; exact ⟨Ab, cb, rfl, Sl.of_own HOW.out, ql HOW.out⟩⟩
  ·
   have HR := hid hr
   clear hr
   go_enter Tryz.func11, Tryz.ntmps11
   go_upto_region 1 with (first
     | (with_reducible refine kH ?_
        refine kA (by rfl) 30 _ rfl [.int .u8 (k.toNat : Int), .int .i64 n, .slice Ad ds.length cd, .string au, .slice Ao os.length co, .slice Ap ps.length cp, .slice Ac cs.length cc, .string a2, .string ms, .int .i64 st] _ rfl rfl (by kernel_rfl) ?_
        intro W1 hb1 hz1 hs1
        have HB1 := hid hb1; have HZ1 := hid hz1; have HS1 := hid hs1
        clear hb1 hz1 hs1))
   have HZL0 := hid (show w.heap.size < W1.heap.size by have := HS1.out; omega)
   obtain ⟨zo, hzo⟩ : ∃ zo, w.heap.size = zo := ⟨_, rfl⟩
   have HZL := HZL0
   rw [hzo] at HZ1 HZL ⊢
   have HZO := hid hzo
   clear hzo HS1
   go_wp2_with (first
     | (with_reducible refine ke ?_
        refine k9 (by rfl) (kd 30 _ rfl (p := ⟨zo, 0, none⟩) rfl (run_loadVar_mid _ _ _ _ [.int .u8 (k.toNat : Int), .int .i64 n, .slice Ad ds.length cd, .string au, .slice Ao os.length co, .slice Ap ps.length cp, .slice Ac cs.length cc, .string a2, .string ms, .int .i64 st] _ (fun j u hj => (k6 HZ1.out (0 + j)).trans (by rw [Nat.zero_add]; exact hj)) Tryz.underlying30 rfl (by kernel_rfl))) ?_)
     | (go_at_call 15; refine (J4 (k, (n, ds, au, os), (ps, cs, a2, ms, st)) _ w.heap.size W1 (HIN.out.keep HB1.out) HB1.out.size h1 h2 h3 h4 (HG.out.next HB1.out)).mono ?_; rintro e W2 ⟨hb2, rfl⟩
        have HZ2 := hid ((hb2.block zo HZL.out).trans HZ1.out)
        have HB2 := hid hb2
        rw [HR.out]
        clear hb2))
   go_ret2
   exact ⟨HB1.out.trans (HB2.out.mono HB1.out.size), by unfold vq; rw [if_neg (by rw [HR.out]; decide)]; rfl⟩
end Go.Proofs.YthjaepmfkgejkaaGreatDoor
