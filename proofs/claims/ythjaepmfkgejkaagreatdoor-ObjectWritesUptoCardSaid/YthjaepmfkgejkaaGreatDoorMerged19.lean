/-
  What Decode gives. Conditions: the bytes' slice is one (its length at most its capacity); at most 2^40 bytes; the library's variable MaxLen holds a number.
  What Encode gives. Conditions: lists of at most 2^40; the library's variable MaxLen holds a number.
-/
import Derived.Test.YthjaepmfkgejkaaGreatDoorMerged1
import Derived.Test.YthjaepmfkgejkaaGreatDoorMerged18
import Derived.Test.YthjaepmfkgejkaaGreatDoorObjRead1
import Derived.Test.YthjaepmfkgejkaaGreatDoorMerged14
set_option linter.unusedVariables false
set_option linter.unusedSimpArgs false
set_option maxHeartbeats 4000000
set_option maxRecDepth 100000
namespace Go.Proofs.YthjaepmfkgejkaaGreatDoor
open Lib (hid)
open Go.RowKit Go.Maps
theorem objZ_in (w : World) (B : Nat) : ObjIn w B (.agg objZ.toArray) (0, jq, ju) := by
  refine ⟨⟨⟨(by decide : (Lit.int .i64 0).wf = true), ?_, ?_⟩, ?_, ?_, (by decide : (Lit.int .i64 0).wf = true)⟩, ?_, ?_, ?_, ?_, none, 0, none, 0, none, 0, none, 0, rfl, Sl.nil, Sl.nil, Sl.nil, Sl.nil⟩
  · intro x hx; cases hx
  · intro x hx; cases hx
  · intro x hx; cases hx
  · intro x hx; cases hx
  · intro x hx; cases hx
  · show (0 : Nat) ≤ maxLen
    omega
  · show (0 : Nat) ≤ maxLen
    omega
  · show (0 : Nat) ≤ maxLen
    omega
theorem ObjIn.ten {w : World} {B : Nat} {v : Value} {o : zR} (h : ObjIn w B v o) : ∃ cs : List Value, v = .agg cs.toArray ∧ cs.length = 10 ∧ ∀ u ∈ cs, u.oneCell' = true := by
  obtain ⟨_, _, _, _, _, Ad, cd, Ao, co, Ap, cp, Ac, cc, rfl, _⟩ := h
  refine ⟨[.int .u8 (o.1.toNat : Int), .int .i64 o.2.1.1, .slice Ad o.2.1.2.1.length cd, .string o.2.1.2.2.1, .slice Ao o.2.1.2.2.2.length co, .slice Ap o.2.2.1.length cp, .slice Ac o.2.2.2.1.length cc, .string o.2.2.2.2.1, .string o.2.2.2.2.2.1, .int .i64 o.2.2.2.2.2.2], rfl, rfl, ?_⟩
  intro u hu
  simp only [List.mem_cons, List.not_mem_nil, or_false] at hu
  rcases hu with rfl | rfl | rfl | rfl | rfl | rfl | rfl | rfl | rfl | rfl <;> rfl
theorem Sl.small {X : Nat → Prop} {w w' : World} {B n sz : Nat} {A : Option Addr} {xs : List Value} (h : Sl w B A n sz xs) (hb : But X w w') (hB : B ≤ w.heap.size) (hsz : 32 ≤ sz) (hx : ∀ k, X k → ∃ (cs : List Value) (T : TypeId), w.heap[k]? = some (.cells cs.toArray T (0, 0)) ∧ cs.length < 32) : Sl w' B A n sz xs := by
  refine ⟨h.1, fun hn => ?_⟩
  obtain ⟨b, off, e, hlt, hc⟩ := h.2 hn
  refine ⟨b, off, e, hlt, fun j u hj => ?_⟩
  have hX : ¬ X b := fun q => by
    obtain ⟨cs, T, hk, hl⟩ := hx b q
    have h31 : 31 < xs.length := by rw [h.1]; exact qL (by omega) (qT hsz (Nat.le_mul_of_pos_left sz hn))
    have := hc 31 _ (List.getElem?_eq_getElem h31)
    rw [k5 hk] at this
    have := (List.getElem?_eq_some_iff.1 this).1
    omega
  exact (hb.cell (qL hlt hB) hX).trans (hc j u hj)
theorem ObjIn.small {X : Nat → Prop} {w w' : World} {B : Nat} {v : Value} {o : zR} (h : ObjIn w B v o) (hb : But X w w') (hB : B ≤ w.heap.size) (hx : ∀ k, X k → ∃ (cs : List Value) (T : TypeId), w.heap[k]? = some (.cells cs.toArray T (0, 0)) ∧ cs.length < 32) : ObjIn w' B v o := by
  obtain ⟨h1, h2, h3, h4, h5, Ad, cd, Ao, co, Ap, cp, Ac, cc, hv, s1, s2, s3, s4⟩ := h
  exact ⟨h1, h2, h3, h4, h5, Ad, cd, Ao, co, Ap, cp, Ac, cc, hv, s1.small hb hB (by decide) hx, s2.small hb hB (by decide) hx, s3.small hb hB (by decide) hx, s4.small hb hB (by decide) hx⟩
theorem robj_no (g n c : Nat) (A : Option Addr) (w : World) (hb : w.heap[g]? = some (.cells #[.slice A n c, .int .i64 ((0 : Nat) : Int)] 59 (0, 0))) (hn : n = 0) :
    Calls Tryz.prog 24 #[.pointer (some ⟨g, 0, none⟩)] w (ObjGives g [] w) := by
  subst hn
  have HB := hid hb
  have HLT := hid (qX hb)
  clear hb
  go_enter Tryz.func24, Tryz.ntmps24
  go_upto_region 1 with (first
    | (with_reducible refine kz ?_
       refine ko (by rfl) 57 _ rfl [.pointer (some ⟨g, 0, none⟩)] _ rfl rfl (by kernel_rfl) ?_
       intro W0 hb0 hz0 hs0
       have HB0 := hid hb0; have HZ0 := hid hz0
       clear hb0 hz0)
    | (with_reducible refine kw ?_
       refine ku (by rfl) 30 rfl [.int .u8 0, .int .i64 0, .slice none 0 0, .string kc, .slice none 0 0, .slice none 0 0, .slice none 0 0, .string kc, .string kc, .int .i64 0] (Kn _) ?_
       intro W1 hb1 hz1 hs1
       have HB1 := hid hb1
       clear hb1 hz1))
  have HBX := hid ((HB1.out.block g (qL HLT.out HB0.out.size)).trans ((HB0.out.block g HLT.out).trans HB.out))
  have c0 : W1.cell? ⟨w.heap.size, 0, none⟩ = some (.pointer (some ⟨g, 0, none⟩)) := k5 ((HB1.out.block w.heap.size (by omega)).trans HZ0.out) 0
  clear hs0 hs1
  go_wp2_with (first
    | (go_at_call 50; refine (rbyte_no g 0 c 0 A W1 HBX.out (qR _)).mono ?_; rintro e W2 ⟨rfl, rfl⟩))
  exact ⟨rfl, ObjGives.no (UZ rfl) rfl (((But.of_below (X := fun k => k = g) HB0.out).andBelow HB1.out).andBelow ((qD _ _)))⟩
def ObjDec (l : List UInt8) (w : World) (e : Ending) (w' : World) : Prop :=
  Below w.heap.size w w' ∧ ∃ v, e = .returned (.tuple #[v, .int .i64 (Kr l).2]) ∧ ObjIn w' w'.heap.size v (Kr l).1
theorem Ud {l : List UInt8} (h : 262144 < l.length) : Kr l = ((0, jq, ju), 2) := by unfold Kr; rw [if_pos h]
theorem uV {l : List UInt8} (h : ¬ 262144 < l.length) (hr : zk l = none) : Kr l = ((0, jq, ju), 6) := by unfold Kr; rw [if_neg h, hr]
theorem q8 {l : List UInt8} {o : zR} (h : ¬ 262144 < l.length) (hr : zk l = some o) : Kr l = (o, 0) := by unfold Kr; rw [if_neg h, hr]
theorem jP {w : World} {zo : Nat} {cs : List Value} (h : w.heap[zo]? = some (.cells cs.toArray 30 (0, 0))) (hl : cs.length = 10) : (loadVar 30 ⟨zo, 0, none⟩).run Tryz.prog w = .ok (.agg cs.toArray) w :=
  qV _ zo 0 30 cs _ (fun j u hj => by rw [qZ]; exact (k5 h j).trans hj) Tryz.underlying30 rfl (by rw [hl]; kernel_rfl)
theorem q9 {w : World} {zo : Nat} {v : Value} (h : w.heap[zo]? = some (.cells [v].toArray 31 (0, 0))) : (loadVar 31 ⟨zo, 0, none⟩).run Tryz.prog w = .ok v w := by
  have hc : w.cell? ⟨zo, 0, none⟩ = some v := k5 h 0
  unfold loadVar isAgg
  simp only [Sem.run_bind, run_underlying Tryz.underlying31, Result.andThen_ok]
  simp [Result.andThen, hc]
theorem vM (l : List UInt8) (A : Option Addr) (c : Nat) (w : World) (hs : Sl w w.heap.size A l.length 1 (idV l)) (hc : l.length ≤ c) (hl : l.length ≤ 1099511627776) (hg : Glob w) :
    Calls Tryz.prog 5 #[.slice A l.length c] w (ObjDec l w) := by
  have HS := hid hs; have HG := hid hg
  have hmf : ∀ (fn : Fn) (first cap : Array Value) (w : World), (Instr.makeFunc fn first cap).run Tryz.prog w = .ok (.func fn first cap) w := fun _ _ _ _ => rfl
  clear hs hg
  have HW := HG.out.lt
  go_enter_defers Tryz.func5, Tryz.ntmps5
  by_cases hlong : 262144 < l.length
  ·
   have i1 : (262144 : Int) < (l.length : Int) := by omega
   go_upto_region 1 with (first
     | (with_reducible refine kw ?_
        refine ku (by rfl) 30 rfl objZ (Kn _) ?_
        intro W0 hb0 hz0 hs0
        have HB0 := hid hb0; have HZ0 := hid hz0
        clear hb0 hz0)
     | (with_reducible refine kw ?_
        refine ZF (by rfl) 31 rfl (.int .i64 0) rfl (fun _ => by kernel_rfl) ?_
        intro W1 hb1 hz1 hs1
        have HB1 := hid hb1; have HE := hid hz1
        clear hb1 hz1))
   have HO := hid ((HB1.out.block w.heap.size (by omega)).trans HZ0.out)
   have HB := hid (HB0.out.trans (HB1.out.mono HB0.out.size))
   obtain ⟨zo, hzo⟩ : ∃ zo, w.heap.size = zo := ⟨_, rfl⟩
   obtain ⟨ze, hze⟩ : ∃ ze, W0.heap.size = ze := ⟨_, rfl⟩
   rw [hzo] at HO ⊢
   rw [hze] at HE ⊢
   have HNE := hid (show zo ≠ ze by omega)
   have HWZ := hid (show w.heap.size ≤ zo by omega)
   have HWE := hid (show w.heap.size ≤ ze by omega)
   have HZE1 := hid (show zo < W1.heap.size ∧ ze < W1.heap.size by omega)
   clear HB0 HZ0 HB1 hs0 hs1 hzo hze
   go_frame
   go_wp2_with (first
     | (with_reducible refine kQ ?_
        refine k6 (by rfl) (kB 30 _ rfl (UY _)) ?_)
     | (with_reducible refine ks ?_
        refine km (by rfl) 30 _ _ rfl zo 0 [] objZ [] objZ 30 (.agg (objZ).toArray) rfl rfl rfl rfl (by simpa using HO.out) rfl (by kernel_rfl) (by unfold objZ; intro u hu; simp only [List.mem_cons, List.not_mem_nil, or_false] at hu; rcases hu with rfl | rfl | rfl | rfl | rfl | rfl | rfl | rfl | rfl | rfl <;> rfl) ?_
        intro W2 hb2 hy2 hs2
        have HO2 : Hid (W2.heap[zo]? = some (.cells (objZ).toArray 30 (0, 0))) := hid (by simpa using hy2)
        have HE2 := hid ((hb2.block ze HZE1.out.2 (fun e => HNE.out e.symm)).trans HE.out); have HB2 := hid (hb2.below (B := w.heap.size) HB.out.size (fun k hk e => by have := HWZ.out; omega))
        clear hb2 hy2 hs2)
     | (with_reducible refine ks ?_
        go_loud (refine km (by rfl) 31 _ _ rfl ze 0 [] [.int .i64 0] [] [.int .i64 2] 31 (.int .i64 2) rfl rfl rfl rfl (by simpa using HE2.out) rfl (by kernel_rfl) (by intro u hu; simp only [List.mem_singleton] at hu; subst hu; rfl) ?_)
        intro W3 hb3 hy3 hs3
        have HE3 : Hid (W3.heap[ze]? = some (.cells [.int .i64 2].toArray 31 (0, 0))) := hid (by simpa using hy3)
        have HO3 := hid ((hb3.block zo (qX HO2.out) HNE.out).trans HO2.out); have HB3 := hid (hb3.below (B := w.heap.size) (qT HB.out.size HB2.out.size) (fun k hk e => by have := HWE.out; omega))
        clear hb3 hy3 hs3))
   exact ⟨_, vb Tryz.results5 _ _ rfl rfl (jP HO3.out rfl) (q9 HE3.out), HB.out.trans (HB2.out.trans HB3.out), _, by rw [Ud hlong], by rw [Ud hlong]; exact objZ_in _ _⟩
  ·
   have i1 : ¬ (262144 : Int) < (l.length : Int) := by omega
   have HOBJ : Hid (∀ W1 W2 : World, Below w.heap.size w W1 → Below W1.heap.size W1 W2 → W2.heap[W1.heap.size]? = some (.cells [.slice A l.length c, .int .i64 ((0 : Nat) : Int)].toArray 59 (0, 0)) → Calls Tryz.prog 24 #[.pointer (some ⟨W1.heap.size, 0, none⟩)] W2 (ObjGives W1.heap.size l W2)) := hid (fun W1 W2 hb1 hb2 hg => by
     have hb := hb1.trans (hb2.mono hb1.size)
     have hsz := hb1.size
     by_cases hn : l = []
     · subst hn
       exact robj_no W1.heap.size _ c A W2 hg rfl
     ·
      have hpos : 0 < l.length := List.length_pos_iff.2 hn
      obtain ⟨b, off, rfl, hlt, hcl⟩ := (HS.out.keep hb).2 hpos
      refine robj_any W1.heap.size b off c l W2 ⟨hg, Nat.zero_le _, hc, by omega, fun j hj => hcl j _ ((by unfold idV; rw [List.getElem?_map, List.getElem?_eq_getElem hj]; rfl))⟩ hl (HG.out.keep hb HG.out.lt) ?_
      have := HG.out.lt
      omega)
   go_upto_region 1 with (first
     | (with_reducible refine kw ?_
        refine ku (by rfl) 30 rfl objZ (Kn _) ?_
        intro W0 hb0 hz0 hs0
        have HB0 := hid hb0; have HZ0 := hid hz0
        clear hb0 hz0)
     | (with_reducible refine kw ?_
        refine ZF (by rfl) 31 rfl (.int .i64 0) rfl (fun _ => by kernel_rfl) ?_
        intro W1 hb1 hz1 hs1
        have HB1 := hid hb1; have HE := hid hz1
        clear hb1 hz1))
   have HO := hid ((HB1.out.block w.heap.size (by omega)).trans HZ0.out)
   have HB := hid (HB0.out.trans (HB1.out.mono HB0.out.size))
   obtain ⟨zo, hzo⟩ : ∃ zo, w.heap.size = zo := ⟨_, rfl⟩
   obtain ⟨ze, hze⟩ : ∃ ze, W0.heap.size = ze := ⟨_, rfl⟩
   rw [hzo] at HO ⊢
   rw [hze] at HE ⊢
   have HNE := hid (show zo ≠ ze by omega)
   have HWZ := hid (show w.heap.size ≤ zo by omega)
   have HWE := hid (show w.heap.size ≤ ze by omega)
   have HZE1 := hid (show zo < W1.heap.size ∧ ze < W1.heap.size by omega)
   clear HB0 HZ0 HB1 hs0 hs1 hzo hze
   go_frame
   rcases hrd : zk l with _ | o
   ·
    have HRD := hid hrd
    clear hrd
    go_wp2_with (first
      | (with_reducible refine kz ?_
         refine ko (by rfl) 59 _ rfl [.slice A l.length c, .int .i64 ((0 : Nat) : Int)] _ rfl rfl (by kernel_rfl) ?_
         intro W2 hb2 hz2 hs2
         have HGV := hid (HOBJ.out W1 W2 HB.out hb2 hz2)
         have HO2 := hid ((hb2.block zo HZE1.out.1).trans HO.out)
         have HE2 := hid ((hb2.block ze HZE1.out.2).trans HE.out)
         have HB2 := hid hb2
         clear hb2 hz2 hs2)
      | (go_at_call 24; go_loud (refine HGV.out.mono ?_); rintro e W3 hgv
         unfold ObjGives at hgv
         rw [HRD.out] at hgv
         go_loud (obtain ⟨rfl, hbt⟩ := hgv)
         have HB3 := hid hbt
         clear hbt))
    have HO3 := (HB3.out.block zo (qX HO2.out) (by have := HZE1.out.1; omega)).trans HO2.out
    have HE3 := (HB3.out.block ze (qX HE2.out) (by have := HZE1.out.2; omega)).trans HE2.out
    refine leaves_cons (f := 23) (args := #[.pointer (some ⟨zo, 0, none⟩), .pointer (some ⟨ze, 0, none⟩)]) (by simp) (by simp [go_sem]) ?_
    refine (dec_wrong zo ze _ _ _ HO3 rfl HE3 rfl HNE.out).mono ?_
    rintro e u' w9 ⟨rfl, hset, ho9, he9, hb9⟩
    simp only [hset]
    refine ⟨_, vb Tryz.results5 _ _ rfl rfl (jP ho9 rfl) (q9 he9), ?_, _, by rw [uV hlong HRD.out], by rw [uV hlong HRD.out]; exact objZ_in _ _⟩
    have e1 := HB.out.trans (HB2.out.mono HB.out.size)
    have h1 := HB.out.size; have h2 := HWZ.out; have h3 := HWE.out
    have e2 := HB3.out.below (B := w.heap.size) e1.size (fun k hk e => by have e' : k = W1.heap.size := e; omega)
    exact (e1.trans e2).trans (hb9.below (B := w.heap.size) (e1.trans e2).size (fun k hk e => by rcases e with e | e <;> omega))
   ·
    have HRD := hid hrd
    clear hrd
    go_wp2_with (first
      | (with_reducible refine kz ?_
         refine ko (by rfl) 59 _ rfl [.slice A l.length c, .int .i64 ((0 : Nat) : Int)] _ rfl rfl (by kernel_rfl) ?_
         intro W2 hb2 hz2 hs2
         have HGV := hid (HOBJ.out W1 W2 HB.out hb2 hz2)
         have HO2 := hid ((hb2.block zo HZE1.out.1).trans HO.out)
         have HE2 := hid ((hb2.block ze HZE1.out.2).trans HE.out)
         have HB2 := hid hb2
         clear hb2 hz2 hs2)
      | (go_at_call 24; refine HGV.out.mono ?_; rintro e W3 hgv
         unfold ObjGives at hgv
         rw [HRD.out] at hgv
         obtain ⟨v, rfl, hbt, hin⟩ := hgv
         have HB3 := hid hbt
         obtain ⟨cs, rfl, hcs, h1s⟩ := hin.ten
         have HO3 := hid ((hbt.block zo (qX HO2.out) (by have := HZE1.out.1; omega)).trans HO2.out)
         have HE3 := hid ((hbt.block ze (qX HE2.out) (by have := HZE1.out.2; omega)).trans HE2.out)
         have HIN := hid hin
         clear hbt hin HO2 HE2)
      | (with_reducible refine ks ?_
         refine km (by rfl) 30 _ _ rfl zo 0 [] objZ [] cs 30 (.agg cs.toArray) rfl rfl rfl rfl (by simpa using HO3.out) hcs.symm (by rw [hcs]; kernel_rfl) h1s ?_
         intro W4 hb4 hy4 hs4
         have HO4 : Hid (W4.heap[zo]? = some (.cells (cs).toArray 30 (0, 0))) := hid (by simpa using hy4)
         have HE4 := hid ((hb4.block ze (qX HE3.out) (fun e => HNE.out e.symm)).trans HE3.out); have HB4 := hid hb4
         clear hb4 hy4 hs4)
      | (with_reducible refine ks ?_
         go_loud (refine km (by rfl) 31 _ _ rfl ze 0 [] [.int .i64 0] [] [.int .i64 0] 31 (.int .i64 0) rfl rfl rfl rfl (by simpa using HE4.out) rfl (by kernel_rfl) (by intro u hu; simp only [List.mem_singleton] at hu; subst hu; rfl) ?_)
         intro W5 hb5 hy5 hs5
         have HE5 : Hid (W5.heap[ze]? = some (.cells [.int .i64 0].toArray 31 (0, 0))) := hid (by simpa using hy5)
         have HO5 := hid ((hb5.block zo (qX HO4.out) HNE.out).trans HO4.out); have HB5 := hid hb5
         clear hb5 hy5 hs5))
    refine leaves_cons (f := 23) (args := #[.pointer (some ⟨zo, 0, none⟩), .pointer (some ⟨ze, 0, none⟩)]) (by simp) (by simp [go_sem]) ?_
    refine (dec_idle ⟨zo, 0, none⟩ ⟨ze, 0, none⟩ _).mono ?_
    rintro e u' w9 ⟨rfl, rfl, rfl⟩
    have e1 := HB.out.trans (HB2.out.mono HB.out.size)
    have h1 := HB.out.size; have h2 := HWZ.out; have h3 := HWE.out
    have e2 := HB3.out.below (B := w.heap.size) e1.size (fun k hk e => by have e' : k = W1.heap.size := e; omega)
    have e3 := e1.trans e2
    have e4 := e3.trans (HB4.out.below (B := w.heap.size) e3.size (fun k hk e => by have e' : k = zo := e; omega))
    have e5 := e4.trans (HB5.out.below (B := w.heap.size) e4.size (fun k hk e => by have e' : k = ze := e; omega))
    refine ⟨_, vb Tryz.results5 _ _ rfl rfl (jP HO5.out hcs) (q9 HE5.out), e5, _, by rw [q8 hlong HRD.out], ?_⟩
    rw [q8 hlong HRD.out]
    have k3 : Hid (W3.heap[zo]? = some (.cells objZ.toArray 30 (0, 0))) := HO3
    have hq : ObjIn W4 W3.heap.size (.agg cs.toArray) o := HIN.out.small HB4.out (qR _) (fun k e => by have e' : k = zo := e; subst e'; exact ⟨_, _, k3.out, by decide⟩)
    have hq2 : ObjIn _ W3.heap.size (.agg cs.toArray) o := hq.small HB5.out HB4.out.size (fun k e => by have e' : k = ze := e; subst e'; exact ⟨[.int .i64 0], _, HE4.out, by decide⟩)
    exact hq2.more (qT HB4.out.size HB5.out.size)
end Go.Proofs.YthjaepmfkgejkaaGreatDoor
namespace Go.Proofs.YthjaepmfkgejkaaGreatDoor
open Lib (hid)
open Go.RowKit Go.Maps
theorem Qz {w : World} {base n sz : Nat} {e : TypeId} {A : Option Addr} {m c : Nat} {xs : List Value} (h : w.ownsRow base e sz (.slice A m c) n xs) : n ≤ c := by
  rcases h.2 with ⟨h0, h1⟩ | ⟨g, cap, cur, h0, _, _, h1, _⟩
  · omega
  · injection h0 with _ _ h2
    omega
def Ka (o : zR) (e : Ending) (w' : World) : Prop :=
  if kD o = true then (if 262144 < (zA o).length then e = .returned (.tuple #[.slice none 0 0, .int .i64 2]) else ∃ A c, e = .returned (.tuple #[.slice A (zA o).length c, .int .i64 0]) ∧ Sl w' w'.heap.size A (zA o).length 1 (idV (zA o)) ∧ (zA o).length ≤ c)
  else e = .returned (.tuple #[.slice none 0 0, .int .i64 1])
theorem KB (o : zR) (v : Value) (w : World) (h : ObjIn w w.heap.size v o) (hl1 : o.2.1.2.1.length ≤ 1099511627776) (hl2 : o.2.1.2.2.2.length ≤ 1099511627776) (hl3 : o.2.2.1.length ≤ 1099511627776) (hl4 : o.2.2.2.1.length ≤ 1099511627776) (hg : Glob w) :
    Calls Tryz.prog 11 #[v] w fun e w' => Below w.heap.size w w' ∧ Ka o e w' := by
  have HIN := hid h
  obtain ⟨ok, hop, ha, ha2, hm, Ad, cd, Ao, co, Ap, cp, Ac, cc, rfl, sd, so, sp, sc⟩ := h
  obtain ⟨k, ⟨n, ds, au, os⟩, ⟨ps, cs, a2, ms, st⟩⟩ := o
  dsimp only at *
  have HG := hid hg
  have HCI : Hid (ChIn w w.heap.size (.agg [.int .i64 n, .slice Ad ds.length cd, .string au, .slice Ao os.length co].toArray) (n, ds, au, os)) := hid ⟨ok.1, hop, ha, Ad, cd, Ao, co, rfl, sd, so⟩
  have HMI : Hid (CmIn w w.heap.size (.agg [.slice Ap ps.length cp, .slice Ac cs.length cc, .string a2, .string ms, .int .i64 st].toArray) (ps, cs, a2, ms, st)) := hid ⟨ok.2, ha2, hm, Ap, cp, Ac, cc, rfl, sp, sc⟩
  have h1 := hl1; have h2 := hl2; have h3 := hl3; have h4 := hl4
  have hwz := (jO ok.2.2.2).2
  clear ok hop ha ha2 hm sd so sp sc hg hl1 hl2 hl3 hl4
  rcases Bool.eq_false_or_eq_true (kD (k, (n, ds, au, os), (ps, cs, a2, ms, st))) with hr | hr
  ·
   have HR := hid hr
   by_cases hk : k = 1
   ·
    subst hk
    have HCB : Hid (kK (n, ds, au, os) = true) := hid (by unfold kD at hr; rw [if_pos rfl, Bool.and_eq_true] at hr; exact hr.2)
    have HOE : Hid (zA (1, (n, ds, au, os), (ps, cs, a2, ms, st)) = Kd (n, ds, au, os)) := hid (by unfold zA; rw [if_pos rfl])
    clear hr
    go_enter Tryz.func11, Tryz.ntmps11
    go_upto_region 1 with (first
      | (with_reducible refine kz ?_
         refine ko (by rfl) 30 _ rfl [.int .u8 ((1 : UInt8).toNat : Int), .int .i64 n, .slice Ad ds.length cd, .string au, .slice Ao os.length co, .slice Ap ps.length cp, .slice Ac cs.length cc, .string a2, .string ms, .int .i64 st] _ rfl rfl (by kernel_rfl) ?_
         intro W1 hb1 hz1 hs1
         have HB1 := hid hb1; have HZ1 := hid hz1; have HS1 := hid hs1
         clear hb1 hz1 hs1))
    have HZL0 := hid (show w.heap.size < W1.heap.size by have := HS1.out; omega)
    obtain ⟨zo, hzo⟩ : ∃ zo, w.heap.size = zo := ⟨_, rfl⟩
    have HZL := HZL0
    rw [hzo] at HZ1 HZL ⊢
    have HZO := hid hzo
    clear hzo HS1
    go_upto_region 3 with (first
      | (with_reducible refine k7 ?_
         refine k6 (by rfl) (k9 30 _ rfl (p := ⟨zo, 0, none⟩) rfl (qV _ _ _ _ [.int .u8 ((1 : UInt8).toNat : Int), .int .i64 n, .slice Ad ds.length cd, .string au, .slice Ao os.length co, .slice Ap ps.length cp, .slice Ac cs.length cc, .string a2, .string ms, .int .i64 st] _ (fun j u hj => (k5 HZ1.out (0 + j)).trans (by rw [qZ]; exact hj)) Tryz.underlying30 rfl (by kernel_rfl))) ?_)
      | (go_at_call 15; refine (Jh ((1 : UInt8), (n, ds, au, os), (ps, cs, a2, ms, st)) _ w.heap.size W1 (HIN.out.keep HB1.out) HB1.out.size h1 h2 h3 h4 (HG.out.next HB1.out)).mono ?_; rintro e W2 ⟨hb2, rfl⟩
         have HZ2 := hid ((hb2.block zo HZL.out).trans HZ1.out)
         have HB2 := hid hb2
         rw [HR.out]
         clear hb2))
    go_upto_region 4 with (first
      | (with_reducible refine kz ?_
         refine ko (by rfl) 76 _ rfl [.slice none 0 0] _ rfl rfl (by kernel_rfl) ?_
         intro W3 hb3 hz3 hs3
         have HAT3 : Hid (WrAt W3 W2.heap.size []) := hid ⟨_, hz3, World.ownsRow_nil _ _ _ _⟩
         have HZ3 := hid ((hb3.block zo (qX HZ2.out)).trans HZ2.out)
         have HB3 := hid hb3
         clear hb3 hz3 hs3))
    have HBW : Hid (Below w.heap.size w W2) := hid (HB1.out.trans (HB2.out.mono HB1.out.size))
    have HBX : Hid (Below w.heap.size w W3) := hid (HBW.out.trans (HB3.out.mono HBW.out.size))
    have hws : w.heap.size ≤ W2.heap.size := HBW.out.size
    have ck3 : W3.cell? ⟨zo, 0, none⟩ = some (.int .u8 1) := (k5 HZ3.out 0).trans rfl
    go_upto_region 7 with (first
      | (with_reducible refine k7 ?_
         refine k6 (by rfl) (k9 26 _ rfl (p := ⟨zo, 1, none⟩) rfl (qV _ _ _ _ [.int .i64 n, .slice Ad ds.length cd, .string au, .slice Ao os.length co] _ (fun j u hj => (k5 HZ3.out (1 + j)).trans (vV hj)) Tryz.underlying26 rfl (by kernel_rfl))) ?_)
      | (go_at_call 31; refine (wchange_any W2.heap.size (n, ds, au, os) _ W3 HAT3.out ((HCI.out.keep HBX.out).more hws) HCB.out).mono ?_; rintro e W4 ⟨rfl, hat, hgo⟩
         have HB4 := hid ((hgo.belowG HAT3.out))
         obtain ⟨v, hhg, how⟩ := hat
         obtain ⟨Ab, cb, rfl⟩ := kg how
         have cb4 : W4.cell? ⟨W2.heap.size, 0, none⟩ = some (.slice Ab _ cb) := k5 hhg 0
         have HOW := hid how; have HHG := hid hhg
         clear hgo hhg how))
    by_cases hlong : 262144 < (Kd (n, ds, au, os)).length
    ·
     have i2 : (262144 : Int) < ((Kd (n, ds, au, os)).length : Int) := by omega
     go_wp2_with fail
     go_ret2
     exact ⟨HBX.out.trans (HB4.out.mono hws), by unfold Ka; rw [if_pos HR.out, HOE.out, if_pos hlong]; rfl⟩
    ·
     have i2 : ¬ (262144 : Int) < ((Kd (n, ds, au, os)).length : Int) := by omega
     go_wp2_with fail
     go_ret2
     exact ⟨HBX.out.trans (HB4.out.mono hws), by unfold Ka; rw [if_pos HR.out, HOE.out, if_neg hlong]; exact ⟨Ab, cb, rfl, Sl.of_own HOW.out, Qz HOW.out⟩⟩
   ·
    obtain rfl : k = 2 := by
      unfold kD at hr
      rw [if_neg hk] at hr
      by_cases h2 : k = 2
      · exact h2
      · rw [if_neg h2] at hr; cases hr
    have hcb : kO (ps, cs, a2, ms, st) = true := by unfold kD at hr; rw [if_neg hk, if_pos rfl, Bool.and_eq_true] at hr; exact hr.2
    have HOE : Hid (zA (2, (n, ds, au, os), (ps, cs, a2, ms, st)) = KH (ps, cs, a2, ms, st)) := hid (by unfold zA; rw [if_neg (show ¬ (2 : UInt8) = 1 by decide)])
    unfold kO at hcb
    simp only [Bool.and_eq_true, decide_eq_true_eq] at hcb
    obtain ⟨⟨⟨⟨⟨q1, q2⟩, q3⟩, q4⟩, q5⟩, q6⟩ := hcb
    have hm1 : ps.length ≤ 1048576 := by unfold KA at q1; simp only [Bool.and_eq_true, decide_eq_true_eq] at q1; omega
    have hm2 : cs.length ≤ 1048576 := by unfold KA at q2; simp only [Bool.and_eq_true, decide_eq_true_eq] at q2; omega
    have hm3 := q5
    have hm4 : a2.size ≤ 1048576 := qT (JC q3) (by decide)
    have hm5 : ms.size ≤ 1048576 := qT (UG q4) (by decide)
    clear hr hk q1 q2 q3 q4 q5 q6
    go_enter Tryz.func11, Tryz.ntmps11
    go_upto_region 1 with (first
      | (with_reducible refine kz ?_
         refine ko (by rfl) 30 _ rfl [.int .u8 ((2 : UInt8).toNat : Int), .int .i64 n, .slice Ad ds.length cd, .string au, .slice Ao os.length co, .slice Ap ps.length cp, .slice Ac cs.length cc, .string a2, .string ms, .int .i64 st] _ rfl rfl (by kernel_rfl) ?_
         intro W1 hb1 hz1 hs1
         have HB1 := hid hb1; have HZ1 := hid hz1; have HS1 := hid hs1
         clear hb1 hz1 hs1))
    have HZL0 := hid (show w.heap.size < W1.heap.size by have := HS1.out; omega)
    obtain ⟨zo, hzo⟩ : ∃ zo, w.heap.size = zo := ⟨_, rfl⟩
    have HZL := HZL0
    rw [hzo] at HZ1 HZL ⊢
    have HZO := hid hzo
    clear hzo HS1
    go_upto_region 3 with (first
      | (with_reducible refine k7 ?_
         refine k6 (by rfl) (k9 30 _ rfl (p := ⟨zo, 0, none⟩) rfl (qV _ _ _ _ [.int .u8 ((2 : UInt8).toNat : Int), .int .i64 n, .slice Ad ds.length cd, .string au, .slice Ao os.length co, .slice Ap ps.length cp, .slice Ac cs.length cc, .string a2, .string ms, .int .i64 st] _ (fun j u hj => (k5 HZ1.out (0 + j)).trans (by rw [qZ]; exact hj)) Tryz.underlying30 rfl (by kernel_rfl))) ?_)
      | (go_at_call 15; refine (Jh ((2 : UInt8), (n, ds, au, os), (ps, cs, a2, ms, st)) _ w.heap.size W1 (HIN.out.keep HB1.out) HB1.out.size h1 h2 h3 h4 (HG.out.next HB1.out)).mono ?_; rintro e W2 ⟨hb2, rfl⟩
         have HZ2 := hid ((hb2.block zo HZL.out).trans HZ1.out)
         have HB2 := hid hb2
         rw [HR.out]
         clear hb2))
    go_upto_region 4 with (first
      | (with_reducible refine kz ?_
         refine ko (by rfl) 76 _ rfl [.slice none 0 0] _ rfl rfl (by kernel_rfl) ?_
         intro W3 hb3 hz3 hs3
         have HAT3 : Hid (WrAt W3 W2.heap.size []) := hid ⟨_, hz3, World.ownsRow_nil _ _ _ _⟩
         have HZ3 := hid ((hb3.block zo (qX HZ2.out)).trans HZ2.out)
         have HB3 := hid hb3
         clear hb3 hz3 hs3))
    have HBW : Hid (Below w.heap.size w W2) := hid (HB1.out.trans (HB2.out.mono HB1.out.size))
    have HBX : Hid (Below w.heap.size w W3) := hid (HBW.out.trans (HB3.out.mono HBW.out.size))
    have hws : w.heap.size ≤ W2.heap.size := HBW.out.size
    have ck3 : W3.cell? ⟨zo, 0, none⟩ = some (.int .u8 2) := (k5 HZ3.out 0).trans rfl
    go_upto_region 7 with (first
      | (with_reducible refine k7 ?_
         refine k6 (by rfl) (k9 28 _ rfl (p := ⟨zo, 5, none⟩) rfl (qV _ _ _ _ [.slice Ap ps.length cp, .slice Ac cs.length cc, .string a2, .string ms, .int .i64 st] _ (fun j u hj => (k5 HZ3.out (5 + j)).trans (uU hj)) Tryz.underlying28 rfl (by kernel_rfl))) ?_)
      | (go_at_call 32; refine (wcommit_any W2.heap.size (ps, cs, a2, ms, st) _ W3 HAT3.out ((HMI.out.keep HBX.out).more hws) hm1 hm2 hm3 hm4 hm5).mono ?_; rintro e W4 ⟨rfl, hat, hgo⟩
         have HB4 := hid ((hgo.belowG HAT3.out))
         obtain ⟨v, hhg, how⟩ := hat
         obtain ⟨Ab, cb, rfl⟩ := kg how
         have cb4 : W4.cell? ⟨W2.heap.size, 0, none⟩ = some (.slice Ab _ cb) := k5 hhg 0
         have HOW := hid how; have HHG := hid hhg
         clear hgo hhg how))
    by_cases hlong : 262144 < (KH (ps, cs, a2, ms, st)).length
    ·
     have i2 : (262144 : Int) < ((KH (ps, cs, a2, ms, st)).length : Int) := by omega
     go_wp2_with fail
     go_ret2
     exact ⟨HBX.out.trans (HB4.out.mono hws), by unfold Ka; rw [if_pos HR.out, HOE.out, if_pos hlong]; rfl⟩
    ·
     have i2 : ¬ (262144 : Int) < ((KH (ps, cs, a2, ms, st)).length : Int) := by omega
     go_wp2_with fail
     go_ret2
     exact ⟨HBX.out.trans (HB4.out.mono hws), by unfold Ka; rw [if_pos HR.out, HOE.out, if_neg hlong]; exact ⟨Ab, cb, rfl, Sl.of_own HOW.out, Qz HOW.out⟩⟩
  ·
   have HR := hid hr
   clear hr
   go_enter Tryz.func11, Tryz.ntmps11
   go_upto_region 1 with (first
     | (with_reducible refine kz ?_
        refine ko (by rfl) 30 _ rfl [.int .u8 (k.toNat : Int), .int .i64 n, .slice Ad ds.length cd, .string au, .slice Ao os.length co, .slice Ap ps.length cp, .slice Ac cs.length cc, .string a2, .string ms, .int .i64 st] _ rfl rfl (by kernel_rfl) ?_
        intro W1 hb1 hz1 hs1
        have HB1 := hid hb1; have HZ1 := hid hz1; have HS1 := hid hs1
        clear hb1 hz1 hs1))
   have HZL0 := hid (show w.heap.size < W1.heap.size by have := HS1.out; omega)
   obtain ⟨zo, hzo⟩ : ∃ zo, w.heap.size = zo := ⟨_, rfl⟩
   have HZL := HZL0
   rw [hzo] at HZ1 HZL ⊢
   have HZO := hid hzo
   clear hzo HS1
   go_wp2_with (first
     | (with_reducible refine k7 ?_
        refine k6 (by rfl) (k9 30 _ rfl (p := ⟨zo, 0, none⟩) rfl (qV _ _ _ _ [.int .u8 (k.toNat : Int), .int .i64 n, .slice Ad ds.length cd, .string au, .slice Ao os.length co, .slice Ap ps.length cp, .slice Ac cs.length cc, .string a2, .string ms, .int .i64 st] _ (fun j u hj => (k5 HZ1.out (0 + j)).trans (by rw [qZ]; exact hj)) Tryz.underlying30 rfl (by kernel_rfl))) ?_)
     | (go_at_call 15; refine (Jh (k, (n, ds, au, os), (ps, cs, a2, ms, st)) _ w.heap.size W1 (HIN.out.keep HB1.out) HB1.out.size h1 h2 h3 h4 (HG.out.next HB1.out)).mono ?_; rintro e W2 ⟨hb2, rfl⟩
        have HZ2 := hid ((hb2.block zo HZL.out).trans HZ1.out)
        have HB2 := hid hb2
        rw [HR.out]
        clear hb2))
   go_ret2
   exact ⟨HB1.out.trans (HB2.out.mono HB1.out.size), by unfold Ka; rw [if_neg (by rw [HR.out]; decide)]; rfl⟩
end Go.Proofs.YthjaepmfkgejkaaGreatDoor
