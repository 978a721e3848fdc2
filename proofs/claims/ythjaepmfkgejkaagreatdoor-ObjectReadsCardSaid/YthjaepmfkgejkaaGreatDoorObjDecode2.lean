/-
  What Decode gives. Conditions: the bytes' slice is one (its length at most its capacity); at most 2^40 bytes; the library's variable MaxLen holds a number.
-/
import Derived.Test.YthjaepmfkgejkaaGreatDoorObjDecode
import Derived.Test.YthjaepmfkgejkaaGreatDoorObjRead1
namespace Go.Proofs.YthjaepmfkgejkaaGreatDoor
open Go.RowKit Go.Maps
set_option linter.unusedVariables false
set_option linter.unusedSimpArgs false

theorem objZ_in (w : World) (B : Nat) : ObjIn w B (.agg objZ.toArray) (0, noChangeD, noCommitD) := by
  refine ⟨⟨⟨(by decide : (Lit.int .i64 0).wf = true), ?_, ?_⟩, ?_, ?_, (by decide : (Lit.int .i64 0).wf = true)⟩, ?_, ?_, ?_, ?_, none, 0, none, 0, none, 0, none, 0, rfl, Sl.nil, Sl.nil, Sl.nil, Sl.nil⟩
  · intro x hx; cases hx
  · intro x hx; cases hx
  · intro x hx; cases hx
  · intro x hx; cases hx
  · intro x hx; cases hx
  · show (0 : Nat) ≤ maxLen
    omega
  · show (0 : Nat) ≤ maxLen
    omega
  · show (0 : Nat) ≤ maxLen
    omega
/-- Ten cells. -/
theorem ObjIn.ten {w : World} {B : Nat} {v : Value} {o : ObjD} (h : ObjIn w B v o) : ∃ cs : List Value, v = .agg cs.toArray ∧ cs.length = 10 ∧ ∀ u ∈ cs, u.oneCell' = true := by
  obtain ⟨_, _, _, _, _, Ad, cd, Ao, co, Ap, cp, Ac, cc, rfl, _⟩ := h
  refine ⟨[.int .u8 (o.1.toNat : Int), .int .i64 o.2.1.1, .slice Ad o.2.1.2.1.length cd, .string o.2.1.2.2.1, .slice Ao o.2.1.2.2.2.length co, .slice Ap o.2.2.1.length cp, .slice Ac o.2.2.2.1.length cc, .string o.2.2.2.2.1, .string o.2.2.2.2.2.1, .int .i64 o.2.2.2.2.2.2], rfl, rfl, ?_⟩
  intro u hu
  simp only [List.mem_cons, List.not_mem_nil, or_false] at hu
  rcases hu with rfl | rfl | rfl | rfl | rfl | rfl | rfl | rfl | rfl | rfl <;> rfl
/-- Rows of many cells do not lie in small blocks. -/
theorem Sl.small {X : Nat → Prop} {w w' : World} {B n sz : Nat} {A : Option Addr} {xs : List Value} (h : Sl w B A n sz xs) (hb : But X w w') (hB : B ≤ w.heap.size) (hsz : 32 ≤ sz) (hx : ∀ k, X k → ∃ (cs : List Value) (T : TypeId), w.heap[k]? = some (.cells cs.toArray T (0, 0)) ∧ cs.length < 32) : Sl w' B A n sz xs := by
  refine ⟨h.1, fun hn => ?_⟩
  obtain ⟨b, off, e, hlt, hc⟩ := h.2 hn
  refine ⟨b, off, e, hlt, fun j u hj => ?_⟩
  have hX : ¬ X b := fun q => by
    obtain ⟨cs, T, hk, hl⟩ := hx b q
    have h31 : 31 < xs.length := by rw [h.1]; exact Nat.lt_of_lt_of_le (by omega) (Nat.le_trans hsz (Nat.le_mul_of_pos_left sz hn))
    have := hc 31 _ (List.getElem?_eq_getElem h31)
    rw [cells_at0 hk] at this
    have := (List.getElem?_eq_some_iff.1 this).1
    omega
  exact (hb.cell (Nat.lt_of_lt_of_le hlt hB) hX).trans (hc j u hj)
theorem ObjIn.small {X : Nat → Prop} {w w' : World} {B : Nat} {v : Value} {o : ObjD} (h : ObjIn w B v o) (hb : But X w w') (hB : B ≤ w.heap.size) (hx : ∀ k, X k → ∃ (cs : List Value) (T : TypeId), w.heap[k]? = some (.cells cs.toArray T (0, 0)) ∧ cs.length < 32) : ObjIn w' B v o := by
  obtain ⟨h1, h2, h3, h4, h5, Ad, cd, Ao, co, Ap, cp, Ac, cc, hv, s1, s2, s3, s4⟩ := h
  exact ⟨h1, h2, h3, h4, h5, Ad, cd, Ao, co, Ap, cp, Ac, cc, hv, s1.small hb hB (by decide) hx, s2.small hb hB (by decide) hx, s3.small hb hB (by decide) hx, s4.small hb hB (by decide) hx⟩
set_option maxHeartbeats 4000000 in
set_option maxRecDepth 100000 in
/-- No bytes. -/
theorem robj_no (g n c : Nat) (A : Option Addr) (w : World) (hb : w.heap[g]? = some (.cells #[.slice A n c, .int .i64 ((0 : Nat) : Int)] 59 (0, 0))) (hn : n = 0) :
    Calls Tryz.prog 24 #[.pointer (some ⟨g, 0, none⟩)] w (ObjGives g [] w) := by
  subst hn
  have HB := Lib.hid hb
  have HLT := Lib.hid (Array.getElem?_eq_some_iff.1 hb).1
  clear hb
  go_enter Tryz.func24, Tryz.ntmps24
  go_upto_region 1 with (first
    | (with_reducible refine at_box ?_
       refine wp_boxM (by rfl) 57 _ rfl [.pointer (some ⟨g, 0, none⟩)] _ rfl rfl (by kernel_rfl) ?_
       intro W0 hb0 hz0 hs0
       have HB0 := Lib.hid hb0; have HZ0 := Lib.hid hz0
       clear hb0 hz0)
    | (with_reducible refine at_alloc ?_
       refine wp_allocM (by rfl) 30 rfl [.int .u8 0, .int .i64 0, .slice none 0 0, .string noneS, .slice none 0 0, .slice none 0 0, .slice none 0 0, .string noneS, .string noneS, .int .i64 0] (zeroObj_run _) ?_
       intro W1 hb1 hz1 hs1
       have HB1 := Lib.hid hb1
       clear hb1 hz1))
  have HBX := Lib.hid ((HB1.out.block g (Nat.lt_of_lt_of_le HLT.out HB0.out.size)).trans ((HB0.out.block g HLT.out).trans HB.out))
  have c0 : W1.cell? ⟨w.heap.size, 0, none⟩ = some (.pointer (some ⟨g, 0, none⟩)) := cells_at0 ((HB1.out.block w.heap.size (by omega)).trans HZ0.out) 0
  clear hs0 hs1
  go_wp2_with (first
    | (go_at_call 50; refine (rbyte_no g 0 c 0 A W1 HBX.out (Nat.le_refl _)).mono ?_; rintro e W2 ⟨rfl, rfl⟩))
  exact ⟨rfl, ObjGives.no (readS_byte rfl) rfl (((But.of_below (X := fun k => k = g) HB0.out).andBelow HB1.out).andBelow ((Below.refl _ _).drew))⟩
/-- What Decode gives. -/
def ObjDec (l : List UInt8) (w : World) (e : Ending) (w' : World) : Prop :=
  Below w.heap.size w w' ∧ ∃ v, e = .returned (.tuple #[v, .int .i64 (decodeS l).2]) ∧ ObjIn w' w'.heap.size v (decodeS l).1
theorem objDec_long {l : List UInt8} (h : 262144 < l.length) : decodeS l = ((0, noChangeD, noCommitD), 2) := by unfold decodeS; rw [if_pos h]
theorem objDec_no {l : List UInt8} (h : ¬ 262144 < l.length) (hr : readS l = none) : decodeS l = ((0, noChangeD, noCommitD), 6) := by unfold decodeS; rw [if_neg h, hr]
theorem objDec_yes {l : List UInt8} {o : ObjD} (h : ¬ 262144 < l.length) (hr : readS l = some o) : decodeS l = (o, 0) := by unfold decodeS; rw [if_neg h, hr]
theorem load_obj {w : World} {zo : Nat} {cs : List Value} (h : w.heap[zo]? = some (.cells cs.toArray 30 (0, 0))) (hl : cs.length = 10) : (loadVar 30 ⟨zo, 0, none⟩).run Tryz.prog w = .ok (.agg cs.toArray) w :=
  run_loadVar_mid _ zo 0 30 cs _ (fun j u hj => by rw [Nat.zero_add]; exact (cells_at0 h j).trans hj) Tryz.underlying30 rfl (by rw [hl]; kernel_rfl)
theorem load_err {w : World} {zo : Nat} {v : Value} (h : w.heap[zo]? = some (.cells [v].toArray 31 (0, 0))) : (loadVar 31 ⟨zo, 0, none⟩).run Tryz.prog w = .ok v w := by
  have hc : w.cell? ⟨zo, 0, none⟩ = some v := cells_at0 h 0
  unfold loadVar isAgg
  simp only [Sem.run_bind, run_underlying Tryz.underlying31, Result.andThen_ok]
  simp [Result.andThen, hc]
set_option maxHeartbeats 4000000 in
set_option maxRecDepth 100000 in
theorem objDecode_any (l : List UInt8) (A : Option Addr) (c : Nat) (w : World) (hs : Sl w w.heap.size A l.length 1 (idV l)) (hc : l.length ≤ c) (hl : l.length ≤ 1099511627776) (hg : Glob w) :
    Calls Tryz.prog 5 #[.slice A l.length c] w (ObjDec l w) := by
  have HS := Lib.hid hs; have HG := Lib.hid hg
  have hmf : ∀ (fn : Fn) (first cap : Array Value) (w : World), (Instr.makeFunc fn first cap).run Tryz.prog w = .ok (.func fn first cap) w := fun _ _ _ _ => rfl
  clear hs hg
  have HW := HG.out.lt
  by_cases hlong : 262144 < l.length
  · have i1 : (262144 : Int) < (l.length : Int) := by omega
    go_enter_defers Tryz.func5, Tryz.ntmps5
    go_upto_region 1 with (first
      | (with_reducible refine at_alloc ?_
         refine wp_allocM (by rfl) 30 rfl objZ (zeroObj_run _) ?_
         intro W0 hb0 hz0 hs0
         have HB0 := Lib.hid hb0; have HZ0 := Lib.hid hz0
         clear hb0 hz0)
      | (with_reducible refine at_alloc ?_
         refine wp_allocM1 (by rfl) 31 rfl (.int .i64 0) rfl (fun _ => by kernel_rfl) ?_
         intro W1 hb1 hz1 hs1
         have HB1 := Lib.hid hb1; have HE := Lib.hid hz1
         clear hb1 hz1))
    have HO := Lib.hid ((HB1.out.block w.heap.size (by omega)).trans HZ0.out)
    have HB := Lib.hid (HB0.out.trans (HB1.out.mono HB0.out.size))
    obtain ⟨zo, hzo⟩ : ∃ zo, w.heap.size = zo := ⟨_, rfl⟩
    obtain ⟨ze, hze⟩ : ∃ ze, W0.heap.size = ze := ⟨_, rfl⟩
    rw [hzo] at HO ⊢
    rw [hze] at HE ⊢
    have HNE := Lib.hid (show zo ≠ ze by omega)
    have HWZ := Lib.hid (show w.heap.size ≤ zo by omega)
    have HWE := Lib.hid (show w.heap.size ≤ ze by omega)
    have HZE1 := Lib.hid (show zo < W1.heap.size ∧ ze < W1.heap.size by omega)
    clear HB0 HZ0 HB1 hs0 hs1 hzo hze
    simp only [Act.put, List.setIfInBounds_toArray, List.set_cons_zero, List.set_cons_succ]
    go_wp2_with (first
      | (with_reducible refine at_build ?_
         refine wp_val (by rfl) (ex_build 30 _ rfl (objZ_built _)) ?_)
      | (with_reducible refine at_store ?_
         refine wp_storeM (by rfl) 30 _ _ rfl zo 0 [] objZ [] objZ 30 (.agg (objZ).toArray) rfl rfl rfl rfl (by simpa using HO.out) rfl (by kernel_rfl) (by unfold objZ; intro u hu; simp only [List.mem_cons, List.not_mem_nil, or_false] at hu; rcases hu with rfl | rfl | rfl | rfl | rfl | rfl | rfl | rfl | rfl | rfl <;> rfl) ?_
         intro W2 hb2 hy2 hs2
         have HO2 : Hid (W2.heap[zo]? = some (.cells (objZ).toArray 30 (0, 0))) := Lib.hid (by simpa using hy2)
         have HE2 := Lib.hid ((hb2.block ze HZE1.out.2 (fun e => HNE.out e.symm)).trans HE.out); have HB2 := Lib.hid (hb2.below (B := w.heap.size) HB.out.size (fun k hk e => by have := HWZ.out; omega))
         clear hb2 hy2 hs2)
      | (with_reducible refine at_store ?_
         go_loud (refine wp_storeM (by rfl) 31 _ _ rfl ze 0 [] [.int .i64 0] [] [.int .i64 2] 31 (.int .i64 2) rfl rfl rfl rfl (by simpa using HE2.out) rfl (by kernel_rfl) (by intro u hu; simp only [List.mem_singleton] at hu; subst hu; rfl) ?_)
         intro W3 hb3 hy3 hs3
         have HE3 : Hid (W3.heap[ze]? = some (.cells [.int .i64 2].toArray 31 (0, 0))) := Lib.hid (by simpa using hy3)
         have HO3 := Lib.hid ((hb3.block zo (Array.getElem?_eq_some_iff.1 HO2.out).1 HNE.out).trans HO2.out); have HB3 := Lib.hid (hb3.below (B := w.heap.size) (Nat.le_trans HB.out.size HB2.out.size) (fun k hk e => by have := HWE.out; omega))
         clear hb3 hy3 hs3))
    exact ⟨_, results_two Tryz.results5 _ _ rfl rfl (load_obj HO3.out rfl) (load_err HE3.out), HB.out.trans (HB2.out.trans HB3.out), _, by rw [objDec_long hlong], by rw [objDec_long hlong]; exact objZ_in _ _⟩
  · have i1 : ¬ (262144 : Int) < (l.length : Int) := by omega
    have HOBJ : Hid (∀ W1 W2 : World, Below w.heap.size w W1 → Below W1.heap.size W1 W2 → W2.heap[W1.heap.size]? = some (.cells [.slice A l.length c, .int .i64 ((0 : Nat) : Int)].toArray 59 (0, 0)) → Calls Tryz.prog 24 #[.pointer (some ⟨W1.heap.size, 0, none⟩)] W2 (ObjGives W1.heap.size l W2)) := Lib.hid (fun W1 W2 hb1 hb2 hg => by
      have hb := hb1.trans (hb2.mono hb1.size)
      have hsz := hb1.size
      by_cases hn : l = []
      · subst hn
        exact robj_no W1.heap.size _ c A W2 hg rfl
      · have hpos : 0 < l.length := List.length_pos_iff.2 hn
        obtain ⟨b, off, rfl, hlt, hcl⟩ := (HS.out.keep hb).2 hpos
        refine robj_any W1.heap.size b off c l W2 ⟨hg, Nat.zero_le _, hc, by omega, fun j hj => hcl j _ ((by unfold idV; rw [List.getElem?_map, List.getElem?_eq_getElem hj]; rfl))⟩ hl (HG.out.keep hb HG.out.lt) ?_
        have := HG.out.lt
        omega)
    rcases hrd : readS l with _ | o
    all_goals
      have HRD := Lib.hid hrd
      clear hrd
      go_enter_defers Tryz.func5, Tryz.ntmps5
      go_upto_region 1 with (first
        | (with_reducible refine at_alloc ?_
           refine wp_allocM (by rfl) 30 rfl objZ (zeroObj_run _) ?_
           intro W0 hb0 hz0 hs0
           have HB0 := Lib.hid hb0; have HZ0 := Lib.hid hz0
           clear hb0 hz0)
        | (with_reducible refine at_alloc ?_
           refine wp_allocM1 (by rfl) 31 rfl (.int .i64 0) rfl (fun _ => by kernel_rfl) ?_
           intro W1 hb1 hz1 hs1
           have HB1 := Lib.hid hb1; have HE := Lib.hid hz1
           clear hb1 hz1))
      have HO := Lib.hid ((HB1.out.block w.heap.size (by omega)).trans HZ0.out)
      have HB := Lib.hid (HB0.out.trans (HB1.out.mono HB0.out.size))
      obtain ⟨zo, hzo⟩ : ∃ zo, w.heap.size = zo := ⟨_, rfl⟩
      obtain ⟨ze, hze⟩ : ∃ ze, W0.heap.size = ze := ⟨_, rfl⟩
      rw [hzo] at HO ⊢
      rw [hze] at HE ⊢
      have HNE := Lib.hid (show zo ≠ ze by omega)
      have HWZ := Lib.hid (show w.heap.size ≤ zo by omega)
      have HWE := Lib.hid (show w.heap.size ≤ ze by omega)
      have HZE1 := Lib.hid (show zo < W1.heap.size ∧ ze < W1.heap.size by omega)
      clear HB0 HZ0 HB1 hs0 hs1 hzo hze
      simp only [Act.put, List.setIfInBounds_toArray, List.set_cons_zero, List.set_cons_succ]
    · go_wp2_with (first
        | (with_reducible refine at_box ?_
           refine wp_boxM (by rfl) 59 _ rfl [.slice A l.length c, .int .i64 ((0 : Nat) : Int)] _ rfl rfl (by kernel_rfl) ?_
           intro W2 hb2 hz2 hs2
           have HGV := Lib.hid (HOBJ.out W1 W2 HB.out hb2 hz2)
           have HO2 := Lib.hid ((hb2.block zo HZE1.out.1).trans HO.out)
           have HE2 := Lib.hid ((hb2.block ze HZE1.out.2).trans HE.out)
           have HB2 := Lib.hid hb2
           clear hb2 hz2 hs2)
        | (go_at_call 24; go_loud (refine HGV.out.mono ?_); rintro e W3 hgv
           unfold ObjGives at hgv
           rw [HRD.out] at hgv
           go_loud (obtain ⟨rfl, hbt⟩ := hgv)
           have HB3 := Lib.hid hbt
           clear hbt))
      have HO3 := (HB3.out.block zo (Array.getElem?_eq_some_iff.1 HO2.out).1 (by have := HZE1.out.1; omega)).trans HO2.out
      have HE3 := (HB3.out.block ze (Array.getElem?_eq_some_iff.1 HE2.out).1 (by have := HZE1.out.2; omega)).trans HE2.out
      refine leaves_cons (f := 23) (args := #[.pointer (some ⟨zo, 0, none⟩), .pointer (some ⟨ze, 0, none⟩)]) (by simp) (by simp [go_sem]) ?_
      refine (dec_wrong zo ze _ _ _ HO3 rfl HE3 rfl HNE.out).mono ?_
      rintro e u' w9 ⟨rfl, hset, ho9, he9, hb9⟩
      simp only [hset]
      refine ⟨_, results_two Tryz.results5 _ _ rfl rfl (load_obj ho9 rfl) (load_err he9), ?_, _, by rw [objDec_no hlong HRD.out], by rw [objDec_no hlong HRD.out]; exact objZ_in _ _⟩
      have e1 := HB.out.trans (HB2.out.mono HB.out.size)
      have h1 := HB.out.size; have h2 := HWZ.out; have h3 := HWE.out
      have e2 := HB3.out.below (B := w.heap.size) e1.size (fun k hk e => by have e' : k = W1.heap.size := e; omega)
      exact (e1.trans e2).trans (hb9.below (B := w.heap.size) (e1.trans e2).size (fun k hk e => by rcases e with e | e <;> omega))
    · go_wp2_with (first
        | (with_reducible refine at_box ?_
           refine wp_boxM (by rfl) 59 _ rfl [.slice A l.length c, .int .i64 ((0 : Nat) : Int)] _ rfl rfl (by kernel_rfl) ?_
           intro W2 hb2 hz2 hs2
           have HGV := Lib.hid (HOBJ.out W1 W2 HB.out hb2 hz2)
           have HO2 := Lib.hid ((hb2.block zo HZE1.out.1).trans HO.out)
           have HE2 := Lib.hid ((hb2.block ze HZE1.out.2).trans HE.out)
           have HB2 := Lib.hid hb2
           clear hb2 hz2 hs2)
        | (go_at_call 24; refine HGV.out.mono ?_; rintro e W3 hgv
           unfold ObjGives at hgv
           rw [HRD.out] at hgv
           obtain ⟨v, rfl, hbt, hin⟩ := hgv
           have HB3 := Lib.hid hbt
           obtain ⟨cs, rfl, hcs, h1s⟩ := hin.ten
           have HO3 := Lib.hid ((hbt.block zo (Array.getElem?_eq_some_iff.1 HO2.out).1 (by have := HZE1.out.1; omega)).trans HO2.out)
           have HE3 := Lib.hid ((hbt.block ze (Array.getElem?_eq_some_iff.1 HE2.out).1 (by have := HZE1.out.2; omega)).trans HE2.out)
           have HIN := Lib.hid hin
           clear hbt hin HO2 HE2)
        | (with_reducible refine at_store ?_
           refine wp_storeM (by rfl) 30 _ _ rfl zo 0 [] objZ [] cs 30 (.agg cs.toArray) rfl rfl rfl rfl (by simpa using HO3.out) hcs.symm (by rw [hcs]; kernel_rfl) h1s ?_
           intro W4 hb4 hy4 hs4
           have HO4 : Hid (W4.heap[zo]? = some (.cells (cs).toArray 30 (0, 0))) := Lib.hid (by simpa using hy4)
           have HE4 := Lib.hid ((hb4.block ze (Array.getElem?_eq_some_iff.1 HE3.out).1 (fun e => HNE.out e.symm)).trans HE3.out); have HB4 := Lib.hid hb4
           clear hb4 hy4 hs4)
        | (with_reducible refine at_store ?_
           go_loud (refine wp_storeM (by rfl) 31 _ _ rfl ze 0 [] [.int .i64 0] [] [.int .i64 0] 31 (.int .i64 0) rfl rfl rfl rfl (by simpa using HE4.out) rfl (by kernel_rfl) (by intro u hu; simp only [List.mem_singleton] at hu; subst hu; rfl) ?_)
           intro W5 hb5 hy5 hs5
           have HE5 : Hid (W5.heap[ze]? = some (.cells [.int .i64 0].toArray 31 (0, 0))) := Lib.hid (by simpa using hy5)
           have HO5 := Lib.hid ((hb5.block zo (Array.getElem?_eq_some_iff.1 HO4.out).1 HNE.out).trans HO4.out); have HB5 := Lib.hid hb5
           clear hb5 hy5 hs5))
      refine leaves_cons (f := 23) (args := #[.pointer (some ⟨zo, 0, none⟩), .pointer (some ⟨ze, 0, none⟩)]) (by simp) (by simp [go_sem]) ?_
      refine (dec_idle ⟨zo, 0, none⟩ ⟨ze, 0, none⟩ _).mono ?_
      rintro e u' w9 ⟨rfl, rfl, rfl⟩
      have e1 := HB.out.trans (HB2.out.mono HB.out.size)
      have h1 := HB.out.size; have h2 := HWZ.out; have h3 := HWE.out
      have e2 := HB3.out.below (B := w.heap.size) e1.size (fun k hk e => by have e' : k = W1.heap.size := e; omega)
      have e3 := e1.trans e2
      have e4 := e3.trans (HB4.out.below (B := w.heap.size) e3.size (fun k hk e => by have e' : k = zo := e; omega))
      have e5 := e4.trans (HB5.out.below (B := w.heap.size) e4.size (fun k hk e => by have e' : k = ze := e; omega))
      refine ⟨_, results_two Tryz.results5 _ _ rfl rfl (load_obj HO5.out hcs) (load_err HE5.out), e5, _, by rw [objDec_yes hlong HRD.out], ?_⟩
      rw [objDec_yes hlong HRD.out]
      have k3 : Hid (W3.heap[zo]? = some (.cells objZ.toArray 30 (0, 0))) := HO3
      have hq : ObjIn W4 W3.heap.size (.agg cs.toArray) o := HIN.out.small HB4.out (Nat.le_refl _) (fun k e => by have e' : k = zo := e; subst e'; exact ⟨_, _, k3.out, by decide⟩)
      have hq2 : ObjIn _ W3.heap.size (.agg cs.toArray) o := hq.small HB5.out HB4.out.size (fun k e => by have e' : k = ze := e; subst e'; exact ⟨[.int .i64 0], _, HE4.out, by decide⟩)
      exact hq2.more (Nat.le_trans HB4.out.size HB5.out.size)
end Go.Proofs.YthjaepmfkgejkaaGreatDoor
