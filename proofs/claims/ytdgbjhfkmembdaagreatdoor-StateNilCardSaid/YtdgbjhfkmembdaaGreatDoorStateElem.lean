/-
  Is a named index an element of a document? Conditions: the state, the adder and the operation lie in memory.
-/
import Derived.Test.YtdgbjhfkmembdaaGreatDoorStateWhat
import Derived.Test.YtdgbjhfkmembdaaGreatDoorStateX
namespace Go.Proofs.YtdgbjhfkmembdaaGreatDoor
open Go.RowKit Go.Maps
set_option linter.unusedVariables false
set_option linter.unusedSimpArgs false

/-- What a closure has caught: the adder's pointer, the operation, the document's key. -/
structure ElemAt (w : World) (ba bo bd a : Nat) (x : OpD) (k : KeyD) : Prop where
  pa : w.heap[ba]? = some (.cells [.pointer (some ⟨a, 0, none⟩)].toArray 125 (0, 0))
  po : w.heap[bo]? = some (.cells (opV x).toArray 112 (0, 0))
  pd : w.heap[bd]? = some (.cells (keyV k).toArray 89 (0, 0))
theorem ElemAt.keep {w w' : World} {ba bo bd a : Nat} {x : OpD} {k : KeyD} (h : ElemAt w ba bo bd a x k) (hb : Below w.heap.size w w') : ElemAt w' ba bo bd a x k := ⟨(hb.block ba (qX h.pa)).trans h.pa, (hb.block bo (qX h.po)).trans h.po, (hb.block bd (qX h.pd)).trans h.pd⟩
/-- The adder, the state, what is made so far. -/
structure MidAt (w : World) (B a s : Nat) (S : StateD) (q : StateL) (i : List UInt8) (c : ChangeD) (dv ov : Value) (Am : Option Addr) (cm : Nat) (mk : List MakeD) : Prop where
  st : StateAt w B s S q
  ad : AdderAt w a s i c dv ov (.slice Am mk.length cm)
  row : w.ownsRow 0 199 35 (.slice Am mk.length cm) mk.length (rowsV makeV mk)
  keys : ∀ m ∈ mk, KeyOk m.2
  len : mk.length ≤ 1099511627776
theorem MidAt.keep {w w' : World} {B a s : Nat} {S : StateD} {q : StateL} {i : List UInt8} {c : ChangeD} {dv ov : Value} {Am : Option Addr} {cm : Nat} {mk : List MakeD} (h : MidAt w B a s S q i c dv ov Am cm mk) (hb : Below w.heap.size w w') : MidAt w' B a s S q i c dv ov Am cm mk :=
  ⟨h.st.keep hb, h.ad.keep hb, (But.of_below (X := NoB) hb).own h.row fun _ _ q => q, h.keys, h.len⟩
/-- Refs that may be asked. -/
def RefIx (S : StateD) (r : RefD) : Prop := RefOk r ∧ (0 ≤ r.2 ∧ r.2 ≤ 1099511627776) ∧ (madeOf S r.1).length ≤ 1099511627776
def ElemGives (yes : Bool) (w : World) (e : Ending) (w' : World) : Prop := Below w.heap.size w w' ∧ ((yes = true ∧ e = .returned (.tuple #[])) ∨ (yes = false ∧ e = .panicked (stopP 22)))
theorem ElemGives.yes {b : Bool} {w w' : World} {e : Ending} (h : b = true) (hb : Below w.heap.size w w') (he : e = .returned (.tuple #[])) : ElemGives b w e w' := ⟨hb, .inl ⟨h, he⟩⟩
theorem ElemGives.no {b : Bool} {w w' : World} {e : Ending} (h : b = false) (hb : Below w.heap.size w w') (he : e = .panicked (stopP 22)) : ElemGives b w e w' := ⟨hb, .inr ⟨h, he⟩⟩
theorem made_cells {m : MakeD} (h : KeyOk m.2) : (makeV m)[0]? = some (.bool m.1) ∧ ∀ j u, (keyV m.2)[j]? = some u → (makeV m)[1 + j]? = some u := ⟨rfl, fun j u hj => by rw [Nat.add_comm]; exact hj⟩
theorem what_key {S : StateD} {mk : List MakeD} {r : RefD} {more : Nat} {m : MakeD} {w : World} {B s : Nat} {q : StateL} (h : StateAt w B s S q) (hk : ∀ m ∈ mk, KeyOk m.2) (hw : whatAt S mk r more = some m) : KeyOk m.2 := by
  unfold whatAt at hw
  split at hw
  · have hm := List.mem_of_getElem? hw
    unfold makesAt at hm
    split at hm
    · exact hk m hm
    · cases he : entryAt S r.1 with
      | none => rw [he] at hm; cases hm
      | some e =>
        rw [he] at hm
        exact (h.entries _ _ he).2.keys m hm
  · cases hw
theorem keyAt_ok {w : World} {B s : Nat} {S : StateD} {q : StateL} {i : List UInt8} {t : Int} {r : RefD} (h : StateAt w B s S q) (hi : IdOk i) (ht : (Lit.int .i64 t).wf = true) (hr : RefOk r) : KeyOk (keyAt S i t r) := by
  unfold keyAt
  split
  · exact ⟨ht, hi, hr.2⟩
  · refine ⟨?_, hr.1, hr.2⟩
    unfold timeAt
    cases he : entryAt S r.1 with
    | none => exact (by decide : (Lit.int .i64 0).wf = true)
    | some e => exact (h.entries _ _ he).2.time
set_option maxHeartbeats 4000000 in
set_option maxRecDepth 100000 in
theorem elem_any (B a s ba bo bd : Nat) (S : StateD) (q : StateL) (i : List UInt8) (c : ChangeD) (dv ov : Value) (Am : Option Addr) (cm : Nat) (mk : List MakeD) (x : OpD) (more : Nat) (w : World) (h : MidAt w B a s S q i c dv ov Am cm mk) (hE : ElemAt w ba bo bd a x (keyAt S i c.1 x.2.1)) (hx : OpIn x) (hk : KeyOk (keyAt S i c.1 x.2.1)) (hr : RefIx S x.2.2.1) (hm : more ≤ 1099511627776) :
    Calls Tryz.prog 98 #[.int .i64 (more : Int), .pointer (some ⟨ba, 0, none⟩), .pointer (some ⟨bo, 0, none⟩), .pointer (some ⟨bd, 0, none⟩)] w (ElemGives (elemAt S i c.1 mk x more) w) := by
  have HM := Lib.hid h; have HE := Lib.hid hE; have HK := Lib.hid hk; have HX := Lib.hid hx; have HR := Lib.hid hr
  have c0 : w.cell? ⟨ba, 0, none⟩ = some (.pointer (some ⟨a, 0, none⟩)) := cells_at0 hE.pa 0
  have hrl := refV_length hr.1
  have HRA := Lib.hid (show w.rangeAt bo 34 (refV x.2.2.1) from fun j u hj => (cells_at0 hE.po (34 + j)).trans ((op_cells hx).2.2.1 j u hj))
  have HWH := Lib.hid (fun (u : World) (hu : MidAt u B a s S q i c dv ov Am cm mk) => what_any B a s S q i c dv ov Am cm mk x.2.2.1 more u hu.st hu.ad hu.row hu.keys hr.1 hr.2.1 hm hu.len hr.2.2)
  clear h hE hk hx hr
  go_enter Tryz.func98, Tryz.ntmps98
  have hld : ∀ (ρ : Operand → Value) (o : Oper) (y : Operand), o.op = .load 110 y → ρ y = .pointer (some ⟨bo, 34, none⟩) → (execOp ρ o).run Tryz.prog w = .ok (.value (.agg (refV x.2.2.1).toArray)) w := fun ρ o y ho hx => ex_load 110 _ ho hx (qV w bo 34 _ (refV x.2.2.1) _ HRA.out Tryz.underlying110 rfl (by rw [hrl]; kernel_rfl))
  have HLD := Lib.hid hld
  clear hld
  cases hw : whatAt S mk x.2.2.1 more with
  | none =>
    have HW := Lib.hid hw
    have HEL : Hid (elemAt S i c.1 mk x more = false) := Lib.hid (by unfold elemAt; rw [hw])
    clear hw
    go_wp2_with (first
      | (with_reducible refine at_load ?_
         refine wp_val (by rfl) (HLD.out _ _ _ rfl rfl) ?_)
      | (go_at_call 96; refine (HWH.out w HM.out).mono ?_
         rintro e w5 ⟨hb5, ⟨m, hm1, _⟩ | ⟨_, rfl⟩⟩
         · rw [HW.out] at hm1
           cases hm1
         have HB5 := Lib.hid hb5
         clear hb5))
    exact ⟨rfl, ElemGives.no HEL.out HB5.out rfl⟩
  | some m =>
    have HMO := Lib.hid (what_key HM.out.st HM.out.keys hw)
    have hml := makeV_length HMO.out
    have HW := Lib.hid hw
    have HEL : Hid (elemAt S i c.1 mk x more = (!m.1 && decide (m.2 = keyAt S i c.1 x.2.1))) := Lib.hid (by unfold elemAt; rw [hw])
    clear hw
    go_upto_region 1 with (first
      | (with_reducible refine at_load ?_
         refine wp_val (by rfl) (HLD.out _ _ _ rfl rfl) ?_)
      | (go_at_call 96; refine (HWH.out w HM.out).mono ?_
         rintro e w5 ⟨hb5, ⟨m', hm1, rfl⟩ | ⟨hm1, _⟩⟩
         rotate_left
         · rw [HW.out] at hm1
           cases hm1
         obtain rfl : m' = m := Option.some.inj (hm1.symm.trans HW.out)
         have HB5 := Lib.hid hb5
         clear hb5 hm1)
      | (with_reducible refine at_alloc ?_
         refine wp_allocM (by rfl) 199 rfl (makeV (false, (0, zero32, 0))) (makeZ_run _) ?_
         intro W6 hb6 hy6 hs6
         have HB6 := Lib.hid hb6; have HY6 := Lib.hid hy6; have HS6 := Lib.hid hs6
         clear hb6 hy6 hs6)
      | (with_reducible refine at_store ?_
         refine wp_storeM (by rfl) 199 _ _ rfl w5.heap.size 0 [] (makeV (false, (0, zero32, 0))) [] (makeV m') 199 (.agg (makeV m').toArray) rfl rfl rfl rfl (by simpa using HY6.out) (by rw [hml]; rfl) (by rw [hml]; kernel_rfl) (makeV_one _) ?_
         intro W7 hb7 hy7 hs7
         have HB7 := Lib.hid (hb7.below (B := w5.heap.size) HB6.out.size (fun k hk e => by have e2 : k = w5.heap.size := e; omega))
         have HY7 : Hid (W7.heap[w5.heap.size]? = some (.cells (makeV m').toArray 199 (0, 0))) := Lib.hid (by simpa using hy7)
         clear hb7 hy7 hs7))
    have HBW : Hid (Below w.heap.size w W7) := Lib.hid (HB5.out.trans ((HB6.out.trans HB7.out).mono HB5.out.size))
    obtain ⟨b5, hb5⟩ : ∃ z, w5.heap.size = z := ⟨_, rfl⟩
    rw [hb5] at HY7 ⊢
    have c5 : W7.cell? ⟨b5, 0, none⟩ = some (.bool m'.1) := cells_at0 HY7.out 0
    have HR1 := Lib.hid (show W7.rangeAt b5 1 (keyV m'.2) from fun j u hj => (cells_at0 HY7.out (1 + j)).trans ((made_cells HMO.out).2 j u hj))
    have HR2 := Lib.hid (show W7.rangeAt bd 0 (keyV (keyAt S i c.1 x.2.1)) from fun j u hj => by rw [qZ]; exact (cells_at0 ((HBW.out.block bd (qX HE.out.pd)).trans HE.out.pd) j).trans hj)
    generalize keyAt S i c.1 x.2.1 = k at *
    clear HB5 HB6 HY6 HS6 HB7 hb5 HLD HWH
    cases hd : m'.1
    · rw [hd] at c5
      have HD := Lib.hid hd
      clear hd
      by_cases he : m'.2 = k
      · have EQ := Lib.hid (fun (u : World) => (run_eqKey HMO.out HK.out u).trans (by rw [dT he]))
        have HEQ := Lib.hid he
        clear he
        go_wp2_with (first
          | (with_reducible refine at_load ?_
             refine wp_val (by rfl) (ldK HMO.out HR1.out) ?_
             go_frame)
          | (with_reducible refine at_load ?_
             refine wp_val (by rfl) (ldK HK.out HR2.out) ?_
             go_frame)
          | (with_reducible refine at_binOp ?_
             refine wp_val (by rfl) (ex_eql 89 _ _ _ rfl (xs := (keyV m'.2).toArray) (ys := (keyV k).toArray) rfl rfl (r := true) eqKey.noGuard (EQ.out _)) ?_
             go_frame; try simp only [nTF])
          | (go_at_call 51; refine (sneed_yes 22 _).mono ?_; rintro e w9 ⟨rfl, rfl⟩))
        go_end0
        exact ElemGives.yes (by rw [HEL.out, HD.out, dT HEQ.out]; rfl) HBW.out rfl
      · have EQ := Lib.hid (fun (u : World) => (run_eqKey HMO.out HK.out u).trans (by rw [dF he]))
        have HEQ := Lib.hid he
        clear he
        go_wp2_with (first
          | (with_reducible refine at_load ?_
             refine wp_val (by rfl) (ldK HMO.out HR1.out) ?_
             go_frame)
          | (with_reducible refine at_load ?_
             refine wp_val (by rfl) (ldK HK.out HR2.out) ?_
             go_frame)
          | (with_reducible refine at_binOp ?_
             refine wp_val (by rfl) (ex_eql 89 _ _ _ rfl (xs := (keyV m'.2).toArray) (ys := (keyV k).toArray) rfl rfl (r := false) eqKey.noGuard (EQ.out _)) ?_
             go_frame; try simp only [nTF])
          | (go_at_call 51; refine (sneed_no 22 _).mono ?_; rintro e w9 ⟨rfl, rfl⟩))
        exact ⟨rfl, ElemGives.no (by rw [HEL.out, HD.out, dF HEQ.out]; rfl) HBW.out rfl⟩
    · rw [hd] at c5
      have HD := Lib.hid hd
      clear hd
      go_wp2_with (first
        | (go_at_call 51; refine (sneed_no 22 _).mono ?_; rintro e w9 ⟨rfl, rfl⟩))
      exact ⟨rfl, ElemGives.no (by rw [HEL.out, HD.out]; rfl) HBW.out rfl⟩
end Go.Proofs.YtdgbjhfkmembdaaGreatDoor
