/-
  What the reader's ids reads. Conditions: bytes that lie in memory.
-/
import Derived.Test.YthjaepmfkgejkaaGreatDoorObjIds1
namespace Go.Proofs.YthjaepmfkgejkaaGreatDoor
open Go.RowKit Go.Maps
set_option linter.unusedVariables false
set_option linter.unusedSimpArgs false

theorem LGives.ok {α : Type} {p : Ps α} {l : List UInt8} {most at' : Nat} {J : Nat → List α → World → Prop} {F : World → Prop} {e : Ending} {w' : World} {xs : List α} {r : List UInt8} (h : LGives p l most at' J F e w') (hp : pList most p (l.drop at') = some (xs, r)) : e = .returned (.tuple #[]) ∧ ∃ a, at' ≤ a ∧ r = l.drop a ∧ xs.length ≤ most ∧ J a xs w' := by
  unfold LGives at h; rw [hp] at h; exact h
theorem LGives.bad {α : Type} {p : Ps α} {l : List UInt8} {most at' : Nat} {J : Nat → List α → World → Prop} {F : World → Prop} {e : Ending} {w' : World} (h : LGives p l most at' J F e w') (hp : pList most p (l.drop at') = none) : e = .panicked wrongP ∧ F w' := by
  unfold LGives at h; rw [hp] at h; exact h
theorem run_load1 {P : Program} {w : World} {ty : TypeId} {p : Addr} {d : TypeDesc} (hu : P.underlying ty = some d) (hd : (match d with | .struct _ | .array _ _ => true | _ => false) = false) {v : Value} (hc : w.cell? p = some v) : (loadVar ty p).run P w = .ok v w := by
  unfold loadVar isAgg
  simp only [Sem.run_bind, run_underlying hu, Result.andThen_ok]
  cases d <;> first | (cases hd; done) | simp [Result.andThen, hc]
/-- A new variable of one cell. -/
theorem wp_allocM1 {P : Program} {o : Oper} {w : World} {ops : Array Oper} {rest : List Oper} {a : Act} {Q : Exit → Act → World → Prop} (hw : Region.wanted o (yielded ops a.tmps) = true) (t : TypeId) (ho : o.op = .alloc t) (v : Value) (hv : v.cells = #[v]) (hz : ∀ w : World, (zeroValue t).run P w = .ok v w)
    (h : ∀ W : World, Below w.heap.size w W → W.heap[w.heap.size]? = some (.cells [v].toArray t (0, 0)) → W.heap.size = w.heap.size + 1 → wpList P ops Q rest (a.put o.dst (.pointer (some ⟨w.heap.size, 0, none⟩))) W) : wpList P ops Q (o :: rest) a w := by
  refine BigFrame.wpList_want hw fun K hK => ?_
  have h2 : (execOp a.eval o).run P w = .ok (.value (.pointer (some ⟨w.heap.size, 0, none⟩))) (w.alloc (.cells [v].toArray t)) := by
    unfold execOp
    simp [ho, Instr.alloc, newVar, newRow, hz, Result.andThen, Sem.run_bind, hv]
  unfold Oper.wp
  rw [h2]
  exact hK _ _ (h _ ((Below.refl _ _).alloc (Nat.le_refl _) _) (heap_alloc_new _ _) (by simp))
/-- Ids that were read lie in a row of their own. -/
def IdsR (w : World) (ids : List (List UInt8)) (v : Value) (w' : World) : Prop := IdsOk ids ∧ w'.ownsRow w.heap.size 47 32 v ids.length (idsV ids)
set_option maxHeartbeats 4000000 in
set_option maxRecDepth 100000 in
theorem rids_any (g b off c : Nat) (l : List UInt8) (at' : Nat) (w : World) (hr : RdAt w g b off c l at') (hl : l.length ≤ 1099511627776) (most : Nat) (hmost : most ≤ 4096) :
    Calls Tryz.prog 52 #[.pointer (some ⟨g, 0, none⟩), .int .i64 (most : Int)] w (RdGives g b off c l at' w (pList most pId) (IdsR w)) := by
  have HRD := Lib.hid hr
  have hmf : ∀ (fn : Fn) (first cap : Array Value) (w : World), (Instr.makeFunc fn first cap).run Tryz.prog w = .ok (.func fn first cap) w := fun _ _ _ _ => rfl
  clear hr
  rcases hp : pList most pId (l.drop at') with _ | ⟨xs, r⟩
  all_goals
    have HP := Lib.hid hp
    clear hp
    go_enter Tryz.func52, Tryz.ntmps52
    go_upto_region 1 with (first
      | (refine wp_boxM (by rfl) 57 _ rfl [.pointer (some ⟨g, 0, none⟩)] _ rfl rfl (by kernel_rfl) ?_
         intro W0 hb0 hz0 hs0
         have HB0 := Lib.hid hb0; have HZ0 := Lib.hid hz0
         clear hb0 hz0)
      | (refine wp_allocM1 (by rfl) 23 rfl (.slice none 0 0) rfl (fun _ => by kernel_rfl) ?_
         intro W1 hb1 hz1 hs1
         have HB1 := Lib.hid hb1; have HZ1 := Lib.hid hz1
         clear hb1 hz1))
    have hlt := HRD.out.lt
    have HRD1 := Lib.hid ((HRD.out.keep HB0.out).keep HB1.out)
    have HBW := Lib.hid (show But (fun k => k = g) w W1 from (But.of_below (X := fun k => k = g) HB0.out).andBelow HB1.out)
    have HRB := Lib.hid (show W1.heap[w.heap.size]? = _ from (HB1.out.block w.heap.size (by omega)).trans HZ0.out)
    have c0 : W1.cell? ⟨w.heap.size, 0, none⟩ = some (.pointer (some ⟨g, 0, none⟩)) := cells_at0 HRB.out 0
    obtain ⟨rb, hrb⟩ : ∃ rb, w.heap.size = rb := ⟨_, rfl⟩
    obtain ⟨ob, hob⟩ : ∃ ob, W0.heap.size = ob := ⟨_, rfl⟩
    rw [hrb] at hs0 hlt HRB c0 ⊢
    rw [hob] at hs0 hs1 HZ1 ⊢
    have h0 : ∀ a w1, at' ≤ a → But (fun k => k = g) W1 w1 → RdAt w1 g b off c l a → IdsJ w g b off c l rb ob a [] w1 := fun a w1 _ hb hrd =>
      ⟨hrd, (hb.block rb (by omega) (by omega)).trans HRB.out, by omega, hlt, by omega, by omega, HBW.out.trans hb fun _ _ q => q, (fun i hi => by cases hi), .slice none 0 0, (hb.block ob (by omega) (by omega)).trans HZ1.out, World.ownsRow_nil _ _ _ _⟩
    have hF : ∀ w1, But (fun k => k = g) W1 w1 → But (fun k => k = g) w w1 := fun w1 hb => HBW.out.trans hb fun _ _ q => q
    have h1 : ∀ a xs w1, xs.length < most → IdsJ w g b off c l rb ob a xs w1 → Calls Tryz.prog 88 #[.pointer (some ⟨rb, 0, none⟩), .pointer (some ⟨ob, 0, none⟩)] w1 (UnoGives pId l (IdsJ w g b off c l rb ob) (But (fun k => k = g) w) a xs) := fun a xs w1 hx hJ =>
      rid_any w g b off c l rb ob a xs w1 hl (by omega) (by omega) hJ
    have HLS := Lib.hid (rlist_ids g b off c l at' W1 HRD1.out hl most (by omega) (.pointer (some ⟨rb, 0, none⟩)) (.pointer (some ⟨ob, 0, none⟩)) (IdsJ w g b off c l rb ob) (But (fun k => k = g) w) h0 hF h1 (fun a xs w1 hJ => hJ.2.2.2.2.2.2.1))
    have hob1 : g < ob := by omega
    have hwo : w.heap.size ≤ ob := by omega
    have HSZ := Lib.hid (show W1.heap.size = ob + 1 from hs1)
    have HRO := Lib.hid (show ob = rb + 1 by omega)
    clear h0 hF h1 hs0 hs1 hrb hob
  · go_wp2_with (first
      | (go_at_call 54; refine HLS.out.mono ?_; rintro e w3 hgv
         obtain ⟨rfl, hF3⟩ := hgv.bad HP.out))
    exact ⟨rfl, RdGives.no HP.out rfl hF3⟩
  · go_wp2_with (first
      | (go_at_call 54; refine HLS.out.mono ?_; rintro e w3 hgv
         obtain ⟨rfl, a2, hla, hra, hxm, hJ⟩ := hgv.ok HP.out
         obtain ⟨j1, j2, j3, j4, j5, j6, j7, j8, v, j9, j10⟩ := hJ
         obtain ⟨Av, cv, rfl⟩ := own_form' j10
         have J1 := Lib.hid j1; have J7 := Lib.hid j7; have J8 := Lib.hid j8; have J9 := Lib.hid j9; have J10 := Lib.hid j10; have HRA := Lib.hid hra; have HLA := Lib.hid hla
         clear hgv j1 j2 j3 j4 j5 j6 j7 j8 j9 j10 hra hla)
      | (refine wp_val (by rfl) (ex_load1 23 _ rfl (p := ⟨ob, 0, none⟩) rfl Tryz.underlying23 rfl (cells_at0 J9.out 0)) ?_)
      | (refine wp_storeM (by rfl) 23 _ _ rfl ob 0 [] [.slice Av xs.length cv] [] [.slice Av xs.length cv] 23 (.slice Av xs.length cv) rfl rfl rfl rfl (by simpa using J9.out) rfl (by kernel_rfl) (by intro u hu; rw [List.mem_singleton.1 hu]; rfl) ?_
         intro W5 hb5 hy5 hs5
         have HB5 := Lib.hid hb5; have HY5 := Lib.hid hy5
         clear hb5 hy5 hs5))
    have hfin : (loadVar 23 ⟨ob, 0, none⟩).run Tryz.prog W5 = .ok (.slice Av xs.length cv) W5 := run_load1 Tryz.underlying23 rfl (cells_at0 HY5.out 0)
    have hne : ∀ k, (Value.slice Av xs.length cv).ownBlock = some k → ¬ k = ob := fun k hk e => own_not J10.out J9.out (by decide) (by rw [hk, e])
    refine bodyPost_end (results_one Tryz.results52 _ _ rfl hfin) rfl ?_
    exact RdGives.yes (HP.out.trans (by rw [HRA.out])) rfl HLA.out rfl (J1.out.but HB5.out fun k hk e => by omega) (J7.out.trans HB5.out fun i hi e => by omega) ⟨J8.out, HB5.out.own J10.out hne⟩
end Go.Proofs.YthjaepmfkgejkaaGreatDoor
