/-
  What the reader's ids reads. Conditions: bytes that lie in memory.
  What reading one operation does. Conditions: as OpsJ says.
  The checker's memory: what is made is put behind what was made. Conditions: as each says.
  An insert's runes are made one by one: the checker's memory, the iterator, the operation's box. Conditions: as each says.
-/
import Derived.Test.YthjaepmfkgejkaaGreatDoorObjIds1
import Derived.Test.YthjaepmfkgejkaaGreatDoorMerged1
import Derived.Test.YthjaepmfkgejkaaGreatDoorMerged4
import Derived.Test.YthjaepmfkgejkaaGreatDoorObjReadOp
import Derived.Test.YthjaepmfkgejkaaGreatDoorMerged11
import Derived.Test.YthjaepmfkgejkaaGreatDoorMerged7
set_option linter.unusedVariables false
set_option linter.unusedSimpArgs false
set_option maxHeartbeats 4000000
set_option maxRecDepth 100000
namespace Go.Proofs.YthjaepmfkgejkaaGreatDoor
open Lib (hid)
open Go.RowKit Go.Maps
theorem LGives.ok {α : Type} {p : Ps α} {l : List UInt8} {most at' : Nat} {J : Nat → List α → World → Prop} {F : World → Prop} {e : Ending} {w' : World} {xs : List α} {r : List UInt8} (h : LGives p l most at' J F e w') (hp : kY most p (l.drop at') = some (xs, r)) : e = .returned (.tuple #[]) ∧ ∃ a, at' ≤ a ∧ r = l.drop a ∧ xs.length ≤ most ∧ J a xs w' := by
  unfold LGives at h; rw [hp] at h; exact h
theorem LGives.bad {α : Type} {p : Ps α} {l : List UInt8} {most at' : Nat} {J : Nat → List α → World → Prop} {F : World → Prop} {e : Ending} {w' : World} (h : LGives p l most at' J F e w') (hp : kY most p (l.drop at') = none) : e = .panicked Kl ∧ F w' := by
  unfold LGives at h; rw [hp] at h; exact h
theorem run_load1 {P : Program} {w : World} {ty : TypeId} {p : Addr} {d : TypeDesc} (hu : P.underlying ty = some d) (hd : (match d with | .struct _ | .array _ _ => true | _ => false) = false) {v : Value} (hc : w.cell? p = some v) : (loadVar ty p).run P w = .ok v w := by
  unfold loadVar isAgg
  simp only [Sem.run_bind, run_underlying hu, Result.andThen_ok]
  cases d <;> first | (cases hd; done) | simp [Result.andThen, hc]
theorem ZF {P : Program} {o : Oper} {w : World} {ops : Array Oper} {rest : List Oper} {a : Act} {Q : Exit → Act → World → Prop} (hw : Region.wanted o (yielded ops a.tmps) = true) (t : TypeId) (ho : o.op = .alloc t) (v : Value) (hv : v.cells = #[v]) (hz : ∀ w : World, (zeroValue t).run P w = .ok v w)
    (h : ∀ W : World, Below w.heap.size w W → W.heap[w.heap.size]? = some (.cells [v].toArray t (0, 0)) → W.heap.size = w.heap.size + 1 → wpList P ops Q rest (a.put o.dst (.pointer (some ⟨w.heap.size, 0, none⟩))) W) : wpList P ops Q (o :: rest) a w := by
  refine BigFrame.wpList_want hw fun K hK => ?_
  have h2 : (execOp a.eval o).run P w = .ok (.value (.pointer (some ⟨w.heap.size, 0, none⟩))) (w.alloc (.cells [v].toArray t)) := by
    unfold execOp
    simp [ho, Instr.alloc, newVar, newRow, hz, Result.andThen, Sem.run_bind, hv]
  unfold Oper.wp
  rw [h2]
  exact hK _ _ (h _ ((Below.refl _ _).alloc (Nat.le_refl _) _) (heap_alloc_new _ _) (by simp))
def IdsR (w : World) (ids : List (List UInt8)) (v : Value) (w' : World) : Prop := IdsOk ids ∧ w'.ownsRow w.heap.size 47 32 v ids.length (kr ids)
theorem Zt (g b off c : Nat) (l : List UInt8) (at' : Nat) (w : World) (hr : RdAt w g b off c l at') (hl : l.length ≤ 1099511627776) (most : Nat) (hmost : most ≤ 4096) :
    Calls Tryz.prog 52 #[.pointer (some ⟨g, 0, none⟩), .int .i64 (most : Int)] w (RdGives g b off c l at' w (kY most pId) (IdsR w)) := by
  have HRD := hid hr
  have hmf : ∀ (fn : Fn) (first cap : Array Value) (w : World), (Instr.makeFunc fn first cap).run Tryz.prog w = .ok (.func fn first cap) w := fun _ _ _ _ => rfl
  clear hr
  go_enter Tryz.func52, Tryz.ntmps52
  go_upto_region 1 with (first
    | (refine ko (by rfl) 57 _ rfl [.pointer (some ⟨g, 0, none⟩)] _ rfl rfl (by kernel_rfl) ?_
       intro W0 hb0 hz0 hs0
       have HB0 := hid hb0; have HZ0 := hid hz0
       clear hb0 hz0)
    | (refine ZF (by rfl) 23 rfl (.slice none 0 0) rfl (fun _ => by kernel_rfl) ?_
       intro W1 hb1 hz1 hs1
       have HB1 := hid hb1; have HZ1 := hid hz1
       clear hb1 hz1))
  have hlt := HRD.out.lt
  have HRD1 := hid ((HRD.out.keep HB0.out).keep HB1.out)
  have HBW := hid (show But (fun k => k = g) w W1 from (But.of_below (X := fun k => k = g) HB0.out).andBelow HB1.out)
  have HRB := hid (show W1.heap[w.heap.size]? = _ from (HB1.out.block w.heap.size (by omega)).trans HZ0.out)
  have c0 : W1.cell? ⟨w.heap.size, 0, none⟩ = some (.pointer (some ⟨g, 0, none⟩)) := k5 HRB.out 0
  obtain ⟨rb, hrb⟩ : ∃ rb, w.heap.size = rb := ⟨_, rfl⟩
  obtain ⟨ob, hob⟩ : ∃ ob, W0.heap.size = ob := ⟨_, rfl⟩
  rw [hrb] at hs0 hlt HRB c0 ⊢
  rw [hob] at hs0 hs1 HZ1 ⊢
  have h0 : ∀ a w1, at' ≤ a → But (fun k => k = g) W1 w1 → RdAt w1 g b off c l a → IdsJ w g b off c l rb ob a [] w1 := fun a w1 _ hb hrd =>
    ⟨hrd, (hb.block rb (by omega) (by omega)).trans HRB.out, by omega, hlt, by omega, by omega, HBW.out.trans hb fun _ _ q => q, (fun i hi => by cases hi), .slice none 0 0, (hb.block ob (by omega) (by omega)).trans HZ1.out, World.ownsRow_nil _ _ _ _⟩
  have hF : ∀ w1, But (fun k => k = g) W1 w1 → But (fun k => k = g) w w1 := fun w1 hb => HBW.out.trans hb fun _ _ q => q
  have hob1 : g < ob := by omega
  have hwo : w.heap.size ≤ ob := by omega
  have HSZ := hid (show W1.heap.size = ob + 1 from hs1)
  have HRO := hid (show ob = rb + 1 by omega)
  rcases hp : kY most pId (l.drop at') with _ | ⟨xs, r⟩
  all_goals
    have HP := hid hp
    clear hp
    have h1 : ∀ a xs w1, xs.length < most → IdsJ w g b off c l rb ob a xs w1 → Calls Tryz.prog 88 #[.pointer (some ⟨rb, 0, none⟩), .pointer (some ⟨ob, 0, none⟩)] w1 (UnoGives pId l (IdsJ w g b off c l rb ob) (But (fun k => k = g) w) a xs) := fun a xs w1 hx hJ =>
      rid_any w g b off c l rb ob a xs w1 hl (by omega) (by omega) hJ
    have HLS := hid (rlist_ids g b off c l at' W1 HRD1.out hl most (by omega) (.pointer (some ⟨rb, 0, none⟩)) (.pointer (some ⟨ob, 0, none⟩)) (IdsJ w g b off c l rb ob) (But (fun k => k = g) w) h0 hF h1 (fun a xs w1 hJ => hJ.2.2.2.2.2.2.1))
    clear h0 hF h1 hs0 hs1 hrb hob
  ·
   go_wp2_with (first
     | (go_at_call 54; refine HLS.out.mono ?_; rintro e w3 hgv
        obtain ⟨rfl, hF3⟩ := hgv.bad HP.out))
   exact ⟨rfl, RdGives.no HP.out rfl hF3⟩
  ·
   go_wp2_with (first
     | (go_at_call 54; refine HLS.out.mono ?_; rintro e w3 hgv
        obtain ⟨rfl, a2, hla, hra, hxm, hJ⟩ := hgv.ok HP.out
        obtain ⟨j1, j2, j3, j4, j5, j6, j7, j8, v, j9, j10⟩ := hJ
        obtain ⟨Av, cv, rfl⟩ := kg j10
        have J1 := hid j1; have J7 := hid j7; have J8 := hid j8; have J9 := hid j9; have J10 := hid j10; have HRA := hid hra; have HLA := hid hla
        clear hgv j1 j2 j3 j4 j5 j6 j7 j8 j9 j10 hra hla)
     | (refine k6 (by rfl) (jm 23 _ rfl (p := ⟨ob, 0, none⟩) rfl Tryz.underlying23 rfl (k5 J9.out 0)) ?_)
     | (refine km (by rfl) 23 _ _ rfl ob 0 [] [.slice Av xs.length cv] [] [.slice Av xs.length cv] 23 (.slice Av xs.length cv) rfl rfl rfl rfl (by simpa using J9.out) rfl (by kernel_rfl) (by intro u hu; rw [List.mem_singleton.1 hu]; rfl) ?_
        intro W5 hb5 hy5 hs5
        have HB5 := hid hb5; have HY5 := hid hy5
        clear hb5 hy5 hs5))
   have hfin : (loadVar 23 ⟨ob, 0, none⟩).run Tryz.prog W5 = .ok (.slice Av xs.length cv) W5 := run_load1 Tryz.underlying23 rfl (k5 HY5.out 0)
   have hne : ∀ k, (Value.slice Av xs.length cv).ownBlock = some k → ¬ k = ob := fun k hk e => jt J10.out J9.out (by decide) (by rw [hk, e])
   refine bodyPost_end (jL Tryz.results52 _ _ rfl hfin) rfl ?_
   exact RdGives.yes (HP.out.trans (by rw [HRA.out])) rfl HLA.out rfl (J1.out.but HB5.out fun k hk e => by omega) (J7.out.trans HB5.out fun i hi e => by omega) ⟨J8.out, HB5.out.own J10.out hne⟩
end Go.Proofs.YthjaepmfkgejkaaGreatDoor
namespace Go.Proofs.YthjaepmfkgejkaaGreatDoor
open Lib (hid)
open Go.RowKit Go.Maps
theorem Zu {w : World} {b b' : Nat} {e : TypeId} {sz n : Nat} {v : Value} {xs : List Value} (h : w.ownsRow b e sz v n xs) (hb : b' ≤ b) : w.ownsRow b' e sz v n xs := by
  refine ⟨h.1, ?_⟩
  rcases h.2 with h0 | ⟨g, cap, cur, hv, hbg, r⟩
  · exact .inl h0
  · exact .inr ⟨g, cap, cur, hv, qT hb hbg, r⟩
def nilS : Value := .slice none 0 0
def objC (k : UInt8) (t : Int) (dv : Value) (a : ByteArray) (ov pv cv : Value) (a2 m : ByteArray) (s : Int) : List Value := [.int .u8 (k.toNat : Int), .int .i64 t, dv, .string a, ov, pv, cv, .string a2, .string m, .int .i64 s]
theorem infoOp : (Tryz.prog.info? 70).map (fun i => (i.zero, i.size, i.bytes)) = some (some (.agg (opV zm).toArray), 70, 128) := by kernel_rfl
theorem vU (w : World) (cs : List Value) (T : TypeId) : ∀ j u, cs[j]? = some u → (w.alloc (.cells cs.toArray T)).cell? ((⟨w.heap.size, 0, none⟩ : Addr).add j) = some u := fun j u hj => by
  have e1 : (⟨w.heap.size, 0, none⟩ : Addr).add j = ⟨w.heap.size, j, none⟩ := by unfold Addr.add; split <;> simp_all
  rw [e1]
  exact (k5 (heap_alloc_new _ _) j).trans hj
structure OpsJ (w0 : World) (g b off c : Nat) (l : List UInt8) (rb cb zo : Nat) (t : Int) (au : ByteArray) (Ad : Option Addr) (cd : Nat) (deps : List (List UInt8)) (a : Nat) (xs : List OpD) (w : World) : Prop where
  rd : RdAt w g b off c l a
  rbox : w.heap[rb]? = some (.cells [Value.pointer (some ⟨g, 0, none⟩)].toArray 57 (0, 0))
  cbox : w.heap[cb]? = some (.cells [Value.pointer (some ⟨zo, 1, none⟩)].toArray 96 (0, 0))
  low : g < w0.heap.size
  zr : w0.heap.size ≤ rb
  zc : w0.heap.size ≤ cb
  zz : w0.heap.size ≤ zo
  nr : zo ≠ rb
  nc : zo ≠ cb
  but : But (fun k => k = g) w0 w
  ops : ∀ x ∈ xs, Je x
  ids : IdsOk deps
  drow : w.ownsRow w0.heap.size 47 32 (.slice Ad deps.length cd) deps.length (kr deps)
  obj : ∃ ov, w.heap[zo]? = some (.cells (objC 1 t (.slice Ad deps.length cd) au ov nilS nilS kc kc 0).toArray 30 (0, 0)) ∧ w.ownsRow w0.heap.size 70 70 ov xs.length (jb opV xs)
theorem rowsV_snoc (xs : List OpD) (x : OpD) : jb opV (xs ++ [x]) = jb opV xs ++ opV x := by rw [Zk]; simp [jb]
theorem ops_put {w0 w w1 wa w9 : World} {g b off c : Nat} {l : List UInt8} {rb cb zo : Nat} {t : Int} {au : ByteArray} {Ad : Option Addr} {cd : Nat} {deps : List (List UInt8)} {a a2 : Nat} {xs : List OpD} {x : OpD} {v9 : Value} {Av : Option Addr} {cv : Nat}
    (hJ : OpsJ w0 g b off c l rb cb zo t au Ad cd deps a xs w ∧ w.heap[zo]? = some (.cells (objC 1 t (.slice Ad deps.length cd) au (.slice Av xs.length cv) nilS nilS kc kc 0).toArray 30 (0, 0)) ∧ w.ownsRow w0.heap.size 70 70 (.slice Av xs.length cv) xs.length (jb opV xs))
    (hrd1 : RdAt w1 g b off c l a2) (hbt : But (fun k => k = g) w w1) (hxi : Je x) (hba : Below w1.heap.size w1 wa) (ho9 : w9.ownsRow w0.heap.size 70 70 v9 (xs.length + 1) (jb opV xs ++ opV x)) (hg9 : wa.grownBy w9 (Value.slice Av xs.length cv).ownBlock) :
    (w9.cell? ⟨rb, 0, none⟩ = some (.pointer (some ⟨g, 0, none⟩)) ∧ w9.cell? ⟨cb, 0, none⟩ = some (.pointer (some ⟨zo, 1, none⟩)) ∧ w9.cell? ⟨zo, 2, none⟩ = some (.slice Ad deps.length cd) ∧ w9.cell? ⟨zo, 4, none⟩ = some (.slice Av xs.length cv)) ∧ w9.cell? ⟨zo, 4, none⟩ = some (.slice Av xs.length cv) ∧ w9.frozen? ⟨zo, 4, none⟩ = false ∧ OpsJ w0 g b off c l rb cb zo t au Ad cd deps a2 (xs ++ [x]) (w9.setCell ⟨zo, 4, none⟩ v9) := by
  obtain ⟨J, hob, hov⟩ := hJ
  obtain ⟨hv, hhv⟩ : ∃ hv, Value.slice Av xs.length cv = hv := ⟨_, rfl⟩
  rw [hhv] at hob hov hg9 ⊢
  have hl := J.low; have h1 := J.zr; have h2 := J.zc; have h3 := J.zz; have h4 := J.nr; have h5 := J.nc
  have lrb := (qX J.rbox); have lcb := (qX J.cbox); have lzo := (qX hob)
  have n1 : hv.ownBlock ≠ some rb := jt hov J.rbox (by decide)
  have n2 : hv.ownBlock ≠ some cb := jt hov J.cbox (by decide)
  have n3 : hv.ownBlock ≠ some zo := jt hov hob (by decide)
  have n4 : hv.ownBlock ≠ some g := fun e => by have := (hov.lt g e).1; omega
  have n5 : hv.ownBlock ≠ some b := fun e => by have := (hov.lt b e).1; have := J.rd.low; omega
  have n6 : ∀ k, (Value.slice Ad deps.length cd).ownBlock = some k → hv.ownBlock ≠ some k := fun k hk e => by
    rcases J.drow.2 with ⟨h0, _⟩ | ⟨g', cap, cur, h0, _, hh, _⟩
    · rw [h0] at hk; cases hk
    ·
     rw [h0] at hk
     have : g' = k := by simpa [Value.ownBlock] using hk
     subst this
     rcases hov.2 with ⟨h6, _⟩ | ⟨g2, cap2, cur2, h6, _, hh2, _⟩
     · rw [h6] at e; cases e
     ·
      rw [h6] at e
      have : g2 = g' := by simpa [Value.ownBlock] using e
      subst this
      rw [hh] at hh2
      injection hh2 with hh2
      injection hh2 with _ hh2 _
      revert hh2
      decide
  have B1 : But (fun k => k = g) w wa := hbt.andBelow hba
  have B9 : But (fun k => k = g ∨ hv.ownBlock = some k) w w9 := (B1.weak (Y := fun k => k = g ∨ hv.ownBlock = some k) fun _ _ q => .inl q).grown hg9 fun k hk _ => .inr hk
  have K9 : But (fun k => hv.ownBlock = some k) w1 w9 := (But.of_below hba).grown hg9 fun k hk _ => hk
  have hrd9 : RdAt w9 g b off c l a2 := ⟨(K9.block g hrd1.lt n4).trans hrd1.box, hrd1.le, hrd1.cap, hrd1.low, fun j hj => (K9.cell (Nat.lt_trans hrd1.low hrd1.lt) n5).trans (hrd1.bytes j hj)⟩
  have hob9 : w9.heap[zo]? = _ := (B9.block zo lzo (fun q => q.elim (by omega) n3)).trans hob
  have C10 : But (fun k => k = zo) w9 (w9.setCell ⟨zo, 4, none⟩ v9) := But.setCell (X := fun k => k = zo) (But.refl _ _) (p := ⟨zo, 4, none⟩) (fun _ => rfl) v9
  have l9 := B9.size
  have hn9 : v9.ownBlock ≠ some zo := jt ho9 hob9 (by decide)
  have hset : (w9.setCell ⟨zo, 4, none⟩ v9).heap[zo]? = some (.cells (objC 1 t (.slice Ad deps.length cd) au v9 nilS nilS kc kc 0).toArray 30 (0, 0)) := by
    simp [World.setCell, Array.getElem?_modify, hob9, objC]
  have hr9 : w9.heap[rb]? = _ := (B9.block rb lrb (fun q => q.elim (by omega) n1)).trans J.rbox
  have hc9 : w9.heap[cb]? = _ := (B9.block cb lcb (fun q => q.elim (by omega) n2)).trans J.cbox
  refine ⟨⟨k5 hr9 0, k5 hc9 0, k5 hob9 2, k5 hob9 4⟩, k5 hob9 4, by simp [World.frozen?, hob9], ⟨hrd9.but C10 fun k hk e => by omega, ?_, ?_, hl, h1, h2, h3, h4, h5, ?_, ?_, J.ids, ?_, v9, hset, ?_⟩⟩
  · exact (C10.block rb (by omega) (by omega)).trans ((B9.block rb lrb (fun q => q.elim (by omega) n1)).trans J.rbox)
  · exact (C10.block cb (by omega) (by omega)).trans ((B9.block cb lcb (fun q => q.elim (by omega) n2)).trans J.cbox)
  ·
   refine (J.but.trans B9 fun i hi q => ?_).trans C10 fun i hi q => by omega
   rcases q with q | q
   · exact q
   · have := (hov.lt i q).1; omega
  ·
   intro y hy
   rcases List.mem_append.1 hy with q | q
   · exact J.ops y q
   · rw [List.mem_singleton.1 q]; exact hxi
  · have d9 := B9.own J.drow fun k hk q => q.elim (fun e => by have := (J.drow.lt k hk).1; omega) (n6 k hk)
    exact C10.own d9 fun k hk q => jt d9 hob9 (by decide) (by rw [hk, q])
  · rw [List.length_append, List.length_singleton, rowsV_snoc]
    exact C10.own ho9 fun k hk q => hn9 (by rw [hk, q])
theorem rone_any (w0 : World) (g b off c : Nat) (l : List UInt8) (rb cb zo : Nat) (t : Int) (au : ByteArray) (Ad : Option Addr) (cd : Nat) (deps : List (List UInt8)) (a : Nat) (xs : List OpD) (w : World) (hl : l.length ≤ 1099511627776) (hx : xs.length ≤ 1000000000) (hdl : deps.length ≤ 1099511627776) (hJ0 : OpsJ w0 g b off c l rb cb zo t au Ad cd deps a xs w) :
    Calls Tryz.prog 55 #[.pointer (some ⟨cb, 0, none⟩), .pointer (some ⟨rb, 0, none⟩)] w (UnoGives (pOp deps) l (OpsJ w0 g b off c l rb cb zo t au Ad cd deps) (But (fun k => k = g) w0) a xs) := by
  obtain ⟨ov, hob, hov⟩ := hJ0.obj
  obtain ⟨Av, cv, rfl⟩ := kg hov
  have hJ := hid (show _ ∧ _ ∧ _ from ⟨hJ0, hob, hov⟩)
  have lrb := (qX hJ0.rbox); have lcb := (qX hJ0.cbox); have lzo := (qX hob)
  have q0 := hJ0.low; have q1 := hJ0.zr; have q2 := hJ0.zc; have q3 := hJ0.zz
  have HFK := hid (fun (u : World) (hu : But (fun k => k = g) w u) => (show u.cell? ⟨rb, 0, none⟩ = some (.pointer (some ⟨g, 0, none⟩)) ∧ u.cell? ⟨cb, 0, none⟩ = some (.pointer (some ⟨zo, 1, none⟩)) ∧ u.cell? ⟨zo, 2, none⟩ = some (.slice Ad deps.length cd) ∧ u.cell? ⟨zo, 4, none⟩ = some (.slice Av xs.length cv) from
    ⟨(hu.cell lrb (by omega)).trans (k5 hJ0.rbox 0), (hu.cell lcb (by omega)).trans (k5 hJ0.cbox 0), (hu.cell lzo (by omega)).trans (k5 hob 2), (hu.cell lzo (by omega)).trans (k5 hob 4)⟩))
  have HOK := hid (fun (u : World) (hu : But (fun k => k = g) w u) => hu.own hov fun k hk e => by have := (hov.lt k hk).1; omega)
  have HBUT := hid hJ0.but
  have HRDD := hid (hJ0.rd.keep (qD _ _))
  have HDO := hid hJ0.ids
  have HDR := hid (Zu ((But.refl NoB w).drew.own hJ0.drow fun _ _ q => q) (show g + 1 ≤ w0.heap.size from hJ0.low))
  clear hob hov lrb lcb lzo q0 q1 q2 q3
  replace hJ := hJ.out
  have hE1 := enE Tryz.func56 rfl
  go_enter Tryz.func55, Tryz.ntmps55
  go_upto_region 0 with fail
  refine rN 13 (fun u => u.cell? ⟨rb, 0, none⟩ = some (.pointer (some ⟨g, 0, none⟩)) ∧ u.cell? ⟨cb, 0, none⟩ = some (.pointer (some ⟨zo, 1, none⟩)) ∧ u.cell? ⟨zo, 2, none⟩ = some (.slice Ad deps.length cd) ∧ u.cell? ⟨zo, 4, none⟩ = some (.slice Av xs.length cv)) (HFK.out _ (But.refl _ _).drew) fun hF0 => ?_
  refine tl 0 (.pointer (some ⟨zo, 1, none⟩)) rfl hF0 (fun w' hw' => l1 Tryz.underlying96 hw'.2.1) ?_
  go_frame
  refine tl 1 (.pointer (some ⟨zo, 1, none⟩)) rfl hF0 (fun w' hw' => l1 Tryz.underlying96 hw'.2.1) ?_
  go_frame
  refine tw 2 (.pointer (some ⟨zo, 1, none⟩)) ?_
  go_frame
  refine tw 3 (.pointer (some ⟨zo, 4, none⟩)) ?_
  go_frame
  refine tl 4 (.slice Av xs.length cv) rfl hF0 (fun w' hw' => l1 Tryz.underlying24 hw'.2.2.2) ?_
  go_frame
  refine tl 5 (.pointer (some ⟨g, 0, none⟩)) rfl hF0 (fun w' hw' => l1 Tryz.underlying57 hw'.1) ?_
  go_frame
  refine tl 6 (.pointer (some ⟨zo, 1, none⟩)) rfl hF0 (fun w' hw' => l1 Tryz.underlying96 hw'.2.1) ?_
  go_frame
  refine tw 7 (.pointer (some ⟨zo, 1, none⟩)) ?_
  go_frame
  refine tw 8 (.pointer (some ⟨zo, 2, none⟩)) ?_
  go_frame
  refine tl 9 (.slice Ad deps.length cd) rfl hF0 (fun w' hw' => l1 Tryz.underlying23 hw'.2.2.1) ?_
  go_frame
  refine ta 10 ?_
  rcases hpx : pOp deps (l.drop a) with _ | ⟨x, rr⟩
  ·
   have HPX := hid hpx
   clear hpx hJ
   refine tp #[.pointer (some ⟨g, 0, none⟩), .slice Ad deps.length cd] hE1 rfl ?_
   refine (rop_any g b off c l a w.drew HRDD.out hl deps Ad cd hdl HDO.out HDR.out).mono ?_
   rintro e w1 hgv
   obtain ⟨rfl, hbt⟩ := hgv.bad HPX.out
   exact ⟨rfl, rfl, UnoGives.no HPX.out rfl (HBUT.out.trans ((But.refl (fun k => k = g) w).drew.trans hbt fun _ _ q => q) fun _ _ q => q)⟩
  ·
   have HPX := hid hpx
   have HJJ := hid hJ
   clear hpx hJ
   refine tc #[.pointer (some ⟨g, 0, none⟩), .slice Ad deps.length cd] hE1 rfl ?_
   refine (rop_any g b off c l a w.drew HRDD.out hl deps Ad cd hdl HDO.out HDR.out).mono ?_
   rintro e w1 hgv
   obtain ⟨v', a2, rfl, hle, hr2, hrd1, hbt1, rfl, hxi⟩ := hgv.ok HPX.out
   have hbt : But (fun k => k = g) w w1 := (But.refl (fun k => k = g) w).drew.trans hbt1 fun _ _ q => q
   have HF1 := HFK.out w1 hbt
   have HXI := hid hxi
   refine ⟨_, rfl, fun _ _ => HF1, ?_⟩
   go_frame
   refine ta 11 ?_
   refine jv _ rfl (by kernel_rfl) (JK 24 _ rfl 70 Tryz.underlying24 (.agg (opV zm).toArray) 70 128 infoOp rfl (by decide) (by decide) (opV x) (kq hxi) rfl) ?_
   have hba : Below w1.heap.size w1 (w1.alloc (.cells (opV x).toArray 70)) := (qB _ _).alloc (qR _) _
   have HF2 := HFK.out _ (hbt.andBelow hba)
   refine ⟨fun _ _ => HF2, ?_⟩
   go_frame
   refine ta 12 ?_
   refine Jz _ rfl (by kernel_rfl) ?_
   refine Z6 _ _ 24 rfl w0.heap.size 70 (.agg (opV zm).toArray) 70 128 Tryz.underlying24 infoOp rfl (by decide) (.slice Av xs.length cv) xs.length (jb opV xs) rfl (HOK.out _ (hbt.andBelow hba)) ⟨w1.heap.size, 0, none⟩ 1 1 (opV x) rfl (by rw [kq hxi]) (vU w1 (opV x) 70) (Jo x) (by unfold maxLen; omega) (by omega) (qT HBUT.out.size (qT hbt.size hba.size)) ?_
   intro v9 w9 ho9 hg9 hw9
   obtain ⟨A9, c9, rfl⟩ := kg ho9
   obtain ⟨hF9, hc9, hf9, hj9⟩ := ops_put HJJ.out hrd1 hbt hxi hba ho9 hg9
   refine ⟨fun _ _ => hF9, ?_⟩
   go_frame
   refine tw 13 (.pointer (some ⟨zo, 1, none⟩)) ?_
   go_frame
   refine tw 14 (.pointer (some ⟨zo, 4, none⟩)) ?_
   go_frame
   refine ta 15 ?_
   refine zD _ rfl (by kernel_rfl) (Jb 24 _ _ rfl zo 4 (.slice A9 (xs.length + 1) c9) rfl rfl rfl rfl (by kernel_rfl) hc9 hf9) ?_
   refine ⟨fun h => absurd h (by decide), ?_⟩
   go_frame
   refine kv (by kernel_rfl) ?_ _
   have HJ9 := hid hj9
   obtain rfl := hr2
   go_wp2_with fail
   go_end0
   exact UnoGives.yes HPX.out rfl hle HJ9.out
end Go.Proofs.YthjaepmfkgejkaaGreatDoor
namespace Go.Proofs.YthjaepmfkgejkaaGreatDoor
open Go.RowKit Go.Maps
def CkX (w : World) (g k : Nat) : Prop := k = g ∨ ∃ d v T z, w.heap[g]? = some (.cells #[d, v] T z) ∧ v.ownBlock = some k
def CkGo (g : Nat) (w w' : World) : Prop := But (CkX w g) w w' ∧ ∀ i, i < w.heap.size → CkX w' g i → CkX w g i
section
variable {g : Nat} {deps : List (List UInt8)} {mk new : List jw} {w w' w1 w2 : World}
theorem CkX.at_ {d v : Value} {T : TypeId} {z : Nat × Nat} (h : w.heap[g]? = some (.cells #[d, v] T z)) {k : Nat} (hx : CkX w g k) : k = g ∨ v.ownBlock = some k := by
  rcases hx with q | ⟨d', v', T', z', h', q⟩
  · exact .inl q
  ·
   rw [h] at h'
   injection h' with h'
   injection h' with h' _ _
   injection h' with h'
   injection h' with _ h'
   injection h' with h' _
   subst h'
   exact .inr q
theorem CkAt.low (h : CkAt w g deps mk) {k : Nat} (hk : k < g) : ¬ CkX w g k := by
  obtain ⟨Ad, cd, v, h1, _, h2⟩ := h
  intro hx
  rcases hx.at_ h1 with q | q
  · omega
  · have := (h2.lt k q).1; omega
theorem CkAt.newNot (h : CkAt w g deps mk) (hb : Below w.heap.size w w') {k : Nat} (hk : w.heap.size ≤ k) : ¬ CkX w' g k := by
  have hlt := h.lt
  obtain ⟨Ad, cd, v, h1, _, h2⟩ := h
  intro hx
  rcases hx.at_ ((hb.block g hlt).trans h1) with q | q
  · omega
  · have := (h2.lt k q).2; omega
theorem CkGo.refl (g : Nat) (w : World) : CkGo g w w := ⟨But.refl _ _, fun _ _ h => h⟩
theorem CkGo.trans (h : CkGo g w w1) (k : CkGo g w1 w2) : CkGo g w w2 :=
  ⟨h.1.trans k.1 fun i hi hx => h.2 i hi hx, fun i hi hx => h.2 i hi (k.2 i (Nat.lt_of_lt_of_le hi h.1.size) hx)⟩
theorem CkGo.below (hg : g < w.heap.size) (h : Below w.heap.size w w') : CkGo g w w' :=
  ⟨But.of_below h, fun i hi hx => by
    rcases hx with q | ⟨d, v, T, z, h1, q⟩
    · exact .inl q
    · exact .inr ⟨d, v, T, z, (h.block g hg).symm.trans h1, q⟩⟩
theorem CkGo.cell (h : CkGo g w w') {k j : Nat} (hk : k < w.heap.size) (hx : ¬ CkX w g k) : w'.cell? ⟨k, j, none⟩ = w.cell? ⟨k, j, none⟩ := h.1.cell hk hx
theorem CkGo.not (h : CkGo g w w') {k : Nat} (hk : k < w.heap.size) (hx : ¬ CkX w g k) : ¬ CkX w' g k := fun q => hx (h.2 k hk q)
theorem CkGo.belowG (h : CkGo g w w') (hw : CkAt w g deps mk) : Below g w w' := h.1.below (Nat.le_of_lt hw.lt) fun k hk => hw.low hk
theorem CkAt.put {v' : Value} {Ad : Option Addr} {cd : Nat} {v : Value} (h1 : w.heap[g]? = some (.cells #[.slice Ad deps.length cd, v] 129 (0, 0))) (hs : Sl w g Ad deps.length 32 (kr deps)) (h2 : w.ownsRow (g + 1) 159 34 v mk.length (jb kE mk)) (hb : Below w.heap.size w w1)
    (ho : w2.ownsRow (g + 1) 159 34 v' (mk.length + new.length) (jb kE mk ++ jb kE new)) (hg : w1.grownBy w2 v.ownBlock) (hw : ur w1.heap.size v v') :
    w2.cell? ⟨g, 1, none⟩ = some v ∧ w2.frozen? ⟨g, 1, none⟩ = false ∧ CkAt (w2.setCell ⟨g, 1, none⟩ v') g deps (mk ++ new) ∧ CkGo g w (w2.setCell ⟨g, 1, none⟩ v') := by
  have hlt := (Array.getElem?_eq_some_iff.1 h1).1
  have hlt1 := Nat.lt_of_lt_of_le hlt hb.size
  have hne : v.ownBlock ≠ some g := fun e => by have := (h2.lt g e).1; omega
  have hne' : v'.ownBlock ≠ some g := fun e => by have := (ho.lt g e).1; omega
  have hg2 : w2.heap[g]? = some (.cells #[.slice Ad deps.length cd, v] 129 (0, 0)) := ((hg.block g hlt1 (fun e => hne e.symm)).trans (hb.block g hlt)).trans h1
  have hset : (w2.setCell ⟨g, 1, none⟩ v').heap[g]? = some (.cells #[.slice Ad deps.length cd, v'] 129 (0, 0)) := by
    simp [World.setCell, Array.getElem?_modify, hg2]
  have hbut : But (fun k => k = g) w2 (w2.setCell ⟨g, 1, none⟩ v') := But.setCell (X := fun k => k = g) (But.refl _ _) (p := ⟨g, 1, none⟩) (fun _ => rfl) v'
  have hall : But (CkX w g) w (w2.setCell ⟨g, 1, none⟩ v') := But.setCell (But.grown (But.of_below hb) hg fun k hk _ => .inr ⟨_, v, _, _, h1, hk⟩) (fun _ => .inl rfl) v'
  refine ⟨k5 (cs := [.slice Ad deps.length cd, v]) hg2 1, by simp [World.frozen?, hg2], ⟨Ad, cd, v', hset, ?_, ?_⟩, hall, ?_⟩
  ·
   refine hall.sl hs (Nat.le_of_lt hlt) fun k hk hx => ?_
   rcases hx.at_ h1 with q | q
   · omega
   · have := (h2.lt k q).1; omega
  · have := hbut.own ho fun k hk e => hne' (by rw [hk, e])
    rw [List.length_append, Zk]
    exact this
  ·
   intro i hi hx
   rcases hx.at_ hset with q | q
   · exact .inl q
   ·
    rcases hw with e | ⟨k, e, hk⟩
    · exact .inr ⟨_, v, _, _, h1, by rw [← e]; exact q⟩
    ·
     rw [e] at q
     injection q with q
     have := hb.size
     omega
end
theorem vl : (Tryz.prog.info? 159).map (fun i => (i.zero, i.size, i.bytes)) = some (some (.agg (kE (false, kd)).toArray), 34, 48) := by kernel_rfl
theorem qu (w : World) : (Instr.build 159 #[(0, .bool true)]).run Tryz.prog w = .ok (.agg (kE (true, kd)).toArray) w := by kernel_rfl
end Go.Proofs.YthjaepmfkgejkaaGreatDoor
namespace Go.Proofs.YthjaepmfkgejkaaGreatDoor
open Go.RowKit Go.Maps
structure InsJ (g : Nat) (deps : List (List UInt8)) (mk : List jw) (d : jQ) (t : ByteArray) (zx zi : Nat) (pos i : Nat) (w : World) : Prop where
  ck : CkAt w g deps (mk ++ List.replicate i (false, d))
  it : w.heap[zi]? = some (.stringIter t pos)
  low : g < zi
  lx : zx < w.heap.size
  nx : ¬ CkX w g zx
  ni : ¬ CkX w g zi
  doc : w.rangeAt zx 1 (ke d)
  nxi : zx ≠ zi
section
variable {g : Nat} {deps : List (List UInt8)} {mk : List jw} {d : jQ} {t : ByteArray} {zx zi pos i : Nat} {w w1 w2 : World}
theorem InsJ.li (h : InsJ g deps mk d t zx zi pos i w) : zi < w.heap.size := (qX h.it)
theorem InsJ.iter (h : InsJ g deps mk d t zx zi pos i w) (pos' : Nat) : InsJ g deps mk d t zx zi pos' i (w.iterAt zi t pos') := by
  have hlow := h.low
  have hg : (w.iterAt zi t pos').heap[g]? = w.heap[g]? := Lib.iterAt_other w zi g t pos' (by omega)
  have hX : ∀ k, CkX (w.iterAt zi t pos') g k → CkX w g k := fun k q => q.elim .inl fun ⟨a, v, T, z, h1, q⟩ => .inr ⟨a, v, T, z, hg ▸ h1, q⟩
  obtain ⟨Ad, cd, vm, h1, h2, h3⟩ := h.ck
  refine ⟨⟨Ad, cd, vm, hg.trans h1, h2.keep (Lib.below_iterAt (qB _ _) (Nat.le_of_lt hlow) t pos'), own_iterAt h3 h.it pos'⟩, Lib.iterAt_heap w zi t pos pos' h.it, hlow, by rw [Lib.iterAt_size]; exact h.lx, fun q => h.nx (hX _ q), fun q => h.ni (hX _ q), fun j u hj => ?_, h.nxi⟩
  rw [← h.doc j u hj]
  unfold World.cell?
  simp only [Lib.iterAt_other w zi zx t pos' h.nxi]
theorem InsJ.put {v' : Value} {Ad : Option Addr} {cd : Nat} {v : Value} (h : InsJ g deps mk d t zx zi pos i w) (h1 : w.heap[g]? = some (.cells #[.slice Ad deps.length cd, v] 129 (0, 0))) (hs : Sl w g Ad deps.length 32 (kr deps)) (h2 : w.ownsRow (g + 1) 159 34 v (mk ++ List.replicate i (false, d)).length (jb kE (mk ++ List.replicate i (false, d)))) (hb : Below w.heap.size w w1)
    (ho : w2.ownsRow (g + 1) 159 34 v' ((mk ++ List.replicate i (false, d)).length + 1) (jb kE (mk ++ List.replicate i (false, d)) ++ kE (false, d))) (hg : w1.grownBy w2 v.ownBlock) (hw : ur w1.heap.size v v') :
    (w2.cell? ⟨g, 1, none⟩ = some v ∧ w2.rangeAt zx 1 (ke d)) ∧ w2.frozen? ⟨g, 1, none⟩ = false ∧ InsJ g deps mk d t zx zi pos (i + 1) (w2.setCell ⟨g, 1, none⟩ v') ∧ CkGo g w (w2.setCell ⟨g, 1, none⟩ v') := by
  obtain ⟨c1, c2, c3, c4⟩ := CkAt.put (new := [(false, d)]) h1 hs h2 hb (by rw [show jb kE [((false, d) : jw)] = kE (false, d) by simp [jb]]; exact ho) hg hw
  have hnz : v.ownBlock ≠ some zx := fun e => h.nx (.inr ⟨_, v, _, _, h1, e⟩)
  have hz2 : w2.heap[zx]? = w.heap[zx]? := (hg.block zx (qL h.lx hb.size) (fun e => hnz e.symm)).trans (hb.block zx h.lx)
  have hd2 : w2.rangeAt zx 1 (ke d) := fun j u hj => by
    rw [← h.doc j u hj]
    unfold World.cell?
    simp only [hz2]
  refine ⟨⟨c1, hd2⟩, c2, ⟨?_, (c4.1.block zi h.li h.ni).trans h.it, h.low, qL h.lx c4.1.size, c4.not h.lx h.nx, c4.not h.li h.ni, fun j u hj => (c4.cell h.lx h.nx).trans (h.doc j u hj), h.nxi⟩, c4⟩
  rw [List.replicate_succ', ← List.append_assoc]
  exact c3
end
theorem made_built {d : jQ} (hd : jN d) (w : World) : (Instr.build 159 #[(1, .agg (ke d).toArray)]).run Tryz.prog w = .ok (.agg (kE (false, d)).toArray) w := by
  obtain ⟨i, hi, hz, _, _⟩ := info_parts vl
  have hk : (ke kd).length = 33 := rfl
  have h := uu (P := Tryz.prog) hi Tryz.underlying159 hz [[.bool false], ke kd] rfl (places := [(0, 1), (1, 33)]) (by kernel_rfl) (by kernel_rfl) [(1, .agg (ke d).toArray)] (by
    intro q hq
    simp only [List.mem_cons, List.not_mem_nil, or_false] at hq
    subst hq
    exact ⟨by show 1 < 2; omega, by show (ke d).toArray.size = 33; rw [List.size_toArray, kf hd]⟩)
  have h2 := run_build (P := Tryz.prog) w 159 #[(1, .agg (ke d).toArray)] _ h
  refine h2.trans ?_
  simp [kE, Value.cells]
end Go.Proofs.YthjaepmfkgejkaaGreatDoor
