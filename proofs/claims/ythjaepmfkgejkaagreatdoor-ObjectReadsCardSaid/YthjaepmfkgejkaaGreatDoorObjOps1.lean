/-
  What reading one operation does. Conditions: as OpsJ says.
-/
import Derived.Test.YthjaepmfkgejkaaGreatDoorObjReadOp
import Derived.Test.YthjaepmfkgejkaaGreatDoorObjIds2
namespace Go.Proofs.YthjaepmfkgejkaaGreatDoor
open Go.RowKit Go.Maps
set_option linter.unusedVariables false
set_option linter.unusedSimpArgs false

theorem own_base8 {w : World} {b b' : Nat} {e : TypeId} {sz n : Nat} {v : Value} {xs : List Value} (h : w.ownsRow b e sz v n xs) (hb : b' ≤ b) : w.ownsRow b' e sz v n xs := by
  refine ⟨h.1, ?_⟩
  rcases h.2 with h0 | ⟨g, cap, cur, hv, hbg, r⟩
  · exact .inl h0
  · exact .inr ⟨g, cap, cur, hv, Nat.le_trans hb hbg, r⟩
def nilS : Value := .slice none 0 0
/-- An object's ten cells. -/
def objC (k : UInt8) (t : Int) (dv : Value) (a : ByteArray) (ov pv cv : Value) (a2 m : ByteArray) (s : Int) : List Value := [.int .u8 (k.toNat : Int), .int .i64 t, dv, .string a, ov, pv, cv, .string a2, .string m, .int .i64 s]
theorem infoOp : (Tryz.prog.info? 70).map (fun i => (i.zero, i.size, i.bytes)) = some (some (.agg (opV zeroOp).toArray), 70, 128) := by kernel_rfl
theorem news_cells (w : World) (cs : List Value) (T : TypeId) : ∀ j u, cs[j]? = some u → (w.alloc (.cells cs.toArray T)).cell? ((⟨w.heap.size, 0, none⟩ : Addr).add j) = some u := fun j u hj => by
  have e1 : (⟨w.heap.size, 0, none⟩ : Addr).add j = ⟨w.heap.size, j, none⟩ := by unfold Addr.add; split <;> simp_all
  rw [e1]
  exact (cells_at0 (heap_alloc_new _ _) j).trans hj
/-- What stands while operations are read. -/
structure OpsJ (w0 : World) (g b off c : Nat) (l : List UInt8) (rb cb zo : Nat) (t : Int) (au : ByteArray) (Ad : Option Addr) (cd : Nat) (deps : List (List UInt8)) (a : Nat) (xs : List OpD) (w : World) : Prop where
  rd : RdAt w g b off c l a
  rbox : w.heap[rb]? = some (.cells [Value.pointer (some ⟨g, 0, none⟩)].toArray 57 (0, 0))
  cbox : w.heap[cb]? = some (.cells [Value.pointer (some ⟨zo, 1, none⟩)].toArray 96 (0, 0))
  low : g < w0.heap.size
  zr : w0.heap.size ≤ rb
  zc : w0.heap.size ≤ cb
  zz : w0.heap.size ≤ zo
  nr : zo ≠ rb
  nc : zo ≠ cb
  but : But (fun k => k = g) w0 w
  ops : ∀ x ∈ xs, OpIn x
  ids : IdsOk deps
  drow : w.ownsRow w0.heap.size 47 32 (.slice Ad deps.length cd) deps.length (idsV deps)
  obj : ∃ ov, w.heap[zo]? = some (.cells (objC 1 t (.slice Ad deps.length cd) au ov nilS nilS noneS noneS 0).toArray 30 (0, 0)) ∧ w.ownsRow w0.heap.size 70 70 ov xs.length (rowsV opV xs)
theorem rowsV_snoc (xs : List OpD) (x : OpD) : rowsV opV (xs ++ [x]) = rowsV opV xs ++ opV x := by rw [rowsV_app]; simp [rowsV]
/-- One operation more: the append, the store. -/
theorem ops_put {w0 w w1 wa w9 : World} {g b off c : Nat} {l : List UInt8} {rb cb zo : Nat} {t : Int} {au : ByteArray} {Ad : Option Addr} {cd : Nat} {deps : List (List UInt8)} {a a2 : Nat} {xs : List OpD} {x : OpD} {v9 : Value} {Av : Option Addr} {cv : Nat}
    (hJ : OpsJ w0 g b off c l rb cb zo t au Ad cd deps a xs w ∧ w.heap[zo]? = some (.cells (objC 1 t (.slice Ad deps.length cd) au (.slice Av xs.length cv) nilS nilS noneS noneS 0).toArray 30 (0, 0)) ∧ w.ownsRow w0.heap.size 70 70 (.slice Av xs.length cv) xs.length (rowsV opV xs))
    (hrd1 : RdAt w1 g b off c l a2) (hbt : But (fun k => k = g) w w1) (hxi : OpIn x) (hba : Below w1.heap.size w1 wa) (ho9 : w9.ownsRow w0.heap.size 70 70 v9 (xs.length + 1) (rowsV opV xs ++ opV x)) (hg9 : wa.grownBy w9 (Value.slice Av xs.length cv).ownBlock) :
    (w9.cell? ⟨rb, 0, none⟩ = some (.pointer (some ⟨g, 0, none⟩)) ∧ w9.cell? ⟨cb, 0, none⟩ = some (.pointer (some ⟨zo, 1, none⟩)) ∧ w9.cell? ⟨zo, 2, none⟩ = some (.slice Ad deps.length cd) ∧ w9.cell? ⟨zo, 4, none⟩ = some (.slice Av xs.length cv)) ∧ w9.cell? ⟨zo, 4, none⟩ = some (.slice Av xs.length cv) ∧ w9.frozen? ⟨zo, 4, none⟩ = false ∧ OpsJ w0 g b off c l rb cb zo t au Ad cd deps a2 (xs ++ [x]) (w9.setCell ⟨zo, 4, none⟩ v9) := by
  obtain ⟨J, hob, hov⟩ := hJ
  obtain ⟨hv, hhv⟩ : ∃ hv, Value.slice Av xs.length cv = hv := ⟨_, rfl⟩
  rw [hhv] at hob hov hg9 ⊢
  have hl := J.low; have h1 := J.zr; have h2 := J.zc; have h3 := J.zz; have h4 := J.nr; have h5 := J.nc
  have lrb := (Array.getElem?_eq_some_iff.1 J.rbox).1; have lcb := (Array.getElem?_eq_some_iff.1 J.cbox).1; have lzo := (Array.getElem?_eq_some_iff.1 hob).1
  have n1 : hv.ownBlock ≠ some rb := own_not hov J.rbox (by decide)
  have n2 : hv.ownBlock ≠ some cb := own_not hov J.cbox (by decide)
  have n3 : hv.ownBlock ≠ some zo := own_not hov hob (by decide)
  have n4 : hv.ownBlock ≠ some g := fun e => by have := (hov.lt g e).1; omega
  have n5 : hv.ownBlock ≠ some b := fun e => by have := (hov.lt b e).1; have := J.rd.low; omega
  have n6 : ∀ k, (Value.slice Ad deps.length cd).ownBlock = some k → hv.ownBlock ≠ some k := fun k hk e => by
    rcases J.drow.2 with ⟨h0, _⟩ | ⟨g', cap, cur, h0, _, hh, _⟩
    · rw [h0] at hk; cases hk
    · rw [h0] at hk
      have : g' = k := by simpa [Value.ownBlock] using hk
      subst this
      rcases hov.2 with ⟨h6, _⟩ | ⟨g2, cap2, cur2, h6, _, hh2, _⟩
      · rw [h6] at e; cases e
      · rw [h6] at e
        have : g2 = g' := by simpa [Value.ownBlock] using e
        subst this
        rw [hh] at hh2
        injection hh2 with hh2
        injection hh2 with _ hh2 _
        revert hh2
        decide
  have B1 : But (fun k => k = g) w wa := hbt.andBelow hba
  have B9 : But (fun k => k = g ∨ hv.ownBlock = some k) w w9 := (B1.weak (Y := fun k => k = g ∨ hv.ownBlock = some k) fun _ _ q => .inl q).grown hg9 fun k hk _ => .inr hk
  have K9 : But (fun k => hv.ownBlock = some k) w1 w9 := (But.of_below hba).grown hg9 fun k hk _ => hk
  have hrd9 : RdAt w9 g b off c l a2 := ⟨(K9.block g hrd1.lt n4).trans hrd1.box, hrd1.le, hrd1.cap, hrd1.low, fun j hj => (K9.cell (Nat.lt_trans hrd1.low hrd1.lt) n5).trans (hrd1.bytes j hj)⟩
  have hob9 : w9.heap[zo]? = _ := (B9.block zo lzo (fun q => q.elim (by omega) n3)).trans hob
  have C10 : But (fun k => k = zo) w9 (w9.setCell ⟨zo, 4, none⟩ v9) := But.setCell (X := fun k => k = zo) (But.refl _ _) (p := ⟨zo, 4, none⟩) (fun _ => rfl) v9
  have l9 := B9.size
  have hn9 : v9.ownBlock ≠ some zo := own_not ho9 hob9 (by decide)
  have hset : (w9.setCell ⟨zo, 4, none⟩ v9).heap[zo]? = some (.cells (objC 1 t (.slice Ad deps.length cd) au v9 nilS nilS noneS noneS 0).toArray 30 (0, 0)) := by
    simp [World.setCell, Array.getElem?_modify, hob9, objC]
  have hr9 : w9.heap[rb]? = _ := (B9.block rb lrb (fun q => q.elim (by omega) n1)).trans J.rbox
  have hc9 : w9.heap[cb]? = _ := (B9.block cb lcb (fun q => q.elim (by omega) n2)).trans J.cbox
  refine ⟨⟨cells_at0 hr9 0, cells_at0 hc9 0, cells_at0 hob9 2, cells_at0 hob9 4⟩, cells_at0 hob9 4, by simp [World.frozen?, hob9], ⟨hrd9.but C10 fun k hk e => by omega, ?_, ?_, hl, h1, h2, h3, h4, h5, ?_, ?_, J.ids, ?_, v9, hset, ?_⟩⟩
  · exact (C10.block rb (by omega) (by omega)).trans ((B9.block rb lrb (fun q => q.elim (by omega) n1)).trans J.rbox)
  · exact (C10.block cb (by omega) (by omega)).trans ((B9.block cb lcb (fun q => q.elim (by omega) n2)).trans J.cbox)
  · refine (J.but.trans B9 fun i hi q => ?_).trans C10 fun i hi q => by omega
    rcases q with q | q
    · exact q
    · have := (hov.lt i q).1; omega
  · intro y hy
    rcases List.mem_append.1 hy with q | q
    · exact J.ops y q
    · rw [List.mem_singleton.1 q]; exact hxi
  · have d9 := B9.own J.drow fun k hk q => q.elim (fun e => by have := (J.drow.lt k hk).1; omega) (n6 k hk)
    exact C10.own d9 fun k hk q => own_not d9 hob9 (by decide) (by rw [hk, q])
  · rw [List.length_append, List.length_singleton, rowsV_snoc]
    exact C10.own ho9 fun k hk q => hn9 (by rw [hk, q])
set_option maxHeartbeats 4000000 in
set_option maxRecDepth 100000 in
theorem rone_any (w0 : World) (g b off c : Nat) (l : List UInt8) (rb cb zo : Nat) (t : Int) (au : ByteArray) (Ad : Option Addr) (cd : Nat) (deps : List (List UInt8)) (a : Nat) (xs : List OpD) (w : World) (hl : l.length ≤ 1099511627776) (hx : xs.length ≤ 1000000000) (hdl : deps.length ≤ 1099511627776) (hJ0 : OpsJ w0 g b off c l rb cb zo t au Ad cd deps a xs w) :
    Calls Tryz.prog 55 #[.pointer (some ⟨cb, 0, none⟩), .pointer (some ⟨rb, 0, none⟩)] w (UnoGives (pOp deps) l (OpsJ w0 g b off c l rb cb zo t au Ad cd deps) (But (fun k => k = g) w0) a xs) := by
  obtain ⟨ov, hob, hov⟩ := hJ0.obj
  obtain ⟨Av, cv, rfl⟩ := own_form' hov
  have hJ := Lib.hid (show _ ∧ _ ∧ _ from ⟨hJ0, hob, hov⟩)
  have lrb := (Array.getElem?_eq_some_iff.1 hJ0.rbox).1; have lcb := (Array.getElem?_eq_some_iff.1 hJ0.cbox).1; have lzo := (Array.getElem?_eq_some_iff.1 hob).1
  have q0 := hJ0.low; have q1 := hJ0.zr; have q2 := hJ0.zc; have q3 := hJ0.zz
  have HFK := Lib.hid (fun (u : World) (hu : But (fun k => k = g) w u) => (show u.cell? ⟨rb, 0, none⟩ = some (.pointer (some ⟨g, 0, none⟩)) ∧ u.cell? ⟨cb, 0, none⟩ = some (.pointer (some ⟨zo, 1, none⟩)) ∧ u.cell? ⟨zo, 2, none⟩ = some (.slice Ad deps.length cd) ∧ u.cell? ⟨zo, 4, none⟩ = some (.slice Av xs.length cv) from
    ⟨(hu.cell lrb (by omega)).trans (cells_at0 hJ0.rbox 0), (hu.cell lcb (by omega)).trans (cells_at0 hJ0.cbox 0), (hu.cell lzo (by omega)).trans (cells_at0 hob 2), (hu.cell lzo (by omega)).trans (cells_at0 hob 4)⟩))
  have HOK := Lib.hid (fun (u : World) (hu : But (fun k => k = g) w u) => hu.own hov fun k hk e => by have := (hov.lt k hk).1; omega)
  have HBUT := Lib.hid hJ0.but
  have HRDD := Lib.hid (hJ0.rd.keep (Below.refl _ _).drew)
  have HDO := Lib.hid hJ0.ids
  have HDR := Lib.hid (own_base8 ((But.refl NoB w).drew.own hJ0.drow fun _ _ q => q) (show g + 1 ≤ w0.heap.size from hJ0.low))
  clear hob hov lrb lcb lzo q0 q1 q2 q3
  replace hJ := hJ.out
  have hE1 : ∀ (u : World) (args : Array Value), (callFunc 56 args).run Tryz.prog u = .ok (.enter 56 args) u := fun u args => enters_of Tryz.func56 (by kernel_rfl) rfl args u
  rcases hpx : pOp deps (l.drop a) with _ | ⟨x, rr⟩
  · have HPX := Lib.hid hpx
    clear hpx hJ
    go_enter Tryz.func55, Tryz.ntmps55
    go_upto_region 0 with fail
    refine wp_region_N 13 (fun u => u.cell? ⟨rb, 0, none⟩ = some (.pointer (some ⟨g, 0, none⟩)) ∧ u.cell? ⟨cb, 0, none⟩ = some (.pointer (some ⟨zo, 1, none⟩)) ∧ u.cell? ⟨zo, 2, none⟩ = some (.slice Ad deps.length cd) ∧ u.cell? ⟨zo, 4, none⟩ = some (.slice Av xs.length cv)) (by kernel_rfl) ?_
    have hF0 : (fun u => u.cell? ⟨rb, 0, none⟩ = some (.pointer (some ⟨g, 0, none⟩)) ∧ u.cell? ⟨cb, 0, none⟩ = some (.pointer (some ⟨zo, 1, none⟩)) ∧ u.cell? ⟨zo, 2, none⟩ = some (.slice Ad deps.length cd) ∧ u.cell? ⟨zo, 4, none⟩ = some (.slice Av xs.length cv)) w.drew := HFK.out _ (But.refl _ _).drew
    refine tkF 0 (.pointer (some ⟨zo, 1, none⟩)) (by kernel_rfl) rfl (fun _ _ _ h => h) (by rfl) hF0 (fun w' hw' => ex_load1 96 _ rfl (p := ⟨cb, 0, none⟩) rfl Tryz.underlying96 rfl hw'.2.1) ?_
    go_frame
    refine tkF 1 (.pointer (some ⟨zo, 1, none⟩)) (by kernel_rfl) rfl (fun _ _ _ h => h) (by rfl) hF0 (fun w' hw' => ex_load1 96 _ rfl (p := ⟨cb, 0, none⟩) rfl Tryz.underlying96 rfl hw'.2.1) ?_
    go_frame
    refine tw 2 (.pointer (some ⟨zo, 1, none⟩)) ?_
    go_frame
    refine tw 3 (.pointer (some ⟨zo, 4, none⟩)) ?_
    go_frame
    refine tkF 4 (.slice Av xs.length cv) (by kernel_rfl) rfl (fun _ _ _ h => h) (by rfl) hF0 (fun w' hw' => ex_load1 24 _ rfl (p := ⟨zo, 4, none⟩) rfl Tryz.underlying24 rfl hw'.2.2.2) ?_
    go_frame
    refine tkF 5 (.pointer (some ⟨g, 0, none⟩)) (by kernel_rfl) rfl (fun _ _ _ h => h) (by rfl) hF0 (fun w' hw' => ex_load1 57 _ rfl (p := ⟨rb, 0, none⟩) rfl Tryz.underlying57 rfl hw'.1) ?_
    go_frame
    refine tkF 6 (.pointer (some ⟨zo, 1, none⟩)) (by kernel_rfl) rfl (fun _ _ _ h => h) (by rfl) hF0 (fun w' hw' => ex_load1 96 _ rfl (p := ⟨cb, 0, none⟩) rfl Tryz.underlying96 rfl hw'.2.1) ?_
    go_frame
    refine tw 7 (.pointer (some ⟨zo, 1, none⟩)) ?_
    go_frame
    refine tw 8 (.pointer (some ⟨zo, 2, none⟩)) ?_
    go_frame
    refine tkF 9 (.slice Ad deps.length cd) (by kernel_rfl) rfl (fun _ _ _ h => h) (by rfl) hF0 (fun w' hw' => ex_load1 23 _ rfl (p := ⟨zo, 2, none⟩) rfl Tryz.underlying23 rfl hw'.2.2.1) ?_
    go_frame
    refine ta 10 ?_
    refine wpOp_callP (ch := wrongP) _ rfl (by kernel_rfl) (ex_callFn (f := 56) (args := #[.pointer (some ⟨g, 0, none⟩), .slice Ad deps.length cd]) rfl rfl (fun args w => hE1 w args) (by simp only [List.map_toArray, List.map_cons, List.map_nil]; rfl)) ?_
    refine (rop_any g b off c l a w.drew HRDD.out hl deps Ad cd hdl HDO.out HDR.out).mono ?_
    rintro e w1 hgv
    obtain ⟨rfl, hbt⟩ := hgv.bad HPX.out
    exact ⟨rfl, rfl, UnoGives.no HPX.out rfl (HBUT.out.trans ((But.refl (fun k => k = g) w).drew.trans hbt fun _ _ q => q) fun _ _ q => q)⟩
  · have HPX := Lib.hid hpx
    have HJJ := Lib.hid hJ
    clear hpx hJ
    go_enter Tryz.func55, Tryz.ntmps55
    go_upto_region 0 with fail
    refine wp_region_N 13 (fun u => u.cell? ⟨rb, 0, none⟩ = some (.pointer (some ⟨g, 0, none⟩)) ∧ u.cell? ⟨cb, 0, none⟩ = some (.pointer (some ⟨zo, 1, none⟩)) ∧ u.cell? ⟨zo, 2, none⟩ = some (.slice Ad deps.length cd) ∧ u.cell? ⟨zo, 4, none⟩ = some (.slice Av xs.length cv)) (by kernel_rfl) ?_
    have hF0 : (fun u => u.cell? ⟨rb, 0, none⟩ = some (.pointer (some ⟨g, 0, none⟩)) ∧ u.cell? ⟨cb, 0, none⟩ = some (.pointer (some ⟨zo, 1, none⟩)) ∧ u.cell? ⟨zo, 2, none⟩ = some (.slice Ad deps.length cd) ∧ u.cell? ⟨zo, 4, none⟩ = some (.slice Av xs.length cv)) w.drew := HFK.out _ (But.refl _ _).drew
    refine tkF 0 (.pointer (some ⟨zo, 1, none⟩)) (by kernel_rfl) rfl (fun _ _ _ h => h) (by rfl) hF0 (fun w' hw' => ex_load1 96 _ rfl (p := ⟨cb, 0, none⟩) rfl Tryz.underlying96 rfl hw'.2.1) ?_
    go_frame
    refine tkF 1 (.pointer (some ⟨zo, 1, none⟩)) (by kernel_rfl) rfl (fun _ _ _ h => h) (by rfl) hF0 (fun w' hw' => ex_load1 96 _ rfl (p := ⟨cb, 0, none⟩) rfl Tryz.underlying96 rfl hw'.2.1) ?_
    go_frame
    refine tw 2 (.pointer (some ⟨zo, 1, none⟩)) ?_
    go_frame
    refine tw 3 (.pointer (some ⟨zo, 4, none⟩)) ?_
    go_frame
    refine tkF 4 (.slice Av xs.length cv) (by kernel_rfl) rfl (fun _ _ _ h => h) (by rfl) hF0 (fun w' hw' => ex_load1 24 _ rfl (p := ⟨zo, 4, none⟩) rfl Tryz.underlying24 rfl hw'.2.2.2) ?_
    go_frame
    refine tkF 5 (.pointer (some ⟨g, 0, none⟩)) (by kernel_rfl) rfl (fun _ _ _ h => h) (by rfl) hF0 (fun w' hw' => ex_load1 57 _ rfl (p := ⟨rb, 0, none⟩) rfl Tryz.underlying57 rfl hw'.1) ?_
    go_frame
    refine tkF 6 (.pointer (some ⟨zo, 1, none⟩)) (by kernel_rfl) rfl (fun _ _ _ h => h) (by rfl) hF0 (fun w' hw' => ex_load1 96 _ rfl (p := ⟨cb, 0, none⟩) rfl Tryz.underlying96 rfl hw'.2.1) ?_
    go_frame
    refine tw 7 (.pointer (some ⟨zo, 1, none⟩)) ?_
    go_frame
    refine tw 8 (.pointer (some ⟨zo, 2, none⟩)) ?_
    go_frame
    refine tkF 9 (.slice Ad deps.length cd) (by kernel_rfl) rfl (fun _ _ _ h => h) (by rfl) hF0 (fun w' hw' => ex_load1 23 _ rfl (p := ⟨zo, 2, none⟩) rfl Tryz.underlying23 rfl hw'.2.2.1) ?_
    go_frame
    refine ta 10 ?_
    refine wpOp_call _ rfl (by kernel_rfl) (ex_callFn (f := 56) (args := #[.pointer (some ⟨g, 0, none⟩), .slice Ad deps.length cd]) rfl rfl (fun args w => hE1 w args) (by simp only [List.map_toArray, List.map_cons, List.map_nil]; rfl)) ?_
    refine (rop_any g b off c l a w.drew HRDD.out hl deps Ad cd hdl HDO.out HDR.out).mono ?_
    rintro e w1 hgv
    obtain ⟨v', a2, rfl, hle, hr2, hrd1, hbt1, rfl, hxi⟩ := hgv.ok HPX.out
    have hbt : But (fun k => k = g) w w1 := (But.refl (fun k => k = g) w).drew.trans hbt1 fun _ _ q => q
    have HF1 := HFK.out w1 hbt
    have HXI := Lib.hid hxi
    refine ⟨_, rfl, fun _ _ => HF1, ?_⟩
    go_frame
    refine ta 11 ?_
    refine wpOp_val _ rfl (by kernel_rfl) (ex_buildR 24 _ rfl 70 Tryz.underlying24 (.agg (opV zeroOp).toArray) 70 128 infoOp rfl (by decide) (by decide) (opV x) (opV_length hxi) rfl) ?_
    have hba : Below w1.heap.size w1 (w1.alloc (.cells (opV x).toArray 70)) := (Below.refl _ _).alloc (Nat.le_refl _) _
    have HF2 := HFK.out _ (hbt.andBelow hba)
    refine ⟨fun _ _ => HF2, ?_⟩
    go_frame
    refine ta 12 ?_
    refine wpOp_wp _ rfl (by kernel_rfl) ?_
    refine op_appW _ _ 24 rfl w0.heap.size 70 (.agg (opV zeroOp).toArray) 70 128 Tryz.underlying24 infoOp rfl (by decide) (.slice Av xs.length cv) xs.length (rowsV opV xs) rfl (HOK.out _ (hbt.andBelow hba)) ⟨w1.heap.size, 0, none⟩ 1 1 (opV x) rfl (by rw [opV_length hxi]) (news_cells w1 (opV x) 70) (opV_one x) (by unfold maxLen; omega) (by omega) (Nat.le_trans HBUT.out.size (Nat.le_trans hbt.size hba.size)) ?_
    intro v9 w9 ho9 hg9 hw9
    obtain ⟨A9, c9, rfl⟩ := own_form' ho9
    obtain ⟨hF9, hc9, hf9, hj9⟩ := ops_put HJJ.out hrd1 hbt hxi hba ho9 hg9
    refine ⟨fun _ _ => hF9, ?_⟩
    go_frame
    refine tw 13 (.pointer (some ⟨zo, 1, none⟩)) ?_
    go_frame
    refine tw 14 (.pointer (some ⟨zo, 4, none⟩)) ?_
    go_frame
    refine ta 15 ?_
    refine wpOp_skip _ rfl (by kernel_rfl) (ex_store1 24 _ _ rfl zo 4 (.slice A9 (xs.length + 1) c9) rfl rfl rfl rfl (by kernel_rfl) hc9 hf9) ?_
    refine ⟨fun h => absurd h (by decide), ?_⟩
    go_frame
    refine wpAnyN_done (by kernel_rfl) ?_ _
    have HJ9 := Lib.hid hj9
    obtain rfl := hr2
    go_wp2_with fail
    go_end0
    exact UnoGives.yes HPX.out rfl hle HJ9.out
end Go.Proofs.YthjaepmfkgejkaaGreatDoor
